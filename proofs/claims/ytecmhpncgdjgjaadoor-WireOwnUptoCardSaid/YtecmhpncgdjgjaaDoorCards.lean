/-
  DERIVED. GIVEN WITH THE SEED: THE CARDS: each row of YtecmhpncgdjgjaaDoorRows.lean that lists a variable, with what it lists TIED to the program's text (the seventh form; the later family's looks); each row that meets fmt, with fmt's text TOLD by the authors' own Lean function (tested against real Go, not proved from fmt's source: count such statements apart). THE CARD IS WHAT COUNTS. Prove the row's statement (the work); the ties are given (YtecmhpncgdjgjaaDoorTie.lean); close each card by the builder's one call (the guide's Derived/Test/ToyasCard.lean, 'card_holds'). Laid BY PROGRAM, IN A SANDBOX (cutbox-door.mjs). By AI agents, Wed Nov 11 2026. No macro, syntax, notation, axiom, sorry.
-/
import Derived.Test.YtecmhpncgdjgjaaDoorRows
import GoSem.ClaimSeven
namespace Go.Proofs.YtecmhpncgdjgjaaDoor
namespace Rows

/-- THE TIED CARD OF 'sigillaw2.WireNumbers'. -/
def wireNumbersCard : Claim7 := { stood := { row := wireNumbersRow, standIns := [], harness := (true, "991639e4bd7847cc7b90d788fb766c0e5fe9c1cb90828cb2f4f6a3f59393f491"), looks := false }, kinds := [], alts := [], laidByText := true, laidKinds := [.data], laidTests := true, laidLooks := .later }
def WireNumbersCardSaid : Prop := Claim7.holds Tryd.pinned (.plain (OpenSpec.ofChange wireNumbersSpec)) wireNumbersCard

/-- THE TIED CARD OF 'sigillaw2.WireJoins'. -/
def wireJoinsCard : Claim7 := { stood := { row := wireJoinsRow, standIns := [], harness := (true, "991639e4bd7847cc7b90d788fb766c0e5fe9c1cb90828cb2f4f6a3f59393f491"), looks := false }, kinds := [], alts := [], laidByText := true, laidKinds := [.data], laidTests := true, laidLooks := .later }
def WireJoinsCardSaid : Prop := Claim7.holds Tryd.pinned (.plain (OpenSpec.ofChange wireJoinsSpec)) wireJoinsCard

/-- THE TIED CARD OF 'sigillaw2.WireSplits'. -/
def wireSplitsCard : Claim7 := { stood := { row := wireSplitsRow, standIns := [], harness := (true, "991639e4bd7847cc7b90d788fb766c0e5fe9c1cb90828cb2f4f6a3f59393f491"), looks := false }, kinds := [], alts := [], laidByText := true, laidKinds := [.data], laidTests := true, laidLooks := .later }
def WireSplitsCardSaid : Prop := Claim7.holds Tryd.pinned (.plain (OpenSpec.ofChange wireSplitsSpec)) wireSplitsCard

/-- THE TIED CARD OF 'sigillaw2.WireBack'. -/
def wireBackCard : Claim7 := { stood := { row := wireBackRow, standIns := [], harness := (true, "991639e4bd7847cc7b90d788fb766c0e5fe9c1cb90828cb2f4f6a3f59393f491"), looks := false }, kinds := [], alts := [], laidByText := true, laidKinds := [.data], laidTests := true, laidLooks := .later }
def WireBackCardSaid : Prop := Claim7.holds Tryd.pinned (.plain (OpenSpec.ofChange wireBackSpec)) wireBackCard

/-- THE TIED CARD OF 'sigillaw2.WireForms'. -/
def wireFormsCard : Claim7 := { stood := { row := wireFormsRow, standIns := [], harness := (true, "991639e4bd7847cc7b90d788fb766c0e5fe9c1cb90828cb2f4f6a3f59393f491"), looks := false }, kinds := [], alts := [], laidByText := true, laidKinds := [.data], laidTests := true, laidLooks := .later }
def WireFormsCardSaid : Prop := Claim7.holds Tryd.pinned (.plain (OpenSpec.ofChange wireFormsSpec)) wireFormsCard

/-- THE TIED CARD OF 'sigillaw2.WireLonger'. -/
def wireLongerCard : Claim7 := { stood := { row := wireLongerRow, standIns := [], harness := (true, "991639e4bd7847cc7b90d788fb766c0e5fe9c1cb90828cb2f4f6a3f59393f491"), looks := false }, kinds := [], alts := [], laidByText := true, laidKinds := [.data], laidTests := true, laidLooks := .later }
def WireLongerCardSaid : Prop := Claim7.holds Tryd.pinned (.plain (OpenSpec.ofChange wireLongerSpec)) wireLongerCard

/-- THE TIED CARD OF 'sigillaw2.WireZigs'. -/
def wireZigsCard : Claim7 := { stood := { row := wireZigsRow, standIns := [], harness := (true, "991639e4bd7847cc7b90d788fb766c0e5fe9c1cb90828cb2f4f6a3f59393f491"), looks := false }, kinds := [], alts := [], laidByText := true, laidKinds := [.data], laidTests := true, laidLooks := .later }
def WireZigsCardSaid : Prop := Claim7.holds Tryd.pinned (.plain (OpenSpec.ofChange wireZigsSpec)) wireZigsCard

/-- THE TIED CARD OF 'sigillaw2.WireFronts'. -/
def wireFrontsCard : Claim7 := { stood := { row := wireFrontsRow, standIns := [], harness := (true, "991639e4bd7847cc7b90d788fb766c0e5fe9c1cb90828cb2f4f6a3f59393f491"), looks := false }, kinds := [], alts := [], laidByText := true, laidKinds := [.data], laidTests := true, laidLooks := .later }
def WireFrontsCardSaid : Prop := Claim7.holds Tryd.pinned (.plain (OpenSpec.ofChange wireFrontsSpec)) wireFrontsCard

/-- THE TIED CARD OF 'sigillaw2.WireTexts'. -/
def wireTextsCard : Claim7 := { stood := { row := wireTextsRow, standIns := [], harness := (true, "991639e4bd7847cc7b90d788fb766c0e5fe9c1cb90828cb2f4f6a3f59393f491"), looks := false }, kinds := [], alts := [], laidByText := true, laidKinds := [.data], laidTests := true, laidLooks := .later }
def WireTextsCardSaid : Prop := Claim7.holds Tryd.pinned (.plain (OpenSpec.ofChange wireTextsSpec)) wireTextsCard

/-- THE TIED CARD OF 'sigillaw2.WireOwn'. -/
def wireOwnCard : Claim7 := { stood := { row := wireOwnRow, standIns := [], harness := (true, "991639e4bd7847cc7b90d788fb766c0e5fe9c1cb90828cb2f4f6a3f59393f491"), looks := false }, kinds := [], alts := [], laidByText := true, laidKinds := [.data], laidTests := true, laidLooks := .later }
def WireOwnCardSaid : Prop := Claim7.holds Tryd.pinned (.plain (OpenSpec.ofChange wireOwnSpec)) wireOwnCard

/-- THE TIED CARD OF 'sigillaw2.WireReads'. -/
def wireReadsCard : Claim7 := { stood := { row := wireReadsRow, standIns := [], harness := (true, "991639e4bd7847cc7b90d788fb766c0e5fe9c1cb90828cb2f4f6a3f59393f491"), looks := false }, kinds := [], alts := [], laidByText := true, laidKinds := [.data], laidTests := true, laidLooks := .later }
def WireReadsCardSaid : Prop := Claim7.holds Tryd.pinned (.plain (OpenSpec.ofChange wireReadsSpec)) wireReadsCard

/-- THE TIED CARD OF 'sigillaw2.WireSame'. -/
def wireSameCard : Claim7 := { stood := { row := wireSameRow, standIns := [], harness := (true, "991639e4bd7847cc7b90d788fb766c0e5fe9c1cb90828cb2f4f6a3f59393f491"), looks := false }, kinds := [], alts := [], laidByText := true, laidKinds := [.data], laidTests := true, laidLooks := .later }
def WireSameCardSaid : Prop := Claim7.holds Tryd.pinned (.plain (OpenSpec.ofChange wireSameSpec)) wireSameCard

/-- THE SECOND FORM's CARD OF 'sigillaw2.WireNumbers'. -/
def wireNumbersUptoCard : Claim7 := { stood := { row := wireNumbersUptoRow, standIns := [], harness := (true, "991639e4bd7847cc7b90d788fb766c0e5fe9c1cb90828cb2f4f6a3f59393f491"), looks := false }, kinds := [], alts := [], laidByText := true, laidKinds := [.data], laidTests := true, laidLooks := .later }
def WireNumbersUptoCardSaid : Prop := Claim7.holds Tryd.pinned (.plain (OpenSpec.upto wireNumbersSpec)) wireNumbersUptoCard

/-- THE SECOND FORM's CARD OF 'sigillaw2.WireJoins'. -/
def wireJoinsUptoCard : Claim7 := { stood := { row := wireJoinsUptoRow, standIns := [], harness := (true, "991639e4bd7847cc7b90d788fb766c0e5fe9c1cb90828cb2f4f6a3f59393f491"), looks := false }, kinds := [], alts := [], laidByText := true, laidKinds := [.data], laidTests := true, laidLooks := .later }
def WireJoinsUptoCardSaid : Prop := Claim7.holds Tryd.pinned (.plain (OpenSpec.upto wireJoinsSpec)) wireJoinsUptoCard

/-- THE SECOND FORM's CARD OF 'sigillaw2.WireSplits'. -/
def wireSplitsUptoCard : Claim7 := { stood := { row := wireSplitsUptoRow, standIns := [], harness := (true, "991639e4bd7847cc7b90d788fb766c0e5fe9c1cb90828cb2f4f6a3f59393f491"), looks := false }, kinds := [], alts := [], laidByText := true, laidKinds := [.data], laidTests := true, laidLooks := .later }
def WireSplitsUptoCardSaid : Prop := Claim7.holds Tryd.pinned (.plain (OpenSpec.upto wireSplitsSpec)) wireSplitsUptoCard

/-- THE SECOND FORM's CARD OF 'sigillaw2.WireBack'. -/
def wireBackUptoCard : Claim7 := { stood := { row := wireBackUptoRow, standIns := [], harness := (true, "991639e4bd7847cc7b90d788fb766c0e5fe9c1cb90828cb2f4f6a3f59393f491"), looks := false }, kinds := [], alts := [], laidByText := true, laidKinds := [.data], laidTests := true, laidLooks := .later }
def WireBackUptoCardSaid : Prop := Claim7.holds Tryd.pinned (.plain (OpenSpec.upto wireBackSpec)) wireBackUptoCard

/-- THE SECOND FORM's CARD OF 'sigillaw2.WireForms'. -/
def wireFormsUptoCard : Claim7 := { stood := { row := wireFormsUptoRow, standIns := [], harness := (true, "991639e4bd7847cc7b90d788fb766c0e5fe9c1cb90828cb2f4f6a3f59393f491"), looks := false }, kinds := [], alts := [], laidByText := true, laidKinds := [.data], laidTests := true, laidLooks := .later }
def WireFormsUptoCardSaid : Prop := Claim7.holds Tryd.pinned (.plain (OpenSpec.upto wireFormsSpec)) wireFormsUptoCard

/-- THE SECOND FORM's CARD OF 'sigillaw2.WireLonger'. -/
def wireLongerUptoCard : Claim7 := { stood := { row := wireLongerUptoRow, standIns := [], harness := (true, "991639e4bd7847cc7b90d788fb766c0e5fe9c1cb90828cb2f4f6a3f59393f491"), looks := false }, kinds := [], alts := [], laidByText := true, laidKinds := [.data], laidTests := true, laidLooks := .later }
def WireLongerUptoCardSaid : Prop := Claim7.holds Tryd.pinned (.plain (OpenSpec.upto wireLongerSpec)) wireLongerUptoCard

/-- THE SECOND FORM's CARD OF 'sigillaw2.WireZigs'. -/
def wireZigsUptoCard : Claim7 := { stood := { row := wireZigsUptoRow, standIns := [], harness := (true, "991639e4bd7847cc7b90d788fb766c0e5fe9c1cb90828cb2f4f6a3f59393f491"), looks := false }, kinds := [], alts := [], laidByText := true, laidKinds := [.data], laidTests := true, laidLooks := .later }
def WireZigsUptoCardSaid : Prop := Claim7.holds Tryd.pinned (.plain (OpenSpec.upto wireZigsSpec)) wireZigsUptoCard

/-- THE SECOND FORM's CARD OF 'sigillaw2.WireFronts'. -/
def wireFrontsUptoCard : Claim7 := { stood := { row := wireFrontsUptoRow, standIns := [], harness := (true, "991639e4bd7847cc7b90d788fb766c0e5fe9c1cb90828cb2f4f6a3f59393f491"), looks := false }, kinds := [], alts := [], laidByText := true, laidKinds := [.data], laidTests := true, laidLooks := .later }
def WireFrontsUptoCardSaid : Prop := Claim7.holds Tryd.pinned (.plain (OpenSpec.upto wireFrontsSpec)) wireFrontsUptoCard

/-- THE SECOND FORM's CARD OF 'sigillaw2.WireTexts'. -/
def wireTextsUptoCard : Claim7 := { stood := { row := wireTextsUptoRow, standIns := [], harness := (true, "991639e4bd7847cc7b90d788fb766c0e5fe9c1cb90828cb2f4f6a3f59393f491"), looks := false }, kinds := [], alts := [], laidByText := true, laidKinds := [.data], laidTests := true, laidLooks := .later }
def WireTextsUptoCardSaid : Prop := Claim7.holds Tryd.pinned (.plain (OpenSpec.upto wireTextsSpec)) wireTextsUptoCard

/-- THE SECOND FORM's CARD OF 'sigillaw2.WireOwn'. -/
def wireOwnUptoCard : Claim7 := { stood := { row := wireOwnUptoRow, standIns := [], harness := (true, "991639e4bd7847cc7b90d788fb766c0e5fe9c1cb90828cb2f4f6a3f59393f491"), looks := false }, kinds := [], alts := [], laidByText := true, laidKinds := [.data], laidTests := true, laidLooks := .later }
def WireOwnUptoCardSaid : Prop := Claim7.holds Tryd.pinned (.plain (OpenSpec.upto wireOwnSpec)) wireOwnUptoCard

/-- THE SECOND FORM's CARD OF 'sigillaw2.WireReads'. -/
def wireReadsUptoCard : Claim7 := { stood := { row := wireReadsUptoRow, standIns := [], harness := (true, "991639e4bd7847cc7b90d788fb766c0e5fe9c1cb90828cb2f4f6a3f59393f491"), looks := false }, kinds := [], alts := [], laidByText := true, laidKinds := [.data], laidTests := true, laidLooks := .later }
def WireReadsUptoCardSaid : Prop := Claim7.holds Tryd.pinned (.plain (OpenSpec.upto wireReadsSpec)) wireReadsUptoCard

/-- THE SECOND FORM's CARD OF 'sigillaw2.WireSame'. -/
def wireSameUptoCard : Claim7 := { stood := { row := wireSameUptoRow, standIns := [], harness := (true, "991639e4bd7847cc7b90d788fb766c0e5fe9c1cb90828cb2f4f6a3f59393f491"), looks := false }, kinds := [], alts := [], laidByText := true, laidKinds := [.data], laidTests := true, laidLooks := .later }
def WireSameUptoCardSaid : Prop := Claim7.holds Tryd.pinned (.plain (OpenSpec.upto wireSameSpec)) wireSameUptoCard
end Rows
end Go.Proofs.YtecmhpncgdjgjaaDoor
