/-
  NARROWER THAN 'FOR EVERY INPUT', by the rows' own cells (each row's printed sentence says how): WireNumbers: laid · WireJoins: loops, laid · WireSplits: laid · WireBack: loops, laid · WireForms: laid · WireLonger: laid · WireZigs: laid · WireFronts: loops, laid · WireTexts: laid · WireOwn: laid · WireReads: laid · WireSame: laid.
  DERIVED. THE GIVEN ROWS OF THIS SEAT. 12 by the template 'for every input the law returns true; each argument reads behind the call as it read before'; 0 by the template 'total and deterministic' (their statements: YtecmhpncgdjgjaaDoorTotals.lean).
  GIVEN WITH THE SEED: the statements are not yours to turn. If you find one false, say at which input.
  Laid BY PROGRAM, IN A SANDBOX (cutbox-rows.mjs): the forced cells as the released guide's own fill.sh prints them over the translation 7584936523ef1f67… (all of the seat's roots in one cut). By AI agents, Wed Nov 11 2026. No macro, syntax, notation, axiom, sorry.
-/
import Derived.Test.YtecmhpncgdjgjaaDoorChecked
import GoSem.Claim
import GoSem.ClaimJoined
import GoSem.ClaimMapViews
import Derived.JoinedTies
import Derived.KernelRfl
namespace Go.Proofs.YtecmhpncgdjgjaaDoor
/- THE CELL 'sum', in the pinned program and in every row, IS THE sha256 OF THE DUMP (.gsa) THAT YtecmhpncgdjgjaaDoorProg.lean LOADS. Nothing in Lean hashes anything: it is a label: what it is worth is what the hold of that sum in a sandbox is worth. -/
noncomputable def Tryd.pinned : Pinned := { name := "ytecmhpncgdjgjaadoor", sum := "7584936523ef1f67c21d4d938fe4cbeb3bc5135319a5abcc5c6626787996dbf2", checked := Tryd.checked }
namespace Rows
def none {H : Type} : Left H := { results := [], args := [] }

/- WHAT THE LISTED PACKAGE-LEVEL VARIABLES READ AS WHEN THE CALL BEGINS. Each datum BY PROGRAM (the guide's laid-datum.mjs) off the statement by which the dump's own 'gosem.cut.vars' lays the variable. In a bare row this is a premise. The card (YtecmhpncgdjgjaaDoorCards.lean) ties it to the program's text. -/
def laid_sigil_wire_rows {H : Type} : DataW H := .agg [.agg [.lit (.int .u8 0), .lit (.int .u8 127), .lit (.int .u8 0), .lit (.int .u8 0), .lit (.int .i64 0)], .agg [.lit (.int .u8 194), .lit (.int .u8 223), .lit (.int .u8 128), .lit (.int .u8 191), .lit (.int .i64 1)], .agg [.lit (.int .u8 224), .lit (.int .u8 224), .lit (.int .u8 160), .lit (.int .u8 191), .lit (.int .i64 2)], .agg [.lit (.int .u8 225), .lit (.int .u8 236), .lit (.int .u8 128), .lit (.int .u8 191), .lit (.int .i64 2)], .agg [.lit (.int .u8 237), .lit (.int .u8 237), .lit (.int .u8 128), .lit (.int .u8 159), .lit (.int .i64 2)], .agg [.lit (.int .u8 238), .lit (.int .u8 239), .lit (.int .u8 128), .lit (.int .u8 191), .lit (.int .i64 2)], .agg [.lit (.int .u8 240), .lit (.int .u8 240), .lit (.int .u8 144), .lit (.int .u8 191), .lit (.int .i64 3)], .agg [.lit (.int .u8 241), .lit (.int .u8 243), .lit (.int .u8 128), .lit (.int .u8 191), .lit (.int .i64 3)], .agg [.lit (.int .u8 244), .lit (.int .u8 244), .lit (.int .u8 128), .lit (.int .u8 143), .lit (.int .i64 3)]]

/-- 'sigillaw2.WireNumbers': WHATEVER THE INPUT: true; the input reads as it did. -/
def wireNumbersSpec : ChangeSpec := { name := "wireNumbers", fn := fun _ => fun
  | [d] => { results := [.lit (.bool true)], args := [d] }
  | _ => none }
def wireNumbersRow : OpenClaim := { program := "ytecmhpncgdjgjaadoor", sum := "7584936523ef1f67c21d4d938fe4cbeb3bc5135319a5abcc5c6626787996dbf2", func := "sigil/sigillaw2.WireNumbers", spec := "wireNumbers", unfollowed := true, recurses := true, named := ["sigil/wire.rows"], apart := false, laid := [("sigil/wire.rows", laid_sigil_wire_rows)] }
def WireNumbersSaid : Prop := wireNumbersRow.holds Tryd.pinned (OpenSpec.ofChange wireNumbersSpec)

/-- ITS FALSE NEIGHBOUR: 'it returns false'. Refute it at one input. -/
def wireNumbersWrong : ChangeSpec := { name := "wireNumbers", fn := fun _ => fun
  | [d] => { results := [.lit (.bool false)], args := [d] }
  | _ => none }
def WireNumbersWrongFalsely : Prop := wireNumbersRow.holds Tryd.pinned (OpenSpec.ofChange wireNumbersWrong)

/-- 'sigillaw2.WireJoins': WHATEVER THE INPUT: true; the input reads as it did. -/
def wireJoinsSpec : ChangeSpec := { name := "wireJoins", fn := fun _ => fun
  | [d] => { results := [.lit (.bool true)], args := [d] }
  | _ => none }
def wireJoinsRow : OpenClaim := { program := "ytecmhpncgdjgjaadoor", sum := "7584936523ef1f67c21d4d938fe4cbeb3bc5135319a5abcc5c6626787996dbf2", func := "sigil/sigillaw2.WireJoins", spec := "wireJoins", unfollowed := true, recurses := true, named := ["sigil/wire.rows"], loops := true, apart := false, laid := [("sigil/wire.rows", laid_sigil_wire_rows)] }
def WireJoinsSaid : Prop := wireJoinsRow.holds Tryd.pinned (OpenSpec.ofChange wireJoinsSpec)

/-- ITS FALSE NEIGHBOUR: 'it returns false'. Refute it at one input. -/
def wireJoinsWrong : ChangeSpec := { name := "wireJoins", fn := fun _ => fun
  | [d] => { results := [.lit (.bool false)], args := [d] }
  | _ => none }
def WireJoinsWrongFalsely : Prop := wireJoinsRow.holds Tryd.pinned (OpenSpec.ofChange wireJoinsWrong)

/-- 'sigillaw2.WireSplits': WHATEVER THE INPUT: true; the input reads as it did. -/
def wireSplitsSpec : ChangeSpec := { name := "wireSplits", fn := fun _ => fun
  | [d] => { results := [.lit (.bool true)], args := [d] }
  | _ => none }
def wireSplitsRow : OpenClaim := { program := "ytecmhpncgdjgjaadoor", sum := "7584936523ef1f67c21d4d938fe4cbeb3bc5135319a5abcc5c6626787996dbf2", func := "sigil/sigillaw2.WireSplits", spec := "wireSplits", unfollowed := true, recurses := true, named := ["sigil/wire.rows"], apart := false, laid := [("sigil/wire.rows", laid_sigil_wire_rows)] }
def WireSplitsSaid : Prop := wireSplitsRow.holds Tryd.pinned (OpenSpec.ofChange wireSplitsSpec)

/-- ITS FALSE NEIGHBOUR: 'it returns false'. Refute it at one input. -/
def wireSplitsWrong : ChangeSpec := { name := "wireSplits", fn := fun _ => fun
  | [d] => { results := [.lit (.bool false)], args := [d] }
  | _ => none }
def WireSplitsWrongFalsely : Prop := wireSplitsRow.holds Tryd.pinned (OpenSpec.ofChange wireSplitsWrong)

/-- 'sigillaw2.WireBack': WHATEVER THE INPUT: true; the input reads as it did. -/
def wireBackSpec : ChangeSpec := { name := "wireBack", fn := fun _ => fun
  | [d] => { results := [.lit (.bool true)], args := [d] }
  | _ => none }
def wireBackRow : OpenClaim := { program := "ytecmhpncgdjgjaadoor", sum := "7584936523ef1f67c21d4d938fe4cbeb3bc5135319a5abcc5c6626787996dbf2", func := "sigil/sigillaw2.WireBack", spec := "wireBack", unfollowed := true, recurses := true, named := ["sigil/wire.rows"], loops := true, apart := false, laid := [("sigil/wire.rows", laid_sigil_wire_rows)] }
def WireBackSaid : Prop := wireBackRow.holds Tryd.pinned (OpenSpec.ofChange wireBackSpec)

/-- ITS FALSE NEIGHBOUR: 'it returns false'. Refute it at one input. -/
def wireBackWrong : ChangeSpec := { name := "wireBack", fn := fun _ => fun
  | [d] => { results := [.lit (.bool false)], args := [d] }
  | _ => none }
def WireBackWrongFalsely : Prop := wireBackRow.holds Tryd.pinned (OpenSpec.ofChange wireBackWrong)

/-- 'sigillaw2.WireForms': WHATEVER THE INPUT: true; the input reads as it did. -/
def wireFormsSpec : ChangeSpec := { name := "wireForms", fn := fun _ => fun
  | [d] => { results := [.lit (.bool true)], args := [d] }
  | _ => none }
def wireFormsRow : OpenClaim := { program := "ytecmhpncgdjgjaadoor", sum := "7584936523ef1f67c21d4d938fe4cbeb3bc5135319a5abcc5c6626787996dbf2", func := "sigil/sigillaw2.WireForms", spec := "wireForms", unfollowed := true, recurses := true, named := ["sigil/wire.rows"], apart := false, laid := [("sigil/wire.rows", laid_sigil_wire_rows)] }
def WireFormsSaid : Prop := wireFormsRow.holds Tryd.pinned (OpenSpec.ofChange wireFormsSpec)

/-- ITS FALSE NEIGHBOUR: 'it returns false'. Refute it at one input. -/
def wireFormsWrong : ChangeSpec := { name := "wireForms", fn := fun _ => fun
  | [d] => { results := [.lit (.bool false)], args := [d] }
  | _ => none }
def WireFormsWrongFalsely : Prop := wireFormsRow.holds Tryd.pinned (OpenSpec.ofChange wireFormsWrong)

/-- 'sigillaw2.WireLonger': WHATEVER THE INPUT: true; the input reads as it did. -/
def wireLongerSpec : ChangeSpec := { name := "wireLonger", fn := fun _ => fun
  | [d1, d2, d3, d4] => { results := [.lit (.bool true)], args := [d1, d2, d3, d4] }
  | _ => none }
def wireLongerRow : OpenClaim := { program := "ytecmhpncgdjgjaadoor", sum := "7584936523ef1f67c21d4d938fe4cbeb3bc5135319a5abcc5c6626787996dbf2", func := "sigil/sigillaw2.WireLonger", spec := "wireLonger", unfollowed := true, recurses := true, named := ["sigil/wire.rows"], apart := false, laid := [("sigil/wire.rows", laid_sigil_wire_rows)] }
def WireLongerSaid : Prop := wireLongerRow.holds Tryd.pinned (OpenSpec.ofChange wireLongerSpec)

/-- ITS FALSE NEIGHBOUR: 'it returns false'. Refute it at one input. -/
def wireLongerWrong : ChangeSpec := { name := "wireLonger", fn := fun _ => fun
  | [d1, d2, d3, d4] => { results := [.lit (.bool false)], args := [d1, d2, d3, d4] }
  | _ => none }
def WireLongerWrongFalsely : Prop := wireLongerRow.holds Tryd.pinned (OpenSpec.ofChange wireLongerWrong)

/-- 'sigillaw2.WireZigs': WHATEVER THE INPUT: true; the input reads as it did. -/
def wireZigsSpec : ChangeSpec := { name := "wireZigs", fn := fun _ => fun
  | [d] => { results := [.lit (.bool true)], args := [d] }
  | _ => none }
def wireZigsRow : OpenClaim := { program := "ytecmhpncgdjgjaadoor", sum := "7584936523ef1f67c21d4d938fe4cbeb3bc5135319a5abcc5c6626787996dbf2", func := "sigil/sigillaw2.WireZigs", spec := "wireZigs", unfollowed := true, recurses := true, named := ["sigil/wire.rows"], apart := false, laid := [("sigil/wire.rows", laid_sigil_wire_rows)] }
def WireZigsSaid : Prop := wireZigsRow.holds Tryd.pinned (OpenSpec.ofChange wireZigsSpec)

/-- ITS FALSE NEIGHBOUR: 'it returns false'. Refute it at one input. -/
def wireZigsWrong : ChangeSpec := { name := "wireZigs", fn := fun _ => fun
  | [d] => { results := [.lit (.bool false)], args := [d] }
  | _ => none }
def WireZigsWrongFalsely : Prop := wireZigsRow.holds Tryd.pinned (OpenSpec.ofChange wireZigsWrong)

/-- 'sigillaw2.WireFronts': WHATEVER THE INPUT: true; the input reads as it did. -/
def wireFrontsSpec : ChangeSpec := { name := "wireFronts", fn := fun _ => fun
  | [d1, d2] => { results := [.lit (.bool true)], args := [d1, d2] }
  | _ => none }
def wireFrontsRow : OpenClaim := { program := "ytecmhpncgdjgjaadoor", sum := "7584936523ef1f67c21d4d938fe4cbeb3bc5135319a5abcc5c6626787996dbf2", func := "sigil/sigillaw2.WireFronts", spec := "wireFronts", unfollowed := true, recurses := true, named := ["sigil/wire.rows"], loops := true, apart := false, laid := [("sigil/wire.rows", laid_sigil_wire_rows)] }
def WireFrontsSaid : Prop := wireFrontsRow.holds Tryd.pinned (OpenSpec.ofChange wireFrontsSpec)

/-- ITS FALSE NEIGHBOUR: 'it returns false'. Refute it at one input. -/
def wireFrontsWrong : ChangeSpec := { name := "wireFronts", fn := fun _ => fun
  | [d1, d2] => { results := [.lit (.bool false)], args := [d1, d2] }
  | _ => none }
def WireFrontsWrongFalsely : Prop := wireFrontsRow.holds Tryd.pinned (OpenSpec.ofChange wireFrontsWrong)

/-- 'sigillaw2.WireTexts': WHATEVER THE INPUT: true; the input reads as it did. -/
def wireTextsSpec : ChangeSpec := { name := "wireTexts", fn := fun _ => fun
  | [d] => { results := [.lit (.bool true)], args := [d] }
  | _ => none }
def wireTextsRow : OpenClaim := { program := "ytecmhpncgdjgjaadoor", sum := "7584936523ef1f67c21d4d938fe4cbeb3bc5135319a5abcc5c6626787996dbf2", func := "sigil/sigillaw2.WireTexts", spec := "wireTexts", unfollowed := true, recurses := true, named := ["sigil/wire.rows"], apart := false, laid := [("sigil/wire.rows", laid_sigil_wire_rows)] }
def WireTextsSaid : Prop := wireTextsRow.holds Tryd.pinned (OpenSpec.ofChange wireTextsSpec)

/-- ITS FALSE NEIGHBOUR: 'it returns false'. Refute it at one input. -/
def wireTextsWrong : ChangeSpec := { name := "wireTexts", fn := fun _ => fun
  | [d] => { results := [.lit (.bool false)], args := [d] }
  | _ => none }
def WireTextsWrongFalsely : Prop := wireTextsRow.holds Tryd.pinned (OpenSpec.ofChange wireTextsWrong)

/-- 'sigillaw2.WireOwn': WHATEVER THE INPUT: true; the input reads as it did. -/
def wireOwnSpec : ChangeSpec := { name := "wireOwn", fn := fun _ => fun
  | [d1, d2, d3] => { results := [.lit (.bool true)], args := [d1, d2, d3] }
  | _ => none }
def wireOwnRow : OpenClaim := { program := "ytecmhpncgdjgjaadoor", sum := "7584936523ef1f67c21d4d938fe4cbeb3bc5135319a5abcc5c6626787996dbf2", func := "sigil/sigillaw2.WireOwn", spec := "wireOwn", unfollowed := true, recurses := true, named := ["sigil/wire.rows"], apart := false, laid := [("sigil/wire.rows", laid_sigil_wire_rows)] }
def WireOwnSaid : Prop := wireOwnRow.holds Tryd.pinned (OpenSpec.ofChange wireOwnSpec)

/-- ITS FALSE NEIGHBOUR: 'it returns false'. Refute it at one input. -/
def wireOwnWrong : ChangeSpec := { name := "wireOwn", fn := fun _ => fun
  | [d1, d2, d3] => { results := [.lit (.bool false)], args := [d1, d2, d3] }
  | _ => none }
def WireOwnWrongFalsely : Prop := wireOwnRow.holds Tryd.pinned (OpenSpec.ofChange wireOwnWrong)

/-- 'sigillaw2.WireReads': WHATEVER THE INPUT: true; the input reads as it did. -/
def wireReadsSpec : ChangeSpec := { name := "wireReads", fn := fun _ => fun
  | [d1, d2, d3, d4] => { results := [.lit (.bool true)], args := [d1, d2, d3, d4] }
  | _ => none }
def wireReadsRow : OpenClaim := { program := "ytecmhpncgdjgjaadoor", sum := "7584936523ef1f67c21d4d938fe4cbeb3bc5135319a5abcc5c6626787996dbf2", func := "sigil/sigillaw2.WireReads", spec := "wireReads", unfollowed := true, recurses := true, named := ["sigil/wire.rows"], apart := false, laid := [("sigil/wire.rows", laid_sigil_wire_rows)] }
def WireReadsSaid : Prop := wireReadsRow.holds Tryd.pinned (OpenSpec.ofChange wireReadsSpec)

/-- ITS FALSE NEIGHBOUR: 'it returns false'. Refute it at one input. -/
def wireReadsWrong : ChangeSpec := { name := "wireReads", fn := fun _ => fun
  | [d1, d2, d3, d4] => { results := [.lit (.bool false)], args := [d1, d2, d3, d4] }
  | _ => none }
def WireReadsWrongFalsely : Prop := wireReadsRow.holds Tryd.pinned (OpenSpec.ofChange wireReadsWrong)

/-- 'sigillaw2.WireSame': WHATEVER THE INPUT: true; the input reads as it did. -/
def wireSameSpec : ChangeSpec := { name := "wireSame", fn := fun _ => fun
  | [d1, d2] => { results := [.lit (.bool true)], args := [d1, d2] }
  | _ => none }
def wireSameRow : OpenClaim := { program := "ytecmhpncgdjgjaadoor", sum := "7584936523ef1f67c21d4d938fe4cbeb3bc5135319a5abcc5c6626787996dbf2", func := "sigil/sigillaw2.WireSame", spec := "wireSame", unfollowed := true, recurses := true, named := ["sigil/wire.rows"], apart := false, laid := [("sigil/wire.rows", laid_sigil_wire_rows)] }
def WireSameSaid : Prop := wireSameRow.holds Tryd.pinned (OpenSpec.ofChange wireSameSpec)

/-- ITS FALSE NEIGHBOUR: 'it returns false'. Refute it at one input. -/
def wireSameWrong : ChangeSpec := { name := "wireSame", fn := fun _ => fun
  | [d1, d2] => { results := [.lit (.bool false)], args := [d1, d2] }
  | _ => none }
def WireSameWrongFalsely : Prop := wireSameRow.holds Tryd.pinned (OpenSpec.ofChange wireSameWrong)

/- THE SECOND FORM. 'bulk': how many values and letters a reading holds, each counted each time it is reached (what is shared counts as often as it is met; a slice's spare places count too). A statement '..UptoSaid' is the law's where the arguments, and the package variables that the reading takes, are together of bulk at most 1048576: NARROWER than '..Said'. Prove '..Said' where nothing that the law and all that it calls make is longer than what came in: it says more and counts as full. Else prove '..UptoSaid'. A law counts once. -/
mutual
def uptoBulk {H : Type} : DataW H → Nat
  | .lit (.string bytes) => bytes.length + 1
  | .lit _ => 1
  | .nil => 1
  | .ptr d => uptoBulk d + 1
  | .slice elems spare => uptoBulkAll elems + uptoBulkAll spare + 1
  | .agg parts => uptoBulkAll parts + 1
  | .iface _ d => uptoBulk d + 1
  | .map entries => uptoBulkEntries entries + 1
  | .held _ => 1
def uptoBulkAll {H : Type} : List (DataW H) → Nat
  | [] => 0
  | d :: r => uptoBulk d + uptoBulkAll r
def uptoBulkEntries {H : Type} : List (Lit × DataW H) → Nat
  | [] => 0
  | x :: r => uptoBulkEntry x + uptoBulkEntries r
def uptoBulkEntry {H : Type} : Lit × DataW H → Nat
  | (.string bytes, d) => bytes.length + uptoBulk d + 1
  | (_, d) => uptoBulk d + 1
 end
def uptoSmall : (H : Type) → List (DataW H) → Bool := fun _ ds => decide (uptoBulkAll ds ≤ 1048576)
def OpenSpec.upto (s : _root_.Go.ChangeSpec) : _root_.Go.OpenSpec := { _root_.Go.OpenSpec.ofChange s with cond := some uptoSmall }

/-- 'sigillaw2.WireNumbers', WHERE WHAT IT READS IS OF BULK AT MOST 1048576: true; the input reads as it did. -/
def wireNumbersUptoRow : OpenClaim := { program := "ytecmhpncgdjgjaadoor", sum := "7584936523ef1f67c21d4d938fe4cbeb3bc5135319a5abcc5c6626787996dbf2", func := "sigil/sigillaw2.WireNumbers", spec := "wireNumbers", unfollowed := true, recurses := true, named := ["sigil/wire.rows"], apart := false, laid := [("sigil/wire.rows", laid_sigil_wire_rows)], narrowed := true }
def WireNumbersUptoSaid : Prop := wireNumbersUptoRow.holds Tryd.pinned (OpenSpec.upto wireNumbersSpec)

/-- 'sigillaw2.WireJoins', WHERE WHAT IT READS IS OF BULK AT MOST 1048576: true; the input reads as it did. -/
def wireJoinsUptoRow : OpenClaim := { program := "ytecmhpncgdjgjaadoor", sum := "7584936523ef1f67c21d4d938fe4cbeb3bc5135319a5abcc5c6626787996dbf2", func := "sigil/sigillaw2.WireJoins", spec := "wireJoins", unfollowed := true, recurses := true, named := ["sigil/wire.rows"], loops := true, apart := false, laid := [("sigil/wire.rows", laid_sigil_wire_rows)], narrowed := true }
def WireJoinsUptoSaid : Prop := wireJoinsUptoRow.holds Tryd.pinned (OpenSpec.upto wireJoinsSpec)

/-- 'sigillaw2.WireSplits', WHERE WHAT IT READS IS OF BULK AT MOST 1048576: true; the input reads as it did. -/
def wireSplitsUptoRow : OpenClaim := { program := "ytecmhpncgdjgjaadoor", sum := "7584936523ef1f67c21d4d938fe4cbeb3bc5135319a5abcc5c6626787996dbf2", func := "sigil/sigillaw2.WireSplits", spec := "wireSplits", unfollowed := true, recurses := true, named := ["sigil/wire.rows"], apart := false, laid := [("sigil/wire.rows", laid_sigil_wire_rows)], narrowed := true }
def WireSplitsUptoSaid : Prop := wireSplitsUptoRow.holds Tryd.pinned (OpenSpec.upto wireSplitsSpec)

/-- 'sigillaw2.WireBack', WHERE WHAT IT READS IS OF BULK AT MOST 1048576: true; the input reads as it did. -/
def wireBackUptoRow : OpenClaim := { program := "ytecmhpncgdjgjaadoor", sum := "7584936523ef1f67c21d4d938fe4cbeb3bc5135319a5abcc5c6626787996dbf2", func := "sigil/sigillaw2.WireBack", spec := "wireBack", unfollowed := true, recurses := true, named := ["sigil/wire.rows"], loops := true, apart := false, laid := [("sigil/wire.rows", laid_sigil_wire_rows)], narrowed := true }
def WireBackUptoSaid : Prop := wireBackUptoRow.holds Tryd.pinned (OpenSpec.upto wireBackSpec)

/-- 'sigillaw2.WireForms', WHERE WHAT IT READS IS OF BULK AT MOST 1048576: true; the input reads as it did. -/
def wireFormsUptoRow : OpenClaim := { program := "ytecmhpncgdjgjaadoor", sum := "7584936523ef1f67c21d4d938fe4cbeb3bc5135319a5abcc5c6626787996dbf2", func := "sigil/sigillaw2.WireForms", spec := "wireForms", unfollowed := true, recurses := true, named := ["sigil/wire.rows"], apart := false, laid := [("sigil/wire.rows", laid_sigil_wire_rows)], narrowed := true }
def WireFormsUptoSaid : Prop := wireFormsUptoRow.holds Tryd.pinned (OpenSpec.upto wireFormsSpec)

/-- 'sigillaw2.WireLonger', WHERE WHAT IT READS IS OF BULK AT MOST 1048576: true; the input reads as it did. -/
def wireLongerUptoRow : OpenClaim := { program := "ytecmhpncgdjgjaadoor", sum := "7584936523ef1f67c21d4d938fe4cbeb3bc5135319a5abcc5c6626787996dbf2", func := "sigil/sigillaw2.WireLonger", spec := "wireLonger", unfollowed := true, recurses := true, named := ["sigil/wire.rows"], apart := false, laid := [("sigil/wire.rows", laid_sigil_wire_rows)], narrowed := true }
def WireLongerUptoSaid : Prop := wireLongerUptoRow.holds Tryd.pinned (OpenSpec.upto wireLongerSpec)

/-- 'sigillaw2.WireZigs', WHERE WHAT IT READS IS OF BULK AT MOST 1048576: true; the input reads as it did. -/
def wireZigsUptoRow : OpenClaim := { program := "ytecmhpncgdjgjaadoor", sum := "7584936523ef1f67c21d4d938fe4cbeb3bc5135319a5abcc5c6626787996dbf2", func := "sigil/sigillaw2.WireZigs", spec := "wireZigs", unfollowed := true, recurses := true, named := ["sigil/wire.rows"], apart := false, laid := [("sigil/wire.rows", laid_sigil_wire_rows)], narrowed := true }
def WireZigsUptoSaid : Prop := wireZigsUptoRow.holds Tryd.pinned (OpenSpec.upto wireZigsSpec)

/-- 'sigillaw2.WireFronts', WHERE WHAT IT READS IS OF BULK AT MOST 1048576: true; the input reads as it did. -/
def wireFrontsUptoRow : OpenClaim := { program := "ytecmhpncgdjgjaadoor", sum := "7584936523ef1f67c21d4d938fe4cbeb3bc5135319a5abcc5c6626787996dbf2", func := "sigil/sigillaw2.WireFronts", spec := "wireFronts", unfollowed := true, recurses := true, named := ["sigil/wire.rows"], loops := true, apart := false, laid := [("sigil/wire.rows", laid_sigil_wire_rows)], narrowed := true }
def WireFrontsUptoSaid : Prop := wireFrontsUptoRow.holds Tryd.pinned (OpenSpec.upto wireFrontsSpec)

/-- 'sigillaw2.WireTexts', WHERE WHAT IT READS IS OF BULK AT MOST 1048576: true; the input reads as it did. -/
def wireTextsUptoRow : OpenClaim := { program := "ytecmhpncgdjgjaadoor", sum := "7584936523ef1f67c21d4d938fe4cbeb3bc5135319a5abcc5c6626787996dbf2", func := "sigil/sigillaw2.WireTexts", spec := "wireTexts", unfollowed := true, recurses := true, named := ["sigil/wire.rows"], apart := false, laid := [("sigil/wire.rows", laid_sigil_wire_rows)], narrowed := true }
def WireTextsUptoSaid : Prop := wireTextsUptoRow.holds Tryd.pinned (OpenSpec.upto wireTextsSpec)

/-- 'sigillaw2.WireOwn', WHERE WHAT IT READS IS OF BULK AT MOST 1048576: true; the input reads as it did. -/
def wireOwnUptoRow : OpenClaim := { program := "ytecmhpncgdjgjaadoor", sum := "7584936523ef1f67c21d4d938fe4cbeb3bc5135319a5abcc5c6626787996dbf2", func := "sigil/sigillaw2.WireOwn", spec := "wireOwn", unfollowed := true, recurses := true, named := ["sigil/wire.rows"], apart := false, laid := [("sigil/wire.rows", laid_sigil_wire_rows)], narrowed := true }
def WireOwnUptoSaid : Prop := wireOwnUptoRow.holds Tryd.pinned (OpenSpec.upto wireOwnSpec)

/-- 'sigillaw2.WireReads', WHERE WHAT IT READS IS OF BULK AT MOST 1048576: true; the input reads as it did. -/
def wireReadsUptoRow : OpenClaim := { program := "ytecmhpncgdjgjaadoor", sum := "7584936523ef1f67c21d4d938fe4cbeb3bc5135319a5abcc5c6626787996dbf2", func := "sigil/sigillaw2.WireReads", spec := "wireReads", unfollowed := true, recurses := true, named := ["sigil/wire.rows"], apart := false, laid := [("sigil/wire.rows", laid_sigil_wire_rows)], narrowed := true }
def WireReadsUptoSaid : Prop := wireReadsUptoRow.holds Tryd.pinned (OpenSpec.upto wireReadsSpec)

/-- 'sigillaw2.WireSame', WHERE WHAT IT READS IS OF BULK AT MOST 1048576: true; the input reads as it did. -/
def wireSameUptoRow : OpenClaim := { program := "ytecmhpncgdjgjaadoor", sum := "7584936523ef1f67c21d4d938fe4cbeb3bc5135319a5abcc5c6626787996dbf2", func := "sigil/sigillaw2.WireSame", spec := "wireSame", unfollowed := true, recurses := true, named := ["sigil/wire.rows"], apart := false, laid := [("sigil/wire.rows", laid_sigil_wire_rows)], narrowed := true }
def WireSameUptoSaid : Prop := wireSameUptoRow.holds Tryd.pinned (OpenSpec.upto wireSameSpec)

end Rows
end Go.Proofs.YtecmhpncgdjgjaaDoor
