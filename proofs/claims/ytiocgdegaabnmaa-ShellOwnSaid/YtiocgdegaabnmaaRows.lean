/-
  No cell of these rows narrows 'for every input' (looked for: loops, veiled, ifaces, maps, wideKeys, modest, calm, conditions, laid).
  DERIVED. THE GIVEN ROWS OF THIS SEAT. 9 by the template 'for every input the law returns true; each argument reads behind the call as it read before'; 0 by the template 'total and deterministic' (their statements: YtiocgdegaabnmaaTotals.lean).
  GIVEN WITH THE SEED: the statements are not yours to turn. If you find one false, say at which input.
  Laid BY PROGRAM, IN A SANDBOX (cutbox-rows.mjs): the forced cells as the released guide's own fill.sh prints them over the translation a8768668285148b9… (all of the seat's roots in one cut). By AI agents, Wed Nov 11 2026. No macro, syntax, notation, axiom, sorry.
-/
import Derived.Test.YtiocgdegaabnmaaChecked
import GoSem.Claim
import GoSem.ClaimJoined
import GoSem.ClaimMapViews
import Derived.JoinedTies
import Derived.KernelRfl
namespace Go.Proofs.Ytiocgdegaabnmaa
/- THE CELL 'sum', in the pinned program and in every row, IS THE sha256 OF THE DUMP (.gsa) THAT YtiocgdegaabnmaaProg.lean LOADS. Nothing in Lean hashes anything: it is a label: what it is worth is what the hold of that sum in a sandbox is worth. -/
noncomputable def Try.pinned : Pinned := { name := "ytiocgdegaabnmaa", sum := "a8768668285148b9fa41feb752957a909ffe665251919b58974e40409824761b", checked := Try.checked }
namespace Rows
def none {H : Type} : Left H := { results := [], args := [] }

/-- 'sigillaw2.WireNames': WHATEVER THE INPUT: true; the input reads as it did. -/
def wireNamesSpec : ChangeSpec := { name := "wireNames", fn := fun _ => fun
  | [] => { results := [.lit (.bool true)], args := [] }
  | _ => none }
def wireNamesRow : OpenClaim := { program := "ytiocgdegaabnmaa", sum := "a8768668285148b9fa41feb752957a909ffe665251919b58974e40409824761b", func := "sigil/sigillaw2.WireNames", spec := "wireNames", apart := false }
def WireNamesSaid : Prop := wireNamesRow.holds Try.pinned (OpenSpec.ofChange wireNamesSpec)

/-- ITS FALSE NEIGHBOUR: 'it returns false'. Refute it at one input. -/
def wireNamesWrong : ChangeSpec := { name := "wireNames", fn := fun _ => fun
  | [] => { results := [.lit (.bool false)], args := [] }
  | _ => none }
def WireNamesWrongFalsely : Prop := wireNamesRow.holds Try.pinned (OpenSpec.ofChange wireNamesWrong)

/-- 'sigillaw13.PathNames': WHATEVER THE INPUT: true; the input reads as it did. -/
def pathNamesSpec : ChangeSpec := { name := "pathNames", fn := fun _ => fun
  | [] => { results := [.lit (.bool true)], args := [] }
  | _ => none }
def pathNamesRow : OpenClaim := { program := "ytiocgdegaabnmaa", sum := "a8768668285148b9fa41feb752957a909ffe665251919b58974e40409824761b", func := "sigil/sigillaw13.PathNames", spec := "pathNames", apart := false }
def PathNamesSaid : Prop := pathNamesRow.holds Try.pinned (OpenSpec.ofChange pathNamesSpec)

/-- ITS FALSE NEIGHBOUR: 'it returns false'. Refute it at one input. -/
def pathNamesWrong : ChangeSpec := { name := "pathNames", fn := fun _ => fun
  | [] => { results := [.lit (.bool false)], args := [] }
  | _ => none }
def PathNamesWrongFalsely : Prop := pathNamesRow.holds Try.pinned (OpenSpec.ofChange pathNamesWrong)

/-- 'sigillaw19.DiffNames': WHATEVER THE INPUT: true; the input reads as it did. -/
def diffNamesSpec : ChangeSpec := { name := "diffNames", fn := fun _ => fun
  | [] => { results := [.lit (.bool true)], args := [] }
  | _ => none }
def diffNamesRow : OpenClaim := { program := "ytiocgdegaabnmaa", sum := "a8768668285148b9fa41feb752957a909ffe665251919b58974e40409824761b", func := "sigil/sigillaw19.DiffNames", spec := "diffNames", apart := false }
def DiffNamesSaid : Prop := diffNamesRow.holds Try.pinned (OpenSpec.ofChange diffNamesSpec)

/-- ITS FALSE NEIGHBOUR: 'it returns false'. Refute it at one input. -/
def diffNamesWrong : ChangeSpec := { name := "diffNames", fn := fun _ => fun
  | [] => { results := [.lit (.bool false)], args := [] }
  | _ => none }
def DiffNamesWrongFalsely : Prop := diffNamesRow.holds Try.pinned (OpenSpec.ofChange diffNamesWrong)

/-- 'sigillaw16.SignNames': WHATEVER THE INPUT: true; the input reads as it did. -/
def signNamesSpec : ChangeSpec := { name := "signNames", fn := fun _ => fun
  | [] => { results := [.lit (.bool true)], args := [] }
  | _ => none }
def signNamesRow : OpenClaim := { program := "ytiocgdegaabnmaa", sum := "a8768668285148b9fa41feb752957a909ffe665251919b58974e40409824761b", func := "sigil/sigillaw16.SignNames", spec := "signNames", apart := false }
def SignNamesSaid : Prop := signNamesRow.holds Try.pinned (OpenSpec.ofChange signNamesSpec)

/-- ITS FALSE NEIGHBOUR: 'it returns false'. Refute it at one input. -/
def signNamesWrong : ChangeSpec := { name := "signNames", fn := fun _ => fun
  | [] => { results := [.lit (.bool false)], args := [] }
  | _ => none }
def SignNamesWrongFalsely : Prop := signNamesRow.holds Try.pinned (OpenSpec.ofChange signNamesWrong)

/-- 'sigillaw20.ShellNames': WHATEVER THE INPUT: true; the input reads as it did. -/
def shellNamesSpec : ChangeSpec := { name := "shellNames", fn := fun _ => fun
  | [] => { results := [.lit (.bool true)], args := [] }
  | _ => none }
def shellNamesRow : OpenClaim := { program := "ytiocgdegaabnmaa", sum := "a8768668285148b9fa41feb752957a909ffe665251919b58974e40409824761b", func := "sigil/sigillaw20.ShellNames", spec := "shellNames", apart := false }
def ShellNamesSaid : Prop := shellNamesRow.holds Try.pinned (OpenSpec.ofChange shellNamesSpec)

/-- ITS FALSE NEIGHBOUR: 'it returns false'. Refute it at one input. -/
def shellNamesWrong : ChangeSpec := { name := "shellNames", fn := fun _ => fun
  | [] => { results := [.lit (.bool false)], args := [] }
  | _ => none }
def ShellNamesWrongFalsely : Prop := shellNamesRow.holds Try.pinned (OpenSpec.ofChange shellNamesWrong)

/-- 'sigillaw20.ShellWords': WHATEVER THE INPUT: true; the input reads as it did. -/
def shellWordsSpec : ChangeSpec := { name := "shellWords", fn := fun _ => fun
  | [d] => { results := [.lit (.bool true)], args := [d] }
  | _ => none }
def shellWordsRow : OpenClaim := { program := "ytiocgdegaabnmaa", sum := "a8768668285148b9fa41feb752957a909ffe665251919b58974e40409824761b", func := "sigil/sigillaw20.ShellWords", spec := "shellWords", inPlace := ["internal/abi.NoEscape"], unfollowed := true, recurses := true, apart := false }
def ShellWordsSaid : Prop := shellWordsRow.holds Try.pinned (OpenSpec.ofChange shellWordsSpec)

/-- ITS FALSE NEIGHBOUR: 'it returns false'. Refute it at one input. -/
def shellWordsWrong : ChangeSpec := { name := "shellWords", fn := fun _ => fun
  | [d] => { results := [.lit (.bool false)], args := [d] }
  | _ => none }
def ShellWordsWrongFalsely : Prop := shellWordsRow.holds Try.pinned (OpenSpec.ofChange shellWordsWrong)

/-- 'sigillaw20.ShellOwn': WHATEVER THE INPUT: true; the input reads as it did. -/
def shellOwnSpec : ChangeSpec := { name := "shellOwn", fn := fun _ => fun
  | [d] => { results := [.lit (.bool true)], args := [d] }
  | _ => none }
def shellOwnRow : OpenClaim := { program := "ytiocgdegaabnmaa", sum := "a8768668285148b9fa41feb752957a909ffe665251919b58974e40409824761b", func := "sigil/sigillaw20.ShellOwn", spec := "shellOwn", inPlace := ["internal/abi.NoEscape"], unfollowed := true, recurses := true, apart := false }
def ShellOwnSaid : Prop := shellOwnRow.holds Try.pinned (OpenSpec.ofChange shellOwnSpec)

/-- ITS FALSE NEIGHBOUR: 'it returns false'. Refute it at one input. -/
def shellOwnWrong : ChangeSpec := { name := "shellOwn", fn := fun _ => fun
  | [d] => { results := [.lit (.bool false)], args := [d] }
  | _ => none }
def ShellOwnWrongFalsely : Prop := shellOwnRow.holds Try.pinned (OpenSpec.ofChange shellOwnWrong)

/-- 'sigillaw20.ShellQuotes': WHATEVER THE INPUT: true; the input reads as it did. -/
def shellQuotesSpec : ChangeSpec := { name := "shellQuotes", fn := fun _ => fun
  | [d] => { results := [.lit (.bool true)], args := [d] }
  | _ => none }
def shellQuotesRow : OpenClaim := { program := "ytiocgdegaabnmaa", sum := "a8768668285148b9fa41feb752957a909ffe665251919b58974e40409824761b", func := "sigil/sigillaw20.ShellQuotes", spec := "shellQuotes", inPlace := ["internal/abi.NoEscape"], unfollowed := true, recurses := true, apart := false }
def ShellQuotesSaid : Prop := shellQuotesRow.holds Try.pinned (OpenSpec.ofChange shellQuotesSpec)

/-- ITS FALSE NEIGHBOUR: 'it returns false'. Refute it at one input. -/
def shellQuotesWrong : ChangeSpec := { name := "shellQuotes", fn := fun _ => fun
  | [d] => { results := [.lit (.bool false)], args := [d] }
  | _ => none }
def ShellQuotesWrongFalsely : Prop := shellQuotesRow.holds Try.pinned (OpenSpec.ofChange shellQuotesWrong)

/-- 'sigillaw20.ShellJoins': WHATEVER THE INPUT: true; the input reads as it did. -/
def shellJoinsSpec : ChangeSpec := { name := "shellJoins", fn := fun _ => fun
  | [d1, d2] => { results := [.lit (.bool true)], args := [d1, d2] }
  | _ => none }
def shellJoinsRow : OpenClaim := { program := "ytiocgdegaabnmaa", sum := "a8768668285148b9fa41feb752957a909ffe665251919b58974e40409824761b", func := "sigil/sigillaw20.ShellJoins", spec := "shellJoins", inPlace := ["internal/abi.NoEscape"], unfollowed := true, recurses := true, apart := false }
def ShellJoinsSaid : Prop := shellJoinsRow.holds Try.pinned (OpenSpec.ofChange shellJoinsSpec)

/-- ITS FALSE NEIGHBOUR: 'it returns false'. Refute it at one input. -/
def shellJoinsWrong : ChangeSpec := { name := "shellJoins", fn := fun _ => fun
  | [d1, d2] => { results := [.lit (.bool false)], args := [d1, d2] }
  | _ => none }
def ShellJoinsWrongFalsely : Prop := shellJoinsRow.holds Try.pinned (OpenSpec.ofChange shellJoinsWrong)

/- THE SECOND FORM. 'bulk': how many values and letters a reading holds, each counted each time it is reached (what is shared counts as often as it is met; a slice's spare places count too). A statement '..UptoSaid' is the law's where the arguments, and the package variables that the reading takes, are together of bulk at most 1048576: NARROWER than '..Said'. Prove '..Said' where nothing that the law and all that it calls make is longer than what came in: it says more and counts as full. Else prove '..UptoSaid'. A law counts once. -/
mutual
def uptoBulk {H : Type} : DataW H → Nat
  | .lit (.string bytes) => bytes.length + 1
  | .lit _ => 1
  | .nil => 1
  | .ptr d => uptoBulk d + 1
  | .slice elems spare => uptoBulkAll elems + uptoBulkAll spare + 1
  | .agg parts => uptoBulkAll parts + 1
  | .iface _ d => uptoBulk d + 1
  | .map entries => uptoBulkEntries entries + 1
  | .held _ => 1
def uptoBulkAll {H : Type} : List (DataW H) → Nat
  | [] => 0
  | d :: r => uptoBulk d + uptoBulkAll r
def uptoBulkEntries {H : Type} : List (Lit × DataW H) → Nat
  | [] => 0
  | x :: r => uptoBulkEntry x + uptoBulkEntries r
def uptoBulkEntry {H : Type} : Lit × DataW H → Nat
  | (.string bytes, d) => bytes.length + uptoBulk d + 1
  | (_, d) => uptoBulk d + 1
 end
def uptoSmall : (H : Type) → List (DataW H) → Bool := fun _ ds => decide (uptoBulkAll ds ≤ 1048576)
def OpenSpec.upto (s : _root_.Go.ChangeSpec) : _root_.Go.OpenSpec := { _root_.Go.OpenSpec.ofChange s with cond := some uptoSmall }

/-- 'sigillaw2.WireNames', WHERE WHAT IT READS IS OF BULK AT MOST 1048576: true; the input reads as it did. -/
def wireNamesUptoRow : OpenClaim := { program := "ytiocgdegaabnmaa", sum := "a8768668285148b9fa41feb752957a909ffe665251919b58974e40409824761b", func := "sigil/sigillaw2.WireNames", spec := "wireNames", apart := false, narrowed := true }
def WireNamesUptoSaid : Prop := wireNamesUptoRow.holds Try.pinned (OpenSpec.upto wireNamesSpec)

/-- 'sigillaw13.PathNames', WHERE WHAT IT READS IS OF BULK AT MOST 1048576: true; the input reads as it did. -/
def pathNamesUptoRow : OpenClaim := { program := "ytiocgdegaabnmaa", sum := "a8768668285148b9fa41feb752957a909ffe665251919b58974e40409824761b", func := "sigil/sigillaw13.PathNames", spec := "pathNames", apart := false, narrowed := true }
def PathNamesUptoSaid : Prop := pathNamesUptoRow.holds Try.pinned (OpenSpec.upto pathNamesSpec)

/-- 'sigillaw19.DiffNames', WHERE WHAT IT READS IS OF BULK AT MOST 1048576: true; the input reads as it did. -/
def diffNamesUptoRow : OpenClaim := { program := "ytiocgdegaabnmaa", sum := "a8768668285148b9fa41feb752957a909ffe665251919b58974e40409824761b", func := "sigil/sigillaw19.DiffNames", spec := "diffNames", apart := false, narrowed := true }
def DiffNamesUptoSaid : Prop := diffNamesUptoRow.holds Try.pinned (OpenSpec.upto diffNamesSpec)

/-- 'sigillaw16.SignNames', WHERE WHAT IT READS IS OF BULK AT MOST 1048576: true; the input reads as it did. -/
def signNamesUptoRow : OpenClaim := { program := "ytiocgdegaabnmaa", sum := "a8768668285148b9fa41feb752957a909ffe665251919b58974e40409824761b", func := "sigil/sigillaw16.SignNames", spec := "signNames", apart := false, narrowed := true }
def SignNamesUptoSaid : Prop := signNamesUptoRow.holds Try.pinned (OpenSpec.upto signNamesSpec)

/-- 'sigillaw20.ShellNames', WHERE WHAT IT READS IS OF BULK AT MOST 1048576: true; the input reads as it did. -/
def shellNamesUptoRow : OpenClaim := { program := "ytiocgdegaabnmaa", sum := "a8768668285148b9fa41feb752957a909ffe665251919b58974e40409824761b", func := "sigil/sigillaw20.ShellNames", spec := "shellNames", apart := false, narrowed := true }
def ShellNamesUptoSaid : Prop := shellNamesUptoRow.holds Try.pinned (OpenSpec.upto shellNamesSpec)

/-- 'sigillaw20.ShellWords', WHERE WHAT IT READS IS OF BULK AT MOST 1048576: true; the input reads as it did. -/
def shellWordsUptoRow : OpenClaim := { program := "ytiocgdegaabnmaa", sum := "a8768668285148b9fa41feb752957a909ffe665251919b58974e40409824761b", func := "sigil/sigillaw20.ShellWords", spec := "shellWords", inPlace := ["internal/abi.NoEscape"], unfollowed := true, recurses := true, apart := false, narrowed := true }
def ShellWordsUptoSaid : Prop := shellWordsUptoRow.holds Try.pinned (OpenSpec.upto shellWordsSpec)

/-- 'sigillaw20.ShellOwn', WHERE WHAT IT READS IS OF BULK AT MOST 1048576: true; the input reads as it did. -/
def shellOwnUptoRow : OpenClaim := { program := "ytiocgdegaabnmaa", sum := "a8768668285148b9fa41feb752957a909ffe665251919b58974e40409824761b", func := "sigil/sigillaw20.ShellOwn", spec := "shellOwn", inPlace := ["internal/abi.NoEscape"], unfollowed := true, recurses := true, apart := false, narrowed := true }
def ShellOwnUptoSaid : Prop := shellOwnUptoRow.holds Try.pinned (OpenSpec.upto shellOwnSpec)

/-- 'sigillaw20.ShellQuotes', WHERE WHAT IT READS IS OF BULK AT MOST 1048576: true; the input reads as it did. -/
def shellQuotesUptoRow : OpenClaim := { program := "ytiocgdegaabnmaa", sum := "a8768668285148b9fa41feb752957a909ffe665251919b58974e40409824761b", func := "sigil/sigillaw20.ShellQuotes", spec := "shellQuotes", inPlace := ["internal/abi.NoEscape"], unfollowed := true, recurses := true, apart := false, narrowed := true }
def ShellQuotesUptoSaid : Prop := shellQuotesUptoRow.holds Try.pinned (OpenSpec.upto shellQuotesSpec)

/-- 'sigillaw20.ShellJoins', WHERE WHAT IT READS IS OF BULK AT MOST 1048576: true; the input reads as it did. -/
def shellJoinsUptoRow : OpenClaim := { program := "ytiocgdegaabnmaa", sum := "a8768668285148b9fa41feb752957a909ffe665251919b58974e40409824761b", func := "sigil/sigillaw20.ShellJoins", spec := "shellJoins", inPlace := ["internal/abi.NoEscape"], unfollowed := true, recurses := true, apart := false, narrowed := true }
def ShellJoinsUptoSaid : Prop := shellJoinsUptoRow.holds Try.pinned (OpenSpec.upto shellJoinsSpec)

end Rows
end Go.Proofs.Ytiocgdegaabnmaa
