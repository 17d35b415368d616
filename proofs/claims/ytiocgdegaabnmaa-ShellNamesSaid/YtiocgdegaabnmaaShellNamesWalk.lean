/-
  The Go function ShellNames, walked: in whatever world it is called it returns true and changes nothing that was there. Conditions: none.
-/
import Derived.Test.YtiocgdegaabnmaaError
namespace Go.Proofs.Ytiocgdegaabnmaa
open Go.RowKit

set_option maxHeartbeats 1000000 in
theorem shellNames_walk (w : World) : Calls Try.prog 7 #[] w fun e w' => e = .returned (.bool true) ∧ Below w.heap.size w w' := by
  go_enter Try.func7, Try.ntmps7
  go_wp2_with fail
  refine (error_any 200 _ _ fits200).mono ?_
  rintro e w1 ⟨rfl, hb1⟩
  go_wp2_with fail
  refine (error_any 201 _ _ fits201).mono ?_
  rintro e w2 ⟨rfl, hb2⟩
  go_wp2_with fail
  refine (error_any 2 _ _ fits2).mono ?_
  rintro e w3 ⟨rfl, hb3⟩
  go_wp2_with fail
  refine (error_any 0 _ _ fits0).mono ?_
  rintro e w4 ⟨rfl, hb4⟩
  go_wp2_with fail
  go_ret
  exact ⟨rfl, ((hb1.trans (hb2.mono hb1.size)).trans (hb3.mono (Nat.le_trans hb1.size hb2.size))).trans (hb4.mono (Nat.le_trans (Nat.le_trans hb1.size hb2.size) hb3.size))⟩
end Go.Proofs.Ytiocgdegaabnmaa
