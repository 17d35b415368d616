/-
  The small functions of package shell on one byte or rune (blank, plainly, digit) and the reference's hex, walked. Conditions: none.
-/
import Derived.Test.YtiocgdegaabnmaaRows
import Derived.Test.YtiocgdegaabnmaaQuoted
import Derived.WalkKit
import Derived.WalkSpells
import Derived.WalkLawsBesides
import Derived.Lib.Hide
namespace Go.Proofs.Ytiocgdegaabnmaa
open Go.RowKit

theorem ret_int {k : IntKind} {a b : Int} (h : a = b) : Ending.returned (.int k a) = .returned (.int k b) := by rw [h]

theorem byte_eq (c d : UInt8) : ((c.toNat : Int) == (d.toNat : Int)) = (c == d) := by
  rw [Bool.eq_iff_iff]
  simp only [beq_iff_eq]
  exact ⟨fun h => UInt8.toNat_inj.1 (by omega), fun h => by rw [h]⟩

/-- What a backslash and one byte stand for; 0: nothing. -/
def plainV (c : UInt8) : UInt8 := if c == 92 || c == 34 then c else if c == 110 then 10 else if c == 116 then 9 else 0
def plainI (c : UInt8) : Int := if (c.toNat : Int) == 92 then c.toNat else if (c.toNat : Int) == 34 then c.toNat else if (c.toNat : Int) == 110 then 10 else if (c.toNat : Int) == 116 then 9 else 0
theorem plainI_eq (c : UInt8) : plainI c = (plainV c).toNat := by
  have h92 : ((c.toNat : Int) == 92) = (c == 92) := byte_eq c 92
  have h34 : ((c.toNat : Int) == 34) = (c == 34) := byte_eq c 34
  have h110 : ((c.toNat : Int) == 110) = (c == 110) := byte_eq c 110
  have h116 : ((c.toNat : Int) == 116) = (c == 116) := byte_eq c 116
  unfold plainI plainV
  rw [h92, h34, h110, h116]
  cases c == 92 <;> cases c == 34 <;> cases c == 110 <;> cases c == 116 <;> rfl

set_option maxHeartbeats 400000 in
theorem plainly_any (c : UInt8) (w : World) :
    Calls Try.prog 36 #[.int .u8 c.toNat] w fun e w' => e = .returned (.int .u8 (plainV c).toNat) ∧ w = w' := by
  rw [← plainI_eq]
  go_enter Try.func36, Try.ntmps36
  go_wp2
  all_goals
    go_ret
    exact ⟨ret_int (by simp [plainI, *]), rfl⟩

set_option maxHeartbeats 400000 in
theorem digit_any (c : UInt8) (w : World) :
    Calls Try.prog 37 #[.int .u8 c.toNat] w fun e w' => e = .returned (.int .i64 (hexv c)) ∧ w = w' := by
  have hc : c.toNat < 256 := c.toNat_lt
  go_enter Try.func37, Try.ntmps37
  go_wp2
  all_goals
    go_ret
    exact ⟨ret_int (by unfold hexv; (repeat' split) <;> omega), rfl⟩

set_option maxHeartbeats 400000 in
theorem hex_any (c : UInt8) (w : World) :
    Calls Try.prog 34 #[.int .u8 c.toNat] w fun e w' => e = .returned (.int .i64 (hexv c)) ∧ w = w' := by
  have hc : c.toNat < 256 := c.toNat_lt
  go_enter Try.func34, Try.ntmps34
  go_wp2
  all_goals
    go_ret
    exact ⟨ret_int (by unfold hexv; (repeat' split) <;> omega), rfl⟩

set_option maxHeartbeats 400000 in
theorem blank_any (c : Int) (w : World) :
    Calls Try.prog 20 #[.int .i32 c] w fun e w' => e = .returned (.bool (c == 32 || c == 9)) ∧ w = w' := by
  go_enter Try.func20, Try.ntmps20
  go_wp2
  all_goals
    go_ret
    exact ⟨by simp [*], rfl⟩
end Go.Proofs.Ytiocgdegaabnmaa
