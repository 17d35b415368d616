/-
  Numbers of 64 bits in plain Lean: varints, zigzag, fixed bytes; no program in it. Conditions: none.
-/
import Derived.Lib.Zigzag
import Derived.WalkKit
namespace Go.Proofs.YtecmhpncgdjgjaaDoor
open Go.RowKit
set_option linter.unusedVariables false

/-- The 64 bits of an int, as a number without a sign. -/
def u64 (v : Int) : Nat := (v % 18446744073709551616).toNat
/-- An int. -/
def Is64 (v : Int) : Prop := -9223372036854775808 ≤ v ∧ v < 9223372036854775808

theorem u64_lt (v : Int) : u64 v < 18446744073709551616 := by unfold u64; omega
theorem wrap_u64 (v : Int) : IntKind.u64.wrap v = (u64 v : Int) := by
  rw [IntKind.wrap_u64]; unfold u64; omega

/-- The bytes of a varint. -/
def vb (u : Nat) : List UInt8 := if u < 128 then [UInt8.ofNat u] else UInt8.ofNat (u % 128 + 128) :: vb (u / 128)
termination_by u
decreasing_by omega

theorem vb_small {u : Nat} (h : u < 128) : vb u = [UInt8.ofNat u] := by rw [vb, if_pos h]
theorem vb_more {u : Nat} (h : ¬ u < 128) : vb u = UInt8.ofNat (u % 128 + 128) :: vb (u / 128) := by rw [vb, if_neg h]

theorem vb_len (n : Nat) : ∀ u : Nat, u < 128 ^ n → 1 ≤ (vb u).length ∧ (0 < n → (vb u).length ≤ n) := by
  induction n with
  | zero => intro u h; obtain rfl : u = 0 := by simpa using h
            rw [vb_small (by omega)]; simp
  | succ n ih =>
    intro u h
    by_cases hs : u < 128
    · rw [vb_small hs]; simp
    · rw [vb_more hs]
      have h2 : u / 128 < 128 ^ n := by rw [Nat.pow_succ] at h; omega
      have h3 := ih (u / 128) h2
      have hn : 0 < n := by
        rcases Nat.eq_zero_or_pos n with rfl | h4
        · simp at h2; omega
        · exact h4
      have h5 := h3.2 hn
      simp only [List.length_cons]
      omega

theorem vb_len10 (v : Int) : 1 ≤ (vb (u64 v)).length ∧ (vb (u64 v)).length ≤ 10 := by
  have h := u64_lt v
  have h2 := vb_len 10 (u64 v) (by omega)
  exact ⟨h2.1, h2.2 (by omega)⟩

theorem or128 : ∀ n : Fin 256, bits BinOp.or IntKind.u8 (n.val : Int) 128 = ((n.val % 128 + 128 : Nat) : Int) := by decide +kernel
theorem wrap_u8 (u : Nat) : IntKind.u8.wrap (u : Int) = ((u % 256 : Nat) : Int) := by
  simp only [IntKind.wrap, IntKind.bits, IntKind.signed, Bool.false_and, Bool.false_eq_true, if_false]
  omega
theorem or_byte (u : Nat) : bits BinOp.or IntKind.u8 (IntKind.u8.wrap (u : Int)) 128 = ((UInt8.ofNat (u % 128 + 128)).toNat : Int) := by
  rw [wrap_u8, or128 ⟨u % 256, by omega⟩, UInt8.toNat_ofNat']
  have : u % 256 % 128 = u % 128 := by omega
  simp only [this]
  omega
theorem small_byte {u : Nat} (h : u < 128) : IntKind.u8.wrap (u : Int) = ((UInt8.ofNat u).toNat : Int) := by
  rw [wrap_u8, UInt8.toNat_ofNat']

/-! ### Zigzag -/

theorem ofInt_toNat (x : Int) : (BitVec.ofInt 64 x).toNat = u64 x := by
  rw [BitVec.toNat_ofInt]
  rfl

theorem xor_all (x : Int) (h : Is64 x) : bits BinOp.xor IntKind.i64 x (-1) = -x - 1 := by
  show IntKind.i64.wrap ((BitVec.ofInt 64 x ^^^ BitVec.ofInt 64 (-1)).toNat : Int) = _
  have h1 : (BitVec.ofInt 64 (-1)).toNat = 2 ^ 64 - 1 := by decide
  have h2 := u64_lt x
  rw [BitVec.toNat_xor, h1, ofInt_toNat, Nat.xor_comm, Lib.xor_ones64 _ h2, IntKind.wrap_i64]
  unfold u64 at h2 ⊢
  obtain ⟨h3, h4⟩ := h
  omega

theorem xor_none (x : Int) (h : Is64 x) : bits BinOp.xor IntKind.i64 x 0 = x := by
  show IntKind.i64.wrap ((BitVec.ofInt 64 x ^^^ BitVec.ofInt 64 0).toNat : Int) = _
  have h1 : (BitVec.ofInt 64 0).toNat = 0 := by decide
  rw [BitVec.toNat_xor, h1, ofInt_toNat, Nat.xor_zero, IntKind.wrap_i64]
  unfold u64
  obtain ⟨h3, h4⟩ := h
  omega

theorem is64_wrap (x : Int) : Is64 (wrap64 x) := by unfold Is64 wrap64; omega

def zigV (v : Int) : Int := if v < 0 then -(wrap64 (v * 2)) - 1 else wrap64 (v * 2)
def zagV (v : Int) : Int := if v % 2 = 0 then ((u64 v / 2 : Nat) : Int) else -((u64 v / 2 : Nat) : Int) - 1

theorem zig_eq (v : Int) (h : Is64 v) : bits BinOp.xor IntKind.i64 (wrap64 (v * 2)) (v / 9223372036854775808) = zigV v := by
  unfold zigV
  obtain ⟨h3, h4⟩ := h
  split
  · rw [show v / 9223372036854775808 = -1 by omega, xor_all _ (is64_wrap _)]
  · rw [show v / 9223372036854775808 = 0 by omega, xor_none _ (is64_wrap _)]

theorem and_one (v : Int) : bits BinOp.and IntKind.i64 v 1 = v % 2 := by
  show IntKind.i64.wrap ((BitVec.ofInt 64 v &&& BitVec.ofInt 64 1).toNat : Int) = _
  have h1 : (BitVec.ofInt 64 1).toNat = 1 := by decide
  rw [BitVec.toNat_and, h1, ofInt_toNat, Nat.and_one_is_mod, IntKind.wrap_i64]
  unfold u64
  omega

theorem zag_eq (v : Int) : bits BinOp.xor IntKind.i64 (wrap64 (IntKind.u64.wrap v / 2)) (wrap64 (-bits BinOp.and IntKind.i64 v 1)) = zagV v := by
  have hu := u64_lt v
  have e1 : wrap64 (IntKind.u64.wrap v / 2) = ((u64 v / 2 : Nat) : Int) := by rw [wrap_u64]; unfold wrap64; omega
  have h2 : Is64 ((u64 v / 2 : Nat) : Int) := by unfold Is64; omega
  rw [e1, and_one]
  unfold zagV
  split
  · rename_i h0
    rw [h0, show wrap64 (-0) = 0 by unfold wrap64; omega, xor_none _ h2]
  · rw [show v % 2 = 1 by omega, show wrap64 (-1) = -1 by unfold wrap64; omega, xor_all _ h2]
end Go.Proofs.YtecmhpncgdjgjaaDoor
