/-
  Records that are the same; characters of UTF-8: plain Lean. Conditions: none.
-/
import Derived.Test.YtecmhpncgdjgjaaDoorRec
namespace Go.Proofs.YtecmhpncgdjgjaaDoor
open Go.RowKit
set_option linter.unusedVariables false

mutual
def sameR : Rec → Rec → Bool
  | .mk n k x t i, .mk n' k' x' t' i' => (n == n') && ((k == k') && ((x == x') && ((t == t') && sameL i i')))
def sameL : List Rec → List Rec → Bool
  | [], [] => true
  | r :: rs, s :: ss => sameR r s && sameL rs ss
  | [], _ :: _ => false
  | _ :: _, [] => false
end

theorem sameL_refl_aux (n : Nat) : (∀ a : List Rec, SizeOf.sizeOf a ≤ n → sameL a a = true) := by
  induction n with
  | zero => intro a h; cases a <;> simp at h
  | succ n ih =>
    intro a h
    cases a with
    | nil => rw [sameL]
    | cons r rs =>
      obtain ⟨n1, k, x, t, i⟩ := r
      simp only [List.cons.sizeOf_spec, Rec.mk.sizeOf_spec] at h
      rw [sameL, sameR, ih i (by omega), ih rs (by omega)]
      simp
theorem sameL_refl (a : List Rec) : sameL a a = true := sameL_refl_aux _ a (Nat.le_refl _)

theorem sameL_eq_aux (n : Nat) : (∀ a b : List Rec, SizeOf.sizeOf a ≤ n → sameL a b = true → a = b) := by
  induction n with
  | zero => intro a b h; cases a <;> simp at h
  | succ n ih =>
    intro a b h he
    cases a with
    | nil => cases b with
      | nil => rfl
      | cons s ss => rw [sameL] at he; cases he
    | cons r rs => cases b with
      | nil => rw [sameL] at he; cases he
      | cons s ss =>
        obtain ⟨n1, k, x, t, i⟩ := r
        obtain ⟨n2, k2, x2, t2, i2⟩ := s
        simp only [List.cons.sizeOf_spec, Rec.mk.sizeOf_spec] at h
        rw [sameL, sameR] at he
        simp only [Bool.and_eq_true, beq_iff_eq] at he
        obtain ⟨⟨rfl, rfl, rfl, rfl, h5⟩, h6⟩ := he
        rw [ih i i2 (by omega) h5, ih rs ss (by omega) h6]
theorem sameL_eq {a b : List Rec} (h : sameL a b = true) : a = b := sameL_eq_aux _ a b (Nat.le_refl _) h
theorem sameL_len {a b : List Rec} (h : a.length ≠ b.length) : sameL a b = false := by
  cases e : sameL a b
  · rfl
  · rw [sameL_eq e] at h; exact absurd rfl h
theorem sameL_drop {a b : List Rec} (k : Nat) (ha : k < a.length) (hb : k < b.length) : sameL (a.drop k) (b.drop k) = (sameR (a[k]'ha) (b[k]'hb) && sameL (a.drop (k + 1)) (b.drop (k + 1))) := by
  rw [List.drop_eq_getElem_cons ha, List.drop_eq_getElem_cons hb, sameL]

/-- n bytes behind the first: the one next to it between lo and hi. -/
def okc : Nat → Nat → Nat → List UInt8 → Bool
  | 0, _, _, _ => true
  | _ + 1, _, _, [] => false
  | n + 1, lo, hi, c :: cs => decide (lo ≤ c.toNat) && decide (c.toNat ≤ hi) && okc n 128 191 cs
/-- How many bytes the character has with which bytes begin, or 0. -/
def chOf : List UInt8 → Nat
  | [] => 0
  | c :: cs =>
    if c.toNat < 128 then 1 else if c.toNat < 194 then 0 else if c.toNat < 224 then (if okc 1 128 191 cs then 2 else 0)
    else if c.toNat = 224 then (if okc 2 160 191 cs then 3 else 0) else if c.toNat = 237 then (if okc 2 128 159 cs then 3 else 0)
    else if c.toNat < 240 then (if okc 2 128 191 cs then 3 else 0)
    else if c.toNat = 240 then (if okc 3 144 191 cs then 4 else 0) else if c.toNat < 244 then (if okc 3 128 191 cs then 4 else 0)
    else if c.toNat = 244 then (if okc 3 128 143 cs then 4 else 0) else 0
end Go.Proofs.YtecmhpncgdjgjaaDoor
