/-
  The bytes of records, how many there are, how deep they lie: plain Lean. Conditions: none.
-/
import Derived.Test.YtecmhpncgdjgjaaDoorRec
namespace Go.Proofs.YtecmhpncgdjgjaaDoor
open Go.RowKit
set_option linter.unusedVariables false

mutual
/-- A record's bytes. -/
def encR : Rec → List UInt8
  | .mk n k x t i => vb (u64 (n * 8 + k)) ++ (if k = 0 then vb (u64 x) else if k = 1 then fx 8 x else if k = 2 then vb (u64 t.length) ++ t else if k = 3 then encL i ++ vb (u64 (n * 8 + 4)) else fx 4 x)
def encL : List Rec → List UInt8
  | [] => []
  | r :: rs => encR r ++ encL rs
end
mutual
/-- How deep groups, or records with others in them, lie in one another. -/
def deepR : Rec → Nat
  | .mk _ k _ _ i => if k = 3 ∨ i.isEmpty = false then 1 + deepL i else 0
def deepL : List Rec → Nat
  | [] => 0
  | r :: rs => max (deepR r) (deepL rs)
end
mutual
/-- How many records there are in all. -/
def countR : Rec → Nat
  | .mk _ _ _ _ i => 1 + countL i
def countL : List Rec → Nat
  | [] => 0
  | r :: rs => countR r + countL rs
end

theorem encL_append (l m : List Rec) : encL (l ++ m) = encL l ++ encL m := by
  induction l with
  | nil => rfl
  | cons r rs ih => simp only [List.cons_append, encL, ih, List.append_assoc]
theorem encL_take {l : List Rec} (k : Nat) (hk : k < l.length) : encL (l.take (k + 1)) = encL (l.take k) ++ encR (l[k]'hk) := by
  rw [List.take_add_one, List.getElem?_eq_getElem hk, encL_append]
  simp [encL]
theorem encL_len {l : List Rec} (k : Nat) : (encL (l.take k)).length ≤ (encL l).length := by
  conv => rhs; rw [← List.take_append_drop k l, encL_append, List.length_append]
  omega
theorem rightL_get {l : List Rec} (h : rightL l = 0) (k : Nat) (hk : k < l.length) : rightR (l[k]'hk) = 0 := by
  induction l generalizing k with
  | nil => simp at hk
  | cons r rs ih =>
    rw [rightL] at h
    split at h
    · rename_i h0
      cases k with
      | zero => exact h0
      | succ k => exact ih h k (by simpa using hk)
    · contradiction
theorem deepL_get {l : List Rec} (k : Nat) (hk : k < l.length) : deepR (l[k]'hk) ≤ deepL l := by
  induction l generalizing k with
  | nil => simp at hk
  | cons r rs ih =>
    rw [deepL]
    cases k with
    | zero => exact Nat.le_max_left _ _
    | succ k => exact Nat.le_trans (ih k (by simpa using hk)) (Nat.le_max_right _ _)

theorem rightR_parts {n k x : Int} {t : List UInt8} {i : List Rec} (h : rightR (.mk n k x t i) = 0) :
    1 ≤ n ∧ n ≤ 536870911 ∧ (k = 0 ∨ k = 1 ∨ k = 2 ∨ k = 3 ∨ k = 5) ∧ fitsV (.mk n k x t i) = true ∧ (k = 3 → rightL i = 0) := by
  rw [rightR] at h
  split at h
  · omega
  · split at h
    · omega
    · split at h
      · omega
      · rename_i h1 h2 h3
        refine ⟨by omega, by omega, by omega, by simpa using h3, fun h4 => ?_⟩
        rw [if_pos h4] at h
        exact h

/-- Does join write them all? -/
def joinOk (o : List UInt8) (l : List Rec) : Bool := l.isEmpty || decide ((o ++ encL l).length ≤ 1048576)
theorem joinOk_end {o : List UInt8} {l : List Rec} {k : Nat} (hk : l.length ≤ k) (h : k ≠ 0 → (o ++ encL (l.take k)).length ≤ 1048576) : joinOk o l = true := by
  unfold joinOk
  rcases Nat.eq_zero_or_pos k with rfl | h0
  · have : l = [] := List.eq_nil_of_length_eq_zero (by omega)
    simp [this]
  · have h1 := h (by omega)
    rw [List.take_of_length_le hk] at h1
    simp only [Bool.or_eq_true, decide_eq_true_eq]
    exact .inr h1
theorem joinOk_not {o q : List UInt8} {l : List Rec} {k : Nat} (hk : k < l.length) (h : o ++ encL (l.take (k + 1)) = q) (hq : 1048576 < q.length) : joinOk o l = false := by
  have h1 := encL_len (l := l) (k + 1)
  have h2 : l.isEmpty = false := by
    cases l with
    | nil => simp at hk
    | cons _ _ => rfl
  rw [← h, List.length_append] at hq
  unfold joinOk
  rw [h2, List.length_append]
  simp
  omega
theorem encR_0 (n x : Int) (t : List UInt8) (i : List Rec) : encR (.mk n 0 x t i) = vb (u64 (n * 8 + 0)) ++ vb (u64 x) := by rw [encR]; rfl
theorem encR_1 (n x : Int) (t : List UInt8) (i : List Rec) : encR (.mk n 1 x t i) = vb (u64 (n * 8 + 1)) ++ fx 8 x := by rw [encR]; rfl
theorem encR_2 (n x : Int) (t : List UInt8) (i : List Rec) : encR (.mk n 2 x t i) = vb (u64 (n * 8 + 2)) ++ (vb (u64 t.length) ++ t) := by rw [encR]; rfl
theorem encR_3 (n x : Int) (t : List UInt8) (i : List Rec) : encR (.mk n 3 x t i) = vb (u64 (n * 8 + 3)) ++ (encL i ++ vb (u64 (n * 8 + 4))) := by rw [encR]; rfl
theorem encR_5 (n x : Int) (t : List UInt8) (i : List Rec) : encR (.mk n 5 x t i) = vb (u64 (n * 8 + 5)) ++ fx 4 x := by rw [encR]; rfl

/-- A text that is too large as it stands. -/
theorem joinOk_big {o p p2 : List UInt8} {l : List Rec} {k : Nat} {T : ByteArray} {n kd x : Int} {t : List UInt8} {i : List Rec} (hk : k < l.length) (h : o ++ encL (l.take (k + 1)) = p ++ encR (.mk n kd x t i)) (h2 : p ++ vb (u64 (n * 8 + kd)) = p2)
    (hT : T.size = t.length) (hf : fitsV (.mk n kd x t i) = true) (hkd : kd ≠ 3) (hb : 1048576 < p2.length + T.size) : joinOk o l = false := by
  refine joinOk_not hk h ?_
  rw [encR, ← List.append_assoc, h2, List.length_append]
  by_cases h2 : kd = 2
  · subst h2
    simp only [show ¬ ((2 : Int) = 0) by omega, show ¬ ((2 : Int) = 1) by omega, if_false, if_true, List.length_append]
    omega
  · have ht : t = [] := by
      replace hf : (if kd = 0 ∨ kd = 1 then t.isEmpty && (i.length : Int) == 0 else if kd = 2 then x == 0 && (i.length : Int) == 0 else if kd = 3 then x == 0 && t.isEmpty else (t.isEmpty && (i.length : Int) == 0) && (decide (0 ≤ x) && decide (x < 4294967296))) = true := hf
      by_cases h01 : kd = 0 ∨ kd = 1
      · rw [if_pos h01] at hf; simp at hf; exact hf.1
      · rw [if_neg h01, if_neg h2, if_neg hkd] at hf
        simp at hf
        exact hf.1.1
    subst ht
    have hT0 : T.size = 0 := hT
    omega
end Go.Proofs.YtecmhpncgdjgjaaDoor
