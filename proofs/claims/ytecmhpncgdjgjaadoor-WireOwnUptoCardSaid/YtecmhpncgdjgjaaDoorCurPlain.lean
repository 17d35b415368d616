/-
  How the reference reads a varint: by its leading bytes; plain Lean. Conditions: none.
-/
import Derived.Test.YtecmhpncgdjgjaaDoorReadPlain
namespace Go.Proofs.YtecmhpncgdjgjaaDoor
open Go.RowKit
set_option linter.unusedVariables false

/-- How many leading bytes are not below 128, up to m. -/
def lead : Nat → List UInt8 → Nat
  | 0, _ => 0
  | _ + 1, [] => 0
  | m + 1, c :: cs => if 128 ≤ c.toNat then lead m cs + 1 else 0
/-- Seven bits of each byte, the lowest first. -/
def le7 : List UInt8 → Nat
  | [] => 0
  | c :: cs => c.toNat % 128 + 128 * le7 cs
/-- What a cursor reads: number, error, how many bytes. -/
def crv (st : Bool) (l : List UInt8) : Nat × Int × Nat :=
  if l.length ≤ lead 9 l then (0, 20, 0)
  else if lead 9 l = 9 ∧ 1 < (l.getD 9 0).toNat then (0, 21, 0)
  else if st = true ∧ 0 < lead 9 l ∧ (l.getD (lead 9 l) 0).toNat = 0 then (0, 22, 0)
  else (le7 (l.take (lead 9 l + 1)), 0, lead 9 l + 1)

theorem lead_le (m : Nat) : ∀ l, lead m l ≤ m ∧ lead m l ≤ l.length := by
  induction m with
  | zero => intro l; simp [lead]
  | succ m ih =>
    intro l
    cases l with
    | nil => simp [lead]
    | cons c cs =>
      have := ih cs
      rw [lead]
      split
      · simp only [List.length_cons]; omega
      · simp

theorem rdv_lead (st : Bool) (l : List UInt8) : ∀ (i u m : Nat), i + m = 9 → rdv st i u l =
    if l.length ≤ lead m l then (0, 20, 0)
    else if i + lead m l = 9 ∧ 1 < (l.getD (lead m l) 0).toNat then (0, 21, 0)
    else if st = true ∧ 0 < i + lead m l ∧ (l.getD (lead m l) 0).toNat = 0 then (0, 22, 0)
    else (u + 128 ^ i * le7 (l.take (lead m l + 1)), 0, i + lead m l + 1) := by
  induction l with
  | nil =>
    intro i u m h
    rw [rdv_nil]
    cases m <;> simp [lead]
  | cons c cs ih =>
    intro i u m h
    cases m with
    | zero =>
      have h9 : i = 9 := by omega
      have h0 : lead 0 (c :: cs) = 0 := by simp [lead]
      rw [h0, if_neg (by simp)]
      show _ = if i + 0 = 9 ∧ 1 < c.toNat then _ else if st = true ∧ 0 < i + 0 ∧ c.toNat = 0 then _ else _
      by_cases h1 : 1 < c.toNat
      · rw [rdv_over _ _ _ _ _ ⟨h9, h1⟩, if_pos ⟨by omega, h1⟩]
      · rw [if_neg (by omega)]
        by_cases h2 : st = true ∧ 0 < i ∧ c.toNat = 0
        · rw [rdv_longer _ _ _ _ _ (by omega) (by omega) h2, if_pos ⟨h2.1, by omega, h2.2.2⟩]
        · rw [rdv_done _ _ _ _ _ (by omega) (by omega) h2, if_neg (fun e => h2 ⟨e.1, by omega, e.2.2⟩)]
          simp [le7, Nat.mul_comm]
    | succ m =>
      by_cases hc : 128 ≤ c.toNat
      · have h1 : lead (m + 1) (c :: cs) = lead m cs + 1 := by rw [lead, if_pos hc]
        rw [rdv_more _ _ _ _ _ (by omega) (by omega), ih (i + 1) _ m (by omega), h1]
        have e1 : (c :: cs).getD (lead m cs + 1) 0 = cs.getD (lead m cs) 0 := by simp [List.getD]
        have e2 : (c :: cs).take (lead m cs + 1 + 1) = c :: cs.take (lead m cs + 1) := rfl
        have e3 : ((c :: cs).length ≤ lead m cs + 1) = (cs.length ≤ lead m cs) := by simp
        have e4 : i + 1 + lead m cs = i + (lead m cs + 1) := by omega
        rw [e1, e2, e4]
        simp only [e3, le7]
        have e5 : u + c.toNat % 128 * 128 ^ i + 128 ^ (i + 1) * le7 (cs.take (lead m cs + 1)) = u + 128 ^ i * (c.toNat % 128 + 128 * le7 (cs.take (lead m cs + 1))) := by
          rw [Nat.pow_succ, Nat.mul_add, Nat.mul_comm (c.toNat % 128), Nat.mul_assoc, Nat.add_assoc]
        rw [e5]
      · have h1 : lead (m + 1) (c :: cs) = 0 := by rw [lead, if_neg hc]
        rw [h1, if_neg (by simp)]
        show _ = if i + 0 = 9 ∧ 1 < c.toNat then _ else if st = true ∧ 0 < i + 0 ∧ c.toNat = 0 then _ else _
        rw [if_neg (by omega)]
        by_cases h2 : st = true ∧ 0 < i ∧ c.toNat = 0
        · rw [rdv_longer _ _ _ _ _ (by omega) (by omega) h2, if_pos ⟨h2.1, by omega, h2.2.2⟩]
        · rw [rdv_done _ _ _ _ _ (by omega) (by omega) h2, if_neg (fun e => h2 ⟨e.1, by omega, e.2.2⟩)]
          simp [le7, Nat.mul_comm]

theorem rdv_crv (st : Bool) (l : List UInt8) : rdv st 0 0 l = crv st l := by
  rw [rdv_lead st l 0 0 9 rfl]
  unfold crv
  by_cases h9 : lead 9 l = 9
  · simp [h9]
  · simp [h9]
end Go.Proofs.YtecmhpncgdjgjaaDoor
