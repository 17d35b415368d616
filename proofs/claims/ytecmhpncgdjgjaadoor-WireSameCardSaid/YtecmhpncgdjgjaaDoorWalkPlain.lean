/-
  Bytes read record by record come to what Split tells: plain Lean. Conditions: none.
-/
import Derived.Test.YtecmhpncgdjgjaaDoorSkipPlain
namespace Go.Proofs.YtecmhpncgdjgjaaDoor
open Go.RowKit
set_option linter.unusedVariables false

theorem shift_v (st : Bool) (b : List UInt8) (q : Nat) : vRd st (b.drop q) 0 = ((vRd st b q).1, (vRd st b q).2.1, (vRd st b q).2.2 - q) := by
  unfold vRd
  rw [List.drop_zero]
  split
  · simp
  · simp
theorem shift_f (n : Nat) (b : List UInt8) (q : Nat) (hq : q ≤ b.length) : fRd n (b.drop q) 0 = ((fRd n b q).1, (fRd n b q).2.1, (fRd n b q).2.2 - q) := by
  unfold fRd
  rw [List.drop_zero, List.length_drop]
  by_cases h : b.length < q + n
  · rw [if_pos h, if_pos (by omega)]; simp
  · rw [if_neg h, if_neg (by omega)]; simp
theorem shift_t (st : Bool) (b : List UInt8) (q : Nat) (hq : q ≤ b.length) : tRd st (b.drop q) 0 = ((tRd st b q).1, (tRd st b q).2.1, (tRd st b q).2.2 - q) := by
  have hv := vRd_place st b q hq
  unfold tRd
  rw [shift_v]
  simp only
  by_cases h : (vRd st b q).2.1 = 0
  · rw [if_pos h, if_pos h]
    rw [List.length_drop]
    have e : ((b.length - q : Nat) : Int) - (((vRd st b q).2.2 - q : Nat) : Int) = (b.length : Int) - ((vRd st b q).2.2 : Int) := by omega
    rw [e]
    split
    · simp
    · rw [List.drop_drop, show q + ((vRd st b q).2.2 - q) = (vRd st b q).2.2 by omega]
      simp only [Prod.mk.injEq, true_and]
      omega
  · rw [if_neg h, if_neg h]; simp
theorem shift_c (st : Bool) (k : Int) (b : List UInt8) (q : Nat) (hq : q ≤ b.length) : cRd st k (b.drop q) 0 = ((cRd st k b q).1, (cRd st k b q).2.1, (cRd st k b q).2.2.1, (cRd st k b q).2.2.2 - q) := by
  unfold cRd
  split
  · rw [shift_v]
  · split
    · rw [shift_f _ _ _ hq]
    · split
      · rw [shift_t _ _ _ hq]
      · rw [shift_f _ _ _ hq]

/-- All records of the bytes. -/
def allR (st : Bool) (b : List UInt8) : List Rec × Int × Nat := recsF st b 63 0 0 0
theorem splitOf_all (st : Bool) (b : List UInt8) (h : b.length ≤ 1048576) : splitOf st b = ((allR st b).1, (allR st b).2.1, if (allR st b).2.1 = 0 then 0 else (allR st b).2.2) := by
  unfold splitOf
  rw [if_neg (by omega)]
  rfl

theorem walk_end {st : Bool} {b : List UInt8} {p : Nat} {acc : List Rec} (h : allR st b = pre acc (recsF st b 63 0 0 p)) (hp : b.length ≤ p) : allR st b = (acc, 0, p) := by
  rw [h, recsF_end hp, if_neg (by omega)]
  simp [pre]
theorem walk_tag {st : Bool} {b : List UInt8} {p : Nat} {acc : List Rec} (h : allR st b = pre acc (recsF st b 63 0 0 p)) (hp : p < b.length) {n k er : Int} {q : Nat} (hg : gRd st b p = (n, k, er, q)) (he : er ≠ 0) : allR st b = ([], er, p) := by
  rw [h, recsF_tag (by omega) (by rw [hg]; exact he), hg]
  simp [pre, he]
theorem walk_4 {st : Bool} {b : List UInt8} {p : Nat} {acc : List Rec} (h : allR st b = pre acc (recsF st b 63 0 0 p)) (hp : p < b.length) {n : Int} {q : Nat} (hg : gRd st b p = (n, 4, 0, q)) : allR st b = ([], 25, p) := by
  rw [h, recsF_4 (by omega) hg, if_pos (.inl rfl)]
  simp [pre]
theorem walk_skip {st : Bool} {b : List UInt8} {p : Nat} {acc : List Rec} (h : allR st b = pre acc (recsF st b 63 0 0 p)) (hp : p < b.length) {n k : Int} {q : Nat} (hg : gRd st b p = (n, k, 0, q)) (h4 : k ≠ 4) {se : Int} {sp : Nat}
    (hs : skipR st b n k 63 q = (se, sp)) : (se ≠ 0 → allR st b = ([], se, sp)) ∧ (se = 0 → ∃ x t i, (k ≠ 3 → cRd st k b q = (x, t, 0, sp)) ∧ allR st b = pre (acc ++ [.mk n k x t i]) (recsF st b 63 0 0 sp) ∧ p < sp ∧ sp ≤ b.length ∧ q ≤ sp) := by
  have hgp := gRd_place st b p (by omega)
  have hgn := gRd_nums st b p (by rw [hg])
  rw [hg] at hgp hgn
  simp only at hgp hgn
  have hpq := hgp.2.2.1 (by trivial)
  unfold skipR at hs
  rw [if_neg (by omega), if_neg (by omega), if_neg h4, if_neg (by omega)] at hs
  by_cases h3 : k = 3
  · subst h3
    rw [if_pos rfl] at hs
    have hs : (recsF st b 63 n 1 q).2 = (se, sp) := hs
    have hX := recsF_3 (most := 63) (number := 0) (op := 0) (show ¬ b.length ≤ p by omega) hg
    rw [if_neg (by omega), show 0 + 1 = 1 from rfl] at hX
    have hf := recsF_facts st b 63 n 1 q hgp.1
    obtain ⟨⟨I, e', p'⟩, hI⟩ : ∃ r, recsF st b 63 n 1 q = r := ⟨_, rfl⟩
    rw [hI] at hs hX hf
    simp only at hf
    simp only [Prod.mk.injEq] at hs
    obtain ⟨rfl, rfl⟩ := hs
    refine ⟨fun he => ?_, fun he => ?_⟩
    · rw [if_pos he] at hX
      rw [h, hX]
      simp [pre, he]
    · subst he
      rw [if_neg (by simp)] at hX
      refine ⟨0, [], I, fun e => absurd rfl e, ?_, by omega, by omega, by omega⟩
      rw [h, hX, pre_cat]
  · rw [if_neg h3] at hs
    have hX := recsF_c (most := 63) (number := 0) (op := 0) (show ¬ b.length ≤ p by omega) hg h3 h4
    have hc := cRd_place st k b q hgp.1
    obtain ⟨⟨x, t, e', p'⟩, hC⟩ : ∃ r, cRd st k b q = r := ⟨_, rfl⟩
    rw [hC] at hs hX hc
    simp only at hc
    simp only [Prod.mk.injEq] at hs
    obtain ⟨rfl, rfl⟩ := hs
    refine ⟨fun he => ?_, fun he => ?_⟩
    · rw [if_pos he] at hX
      rw [h, hX]
      simp [pre, he]
    · subst he
      rw [if_neg (by simp)] at hX
      refine ⟨x, t, [], fun _ => hC, ?_, by omega, by omega, by omega⟩
      rw [h, hX, pre_cat]
/-- The record so far the last is there, if all is well. -/
theorem walk_get {st : Bool} {b : List UInt8} {p : Nat} {acc : List Rec} {r : Rec} (h : allR st b = pre (acc ++ [r]) (recsF st b 63 0 0 p)) (h0 : (allR st b).2.1 = 0) : acc.length < (allR st b).1.length ∧ ∀ hk, (allR st b).1[acc.length]'hk = r := by
  have h1 : (allR st b).1 = acc ++ [r] ++ (recsF st b 63 0 0 p).1 := by
    rw [h] at h0 ⊢
    unfold pre at h0 ⊢
    by_cases hc : (recsF st b 63 0 0 p).2.1 = 0
    · rw [if_pos hc]
    · rw [if_neg hc] at h0; exact absurd h0 hc
  refine ⟨by rw [h1]; simp, fun hk => ?_⟩
  simp [h1]
end Go.Proofs.YtecmhpncgdjgjaaDoor
