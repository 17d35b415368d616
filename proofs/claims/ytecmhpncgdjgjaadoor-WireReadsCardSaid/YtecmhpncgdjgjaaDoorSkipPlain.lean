/-
  What Skip passes over: by a stack of open groups, or as records are read: plain Lean. Conditions: none.
-/
import Derived.Test.YtecmhpncgdjgjaaDoorRoundB
namespace Go.Proofs.YtecmhpncgdjgjaaDoor
open Go.RowKit
set_option linter.unusedVariables false

/-- Up to the end of the groups that are open (the innermost first): error and place. -/
def skipL (st : Bool) (b : List UInt8) (most : Nat) : Nat → List Int → Nat → Int × Nat
  | 0, _, p => (20, p)
  | _ + 1, [], p => (0, p)
  | f + 1, s :: ss, p =>
    if b.length ≤ p then (20, p)
    else if (gRd st b p).2.2.1 ≠ 0 then ((gRd st b p).2.2.1, p)
    else if (gRd st b p).2.1 = 4 then (if (gRd st b p).1 ≠ s then (25, p) else skipL st b most f ss (gRd st b p).2.2.2)
    else if (gRd st b p).2.1 = 3 then (if most ≤ ss.length + 1 then (4, p) else skipL st b most f ((gRd st b p).1 :: s :: ss) (gRd st b p).2.2.2)
    else if (cRd st (gRd st b p).2.1 b (gRd st b p).2.2.2).2.2.1 ≠ 0 then (cRd st (gRd st b p).2.1 b (gRd st b p).2.2.2).2.2
    else skipL st b most f (s :: ss) (cRd st (gRd st b p).2.1 b (gRd st b p).2.2.2).2.2.2

theorem skipL_nil (st : Bool) (b : List UInt8) (most f p : Nat) : skipL st b most (f + 1) [] p = (0, p) := by rw [skipL]
theorem skipL_end (st : Bool) (b : List UInt8) (most f p : Nat) (s : Int) (ss : List Int) (h : b.length ≤ p) : skipL st b most (f + 1) (s :: ss) p = (20, p) := by rw [skipL, if_pos h]
theorem skipL_tag (st : Bool) (b : List UInt8) (most f p : Nat) (s : Int) (ss : List Int) (h : ¬ b.length ≤ p) {n k er : Int} {q : Nat} (hg : gRd st b p = (n, k, er, q)) (he : er ≠ 0) : skipL st b most (f + 1) (s :: ss) p = (er, p) := by
  rw [skipL, if_neg h, hg, if_pos he]
theorem skipL_4 (st : Bool) (b : List UInt8) (most f p : Nat) (s : Int) (ss : List Int) (h : ¬ b.length ≤ p) {n : Int} {q : Nat} (hg : gRd st b p = (n, 4, 0, q)) : skipL st b most (f + 1) (s :: ss) p = if n ≠ s then (25, p) else skipL st b most f ss q := by
  rw [skipL, if_neg h, hg, if_neg (by simp), if_pos rfl]
theorem skipL_3 (st : Bool) (b : List UInt8) (most f p : Nat) (s : Int) (ss : List Int) (h : ¬ b.length ≤ p) {n : Int} {q : Nat} (hg : gRd st b p = (n, 3, 0, q)) : skipL st b most (f + 1) (s :: ss) p = if most ≤ ss.length + 1 then (4, p) else skipL st b most f (n :: s :: ss) q := by
  rw [skipL, if_neg h, hg, if_neg (by simp), if_neg (by simp), if_pos rfl]
theorem skipL_c (st : Bool) (b : List UInt8) (most f p : Nat) (s : Int) (ss : List Int) (h : ¬ b.length ≤ p) {n k : Int} {q : Nat} (hg : gRd st b p = (n, k, 0, q)) (h3 : k ≠ 3) (h4 : k ≠ 4) : skipL st b most (f + 1) (s :: ss) p = if (cRd st k b q).2.2.1 ≠ 0 then (cRd st k b q).2.2 else skipL st b most f (s :: ss) (cRd st k b q).2.2.2 := by
  rw [skipL, if_neg h, hg, if_neg (by simp), if_neg h4, if_neg h3]

theorem skipL_fuel (st : Bool) (b : List UInt8) (most : Nat) : ∀ (f g : Nat) (l : List Int) (p : Nat), p ≤ b.length → b.length - p + 1 < f → b.length - p + 1 < g → skipL st b most f l p = skipL st b most g l p := by
  intro f
  induction f with
  | zero => intro g l p h1 h2; omega
  | succ f ih =>
    intro g l p h1 h2 h3
    obtain ⟨g, rfl⟩ : ∃ m, g = m + 1 := ⟨g - 1, by omega⟩
    cases l with
    | nil => rw [skipL_nil, skipL_nil]
    | cons s ss =>
      by_cases h : b.length ≤ p
      · rw [skipL_end _ _ _ _ _ _ _ h, skipL_end _ _ _ _ _ _ _ h]
      obtain ⟨⟨n, k, er, q⟩, hg⟩ : ∃ r, gRd st b p = r := ⟨_, rfl⟩
      have hgp := gRd_place st b p h1
      rw [hg] at hgp
      simp only at hgp
      by_cases he : er = 0
      · subst he
        have hq := hgp.2.2.1 rfl
        by_cases h4 : k = 4
        · subst h4
          rw [skipL_4 _ _ _ _ _ _ _ h hg, skipL_4 _ _ _ _ _ _ _ h hg, ih g ss q hgp.1 (by omega) (by omega)]
        · by_cases h5 : k = 3
          · subst h5
            rw [skipL_3 _ _ _ _ _ _ _ h hg, skipL_3 _ _ _ _ _ _ _ h hg, ih g _ q hgp.1 (by omega) (by omega)]
          · have hc := cRd_place st k b q hgp.1
            rw [skipL_c _ _ _ _ _ _ _ h hg h5 h4, skipL_c _ _ _ _ _ _ _ h hg h5 h4, ih g _ _ hc.1 (by omega) (by omega)]
      · rw [skipL_tag _ _ _ _ _ _ _ h hg he, skipL_tag _ _ _ _ _ _ _ h hg he]

theorem pre_snd (l : List Rec) (o : List Rec × Int × Nat) : (pre l o).2 = o.2 := by
  unfold pre
  split
  · rename_i h; obtain ⟨a, e, p⟩ := o; simp only at h; subst h; rfl
  · rfl

/-- Group by group, as records are read. -/
theorem skip_recs (st : Bool) (b : List UInt8) (most : Nat) (N : Nat) : ∀ (f g : Nat) (s : Int) (ss : List Int) (p : Nat), b.length - p < N → p ≤ b.length → b.length - p + 1 < f → ss.length + 1 ≤ most →
    b.length - (recsF st b most s (ss.length + 1) p).2.2 + 1 < g →
    skipL st b most f (s :: ss) p = if (recsF st b most s (ss.length + 1) p).2.1 ≠ 0 then (recsF st b most s (ss.length + 1) p).2 else skipL st b most g ss (recsF st b most s (ss.length + 1) p).2.2 := by
  induction N with
  | zero => intro f g s ss p h; omega
  | succ N ih =>
    intro f g s ss p hN hp hf hm hg0
    obtain ⟨f, rfl⟩ : ∃ m, f = m + 1 := ⟨f - 1, by omega⟩
    by_cases h : b.length ≤ p
    · have hX : recsF st b most s (ss.length + 1) p = ([], 20, p) := by rw [recsF_end h, if_pos (by omega)]
      rw [skipL_end _ _ _ _ _ _ _ h, hX, if_pos (by simp)]
    obtain ⟨⟨n, k, er, q⟩, hg⟩ : ∃ r, gRd st b p = r := ⟨_, rfl⟩
    have hgp := gRd_place st b p hp
    have hgn := gRd_nums st b p
    rw [hg] at hgp hgn
    simp only at hgp hgn
    by_cases he : er = 0
    · subst he
      have hq := hgp.2.2.1 rfl
      by_cases h4 : k = 4
      · subst h4
        rw [skipL_4 _ _ _ _ _ _ _ h hg]
        by_cases hns : n = s
        · have hX : recsF st b most s (ss.length + 1) p = ([], 0, q) := by rw [recsF_4 h hg, if_neg (by simp [hns])]
          rw [hX] at hg0 ⊢
          rw [if_neg (by simp [hns]), if_neg (by simp)]
          exact skipL_fuel _ _ _ _ _ _ _ hgp.1 (by omega) hg0
        · have hX : recsF st b most s (ss.length + 1) p = ([], 25, p) := by rw [recsF_4 h hg, if_pos (Or.inr hns)]
          rw [hX, if_pos hns, if_pos (by simp)]
      · by_cases h5 : k = 3
        · subst h5
          have hif := recsF_facts st b most n (ss.length + 1 + 1) q hgp.1
          rw [skipL_3 _ _ _ _ _ _ _ h hg]
          by_cases hd : ss.length + 1 = most
          · have hX : recsF st b most s (ss.length + 1) p = ([], 4, p) := by rw [recsF_3 h hg, if_pos hd]
            rw [hX, if_pos (by omega), if_pos (by simp)]
          · rw [if_neg (by omega)]
            have h6 := ih f (b.length + 2) n (s :: ss) q (by omega) hgp.1 (by omega) (by simp only [List.length_cons]; omega) (by simp only [List.length_cons]; omega)
            simp only [List.length_cons] at h6
            rw [h6]
            by_cases h7 : (recsF st b most n (ss.length + 1 + 1) q).2.1 = 0
            · have hX : recsF st b most s (ss.length + 1) p = pre [.mk n 3 0 [] (recsF st b most n (ss.length + 1 + 1) q).1] (recsF st b most s (ss.length + 1) (recsF st b most n (ss.length + 1 + 1) q).2.2) := by rw [recsF_3 h hg, if_neg hd, if_neg (by simp [h7])]
              rw [hX, pre_snd] at hg0
              rw [hX, pre_snd, if_neg (by simp [h7])]
              exact ih (b.length + 2) g s ss _ (by omega) hif.2.2.1 (by omega) hm hg0
            · have hX : recsF st b most s (ss.length + 1) p = ([], (recsF st b most n (ss.length + 1 + 1) q).2) := by rw [recsF_3 h hg, if_neg hd, if_pos h7]
              rw [hX, if_pos h7, if_pos h7]
        · have hc := cRd_place st k b q hgp.1
          rw [skipL_c _ _ _ _ _ _ _ h hg h5 h4]
          by_cases h7 : (cRd st k b q).2.2.1 = 0
          · have hX : recsF st b most s (ss.length + 1) p = pre [.mk n k (cRd st k b q).1 (cRd st k b q).2.1 []] (recsF st b most s (ss.length + 1) (cRd st k b q).2.2.2) := by rw [recsF_c h hg h5 h4, if_neg (by simp [h7])]
            rw [hX, pre_snd] at hg0
            rw [hX, pre_snd, if_neg (by simp [h7])]
            exact ih f g s ss _ (by omega) hc.1 (by omega) hm hg0
          · have hX : recsF st b most s (ss.length + 1) p = ([], (cRd st k b q).2.2) := by rw [recsF_c h hg h5 h4, if_pos h7]
            rw [hX, if_pos h7, if_pos h7]
    · rw [skipL_tag _ _ _ _ _ _ _ h hg he, recsF_tag h (by rw [hg]; exact he), hg]
      simp only
      rw [if_pos he]

/-- What Skip answers: the error, the place. -/
def skipR (st : Bool) (b : List UInt8) (n k depth : Int) (q : Nat) : Int × Nat :=
  if n < 1 ∨ 536870911 < n then (24, q) else if k < 0 ∨ 5 < k then (23, q) else if k = 4 then (25, q) else if k = 3 ∧ depth < 1 then (4, q)
  else if k = 3 then (recsF st b depth.toNat n 1 q).2 else (cRd st k b q).2.2
theorem skip_one (st : Bool) (b : List UInt8) (most : Nat) (n : Int) (q : Nat) (hq : q ≤ b.length) (hm : 1 ≤ most) : skipL st b most (b.length + 2) [n] q = (recsF st b most n 1 q).2 := by
  have hf := recsF_facts st b most n 1 q hq
  rw [skip_recs st b most _ (b.length + 2) (b.length + 2) n [] q (Nat.lt_succ_self _) hq (by omega) (by simpa using hm) (by simp only [List.length_nil]; omega)]
  simp only [List.length_nil, Nat.zero_add]
  split
  · rfl
  · rename_i h
    rw [skipL_nil]
    generalize recsF st b most n 1 q = r at h
    obtain ⟨a, e, p⟩ := r
    simp only at h ⊢
    have : e = 0 := by omega
    rw [this]
end Go.Proofs.YtecmhpncgdjgjaaDoor
