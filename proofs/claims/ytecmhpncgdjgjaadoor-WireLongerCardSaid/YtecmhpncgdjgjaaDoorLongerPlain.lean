/-
  A record of a number whose varints are longer than must be, split: plain Lean. Conditions: none.
-/
import Derived.Test.YtecmhpncgdjgjaaDoorRoundB
namespace Go.Proofs.YtecmhpncgdjgjaaDoor
open Go.RowKit
set_option linter.unusedVariables false

/-- Two varints, the second a record's number: what is split of them. -/
theorem longer_split (st : Bool) (n v : Int) (T X A B : List UInt8) (h1 : 1 ≤ n) (h2 : n ≤ 536870911) (hv : Is64 v) (hT : vb (u64 (n * 8 + 0)) = T) (hX : vb (u64 v) = X)
    (ha : Enc 0 A) (ha2 : le7 A = le7 T) (ha3 : T.length < A.length → last8 A = 0) (ha4 : ¬ T.length < A.length → A = T)
    (hb : Enc 0 B) (hb2 : le7 B = le7 X) (hb3 : X.length < B.length → last8 B = 0) (hb4 : ¬ X.length < B.length → B = X) :
    splitOf st (A ++ B) = if st = true ∧ T.length < A.length then ([], 22, 0) else if st = true ∧ X.length < B.length then ([], 22, A.length) else ([.mk n 0 v [] []], 0, 0) := by
  have la := ha.le
  have lb := hb.le
  have lT : 0 < T.length := by rw [← hT]; exact vb_pos _ (u64_lt _)
  have lX : 0 < X.length := by rw [← hX]; exact vb_pos _ (u64_lt _)
  have hlen : (A ++ B).length = A.length + B.length := List.length_append
  have e7T : le7 A = u64 (n * 8 + 0) := by rw [ha2, ← hT]; exact vb_le7 10 _ (by have := u64_lt (n * 8 + 0); omega)
  have e7X : le7 B = u64 v := by rw [hb2, ← hX]; exact vb_le7 10 _ (by have := u64_lt v; omega)
  have hF : recsR st (A ++ B) 63 ((A ++ B).length + 1) 0 0 0 = recsF st (A ++ B) 63 0 0 0 := rfl
  unfold splitOf
  rw [if_neg (by omega), hF]
  by_cases c1 : st = true ∧ T.length < A.length
  · obtain ⟨rfl, c1⟩ := c1
    have h3 := vRd_enc_bad [] A B ha (by omega) (ha3 c1)
    have h4 : gRd true (A ++ B) 0 = (0, 0, 22, 0) := by
      unfold gRd
      rw [show vRd true (A ++ B) 0 = _ from h3]
      simp
    rw [recsF_tag (by omega) (by rw [h4]; simp), h4]
    simp [c1]
  · rw [if_neg c1]
    have h3 := vRd_enc st [] A B ha (fun e l => by
      by_cases h5 : T.length < A.length
      · exact absurd ⟨e, h5⟩ c1
      · have h6 := ha4 h5
        rw [h6] at l ⊢
        rw [← hT] at l ⊢
        exact vb_last 10 _ (by have := u64_lt (n * 8 + 0); omega) l)
    rw [e7T, (tag_small h1 h2 (Int.le_refl 0) (by omega)).2] at h3
    have h4 := gRd_of st (A ++ B) 0 (0 + A.length) n 0 h1 h2 (by omega) (by omega) h3
    rw [Nat.zero_add] at h4
    rw [recsF_c (by omega) h4 (by omega) (by omega)]
    by_cases c2 : st = true ∧ X.length < B.length
    · obtain ⟨rfl, c2⟩ := c2
      have h5 := vRd_enc_bad A B [] hb (by omega) (hb3 c2)
      rw [List.append_nil] at h5
      have h6 : cRd true 0 (A ++ B) A.length = (0, [], 22, A.length) := by unfold cRd; rw [if_pos rfl, h5]
      rw [h6]
      simp [c2]
    · rw [if_neg c2]
      have h5 := vRd_enc st A B [] hb (fun e l => by
        by_cases h7 : X.length < B.length
        · exact absurd ⟨e, h7⟩ c2
        · have h8 := hb4 h7
          rw [h8] at l ⊢
          rw [← hX] at l ⊢
          exact vb_last 10 _ (by have := u64_lt v; omega) l)
      rw [e7X, u64_of hv, List.append_nil] at h5
      have h6 : cRd st 0 (A ++ B) A.length = (v, [], 0, A.length + B.length) := by unfold cRd; rw [if_pos rfl, h5]
      rw [h6]
      simp only [ne_eq, not_true_eq_false, if_false]
      rw [recsF_end (by omega), if_neg (by omega)]
      simp [pre]
end Go.Proofs.YtecmhpncgdjgjaaDoor
