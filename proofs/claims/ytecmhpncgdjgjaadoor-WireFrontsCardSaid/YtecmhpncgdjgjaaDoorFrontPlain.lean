/-
  A front of joined records, split: plain Lean. Conditions: none.
-/
import Derived.Test.YtecmhpncgdjgjaaDoorRoundB
namespace Go.Proofs.YtecmhpncgdjgjaaDoor
open Go.RowKit
set_option linter.unusedVariables false

theorem rdv_cut (st : Bool) (b : List UInt8) : ∀ (i u j : Nat), Enc i b → j < b.length → rdv st i u (b.take j) = (0, 20, 0) := by
  induction b with
  | nil => intro i u j h; exact h.elim
  | cons c cs ih =>
    intro i u j h hj
    cases j with
    | zero => rw [List.take_zero, rdv_nil]
    | succ j =>
      rcases h with ⟨rfl, _⟩ | ⟨h1, h2, h3⟩
      · simp at hj
      · rw [List.take_succ_cons, rdv_more _ _ _ _ _ (by omega) (by omega)]
        exact ih _ _ j h3 (by simpa using hj)
theorem vRd_cut (st : Bool) (P b : List UInt8) (j : Nat) (h : Enc 0 b) (hj : j < b.length) : vRd st (P ++ b.take j) P.length = (0, 20, P.length) := by
  have h0 := rdv_cut st b 0 0 j h hj
  unfold vRd
  rw [drop_at, h0]
  simp
theorem gRd_cut (st : Bool) (P b : List UInt8) (j : Nat) (h : Enc 0 b) (hj : j < b.length) : gRd st (P ++ b.take j) P.length = (0, 0, 20, P.length) := by
  unfold gRd
  rw [vRd_cut st P b j h hj]
  simp
theorem take_more {α : Type} {a b : List α} {n : Nat} (h : a.length ≤ n) : (a ++ b).take n = a ++ b.take (n - a.length) := by
  rw [List.take_append, List.take_of_length_le h]
theorem take_less {α : Type} {a b : List α} {n : Nat} (h : n ≤ a.length) : (a ++ b).take n = a.take n := by
  rw [List.take_append, show n - a.length = 0 by omega, List.take_zero, List.append_nil]

/-- What a front splits into: the first records; or the bytes run out. -/
def FrontOk (l : List Rec) (n op : Nat) (r : List Rec × Int × Nat) : Prop :=
  (r.2.1 = 20 ∧ (op = 0 → n < (encL l).length)) ∨ (op = 0 ∧ r.2.1 = 0 ∧ ∃ m, m ≤ l.length ∧ r.1 = l.take m ∧ (n = (encL l).length → m = l.length))

theorem tRd_short (st : Bool) (P V t : List UInt8) (j : Nat) (hV : Enc 0 V) (hl : st = true → 1 < V.length → last8 V ≠ 0) (h7 : le7 V = u64 t.length) (ht : t.length < 9223372036854775808) (hj : j < t.length) :
    (tRd st (P ++ (V ++ t.take j)) P.length).2.1 = 20 := by
  have hu : s64 (u64 t.length) = (t.length : Int) := u64_of ⟨by omega, by omega⟩
  have hlen : (P ++ (V ++ t.take j)).length = P.length + V.length + j := by
    rw [List.length_append, List.length_append, List.length_take]; omega
  unfold tRd
  rw [vRd_enc st P V _ hV hl, h7, hu, hlen]
  simp only [if_true]
  rw [if_pos (Or.inr (by omega))]

/-- A group whose end is cut: the bytes run out. -/
theorem cut_end (st : Bool) (most : Nat) (i : List Rec) (hr : rightL i = 0) (hw : wideL i) (Q T : List UInt8) (j : Nat) (number : Int) (op : Nat) (hd : op + deepL i ≤ most) (hT : Enc 0 T) (h1 : (encL i).length < j) (h2 : j < (encL i).length + T.length) :
    (recsF st (Q ++ (encL i ++ T).take j) most number op Q.length).2.1 = 20 := by
  obtain ⟨j', rfl⟩ : ∃ j', j = (encL i).length + j' := ⟨j - (encL i).length, by omega⟩
  rw [take_more (by omega), Nat.add_sub_cancel_left, fwd_all st most i hr hw Q (T.take j') number op hd]
  have hj1 : 0 < j' := by omega
  have hj2 : j' < T.length := by omega
  have hc := gRd_cut st (Q ++ encL i) T j' hT hj2
  have hl : ¬ ((Q ++ encL i) ++ T.take j').length ≤ (Q ++ encL i).length := by
    rw [List.length_append (bs := T.take j'), List.length_take]
    omega
  have hr := recsF_tag (st := st) (most := most) (number := number) (op := op) hl (by rw [hc]; simp)
  rw [hc] at hr
  rw [List.append_assoc, List.length_append] at hr
  rw [hr]
  simp [pre]

/-- A record that is cut: the bytes run out. -/
theorem cut_one (st : Bool) (most : Nat) (r : Rec) (hr : rightR r = 0) (hw : wideR r)
    (hi : r.kind = 3 → ∀ (P : List UInt8) (n : Nat) (number : Int) (op : Nat), 0 < op → op + deepL r.inner ≤ most → n ≤ (encL r.inner).length → (recsF st (P ++ (encL r.inner).take n) most number op P.length).2.1 = 20)
    (P : List UInt8) (n : Nat) (number : Int) (op : Nat) (hd : op + deepR r ≤ most) (h0 : 0 < n) (hn : n < (encR r).length) :
    (recsF st (P ++ (encR r).take n) most number op P.length).2.1 = 20 := by
  obtain ⟨nn, k, x, t, i⟩ := r
  obtain ⟨h1, h2, h3, h4, h5⟩ := rightR_parts hr
  obtain ⟨f1, f2, f3, f4⟩ := fits_parts h4
  obtain ⟨w1, w2, w3⟩ := hw
  obtain ⟨body, hbody⟩ : ∃ body, encR (.mk nn k x t i) = vb (u64 (nn * 8 + k)) ++ body := ⟨_, by rw [encR]⟩
  have hb : body = (if k = 0 then vb (u64 x) else if k = 1 then fx 8 x else if k = 2 then vb (u64 t.length) ++ t else if k = 3 then encL i ++ vb (u64 (nn * 8 + 4)) else fx 4 x) := by
    rw [encR] at hbody
    exact (List.append_cancel_left hbody).symm
  have hTe : Enc 0 (vb (u64 (nn * 8 + k))) := vb_enc64 _ (u64_lt _)
  have htp : 0 < (vb (u64 (nn * 8 + k))).length := vb_pos _ (u64_lt _)
  have hg := fun R => gRd_vb st P R nn k h1 h2 (by omega) (by omega)
  rw [hbody] at hn ⊢
  obtain ⟨T, hT⟩ : ∃ T, vb (u64 (nn * 8 + k)) = T := ⟨_, rfl⟩
  rw [hT] at htp hg hTe hn ⊢
  rw [List.length_append] at hn
  by_cases hnT : n < T.length
  · rw [take_less (by omega)]
    have hc := gRd_cut st P T n hTe hnT
    rw [recsF_tag (by rw [List.length_append, List.length_take]; omega) (by rw [hc]; simp), hc]
  · rw [take_more (by omega)]
    obtain ⟨j, hj⟩ : ∃ j, n - T.length = j := ⟨_, rfl⟩
    rw [hj]
    have hjb : j < body.length := by omega
    rcases h3 with rfl | rfl | rfl | rfl | rfl
    · have hb : body = vb (u64 x) := hb
      subst hb
      rw [recsF_c (by simp; omega) (hg _) (by omega) (by omega), ← List.length_append, cat3']
      have hv := vRd_cut st (P ++ T) _ j (vb_enc64 _ (u64_lt x)) hjb
      have hc : (cRd st 0 (P ++ T ++ (vb (u64 x)).take j) (P ++ T).length).2.2.1 = 20 := by
        unfold cRd
        rw [if_pos rfl, hv]
      rw [if_pos (by rw [hc]; simp)]
      exact hc
    · have hb : body = fx 8 x := hb
      subst hb
      rw [fx_len] at hjb
      rw [recsF_c (by simp; omega) (hg _) (by omega) (by omega), ← List.length_append, cat3']
      have hc : (cRd st 1 (P ++ T ++ (fx 8 x).take j) (P ++ T).length).2.2.1 = 20 := by
        unfold cRd
        rw [if_neg (by omega), if_pos rfl]
        unfold fRd
        rw [if_pos (by rw [List.length_append, List.length_take, fx_len]; omega)]
      rw [if_pos (by rw [hc]; simp)]
      exact hc
    · have hb : body = vb (u64 t.length) ++ t := hb
      subst hb
      rw [recsF_c (by simp; omega) (hg _) (by omega) (by omega), ← List.length_append, cat3']
      have hVe := vb_enc64 _ (u64_lt t.length)
      have h7 := vb_le7 10 (u64 t.length) (by have := u64_lt t.length; omega)
      have hlast := vb_last 10 (u64 t.length) (by have := u64_lt t.length; omega)
      obtain ⟨V, hV⟩ : ∃ V, vb (u64 t.length) = V := ⟨_, rfl⟩
      rw [hV] at hVe h7 hlast hjb ⊢
      have hc : (cRd st 2 (P ++ T ++ (V ++ t).take j) (P ++ T).length).2.2.1 = 20 := by
        unfold cRd
        rw [if_neg (by omega), if_neg (by omega), if_pos rfl]
        show (tRd st (P ++ T ++ (V ++ t).take j) (P ++ T).length).2.1 = 20
        unfold tRd
        by_cases hjV : j < V.length
        · rw [take_less (by omega), vRd_cut st (P ++ T) V j hVe hjV]
          simp
        · rw [List.length_append] at hjb
          rw [take_more (by omega)]
          have h9 := tRd_short st (P ++ T) V t (j - V.length) hVe (fun _ => hlast) h7 (by omega) (by omega)
          unfold tRd at h9
          exact h9
      rw [if_pos (by rw [hc]; simp)]
      exact hc
    · have hb : body = encL i ++ vb (u64 (nn * 8 + 4)) := hb
      subst hb
      have hd' : op + 1 + deepL i ≤ most := by rw [deepR, if_pos (.inl rfl)] at hd; omega
      have h4e : Enc 0 (vb (u64 (nn * 8 + 4))) := vb_enc64 _ (u64_lt _)
      obtain ⟨T4, hT4⟩ : ∃ T4, vb (u64 (nn * 8 + 4)) = T4 := ⟨_, rfl⟩
      rw [hT4] at h4e hjb ⊢
      rw [List.length_append] at hjb
      rw [recsF_3 (by simp; omega) (hg _), if_neg (by omega), ← List.length_append, cat3']
      have hin : (recsF st (P ++ T ++ (encL i ++ T4).take j) most nn (op + 1) (P ++ T).length).2.1 = 20 := by
        by_cases hji : j ≤ (encL i).length
        · rw [take_less hji]
          exact hi rfl (P ++ T) j nn (op + 1) (by omega) hd' hji
        · exact cut_end st most i (h5 rfl) w3 (P ++ T) T4 j nn (op + 1) hd' h4e (by omega) (by omega)
      rw [if_pos (by rw [hin]; simp)]
      exact hin
    · have hb : body = fx 4 x := hb
      subst hb
      rw [fx_len] at hjb
      rw [recsF_c (by simp; omega) (hg _) (by omega) (by omega), ← List.length_append, cat3']
      have hc : (cRd st 5 (P ++ T ++ (fx 4 x).take j) (P ++ T).length).2.2.1 = 20 := by
        unfold cRd
        rw [if_neg (by omega), if_neg (by omega), if_neg (by omega)]
        unfold fRd
        rw [if_pos (by rw [List.length_append, List.length_take, fx_len]; omega)]
      rw [if_pos (by rw [hc]; simp)]
      exact hc

theorem front_aux (st : Bool) (most N : Nat) : ∀ l : List Rec, SizeOf.sizeOf l ≤ N → rightL l = 0 → wideL l → ∀ (P : List UInt8) (n : Nat) (number : Int) (op : Nat), op + deepL l ≤ most → n ≤ (encL l).length →
    FrontOk l n op (recsF st (P ++ (encL l).take n) most number op P.length) := by
  induction N with
  | zero => intro l h; cases l <;> simp at h
  | succ N ih =>
    intro l h hr hw P n number op hd hn
    have hend : ∀ (l : List Rec) n, n = 0 → (l = [] ∨ 0 < (encL l).length) → FrontOk l n op (recsF st (P ++ (encL l).take n) most number op P.length) := by
      intro l n hn0 hle
      subst hn0
      rw [List.take_zero, List.append_nil, recsF_end (Nat.le_refl _)]
      by_cases ho : 0 < op
      · rw [if_pos ho]; exact .inl ⟨rfl, fun h => by omega⟩
      · rw [if_neg ho]
        refine .inr ⟨by omega, rfl, 0, Nat.zero_le _, rfl, fun h => ?_⟩
        rcases hle with rfl | hle
        · rfl
        · omega
    cases l with
    | nil =>
      refine hend [] n ?_ (.inl rfl)
      rw [encL] at hn
      simpa using hn
    | cons r rs =>
      obtain ⟨nn, k, x, t, i⟩ := r
      simp only [List.cons.sizeOf_spec, Rec.mk.sizeOf_spec] at h
      rw [rightL] at hr
      split at hr
      · rename_i hr1
        rw [deepL] at hd
        have hpos : 0 < (encR (.mk nn k x t i)).length := by
          have := vb_pos (u64 (nn * 8 + k)) (u64_lt _)
          rw [encR, List.length_append]; omega
        have hlen : (encL (.mk nn k x t i :: rs)).length = (encR (.mk nn k x t i)).length + (encL rs).length := by rw [encL, List.length_append]
        by_cases hnE : (encR (.mk nn k x t i)).length ≤ n
        · have h1 := fwd_one st most (.mk nn k x t i) hr1 hw.1 (fun h3 => fwd_all st most i ((rightR_parts hr1).2.2.2.2 h3) hw.1.2.2) P ((encL rs).take (n - (encR (.mk nn k x t i)).length)) number op (by omega)
          have h2 := ih rs (by omega) hr hw.2 (P ++ encR (.mk nn k x t i)) (n - (encR (.mk nn k x t i)).length) number op (by omega) (by omega)
          rw [← List.length_append, cat3'] at h1
          rw [encL, take_more hnE, cat3', h1]
          rcases h2 with ⟨h3, h4⟩ | ⟨h3, h4, m, h5, h6, h7⟩
          · refine .inl ⟨?_, fun ho => ?_⟩
            · unfold pre; rw [if_neg (by rw [h3]; simp)]; exact h3
            · have := h4 ho; omega
          · refine .inr ⟨h3, ?_, m + 1, ?_, ?_, fun hf => ?_⟩
            · unfold pre; rw [if_pos h4]
            · simpa using h5
            · unfold pre; rw [if_pos h4, h6]; rfl
            · have := h7 (by omega)
              simpa using this
        · by_cases hn0 : n = 0
          · exact hend _ n hn0 (.inr (by omega))
          · rw [encL, take_less (by omega)]
            refine .inl ⟨cut_one st most (.mk nn k x t i) hr1 hw.1 (fun h3 P n number op ho hdp hnp => ?_) P n number op (by omega) (by omega) (by omega), fun _ => by omega⟩
            rcases ih i (by omega) ((rightR_parts hr1).2.2.2.2 h3) hw.1.2.2 P n number op hdp hnp with h3 | h3
            · exact h3.1
            · omega
      · contradiction

/-- What a front of right records splits into. -/
theorem splitOf_front (st : Bool) (l : List Rec) (hr : rightL l = 0) (hw : wideL l) (hd : deepL l ≤ 63) (hs : (encL l).length ≤ 1048576) (n : Nat) (hn : n ≤ (encL l).length) :
    (∃ q, splitOf st ((encL l).take n) = ([], 20, q) ∧ q ≤ n ∧ n < (encL l).length) ∨ (∃ m, m ≤ l.length ∧ splitOf st ((encL l).take n) = (l.take m, 0, 0) ∧ (n = (encL l).length → m = l.length)) := by
  have h := front_aux st 63 _ l (Nat.le_refl _) hr hw [] n 0 0 (by omega) hn
  rw [List.nil_append, List.length_nil] at h
  have hlen : ((encL l).take n).length = n := by rw [List.length_take]; omega
  have hf := recsF_facts st ((encL l).take n) 63 0 0 0 (Nat.zero_le _)
  have hF : recsR st ((encL l).take n) 63 (((encL l).take n).length + 1) 0 0 0 = recsF st ((encL l).take n) 63 0 0 0 := rfl
  unfold splitOf
  rw [if_neg (by omega), hF]
  generalize recsF st ((encL l).take n) 63 0 0 0 = r at h hf
  obtain ⟨r1, r2, r3⟩ := r
  simp only at hf
  rcases h with ⟨h3, h4⟩ | ⟨_, h4, m, h5, h6, h7⟩
  · simp only at h3
    subst h3
    refine .inl ⟨r3, ?_, by omega, h4 rfl⟩
    rw [hf.1 (by omega)]
    simp
  · simp only at h4 h6
    subst h4 h6
    exact .inr ⟨m, h5, by simp, h7⟩
end Go.Proofs.YtecmhpncgdjgjaaDoor
