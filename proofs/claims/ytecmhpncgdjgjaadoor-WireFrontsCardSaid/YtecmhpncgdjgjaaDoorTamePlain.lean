/-
  Right records made of any, how large they are at least: plain Lean. Conditions: none.
-/
import Derived.Test.YtecmhpncgdjgjaaDoorRoundD
import Derived.Test.YtecmhpncgdjgjaaDoorCopy
namespace Go.Proofs.YtecmhpncgdjgjaaDoor
open Go.RowKit
set_option linter.unusedVariables false
set_option linter.unusedSimpArgs false

mutual
/-- A right record, made of any; m: how deep groups may lie in it. -/
def tameR : Nat → Rec → Rec
  | m, .mk n k x t i =>
    if withinV k 0 4 = 0 then .mk (withinV n 1 536870911) 0 x [] []
    else if withinV k 0 4 = 1 then .mk (withinV n 1 536870911) 1 x [] []
    else if withinV k 0 4 = 2 then .mk (withinV n 1 536870911) 2 0 t []
    else if withinV k 0 4 = 3 then .mk (withinV n 1 536870911) 5 (withinV x 0 4294967295) [] []
    else .mk (withinV n 1 536870911) 3 0 [] (if 1 < m then tameS (m - 1) i else [])
/-- Right records. -/
def tameS : Nat → List Rec → List Rec
  | _, [] => []
  | m, r :: rs => tameR m r :: tameS m rs
end

theorem tameS_length (m : Nat) (l : List Rec) : (tameS m l).length = l.length := by
  induction l with
  | nil => rfl
  | cons r rs ih => rw [tameS, List.length_cons, ih, List.length_cons]
theorem tameS_take (m : Nat) (l : List Rec) (k : Nat) (hk : k < l.length) : tameS m (l.take (k + 1)) = tameS m (l.take k) ++ [tameR m (l[k]'hk)] := by
  induction l generalizing k with
  | nil => simp at hk
  | cons r rs ih =>
    cases k with
    | zero => rfl
    | succ k =>
      have := ih k (by simpa using hk)
      simp only [List.take_succ_cons, tameS, this]
      rfl

/-- What is tame is right, as deep as may be, and no wider. -/
theorem tame_aux (N : Nat) : ∀ (l : List Rec), SizeOf.sizeOf l ≤ N → wideL l → ∀ (m M : Nat), 1 ≤ m → lensS M l → rightL (tameS m l) = 0 ∧ wideL (tameS m l) ∧ deepL (tameS m l) ≤ m ∧ lensS M (tameS m l) := by
  induction N with
  | zero => intro l h; cases l <;> simp at h
  | succ N ih =>
    intro l h hw m M hm hM
    cases l with
    | nil => exact ⟨rfl, trivial, Nat.zero_le _, trivial⟩
    | cons r rs =>
      obtain ⟨n, k, x, t, i⟩ := r
      simp only [List.cons.sizeOf_spec, Rec.mk.sizeOf_spec] at h
      have h1 := ih rs (by omega) hw.2 m M hm hM.2
      have hn := withinV_le (v := n) (lo := 1) (hi := 536870911) (by omega)
      have hx := withinV_le (v := x) (lo := 0) (hi := 4294967295) (by omega)
      have hR : rightR (tameR m (.mk n k x t i)) = 0 ∧ wideR (tameR m (.mk n k x t i)) ∧ deepR (tameR m (.mk n k x t i)) ≤ m ∧ lensR M (tameR m (.mk n k x t i)) := by
        have h64 : Is64 0 := ⟨by simp, by simp⟩
        rw [tameR]
        generalize withinV n 1 536870911 = n' at hn
        generalize withinV k 0 4 = k'
        generalize withinV x 0 4294967295 = x' at hx
        split
        · refine ⟨?_, ⟨hw.1.1, by simp, trivial⟩, by simp [deepR], ⟨Nat.zero_le _, trivial⟩⟩
          rw [rightR, if_neg (by omega), if_neg (by omega), if_neg (by simp [fitsV, Rec.kind, Rec.num, Rec.text, Rec.inner]), if_neg (by omega)]
        · split
          · refine ⟨?_, ⟨hw.1.1, by simp, trivial⟩, by simp [deepR], ⟨Nat.zero_le _, trivial⟩⟩
            rw [rightR, if_neg (by omega), if_neg (by omega), if_neg (by simp [fitsV, Rec.kind, Rec.num, Rec.text, Rec.inner]), if_neg (by omega)]
          · split
            · refine ⟨?_, ⟨h64, hw.1.2.1, trivial⟩, by simp [deepR], ⟨Nat.zero_le _, trivial⟩⟩
              rw [rightR, if_neg (by omega), if_neg (by omega), if_neg (by simp [fitsV, Rec.kind, Rec.num, Rec.text, Rec.inner]), if_neg (by omega)]
            · split
              · refine ⟨?_, ⟨⟨by omega, by omega⟩, by simp, trivial⟩, by simp [deepR], ⟨Nat.zero_le _, trivial⟩⟩
                rw [rightR, if_neg (by omega), if_neg (by omega), if_neg (by simp [fitsV, Rec.kind, Rec.num, Rec.text, Rec.inner, hx.1, show x' < 4294967296 by omega]), if_neg (by omega)]
              · by_cases h1m : 1 < m
                · rw [if_pos h1m]
                  have hi := ih i (by omega) hw.1.2.2 (m - 1) M (by omega) hM.1.2
                  refine ⟨?_, ⟨h64, by simp, hi.2.1⟩, ?_, ⟨by rw [tameS_length]; exact hM.1.1, hi.2.2.2⟩⟩
                  · rw [rightR, if_neg (by omega), if_neg (by omega), if_neg (by simp [fitsV, Rec.kind, Rec.num, Rec.text, Rec.inner]), if_pos rfl]
                    exact hi.1
                  · rw [deepR, if_pos (.inl rfl)]; omega
                · rw [if_neg h1m]
                  refine ⟨?_, ⟨h64, by simp, trivial⟩, ?_, ⟨Nat.zero_le _, trivial⟩⟩
                  · rw [rightR, if_neg (by omega), if_neg (by omega), if_neg (by simp [fitsV, Rec.kind, Rec.num, Rec.text, Rec.inner]), if_pos rfl, rightL]
                  · rw [deepR, if_pos (.inl rfl), deepL]; omega
      rw [tameS]
      refine ⟨?_, ⟨hR.2.1, h1.2.1⟩, ?_, ⟨hR.2.2.2, h1.2.2.2⟩⟩
      · rw [rightL, if_pos hR.1]; exact h1.1
      · rw [deepL]; omega
theorem tame_right {l : List Rec} {m M : Nat} (hw : wideL l) (hm : 1 ≤ m) (hM : lensL M l) : rightL (tameS m l) = 0 ∧ wideL (tameS m l) ∧ deepL (tameS m l) ≤ m ∧ lensL M (tameS m l) := by
  have h := tame_aux _ l (Nat.le_refl _) hw m M hm hM.2
  exact ⟨h.1, h.2.1, h.2.2.1, by rw [tameS_length]; exact hM.1, h.2.2.2⟩

/-! ### How large -/
mutual
/-- No fewer than a record's bytes; largeS: of records, n counted ahead; no further than past 1048576. -/
def largeR : Rec → Nat
  | .mk _ _ _ t i => 20 + t.length + largeS 0 i
def largeS : Nat → List Rec → Nat
  | n, [] => n
  | n, r :: rs => if n ≤ 1048576 then largeS (n + largeR r) rs else n
end
mutual
def sizeR : Rec → Nat
  | .mk _ _ _ t i => 20 + t.length + sizeS i
def sizeS : List Rec → Nat
  | [] => 0
  | r :: rs => sizeR r + sizeS rs
end
theorem large_nil (n : Nat) : largeS n [] = n := by rw [largeS]
theorem large_more {n : Nat} (r : Rec) (rs : List Rec) (h : n ≤ 1048576) : largeS n (r :: rs) = largeS (n + largeR r) rs := by rw [largeS, if_pos h]
theorem large_stop {n : Nat} (l : List Rec) (h : ¬ n ≤ 1048576) : largeS n l = n := by
  cases l with
  | nil => rw [largeS]
  | cons r rs => rw [largeS, if_neg h]
theorem large_ge (N : Nat) : ∀ (l : List Rec), SizeOf.sizeOf l ≤ N → ∀ n : Nat, 1048576 < largeS n l ∨ n + sizeS l ≤ largeS n l := by
  induction N with
  | zero => intro l h; cases l <;> simp at h
  | succ N ih =>
    intro l h n
    cases l with
    | nil => right; rw [large_nil, sizeS]; omega
    | cons r rs =>
      by_cases hn : n ≤ 1048576
      · obtain ⟨nn, k, x, t, i⟩ := r
        simp only [List.cons.sizeOf_spec, Rec.mk.sizeOf_spec] at h
        rw [large_more _ _ hn, largeR, sizeS, sizeR]
        have hi := ih i (by omega) 0
        have hr := ih rs (by omega) (n + (20 + t.length + largeS 0 i))
        rcases hr with hr | hr
        · exact .inl hr
        · rcases hi with hi | hi
          · left; omega
          · right; omega
      · left; rw [large_stop _ hn]; omega
theorem enc_size_aux (N : Nat) : ∀ (l : List Rec), SizeOf.sizeOf l ≤ N → wideL l → rightL l = 0 → (encL l).length ≤ sizeS l := by
  induction N with
  | zero => intro l h; cases l <;> simp at h
  | succ N ih =>
    intro l h hw hr
    cases l with
    | nil => simp [encL]
    | cons r rs =>
      obtain ⟨n, k, x, t, i⟩ := r
      simp only [List.cons.sizeOf_spec, Rec.mk.sizeOf_spec] at h
      rw [rightL] at hr
      split at hr
      · rename_i hr1
        obtain ⟨h1, h2, h3, h4, h5⟩ := rightR_parts hr1
        have hrs := ih rs (by omega) hw.2 hr
        have htag : ∀ k : Int, 0 ≤ k → k ≤ 5 → (vb (u64 (n * 8 + k))).length ≤ 5 := fun k h0 h5 => (vb_len 5 (u64 (n * 8 + k)) (by unfold u64; omega)).2 (by omega)
        rw [encL, sizeS, sizeR, List.length_append]
        rcases h3 with rfl | rfl | rfl | rfl | rfl
        · have := htag 0 (by omega) (by omega)
          have := (vb_len10 x).2
          rw [encR_0, List.length_append]; omega
        · have := htag 1 (by omega) (by omega)
          rw [encR_1, List.length_append, fx_len]; omega
        · have := htag 2 (by omega) (by omega)
          have := (vb_len10 t.length).2
          rw [encR_2, List.length_append, List.length_append]; omega
        · have := htag 3 (by omega) (by omega)
          have := htag 4 (by omega) (by omega)
          have := ih i (by omega) hw.1.2.2 (h5 rfl)
          rw [encR_3, List.length_append, List.length_append]; omega
        · have := htag 5 (by omega) (by omega)
          rw [encR_5, List.length_append, fx_len]; omega
      · contradiction
theorem count_size_aux (N : Nat) : ∀ (l : List Rec), SizeOf.sizeOf l ≤ N → countL l ≤ sizeS l := by
  induction N with
  | zero => intro l h; cases l <;> simp at h
  | succ N ih =>
    intro l h
    cases l with
    | nil => simp [countL]
    | cons r rs =>
      obtain ⟨n, k, x, t, i⟩ := r
      simp only [List.cons.sizeOf_spec, Rec.mk.sizeOf_spec] at h
      have := ih rs (by omega)
      have := ih i (by omega)
      rw [countL, countR, sizeS, sizeR]; omega
/-- What Join refuses, of right records no deeper than it may be, is large. -/
theorem join_large {l : List Rec} (hw : wideL l) (hr : rightL l = 0) (hd : deepL l ≤ 63) (h : (joinOf l).2 ≠ 0) : 1048576 < largeS 0 l ∧ ((joinOf l).2 = 2 ∨ (joinOf l).2 = 5) ∧ (joinOf l).1 = [] := by
  have h1 := large_ge _ l (Nat.le_refl _) 0
  have h2 := enc_size_aux _ l (Nat.le_refl _) hw hr
  have h3 := count_size_aux _ l (Nat.le_refl _)
  unfold joinOf at h ⊢
  by_cases c1 : 1048576 < countL l
  · rw [if_pos c1]
    exact ⟨by omega, .inl rfl, rfl⟩
  · rw [if_neg c1, if_neg (by omega), if_neg (by simp [hr])] at h ⊢
    by_cases c2 : (encL l).length ≤ 1048576
    · rw [if_pos c2] at h; simp at h
    · rw [if_neg c2]
      exact ⟨by omega, .inr rfl, rfl⟩
theorem join_good {l : List Rec} (h : (joinOf l).2 = 0) : joinOf l = (encL l, 0) ∧ (encL l).length ≤ 1048576 := by
  unfold joinOf at h ⊢
  split at h
  · simp at h
  · split at h
    · simp at h
    · split at h
      · rename_i h3; exact absurd h h3
      · split at h
        · rename_i h1 h2 h3 h4
          rw [if_neg h1, if_neg h2, if_neg h3, if_pos h4]
          exact ⟨rfl, h4⟩
        · simp at h

theorem large_le_aux (N : Nat) : ∀ (l : List Rec), SizeOf.sizeOf l ≤ N → wideL l → ∀ n D : Nat, deepL l ≤ D → largeS n l ≤ max n ((D + 1) * 281474976710656) := by
  induction N with
  | zero => intro l h; cases l <;> simp at h
  | succ N ih =>
    intro l h hw n D hD
    cases l with
    | nil => rw [large_nil]; exact Nat.le_max_left _ _
    | cons r rs =>
      by_cases hn : n ≤ 1048576
      · obtain ⟨nn, k, x, t, i⟩ := r
        simp only [List.cons.sizeOf_spec, Rec.mk.sizeOf_spec] at h
        rw [deepL, deepR] at hD
        have ht := hw.1.2.1
        have hi : largeS 0 i ≤ D * 281474976710656 := by
          cases i with
          | nil => rw [large_nil]; exact Nat.zero_le _
          | cons r2 rs2 =>
            rw [if_pos (.inr rfl)] at hD
            have := ih (r2 :: rs2) (by omega) hw.1.2.2 0 (D - 1) (by omega)
            rw [Nat.zero_max, show D - 1 + 1 = D by omega] at this
            exact this
        rw [large_more _ _ hn, largeR]
        have hr := ih rs (by omega) hw.2 (n + (20 + t.length + largeS 0 i)) D (by omega)
        rw [Nat.add_mul, Nat.one_mul] at hr ⊢
        omega
      · rw [large_stop _ hn]; exact Nat.le_max_left _ _
theorem large_le {l : List Rec} (hw : wideL l) {D : Nat} (hd : deepL l ≤ D) : largeS 0 l ≤ (D + 1) * 281474976710656 := by
  have := large_le_aux _ l (Nat.le_refl _) hw 0 D hd
  rwa [Nat.zero_max] at this
end Go.Proofs.YtecmhpncgdjgjaaDoor
