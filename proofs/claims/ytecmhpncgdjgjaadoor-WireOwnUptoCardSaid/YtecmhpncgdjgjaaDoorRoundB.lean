/-
  Records, written and read again: plain Lean. Conditions: none.
-/
import Derived.Test.YtecmhpncgdjgjaaDoorRoundA
import Derived.Test.YtecmhpncgdjgjaaDoorSplit
namespace Go.Proofs.YtecmhpncgdjgjaaDoor
open Go.RowKit
set_option linter.unusedVariables false

/-! ### Numbers of fixed size, texts -/

theorem le_fx (n : Nat) : ∀ v : Int, ∃ q : Int, v = (leB (fx n v) : Int) + (256 : Int) ^ n * q := by
  induction n with
  | zero => intro v; exact ⟨v, by simp [fx, leB]⟩
  | succ n ih =>
    intro v
    obtain ⟨q, hq⟩ := ih (v / 256)
    refine ⟨q, ?_⟩
    rw [fx, leB, UInt8.toNat_ofNat']
    have e1 : (256 : Int) ^ (n + 1) * q = 256 * ((256 : Int) ^ n * q) := by rw [Int.pow_succ, Int.mul_comm ((256 : Int) ^ n) 256, Int.mul_assoc]
    rw [e1]
    generalize (256 : Int) ^ n * q = y at hq
    generalize leB (fx n (v / 256)) = z at hq
    omega
theorem s64_fx8 (v : Int) (h : Is64 v) : s64 (leB (fx 8 v)) = v := by
  obtain ⟨q, hq⟩ := le_fx 8 v
  have h1 := leB_lt (fx 8 v)
  rw [fx_len] at h1
  obtain ⟨h2, h3⟩ := h
  unfold s64 wrap64
  omega
theorem s64_fx4 (v : Int) (h0 : 0 ≤ v) (h4 : v < 4294967296) : s64 (leB (fx 4 v)) = v := by
  obtain ⟨q, hq⟩ := le_fx 4 v
  have h1 := leB_lt (fx 4 v)
  rw [fx_len] at h1
  unfold s64 wrap64
  omega
theorem fRd_fx (n : Nat) (p rest : List UInt8) (v : Int) : fRd n (p ++ (fx n v ++ rest)) p.length = (s64 (leB (fx n v)), 0, p.length + n) := by
  unfold fRd
  rw [if_neg (by simp [fx_len]), drop_at, List.take_left' (fx_len n v)]
theorem tRd_enc (st : Bool) (p b t rest : List UInt8) (h : Enc 0 b) (h2 : st = true → 1 < b.length → last8 b ≠ 0) (h3 : le7 b = t.length) (ht : t.length < 9223372036854775808) : tRd st (p ++ (b ++ (t ++ rest))) p.length = (t, 0, p.length + b.length + t.length) := by
  unfold tRd
  rw [vRd_enc st p b _ h h2, h3, s64_small ht]
  simp only [if_true]
  rw [if_neg (by simp; omega)]
  have e : (p ++ (b ++ (t ++ rest))).drop (p.length + b.length) = t ++ rest := by rw [← List.append_assoc, ← List.length_append, List.drop_left]
  rw [e, Int.toNat_natCast, List.take_left]
theorem tRd_vb (st : Bool) (p t rest : List UInt8) (ht : t.length < 9223372036854775808) : tRd st (p ++ (vb (u64 t.length) ++ (t ++ rest))) p.length = (t, 0, p.length + (vb (u64 t.length)).length + t.length) := by
  have h0 := u64_lt t.length
  have h1 := vb_le7 10 (u64 t.length) (by omega)
  refine tRd_enc st p _ t rest (vb_enc64 _ h0) (fun _ => vb_last 10 _ (by omega)) ?_ ht
  rw [h1]
  unfold u64; omega

/-! ### Records, with fuel that suffices -/

theorem recsR_fuel (st : Bool) (b : List UInt8) (most : Nat) : ∀ (f g : Nat) (number : Int) (op p : Nat), p ≤ b.length → b.length - p < f → b.length - p < g → recsR st b most f number op p = recsR st b most g number op p := by
  intro f
  induction f with
  | zero => intro g number op p h1 h2; omega
  | succ f ih =>
    intro g number op p h1 h2 h3
    obtain ⟨g, rfl⟩ : ∃ m, g = m + 1 := ⟨g - 1, by omega⟩
    by_cases h : b.length ≤ p
    · rw [recsR_end _ _ _ _ _ _ _ h, recsR_end _ _ _ _ _ _ _ h]
    by_cases h4 : (gRd st b p).2.2.1 ≠ 0
    · rw [recsR_tag _ _ _ _ _ _ _ h h4, recsR_tag _ _ _ _ _ _ _ h h4]
    have h4 : (gRd st b p).2.2.1 = 0 := by omega
    have hg := gRd_place st b p h1
    have hgl := hg.2.2.1 h4
    by_cases h5 : (gRd st b p).2.1 = 4
    · rw [recsR_4 _ _ _ _ _ _ _ h h4 h5, recsR_4 _ _ _ _ _ _ _ h h4 h5]
    by_cases h6 : (gRd st b p).2.1 = 3
    · by_cases h7 : op = most
      · rw [recsR_deep _ _ _ _ _ _ _ h h4 h6 h7, recsR_deep _ _ _ _ _ _ _ h h4 h6 h7]
      · have hi := ih g (gRd st b p).1 (op + 1) (gRd st b p).2.2.2 hg.1 (by omega) (by omega)
        have hf := recsR_facts st b most g (gRd st b p).1 (op + 1) (gRd st b p).2.2.2 hg.1
        have ho := ih g number op _ hf.2.2.1 (by omega) (by omega)
        conv => lhs; rw [recsR]
        conv => rhs; rw [recsR]
        simp only [h, h4, h6, h7, hi, ho, if_false, if_true, ne_eq, not_true_eq_false]
    · have hc := cRd_place st (gRd st b p).2.1 b (gRd st b p).2.2.2 hg.1
      have ho := ih g number op _ hc.1 (by omega) (by omega)
      conv => lhs; rw [recsR]
      conv => rhs; rw [recsR]
      simp only [h, h4, h5, h6, ho, if_false, ne_eq, not_true_eq_false]

/-- The records up to the end of the group, or of the bytes. -/
def recsF (st : Bool) (b : List UInt8) (most : Nat) (number : Int) (op p : Nat) : List Rec × Int × Nat := recsR st b most (b.length + 1) number op p
theorem recsF_of {st : Bool} {b : List UInt8} {most f : Nat} {number : Int} {op p : Nat} (hp : p ≤ b.length) (hf : b.length - p < f) : recsR st b most f number op p = recsF st b most number op p := recsR_fuel st b most f _ number op p hp hf (by omega)
theorem recsF_facts (st : Bool) (b : List UInt8) (most : Nat) (number : Int) (op p : Nat) (hp : p ≤ b.length) : ((recsF st b most number op p).2.1 ≠ 0 → (recsF st b most number op p).1 = []) ∧ p ≤ (recsF st b most number op p).2.2 ∧ (recsF st b most number op p).2.2 ≤ b.length ∧ (recsF st b most number op p).1.length ≤ (recsF st b most number op p).2.2 - p := recsR_facts _ _ _ _ _ _ _ hp
theorem recsF_end {st : Bool} {b : List UInt8} {most : Nat} {number : Int} {op p : Nat} (h : b.length ≤ p) : recsF st b most number op p = if 0 < op then ([], 20, p) else ([], 0, p) := recsR_end _ _ _ _ _ _ _ h
theorem recsF_tag {st : Bool} {b : List UInt8} {most : Nat} {number : Int} {op p : Nat} (h : ¬ b.length ≤ p) (h1 : (gRd st b p).2.2.1 ≠ 0) : recsF st b most number op p = ([], (gRd st b p).2.2.1, p) := recsR_tag _ _ _ _ _ _ _ h h1
theorem recsF_4 {st : Bool} {b : List UInt8} {most : Nat} {number n : Int} {op p q : Nat} (h : ¬ b.length ≤ p) (h1 : gRd st b p = (n, 4, 0, q)) : recsF st b most number op p = if op = 0 ∨ n ≠ number then ([], 25, p) else ([], 0, q) := by
  unfold recsF
  rw [recsR_4 _ _ _ _ _ _ _ h (by rw [h1]) (by rw [h1]), h1]
theorem recsF_3 {st : Bool} {b : List UInt8} {most : Nat} {number n : Int} {op p q : Nat} (h : ¬ b.length ≤ p) (h1 : gRd st b p = (n, 3, 0, q)) :
    recsF st b most number op p = if op = most then ([], 4, p) else if (recsF st b most n (op + 1) q).2.1 ≠ 0 then ([], (recsF st b most n (op + 1) q).2) else pre [.mk n 3 0 [] (recsF st b most n (op + 1) q).1] (recsF st b most number op (recsF st b most n (op + 1) q).2.2) := by
  have hg := gRd_place st b p (by omega)
  have hgl := hg.2.2.1 (by rw [h1])
  rw [h1] at hg hgl
  simp only at hg hgl
  by_cases h3 : op = most
  · rw [if_pos h3]; exact recsR_deep _ _ _ _ _ _ _ h (by rw [h1]) (by rw [h1]) h3
  · have h4 := recsR_3 st b most b.length number op p h (by rw [h1]) (by rw [h1]) h3 []
    have e1 := recsF_of (st := st) (b := b) (most := most) (f := b.length) (number := n) (op := op + 1) (p := q) hg.1 (by omega)
    have hf := recsF_facts st b most n (op + 1) q hg.1
    have e2 := recsF_of (st := st) (b := b) (most := most) (f := b.length) (number := number) (op := op) (p := (recsF st b most n (op + 1) q).2.2) hf.2.2.1 (by omega)
    rw [pre_nil (recsR_facts _ _ _ _ _ _ _ (by omega)).1, h1] at h4
    simp only [e1, e2, List.nil_append] at h4
    rw [if_neg h3]
    exact h4
theorem recsF_c {st : Bool} {b : List UInt8} {most : Nat} {number n k : Int} {op p q : Nat} (h : ¬ b.length ≤ p) (h1 : gRd st b p = (n, k, 0, q)) (h3 : k ≠ 3) (h4 : k ≠ 4) :
    recsF st b most number op p = if (cRd st k b q).2.2.1 ≠ 0 then ([], (cRd st k b q).2.2) else pre [.mk n k (cRd st k b q).1 (cRd st k b q).2.1 []] (recsF st b most number op (cRd st k b q).2.2.2) := by
  have hg := gRd_place st b p (by omega)
  have hgl := hg.2.2.1 (by rw [h1])
  rw [h1] at hg hgl
  simp only at hg hgl
  have h5 := recsR_c st b most b.length number op p h (by rw [h1]) (by rw [h1]; exact h3) (by rw [h1]; exact h4) []
  have hc := cRd_place st k b q hg.1
  have e2 := recsF_of (st := st) (b := b) (most := most) (f := b.length) (number := number) (op := op) (p := (cRd st k b q).2.2.2) hc.1 (by omega)
  rw [pre_nil (recsR_facts _ _ _ _ _ _ _ (by omega)).1, h1] at h5
  simp only [e2, List.nil_append] at h5
  exact h5

theorem pre_cat (l m : List Rec) (o : List Rec × Int × Nat) : pre l (pre m o) = pre (l ++ m) o := by
  unfold pre
  by_cases h : o.2.1 = 0
  · simp [h]
  · simp [h]
theorem pre_nilF (st : Bool) (b : List UInt8) (most : Nat) (number : Int) (op p : Nat) (hp : p ≤ b.length) : pre [] (recsF st b most number op p) = recsF st b most number op p := pre_nil (recsF_facts st b most number op p hp).1

/-! ### Written and read -/
mutual
/-- Every number an int, every text no larger than a process's addresses. -/
def wideR : Rec → Prop
  | .mk _ _ x t i => Is64 x ∧ t.length ≤ 140737488355328 ∧ wideL i
def wideL : List Rec → Prop
  | [] => True
  | r :: rs => wideR r ∧ wideL rs
end

/-- What a right record holds beside what its kind says. -/
theorem fits_parts {n k x : Int} {t : List UInt8} {i : List Rec} (h : fitsV (.mk n k x t i) = true) :
    ((k = 0 ∨ k = 1) → t = [] ∧ i = []) ∧ (k = 2 → x = 0 ∧ i = []) ∧ (k = 3 → x = 0 ∧ t = []) ∧ (k = 5 → t = [] ∧ i = [] ∧ 0 ≤ x ∧ x < 4294967296) := by
  replace h : (if k = 0 ∨ k = 1 then t.isEmpty && (i.length : Int) == 0 else if k = 2 then x == 0 && (i.length : Int) == 0 else if k = 3 then x == 0 && t.isEmpty else (t.isEmpty && (i.length : Int) == 0) && (decide (0 ≤ x) && decide (x < 4294967296))) = true := h
  refine ⟨fun hk => ?_, fun hk => ?_, fun hk => ?_, fun hk => ?_⟩
  · rw [if_pos hk] at h; simpa using h
  · rw [if_neg (by omega), if_pos hk] at h; simpa using h
  · rw [if_neg (by omega), if_neg (by omega), if_pos hk] at h; simpa using h
  · rw [if_neg (by omega), if_neg (by omega), if_neg (by omega)] at h
    simp at h
    exact ⟨h.1.1, h.1.2, h.2.1, h.2.2⟩

/-- These records are read where they were written. -/
def Fwd (st : Bool) (most : Nat) (l : List Rec) : Prop := ∀ (P R : List UInt8) (number : Int) (op : Nat), op + deepL l ≤ most → recsF st (P ++ (encL l ++ R)) most number op P.length = pre l (recsF st (P ++ (encL l ++ R)) most number op (P.length + (encL l).length))

theorem vb_pos (u : Nat) (h : u < 18446744073709551616) : 0 < (vb u).length := (vb_len 10 u (by omega)).1
theorem cat3 (a b c d : List UInt8) : a ++ ((b ++ c) ++ d) = (a ++ b) ++ (c ++ d) := by simp
theorem cat3' (a b c : List UInt8) : a ++ (b ++ c) = (a ++ b) ++ c := by simp

theorem fwd_one (st : Bool) (most : Nat) (r : Rec) (hr : rightR r = 0) (hw : wideR r) (hi : r.kind = 3 → Fwd st most r.inner) (P R : List UInt8) (number : Int) (op : Nat) (hd : op + deepR r ≤ most) :
    recsF st (P ++ (encR r ++ R)) most number op P.length = pre [r] (recsF st (P ++ (encR r ++ R)) most number op (P.length + (encR r).length)) := by
  obtain ⟨n, k, x, t, i⟩ := r
  obtain ⟨h1, h2, h3, h4, h5⟩ := rightR_parts hr
  obtain ⟨f1, f2, f3, f4⟩ := fits_parts h4
  obtain ⟨w1, w2, w3⟩ := hw
  have htp : 0 < (vb (u64 (n * 8 + k))).length := vb_pos _ (u64_lt _)
  obtain ⟨T, hT⟩ : ∃ T, vb (u64 (n * 8 + k)) = T := ⟨_, rfl⟩
  have hg := fun R => gRd_vb st P R n k h1 h2 (by omega) (by omega)
  rw [hT] at htp hg
  rcases h3 with rfl | rfl | rfl | rfl | rfl
  · obtain ⟨rfl, rfl⟩ := f1 (.inl rfl)
    rw [encR_0, hT, List.append_assoc]
    rw [recsF_c (by simp; omega) (hg _) (by omega) (by omega), ← List.length_append, cat3']
    have hv := vRd_vb st (P ++ T) R (u64 x) (u64_lt x)
    have hc : cRd st 0 (P ++ T ++ (vb (u64 x) ++ R)) (P ++ T).length = (x, [], 0, (P ++ T).length + (vb (u64 x)).length) := by
      unfold cRd
      rw [if_pos rfl, hv, u64_of w1]
    rw [hc]
    simp [Nat.add_assoc]
  · obtain ⟨rfl, rfl⟩ := f1 (.inr rfl)
    rw [encR_1, hT, List.append_assoc]
    rw [recsF_c (by simp; omega) (hg _) (by omega) (by omega), ← List.length_append, cat3']
    have hc : cRd st 1 (P ++ T ++ (fx 8 x ++ R)) (P ++ T).length = (x, [], 0, (P ++ T).length + 8) := by
      unfold cRd
      rw [if_neg (by omega), if_pos rfl, fRd_fx, s64_fx8 x w1]
    rw [hc]
    simp [Nat.add_assoc, fx_len]
  · obtain ⟨rfl, rfl⟩ := f2 rfl
    rw [encR_2, hT, List.append_assoc]
    rw [recsF_c (by simp; omega) (hg _) (by omega) (by omega), ← List.length_append, cat3']
    have hc : cRd st 2 (P ++ T ++ (vb (u64 t.length) ++ t ++ R)) (P ++ T).length = (0, t, 0, (P ++ T).length + (vb (u64 t.length)).length + t.length) := by
      unfold cRd
      rw [if_neg (by omega), if_neg (by omega), if_pos rfl, List.append_assoc (vb (u64 t.length)), tRd_vb st (P ++ T) t R (by omega)]
    rw [hc]
    simp [Nat.add_assoc]
  · obtain ⟨rfl, rfl⟩ := f3 rfl
    have hd' : op + 1 + deepL i ≤ most := by rw [deepR, if_pos (.inl rfl)] at hd; omega
    have hg4 := fun P R => gRd_vb st P R n 4 h1 h2 (by omega) (by omega)
    have ht4 : 0 < (vb (u64 (n * 8 + 4))).length := vb_pos _ (u64_lt _)
    obtain ⟨T4, hT4⟩ : ∃ T4, vb (u64 (n * 8 + 4)) = T4 := ⟨_, rfl⟩
    rw [hT4] at hg4 ht4
    have hF := hi rfl (P ++ T) (T4 ++ R) n (op + 1) hd'
    simp only [Rec.inner] at hF
    rw [encR_3, hT, hT4, List.append_assoc]
    rw [recsF_3 (by simp; omega) (hg _), if_neg (by omega), ← List.length_append, cat3', List.append_assoc (encL i), hF]
    have hE : recsF st (P ++ T ++ (encL i ++ (T4 ++ R))) most n (op + 1) ((P ++ T).length + (encL i).length) = ([], 0, (P ++ T).length + (encL i).length + T4.length) := by
      have h6 := hg4 (P ++ T ++ encL i) R
      rw [List.append_assoc (P ++ T), show (P ++ T ++ encL i).length = (P ++ T).length + (encL i).length from List.length_append] at h6
      rw [recsF_4 (by simp; omega) h6, if_neg (by omega)]
    rw [hE]
    simp only [pre, if_true, ne_eq, not_true_eq_false, if_false, List.append_nil]
    simp [Nat.add_assoc]
  · obtain ⟨rfl, rfl, hx0, hx1⟩ := f4 rfl
    rw [encR_5, hT, List.append_assoc]
    rw [recsF_c (by simp; omega) (hg _) (by omega) (by omega), ← List.length_append, cat3']
    have hc : cRd st 5 (P ++ T ++ (fx 4 x ++ R)) (P ++ T).length = (x, [], 0, (P ++ T).length + 4) := by
      unfold cRd
      rw [if_neg (by omega), if_neg (by omega), if_neg (by omega), fRd_fx, s64_fx4 x hx0 hx1]
    rw [hc]
    simp [Nat.add_assoc, fx_len]

theorem fwd_aux (st : Bool) (most N : Nat) : ∀ l : List Rec, SizeOf.sizeOf l ≤ N → rightL l = 0 → wideL l → Fwd st most l := by
  induction N with
  | zero => intro l h; cases l <;> simp at h
  | succ N ih =>
    intro l h hr hw P R number op hd
    cases l with
    | nil =>
      rw [encL, List.length_nil, Nat.add_zero, pre_nilF _ _ _ _ _ _ (by simp)]
    | cons r rs =>
      obtain ⟨n, k, x, t, i⟩ := r
      simp only [List.cons.sizeOf_spec, Rec.mk.sizeOf_spec] at h
      rw [rightL] at hr
      split at hr
      · rename_i hr1
        rw [deepL] at hd
        have h1 := fwd_one st most (.mk n k x t i) hr1 hw.1 (fun h3 => ih i (by omega) ((rightR_parts hr1).2.2.2.2 h3) hw.1.2.2) P (encL rs ++ R) number op (by omega)
        have h2 := ih rs (by omega) hr hw.2 (P ++ encR (.mk n k x t i)) R number op (by omega)
        rw [encL, List.append_assoc, h1, cat3', ← List.length_append, h2, pre_cat]
        simp [Nat.add_assoc]
      · contradiction
theorem fwd_all (st : Bool) (most : Nat) (l : List Rec) (hr : rightL l = 0) (hw : wideL l) : Fwd st most l := fwd_aux st most _ l (Nat.le_refl _) hr hw

/-- Right records, joined and split, are themselves. -/
theorem splitOf_enc (st : Bool) (l : List Rec) (hr : rightL l = 0) (hw : wideL l) (hd : deepL l ≤ 63) (hs : (encL l).length ≤ 1048576) : splitOf st (encL l) = (l, 0, 0) := by
  have h := fwd_all st 63 l hr hw [] [] 0 0 (by omega)
  simp only [List.nil_append, List.append_nil, List.length_nil, Nat.zero_add] at h
  rw [recsF_end (Nat.le_refl _), if_neg (by omega)] at h
  have h2 : recsR st (encL l) 63 ((encL l).length + 1) 0 0 0 = (l, 0, (encL l).length) := by
    refine Eq.trans ?_ (h.trans ?_)
    · rfl
    · simp [pre]
  unfold splitOf
  rw [if_neg (by omega), h2]
  simp
end Go.Proofs.YtecmhpncgdjgjaaDoor
