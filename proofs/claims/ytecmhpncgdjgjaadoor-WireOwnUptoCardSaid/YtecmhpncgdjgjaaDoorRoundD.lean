/-
  What is read of bytes, joined again: plain Lean. Conditions: none.
-/
import Derived.Test.YtecmhpncgdjgjaaDoorRoundB
import Derived.Test.YtecmhpncgdjgjaaDoorJoinAll
namespace Go.Proofs.YtecmhpncgdjgjaaDoor
open Go.RowKit
set_option linter.unusedVariables false

theorem Enc.val {b : List UInt8} : ∀ {i : Nat}, Enc i b → le7 b < 2 * 128 ^ (9 - i) := by
  induction b with
  | nil => intro i h; exact h.elim
  | cons c cs ih =>
    intro i h
    rcases h with ⟨rfl, h1, h2, h3⟩ | ⟨h1, h2, h3⟩
    · simp only [le7]
      rcases Nat.lt_or_ge i 9 with h4 | h4
      · have e : 128 ^ (9 - i) = 128 ^ (9 - i - 1) * 128 := by rw [← Nat.pow_succ]; congr 1; omega
        have : 0 < 128 ^ (9 - i - 1) := Nat.pow_pos (by omega)
        omega
      · obtain rfl : i = 9 := by omega
        have := h3 rfl
        simp; omega
    · have := ih h3
      simp only [le7]
      have e : 128 ^ (9 - i) = 128 ^ (9 - (i + 1)) * 128 := by rw [← Nat.pow_succ]; congr 1; omega
      omega
theorem Enc.last {b : List UInt8} : ∀ {i : Nat}, Enc i b → last8 b ≠ 0 → 0 < le7 b := by
  induction b with
  | nil => intro i h; exact h.elim
  | cons c cs ih =>
    intro i h hl
    rcases h with ⟨rfl, h1, h2, h3⟩ | ⟨h1, h2, h3⟩
    · simp only [last8] at hl
      simp only [le7]; omega
    · rw [last8_cons h3.ne] at hl
      have := ih h3 hl
      simp only [le7]; omega
theorem Enc.vb_eq {b : List UInt8} : ∀ {i : Nat}, Enc i b → (1 < b.length → last8 b ≠ 0) → vb (le7 b) = b := by
  induction b with
  | nil => intro i h; exact h.elim
  | cons c cs ih =>
    intro i h hl
    rcases h with ⟨rfl, h1, h2, h3⟩ | ⟨h1, h2, h3⟩
    · simp only [le7, Nat.mul_zero, Nat.add_zero]
      rw [Nat.mod_eq_of_lt h1, vb_small h1]
      simp
    · have hl2 : last8 cs ≠ 0 := by
        have := hl (by have := h3.le; simp only [List.length_cons]; omega)
        rwa [last8_cons h3.ne] at this
      have h4 := h3.last hl2
      have h5 := ih h3 (fun _ => hl2)
      simp only [le7]
      have hc := c.toNat_lt
      rw [vb_more (by omega), show (c.toNat % 128 + 128 * le7 cs) / 128 = le7 cs by omega, h5, show (c.toNat % 128 + 128 * le7 cs) % 128 + 128 = c.toNat by omega]
      simp
theorem Enc.vb_le {b : List UInt8} : ∀ {i : Nat}, Enc i b → (vb (le7 b)).length ≤ b.length := by
  induction b with
  | nil => intro i h; exact h.elim
  | cons c cs ih =>
    intro i h
    have h0 := h.le
    by_cases hs : le7 (c :: cs) < 128
    · rw [vb_small hs]; simp
    · rcases h with ⟨rfl, h1, h2, h3⟩ | ⟨h1, h2, h3⟩
      · simp only [le7] at hs; omega
      · rw [vb_more hs]
        have := ih h3
        simp only [le7]
        rw [show (c.toNat % 128 + 128 * le7 cs) / 128 = le7 cs by omega]
        simp only [List.length_cons]
        omega

/-- What a varint's reader takes. -/
theorem rdv_back (st : Bool) (cs : List UInt8) : ∀ (i u : Nat), i ≤ 9 → (rdv st i u cs).2.1 = 0 → ∃ e rest, cs = e ++ rest ∧ Enc i e ∧ (rdv st i u cs) = (u + 128 ^ i * le7 e, 0, i + e.length) ∧ (st = true → 1 < i + e.length → last8 e ≠ 0) := by
  induction cs with
  | nil => intro i u h9 h; rw [rdv_nil] at h; simp at h
  | cons c cs ih =>
    intro i u h9 h
    by_cases h1 : i = 9 ∧ 1 < c.toNat
    · rw [rdv_over _ _ _ _ _ h1] at h; simp at h
    by_cases h2 : 127 < c.toNat
    · rw [rdv_more _ _ _ _ _ h1 h2] at h ⊢
      obtain ⟨e, rest, rfl, he, hr, hl⟩ := ih _ _ (by omega) h
      refine ⟨c :: e, rest, rfl, .inr ⟨by omega, by omega, he⟩, ?_, fun hs h3 => ?_⟩
      · rw [hr]
        have e5 : u + c.toNat % 128 * 128 ^ i + 128 ^ (i + 1) * le7 e = u + 128 ^ i * (c.toNat % 128 + 128 * le7 e) := by
          rw [Nat.pow_succ, Nat.mul_add, Nat.mul_comm (c.toNat % 128), Nat.mul_assoc, Nat.add_assoc]
        rw [e5]
        simp only [le7, List.length_cons]
        congr 2
        omega
      · rw [last8_cons he.ne]
        exact hl hs (by have := he.le; omega)
    by_cases h3 : st = true ∧ 0 < i ∧ c.toNat = 0
    · rw [rdv_longer _ _ _ _ _ h1 h2 h3] at h; simp at h
    refine ⟨[c], cs, rfl, .inl ⟨rfl, by omega, h9, fun e => by omega⟩, ?_, fun hs h4 => ?_⟩
    · rw [rdv_done _ _ _ _ _ h1 h2 h3]
      simp [le7, Nat.mul_comm]
    · simp only [last8]
      simp at h4
      intro h5; exact h3 ⟨hs, by omega, h5⟩

/-- The bytes from a place to another. -/
def part (b : List UInt8) (p q : Nat) : List UInt8 := (b.drop p).take (q - p)
theorem part_part {b : List UInt8} {p q r : Nat} (h : p ≤ q) (h2 : q ≤ r) : part b p r = part b p q ++ part b q r := by
  unfold part
  rw [show r - p = (q - p) + (r - q) by omega, List.take_add, List.drop_drop, show p + (q - p) = q by omega]
theorem part_len {b : List UInt8} {p q : Nat} (h : q ≤ b.length) : (part b p q).length = q - p := by
  unfold part
  rw [List.length_take, List.length_drop]; omega
theorem part_all (b : List UInt8) : part b 0 b.length = b := by simp [part]

theorem vRd_back (st : Bool) (b : List UInt8) (p : Nat) (h : (vRd st b p).2.1 = 0) : (vb (u64 (vRd st b p).1)).length ≤ (vRd st b p).2.2 - p ∧ (st = true → part b p (vRd st b p).2.2 = vb (u64 (vRd st b p).1)) := by
  have h0 : (rdv st 0 0 (b.drop p)).2.1 = 0 := by
    unfold vRd at h
    split at h
    · assumption
    · exact h
  obtain ⟨e, rest, he, hE, hr, hl⟩ := rdv_back st _ 0 0 (by omega) h0
  have hv := hE.val
  have h7 : u64 (s64 (le7 e)) = le7 e := u64_s64 _ (by omega)
  unfold vRd
  rw [if_pos h0, hr]
  simp only [Nat.pow_zero, Nat.one_mul, Nat.zero_add, h7]
  refine ⟨by have := hE.vb_le; omega, fun hs => ?_⟩
  rw [hE.vb_eq (fun h1 => hl hs (by omega))]
  unfold part
  rw [he, Nat.add_sub_cancel_left, List.take_left]

theorem fx_leB (l : List UInt8) : ∀ m : Int, fx l.length ((leB l : Int) + (256 : Int) ^ l.length * m) = l := by
  induction l with
  | nil => intro m; rfl
  | cons c cs ih =>
    intro m
    have hc := c.toNat_lt
    rw [List.length_cons, fx, leB]
    have e1 : (256 : Int) ^ (cs.length + 1) * m = 256 * ((256 : Int) ^ cs.length * m) := by rw [Int.pow_succ, Int.mul_comm ((256 : Int) ^ cs.length) 256, Int.mul_assoc]
    have h1 := ih m
    rw [e1]
    generalize (256 : Int) ^ cs.length * m = y at h1 ⊢
    rw [show (((c.toNat + 256 * leB cs : Nat) : Int) + 256 * y) / 256 = (leB cs : Int) + y by omega, h1, show ((((c.toNat + 256 * leB cs : Nat) : Int) + 256 * y) % 256).toNat = c.toNat by omega]
    simp
theorem fRd8_back (b : List UInt8) (p : Nat) (h : (fRd 8 b p).2.1 = 0) : (fRd 8 b p).2.2 = p + 8 ∧ part b p (p + 8) = fx 8 (fRd 8 b p).1 := by
  unfold fRd at h ⊢
  split at h
  · simp at h
  · rename_i h1
    rw [if_neg h1]
    have hl : ((b.drop p).take 8).length = 8 := by rw [List.length_take, List.length_drop]; omega
    refine ⟨rfl, ?_⟩
    unfold part
    rw [Nat.add_sub_cancel_left]
    simp only
    generalize (b.drop p).take 8 = l at hl ⊢
    have hb := leB_lt l
    rw [hl] at hb
    have h2 := fx_leB l (if 9223372036854775808 ≤ leB l then -1 else 0)
    rw [hl] at h2
    have h3 : s64 (leB l) = (leB l : Int) + (256 : Int) ^ 8 * (if 9223372036854775808 ≤ leB l then -1 else 0) := by
      unfold s64 wrap64; split <;> omega
    rw [h3, h2]
theorem fRd4_back (b : List UInt8) (p : Nat) (h : (fRd 4 b p).2.1 = 0) : (fRd 4 b p).2.2 = p + 4 ∧ part b p (p + 4) = fx 4 (fRd 4 b p).1 ∧ 0 ≤ (fRd 4 b p).1 ∧ (fRd 4 b p).1 < 4294967296 := by
  unfold fRd at h ⊢
  split at h
  · simp at h
  · rename_i h1
    rw [if_neg h1]
    have hl : ((b.drop p).take 4).length = 4 := by rw [List.length_take, List.length_drop]; omega
    unfold part
    rw [Nat.add_sub_cancel_left]
    simp only
    generalize (b.drop p).take 4 = l at hl ⊢
    have hb := leB_lt l
    rw [hl] at hb
    have h2 := fx_leB l 0
    rw [hl] at h2
    have h3 : s64 (leB l) = (leB l : Int) := s64_small (by omega)
    rw [h3]
    refine ⟨by trivial, ?_, by omega, by omega⟩
    simpa using h2.symm

theorem tRd_back (st : Bool) (b : List UInt8) (p : Nat) (hp : p ≤ b.length) (h : (tRd st b p).2.1 = 0) : (vb (u64 (tRd st b p).1.length) ++ (tRd st b p).1).length ≤ (tRd st b p).2.2 - p ∧ (st = true → part b p (tRd st b p).2.2 = vb (u64 (tRd st b p).1.length) ++ (tRd st b p).1) := by
  have hv := vRd_place st b p hp
  have h64 := vRd_is64 st b p
  have hb := fun h => vRd_back st b p h
  unfold tRd at h ⊢
  by_cases h1 : (vRd st b p).2.1 = 0
  · rw [if_pos h1] at h ⊢
    by_cases h2 : (vRd st b p).1 < 0 ∨ (b.length : Int) - (vRd st b p).2.2 < (vRd st b p).1
    · rw [if_pos h2] at h; simp at h
    · rw [if_neg h2]
      have hb := hb h1
      obtain ⟨m, hm⟩ : ∃ m : Nat, (vRd st b p).1 = (m : Int) := ⟨(vRd st b p).1.toNat, by omega⟩
      rw [hm] at hb h2 ⊢
      simp only [Int.toNat_natCast] at hb ⊢
      have hl : ((b.drop (vRd st b p).2.2).take m).length = m := by rw [List.length_take, List.length_drop]; omega
      rw [hl, List.length_append, hl]
      refine ⟨by omega, fun hs => ?_⟩
      rw [part_part hv.2.1 (by omega), hb.2 hs]
      congr 1
      unfold part
      rw [Nat.add_sub_cancel_left]
  · rw [if_neg h1] at h
    exact absurd h h1

theorem gRd_back (st : Bool) (b : List UInt8) (p q : Nat) (n k : Int) (h : gRd st b p = (n, k, 0, q)) : (vb (u64 (n * 8 + k))).length ≤ q - p ∧ (st = true → part b p q = vb (u64 (n * 8 + k))) := by
  have hn := gRd_nums st b p (by rw [h])
  have h0 : (vRd st b p).2.1 = 0 := by
    unfold gRd at h
    split at h
    · assumption
    · rename_i h1
      injection h with _ h
      injection h with _ h
      injection h with h _
  have h1 := vRd_back st b p h0
  unfold gRd at h hn
  rw [if_pos h0] at h hn
  split at h
  · simp at h
  · rename_i h2
    rw [if_neg h2] at hn
    split at h
    · simp at h
    · rename_i h3
      injection h with e1 h
      injection h with e2 h
      injection h with _ e3
      have hu := u64_lt (vRd st b p).1
      have e4 : u64 (n * 8 + k) = u64 (vRd st b p).1 := by
        rw [← e1, ← e2]
        generalize u64 (vRd st b p).1 = y at hu
        unfold u64; omega
      rw [e4, ← e3]
      exact h1

theorem cRd_back (st : Bool) (k : Int) (b : List UInt8) (p : Nat) (n : Int) (hp : p ≤ b.length) (hbl : b.length ≤ 1048576) (hn : 1 ≤ n) (hn2 : n ≤ 536870911) (h0 : 0 ≤ k) (h5 : k ≤ 5) (h3 : k ≠ 3) (h4 : k ≠ 4) (h : (cRd st k b p).2.2.1 = 0) :
    rightR (.mk n k (cRd st k b p).1 (cRd st k b p).2.1 []) = 0 ∧ wideR (.mk n k (cRd st k b p).1 (cRd st k b p).2.1 []) ∧
    ∃ body, encR (.mk n k (cRd st k b p).1 (cRd st k b p).2.1 []) = vb (u64 (n * 8 + k)) ++ body ∧ body.length ≤ (cRd st k b p).2.2.2 - p ∧ (st = true → part b p (cRd st k b p).2.2.2 = body) := by
  have hpl := cRd_place st k b p hp
  have hright : ∀ x t, fitsV (.mk n k x t []) = true → rightR (.mk n k x t []) = 0 := by
    intro x t hf
    rw [rightR, if_neg (by omega), if_neg (by omega), if_neg (by simp [hf]), if_neg h3]
  refine ⟨?_, ⟨hpl.2.2.2, by omega, trivial⟩, ?_⟩
  · refine hright _ _ ?_
    have hk : k = 0 ∨ k = 1 ∨ k = 2 ∨ k = 5 := by omega
    rcases hk with rfl | rfl | rfl | rfl
    · rw [cRd_0]; rfl
    · rw [cRd_1]; rfl
    · rw [cRd_2]; rfl
    · rw [cRd_5] at h ⊢
      have := fRd4_back b p h
      simp [fitsV, Rec.kind, Rec.num, Rec.text, Rec.inner, this.2.2.1, this.2.2.2]
  · have hk : k = 0 ∨ k = 1 ∨ k = 2 ∨ k = 5 := by omega
    rcases hk with rfl | rfl | rfl | rfl
    · rw [encR_0]
      refine ⟨_, rfl, ?_⟩
      unfold cRd at h ⊢
      rw [if_pos rfl] at h ⊢
      exact vRd_back st b p h
    · rw [encR_1]
      refine ⟨_, rfl, ?_⟩
      unfold cRd at h ⊢
      rw [if_neg (by omega), if_pos rfl] at h ⊢
      have := fRd8_back b p h
      simp only
      rw [this.1]
      exact ⟨by rw [fx_len]; omega, fun _ => this.2⟩
    · rw [encR_2]
      refine ⟨_, rfl, ?_⟩
      unfold cRd at h ⊢
      rw [if_neg (by omega), if_neg (by omega), if_pos rfl] at h ⊢
      exact tRd_back st b p hp h
    · rw [encR_5]
      refine ⟨_, rfl, ?_⟩
      unfold cRd at h ⊢
      rw [if_neg (by omega), if_neg (by omega), if_neg (by omega)] at h ⊢
      have := fRd4_back b p h
      simp only
      rw [this.1]
      exact ⟨by rw [fx_len]; omega, fun _ => this.2.1⟩

/-- The bytes that end a group of that number, or nothing. -/
def endB (number : Int) (op : Nat) : List UInt8 := if op = 0 then [] else vb (u64 (number * 8 + 4))

theorem pre_ok {x : Rec} {o : List Rec × Int × Nat} (h : (pre [x] o).2.1 = 0) : o.2.1 = 0 ∧ pre [x] o = (x :: o.1, 0, o.2.2) := by
  unfold pre at h ⊢
  by_cases h0 : o.2.1 = 0
  · rw [if_pos h0]; exact ⟨h0, rfl⟩
  · rw [if_neg h0] at h; exact absurd h h0

theorem recs_back (st : Bool) (b : List UInt8) (most : Nat) (hbl : b.length ≤ 1048576) (N : Nat) : ∀ (number : Int) (op p : Nat), b.length - p < N → p ≤ b.length → op ≤ most → (recsF st b most number op p).2.1 = 0 →
    rightL (recsF st b most number op p).1 = 0 ∧ wideL (recsF st b most number op p).1 ∧ op + deepL (recsF st b most number op p).1 ≤ most ∧ (op = 0 → (recsF st b most number op p).2.2 = b.length) ∧
    (encL (recsF st b most number op p).1 ++ endB number op).length ≤ (recsF st b most number op p).2.2 - p ∧
    (st = true → part b p (recsF st b most number op p).2.2 = encL (recsF st b most number op p).1 ++ endB number op) := by
  induction N with
  | zero => intro number op p h; omega
  | succ N ih =>
    intro number op p hN hp hop h
    by_cases he : b.length ≤ p
    · rw [recsF_end he] at h ⊢
      split at h
      · simp at h
      · rename_i h1
        have h0 : op = 0 := by omega
        rw [if_neg h1]
        refine ⟨rfl, trivial, by simp [deepL]; omega, fun _ => by simp only; omega, by simp [encL, endB, h0], fun _ => ?_⟩
        simp [encL, endB, h0, part]
    by_cases h1 : (gRd st b p).2.2.1 ≠ 0
    · rw [recsF_tag he h1] at h
      exact absurd h h1
    have hg : gRd st b p = ((gRd st b p).1, (gRd st b p).2.1, 0, (gRd st b p).2.2.2) := by
      have : (gRd st b p).2.2.1 = 0 := by omega
      rw [← this]
    have hgp := gRd_place st b p hp
    have hgl := hgp.2.2.1 (by omega)
    have hgn := gRd_nums st b p (by omega)
    have hgb := gRd_back st b p _ _ _ hg
    generalize (gRd st b p).1 = n at *
    generalize (gRd st b p).2.1 = k at *
    generalize (gRd st b p).2.2.2 = q at *
    by_cases h4 : k = 4
    · subst h4
      rw [recsF_4 he hg] at h ⊢
      split at h
      · simp at h
      · rename_i h5
        rw [if_neg h5]
        have h6 : op ≠ 0 := fun e => h5 (.inl e)
        have h7 : n = number := Classical.byContradiction fun e => h5 (.inr e)
        subst h7
        refine ⟨rfl, trivial, by simp [deepL]; omega, fun e => absurd e h6, ?_, fun hs => ?_⟩
        · simp only [encL, endB, if_neg h6, List.nil_append]; exact hgb.1
        · simp only [encL, endB, if_neg h6, List.nil_append]; exact hgb.2 hs
    by_cases h3 : k = 3
    · subst h3
      rw [recsF_3 he hg] at h ⊢
      split at h
      · simp at h
      · rename_i h5
        rw [if_neg h5]
        split at h
        · rename_i h6; exact absurd h h6
        · rename_i h6
          rw [if_neg h6]
          have h6 : (recsF st b most n (op + 1) q).2.1 = 0 := by omega
          have hi := ih n (op + 1) q (by omega) hgp.1 (by omega) h6
          have hif := recsF_facts st b most n (op + 1) q hgp.1
          generalize recsF st b most n (op + 1) q = I at *
          obtain ⟨ho0, ho1⟩ := pre_ok h
          have ho := ih number op I.2.2 (by omega) hif.2.2.1 hop ho0
          have hof := recsF_facts st b most number op I.2.2 hif.2.2.1
          rw [ho1]
          generalize recsF st b most number op I.2.2 = O at *
          have hr : rightR (.mk n 3 0 [] I.1) = 0 := by
            rw [rightR, if_neg (by omega), if_neg (by omega), if_neg (by simp [fitsV, Rec.kind, Rec.num, Rec.text]), if_pos rfl]
            exact hi.1
          have hE : endB n (op + 1) = vb (u64 (n * 8 + 4)) := if_neg (by omega)
          rw [hE] at hi
          refine ⟨?_, ⟨⟨⟨by simp, by simp⟩, by simp, hi.2.1⟩, ho.2.1⟩, ?_, ho.2.2.2.1, ?_, fun hs => ?_⟩
          · simp only; rw [rightL, if_pos hr]; exact ho.1
          · simp only; rw [deepL, deepR, if_pos (.inl rfl)]; omega
          · simp only [encL, encR_3]
            simp only [List.length_append] at hi ho ⊢
            omega
          · simp only [encL, encR_3]
            rw [part_part (p := p) (q := q) (r := O.2.2) (by omega) (by omega), part_part (p := q) (q := I.2.2) (r := O.2.2) (by omega) (by omega), hgb.2 hs, hi.2.2.2.2.2 hs, ho.2.2.2.2.2 hs]
            simp
    rw [recsF_c he hg h3 h4] at h ⊢
    split at h
    · rename_i h6; exact absurd h h6
    · rename_i h6
      rw [if_neg h6]
      have hcb := cRd_back st k b q n hgp.1 hbl hgn.1 hgn.2.1 hgn.2.2.1 hgn.2.2.2 h3 h4 (by omega)
      have hcp := cRd_place st k b q hgp.1
      generalize cRd st k b q = C at *
      obtain ⟨ho0, ho1⟩ := pre_ok h
      have ho := ih number op C.2.2.2 (by omega) hcp.1 hop ho0
      have hof := recsF_facts st b most number op C.2.2.2 hcp.1
      rw [ho1]
      generalize recsF st b most number op C.2.2.2 = O at *
      obtain ⟨hr, hw, body, hbe, hbl2, hbs⟩ := hcb
      refine ⟨?_, ⟨hw, ho.2.1⟩, ?_, ho.2.2.2.1, ?_, fun hs => ?_⟩
      · simp only; rw [rightL, if_pos hr]; exact ho.1
      · simp only; rw [deepL, deepR, if_neg (by simp [h3])]; omega
      · simp only [encL, hbe]
        simp only [List.length_append] at ho ⊢
        omega
      · simp only [encL, hbe]
        rw [part_part (p := p) (q := q) (r := O.2.2) (by omega) (by omega), part_part (p := q) (q := C.2.2.2) (r := O.2.2) (by omega) (by omega), hgb.2 hs, hbs hs, ho.2.2.2.2.2 hs]
        simp

theorem count_aux (N : Nat) : ∀ l : List Rec, SizeOf.sizeOf l ≤ N → rightL l = 0 → countL l ≤ (encL l).length := by
  induction N with
  | zero => intro l h; cases l <;> simp at h
  | succ N ih =>
    intro l h hr
    cases l with
    | nil => simp [countL]
    | cons r rs =>
      obtain ⟨n, k, x, t, i⟩ := r
      simp only [List.cons.sizeOf_spec, Rec.mk.sizeOf_spec] at h
      rw [rightL] at hr
      split at hr
      · rename_i hr1
        obtain ⟨h1, h2, h3, h4, h5⟩ := rightR_parts hr1
        obtain ⟨f1, f2, f3, f4⟩ := fits_parts h4
        have hrs := ih rs (by omega) hr
        have htp : 0 < (vb (u64 (n * 8 + k))).length := vb_pos _ (u64_lt _)
        rw [countL, countR, encL, List.length_append]
        by_cases hk : k = 3
        · subst hk
          have hii := ih i (by omega) (h5 rfl)
          rw [encR_3]
          simp only [List.length_append]
          omega
        · have : i = [] := by
            rcases h3 with rfl | rfl | rfl | rfl | rfl
            · exact (f1 (.inl rfl)).2
            · exact (f1 (.inr rfl)).2
            · exact (f2 rfl).2
            · exact absurd rfl hk
            · exact (f4 rfl).2.1
          subst this
          rw [encR]
          simp only [List.length_append, countL]
          omega
      · contradiction
theorem count_le (l : List Rec) (h : rightL l = 0) : countL l ≤ (encL l).length := count_aux _ l (Nat.le_refl _) h

/-- What Split takes is right; joined it is no more bytes; and the same bytes, if it was strict. -/
theorem splitOf_back (st : Bool) (b : List UInt8) (h : (splitOf st b).2.1 = 0) : (splitOf st b).2.2 = 0 ∧ rightL (splitOf st b).1 = 0 ∧ wideL (splitOf st b).1 ∧ deepL (splitOf st b).1 ≤ 63 ∧ (encL (splitOf st b).1).length ≤ b.length ∧ b.length ≤ 1048576 ∧ (st = true → encL (splitOf st b).1 = b) := by
  have hF : recsR st b 63 (b.length + 1) 0 0 0 = recsF st b 63 0 0 0 := rfl
  unfold splitOf at h ⊢
  by_cases h1 : 1048576 < b.length
  · rw [if_pos h1] at h; simp at h
  · rw [if_neg h1, hF] at h ⊢
    simp only at h ⊢
    have h2 := recs_back st b 63 (by omega) _ 0 0 0 (Nat.lt_succ_self _) (by omega) (by omega) h
    rw [h2.2.2.2.1 rfl] at h2
    have hE : endB 0 0 = [] := rfl
    rw [hE, List.append_nil] at h2
    refine ⟨if_pos h, h2.1, h2.2.1, by omega, by omega, by omega, fun hs => ?_⟩
    have h3 := h2.2.2.2.2.2 hs
    rw [part_all] at h3
    exact h3.symm
theorem splitOf_join (st : Bool) (b : List UInt8) (h : (splitOf st b).2.1 = 0) : joinOf (splitOf st b).1 = (encL (splitOf st b).1, 0) := by
  obtain ⟨h1, h2, h3, h4, h5, h6, h7⟩ := splitOf_back st b h
  have h8 := count_le _ h2
  unfold joinOf
  rw [if_neg (by omega), if_neg (by omega), if_neg (by simp [h2]), if_pos (by omega)]
theorem splitOf_again (st st2 : Bool) (b : List UInt8) (h : (splitOf st b).2.1 = 0) : splitOf st2 (encL (splitOf st b).1) = ((splitOf st b).1, 0, 0) := by
  obtain ⟨h1, h2, h3, h4, h5, h6, h7⟩ := splitOf_back st b h
  exact splitOf_enc st2 _ h2 h3 h4 (by omega)
theorem splitOf_loose (b : List UInt8) (h : (splitOf true b).2.1 = 0) : splitOf false b = ((splitOf true b).1, 0, 0) := by
  have h1 := splitOf_again true false b h
  rw [(splitOf_back true b h).2.2.2.2.2.2 rfl] at h1
  exact h1
end Go.Proofs.YtecmhpncgdjgjaaDoor
