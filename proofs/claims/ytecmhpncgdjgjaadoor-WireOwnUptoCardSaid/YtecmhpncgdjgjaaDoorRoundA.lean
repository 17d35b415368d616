/-
  Varints, numbers, texts and tags, written and read: plain Lean. Conditions: none.
-/
import Derived.Test.YtecmhpncgdjgjaaDoorCurPlain
import Derived.Test.YtecmhpncgdjgjaaDoorTwin
namespace Go.Proofs.YtecmhpncgdjgjaaDoor
open Go.RowKit
set_option linter.unusedVariables false

/-- Bytes of one varint, from its byte i on. -/
def Enc : Nat → List UInt8 → Prop
  | _, [] => False
  | i, c :: cs => (cs = [] ∧ c.toNat < 128 ∧ i ≤ 9 ∧ (i = 9 → c.toNat ≤ 1)) ∨ (128 ≤ c.toNat ∧ i < 9 ∧ Enc (i + 1) cs)
/-- The last byte. -/
def last8 : List UInt8 → Nat
  | [] => 0
  | [c] => c.toNat
  | _ :: c :: cs => last8 (c :: cs)

theorem Enc.le {b : List UInt8} : ∀ {i : Nat}, Enc i b → 1 ≤ b.length ∧ i + b.length ≤ 10 := by
  induction b with
  | nil => intro i h; exact h.elim
  | cons c cs ih =>
    intro i h
    rcases h with ⟨rfl, _, h, _⟩ | ⟨_, h, h2⟩
    · simp; omega
    · have := ih h2
      simp only [List.length_cons]; omega
theorem last8_cons {c : UInt8} {cs : List UInt8} (h : cs ≠ []) : last8 (c :: cs) = last8 cs := by
  cases cs with
  | nil => exact absurd rfl h
  | cons d ds => rw [last8]
theorem Enc.ne {i : Nat} {b : List UInt8} (h : Enc i b) : b ≠ [] := by rintro rfl; exact h
theorem last8_get {b : List UInt8} (h : b ≠ []) : (b.getD (b.length - 1) 0).toNat = last8 b := by
  induction b with
  | nil => exact absurd rfl h
  | cons c cs ih =>
    cases cs with
    | nil => rfl
    | cons d ds =>
      rw [last8_cons (by simp), ← ih (by simp)]
      simp [List.getD]

theorem rdv_enc (st : Bool) (rest : List UInt8) (b : List UInt8) : ∀ (i u : Nat), Enc i b → rdv st i u (b ++ rest) = if st = true ∧ 1 < i + b.length ∧ last8 b = 0 then (0, 22, 0) else (u + 128 ^ i * le7 b, 0, i + b.length) := by
  induction b with
  | nil => intro i u h; exact h.elim
  | cons c cs ih =>
    intro i u h
    rcases h with ⟨rfl, h1, h2, h3⟩ | ⟨h1, h2, h3⟩
    · rw [List.cons_append]
      have e0 : ¬ (i = 9 ∧ 1 < c.toNat) := by rintro ⟨e, e2⟩; have := h3 e; omega
      by_cases h4 : st = true ∧ 0 < i ∧ c.toNat = 0
      · rw [rdv_longer _ _ _ _ _ e0 (by omega) h4, if_pos ⟨h4.1, by simp; omega, h4.2.2⟩]
      · rw [rdv_done _ _ _ _ _ e0 (by omega) h4, if_neg (by rintro ⟨e1, e2, e3⟩; exact h4 ⟨e1, by simpa using e2, e3⟩)]
        simp [le7, Nat.mul_comm]
    · rw [List.cons_append, rdv_more _ _ _ _ _ (by omega) (by omega), ih _ _ h3, last8_cons h3.ne]
      have := h3.le
      simp only [List.length_cons, le7]
      have e5 : u + c.toNat % 128 * 128 ^ i + 128 ^ (i + 1) * le7 cs = u + 128 ^ i * (c.toNat % 128 + 128 * le7 cs) := by
        rw [Nat.pow_succ, Nat.mul_add, Nat.mul_comm (c.toNat % 128), Nat.mul_assoc, Nat.add_assoc]
      rw [e5, show i + 1 + cs.length = i + (cs.length + 1) by omega]

theorem vb_enc (n : Nat) : ∀ (i u : Nat), 0 < n → i + n ≤ 10 → u < 128 ^ n → (i + n = 10 → u < 2 * 128 ^ (n - 1)) → Enc i (vb u) := by
  induction n with
  | zero => intro i u h; omega
  | succ n ih =>
    intro i u _ hi hu h10
    by_cases hs : u < 128
    · rw [vb_small hs]
      refine .inl ⟨rfl, ?_, by omega, fun h9 => ?_⟩
      · rw [UInt8.toNat_ofNat']; omega
      · obtain rfl : n = 0 := by omega
        have := h10 (by omega)
        rw [UInt8.toNat_ofNat']; simp at this; omega
    · rw [vb_more hs]
      have hn : 0 < n := by
        rcases Nat.eq_zero_or_pos n with rfl | h4
        · simp at hu; omega
        · exact h4
      refine .inr ⟨by rw [UInt8.toNat_ofNat']; omega, by omega, ih (i + 1) (u / 128) hn (by omega) (by rw [Nat.pow_succ] at hu; omega) (fun h => ?_)⟩
      have h1 := h10 (by omega)
      obtain ⟨m, rfl⟩ : ∃ m, n = m + 1 := ⟨n - 1, by omega⟩
      simp only [Nat.add_sub_cancel] at h1 ⊢
      rw [Nat.pow_succ] at h1
      omega
theorem vb_enc64 (u : Nat) (h : u < 18446744073709551616) : Enc 0 (vb u) := vb_enc 10 0 u (by omega) (by omega) (by omega) (fun _ => by omega)
theorem vb_le7 (n : Nat) : ∀ u : Nat, u < 128 ^ n → le7 (vb u) = u := by
  induction n with
  | zero => intro u h; obtain rfl : u = 0 := by simpa using h
            rw [vb_small (by omega)]; rfl
  | succ n ih =>
    intro u h
    by_cases hs : u < 128
    · rw [vb_small hs]; simp [le7]; omega
    · rw [vb_more hs, le7, ih (u / 128) (by rw [Nat.pow_succ] at h; omega)]
      rw [UInt8.toNat_ofNat']
      omega
theorem vb_last (n : Nat) : ∀ u : Nat, u < 128 ^ n → 1 < (vb u).length → last8 (vb u) ≠ 0 := by
  induction n with
  | zero => intro u h h2; obtain rfl : u = 0 := by simpa using h
            rw [vb_small (by omega)] at h2; simp at h2
  | succ n ih =>
    intro u h h2
    by_cases hs : u < 128
    · rw [vb_small hs] at h2; simp at h2
    · have h3 : u / 128 < 128 ^ n := by rw [Nat.pow_succ] at h; omega
      have h4 := (vb_len n _ h3).1
      rw [vb_more hs, last8_cons (by intro e; rw [e] at h4; simp at h4)]
      by_cases h5 : 1 < (vb (u / 128)).length
      · exact ih _ h3 h5
      · by_cases h6 : u / 128 < 128
        · rw [vb_small h6]; simp [last8]; omega
        · rw [vb_more h6] at h5
          have := (vb_len n (u / 128 / 128) (by omega)).1
          simp at h5
          rw [h5] at this; simp at this

/-- One byte more keeps the number. -/
theorem enc_longer (b : List UInt8) : ∀ i : Nat, Enc i b → i + b.length ≤ 9 → Enc i (b.set (b.length - 1) (hi8 (b.getD (b.length - 1) 0)) ++ [0]) ∧ le7 (b.set (b.length - 1) (hi8 (b.getD (b.length - 1) 0)) ++ [0]) = le7 b ∧ last8 (b.set (b.length - 1) (hi8 (b.getD (b.length - 1) 0)) ++ [0]) = 0 := by
  induction b with
  | nil => intro i h; exact h.elim
  | cons c cs ih =>
    intro i h hl
    cases cs with
    | nil =>
      have hc : (hi8 c).toNat = c.toNat % 128 + 128 := by
        unfold hi8; rw [UInt8.toNat_ofNat']; omega
      rcases h with ⟨_, h1, h2, h3⟩ | ⟨h1, h2, h3⟩
      · simp only [List.length_cons, List.length_nil] at hl
        simp only [List.length_singleton, Nat.sub_self, List.set_cons_zero, List.getD_cons_zero, List.singleton_append]
        refine ⟨.inr ⟨by omega, by omega, .inl ⟨rfl, by simp, by omega, fun _ => by simp⟩⟩, ?_, rfl⟩
        simp [le7, hc]
      · exact h3.elim
    | cons d ds =>
      rcases h with ⟨h0, _⟩ | ⟨h1, h2, h3⟩
      · cases h0
      · have := ih (i + 1) h3 (by simp only [List.length_cons] at hl ⊢; omega)
        have e1 : (c :: d :: ds).length - 1 = ((d :: ds).length - 1) + 1 := by simp
        rw [e1, List.set_cons_succ, List.getD_cons_succ, List.cons_append]
        refine ⟨.inr ⟨h1, h2, this.1⟩, ?_, ?_⟩
        · rw [le7, this.2.1]; rfl
        · rw [last8_cons (by simp)]; exact this.2.2
theorem long_enc (n : Nat) : ∀ (b : List UInt8), Enc 0 b → Enc 0 (longV n b) ∧ le7 (longV n b) = le7 b ∧ b.length ≤ (longV n b).length ∧ (b.length < (longV n b).length → last8 (longV n b) = 0) ∧ (¬ b.length < (longV n b).length → longV n b = b) := by
  induction n with
  | zero => intro b h; exact ⟨h, rfl, Nat.le_refl _, fun h => by simp [longV] at h, fun _ => rfl⟩
  | succ n ih =>
    intro b h
    by_cases hl : b.length < 10
    · rw [longV_more hl]
      have h1 := enc_longer b 0 h (by omega)
      obtain ⟨b2, hb2⟩ : ∃ b2, b.set (b.length - 1) (hi8 (b.getD (b.length - 1) 0)) ++ [0] = b2 := ⟨_, rfl⟩
      have hlen : b2.length = b.length + 1 := by rw [← hb2]; simp
      rw [hb2] at h1 ⊢
      have h2 := ih b2 h1.1
      refine ⟨h2.1, h2.2.1.trans h1.2.1, by omega, fun _ => ?_, fun h => by omega⟩
      by_cases h3 : b2.length < (longV n b2).length
      · exact h2.2.2.2.1 h3
      · rw [h2.2.2.2.2 h3]; exact h1.2.2
    · rw [longV_stop hl]
      exact ⟨h, rfl, Nat.le_refl _, fun h => by omega, fun _ => rfl⟩

theorem u64_of {x : Int} (h : Is64 x) : s64 (u64 x) = x := by
  obtain ⟨h1, h2⟩ := h
  unfold s64 u64 wrap64; omega
theorem s64_small {u : Nat} (h : u < 9223372036854775808) : s64 u = (u : Int) := by unfold s64 wrap64; omega
theorem drop_at (p b : List UInt8) : (p ++ b).drop p.length = b := by rw [List.drop_left]

theorem vRd_enc (st : Bool) (p b rest : List UInt8) (h : Enc 0 b) (h2 : st = true → 1 < b.length → last8 b ≠ 0) : vRd st (p ++ (b ++ rest)) p.length = (s64 (le7 b), 0, p.length + b.length) := by
  have h0 := rdv_enc st rest b 0 0 h
  rw [if_neg (by rintro ⟨e1, e2, e3⟩; exact h2 e1 (by omega) e3)] at h0
  unfold vRd
  rw [drop_at, h0]
  simp
theorem vRd_enc_bad (p b rest : List UInt8) (h : Enc 0 b) (h2 : 1 < b.length) (h3 : last8 b = 0) : vRd true (p ++ (b ++ rest)) p.length = (0, 22, p.length) := by
  have h0 := rdv_enc true rest b 0 0 h
  rw [if_pos ⟨rfl, by omega, h3⟩] at h0
  unfold vRd
  rw [drop_at, h0]
  simp
theorem vRd_vb (st : Bool) (p rest : List UInt8) (u : Nat) (h : u < 18446744073709551616) : vRd st (p ++ (vb u ++ rest)) p.length = (s64 u, 0, p.length + (vb u).length) := by
  have h1 := vb_le7 10 u (by omega)
  rw [vRd_enc st p _ rest (vb_enc64 u h) (fun _ => vb_last 10 u (by omega)), h1]

/-- A tag's number and kind, of what is read. -/
theorem gRd_of (st : Bool) (b : List UInt8) (p q : Nat) (n k : Int) (hn : 1 ≤ n) (hn2 : n ≤ 536870911) (hk : 0 ≤ k) (hk2 : k ≤ 5) (h : vRd st b p = (n * 8 + k, 0, q)) : gRd st b p = (n, k, 0, q) := by
  unfold gRd
  rw [h]
  have e : u64 (n * 8 + k) = (n * 8 + k).toNat := by unfold u64; omega
  simp only [e]
  rw [if_pos True.intro, if_neg (by omega), if_neg (by omega)]
  congr 1
  · omega
  · congr 1
    omega
theorem tag_small {n k : Int} (hn : 1 ≤ n) (hn2 : n ≤ 536870911) (hk : 0 ≤ k) (hk2 : k ≤ 5) : u64 (n * 8 + k) < 9223372036854775808 ∧ s64 (u64 (n * 8 + k)) = n * 8 + k := by
  unfold s64 u64 wrap64; omega
theorem gRd_vb (st : Bool) (p rest : List UInt8) (n k : Int) (hn : 1 ≤ n) (hn2 : n ≤ 536870911) (hk : 0 ≤ k) (hk2 : k ≤ 5) : gRd st (p ++ (vb (u64 (n * 8 + k)) ++ rest)) p.length = (n, k, 0, p.length + (vb (u64 (n * 8 + k))).length) := by
  refine gRd_of st _ _ _ n k hn hn2 hk hk2 ?_
  rw [vRd_vb st p rest _ (u64_lt _), (tag_small hn hn2 hk hk2).2]
end Go.Proofs.YtecmhpncgdjgjaaDoor
