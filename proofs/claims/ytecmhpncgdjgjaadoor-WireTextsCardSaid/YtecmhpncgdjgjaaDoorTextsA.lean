/-
  one and Utf8 of the reference, Text of both, walked. Conditions: texts of at most 140737488355328 bytes.
-/
import Derived.Test.YtecmhpncgdjgjaaDoorUtf
import Derived.Test.YtecmhpncgdjgjaaDoorKinds2
namespace Go.Proofs.YtecmhpncgdjgjaaDoor
open Go.RowKit
set_option linter.unusedVariables false
set_option linter.unusedSimpArgs false

/-- m bytes that go on a character, six bits each, behind acc. -/
def contAcc : Nat → Nat → List UInt8 → Option Nat
  | 0, acc, _ => some acc
  | _ + 1, _, [] => none
  | m + 1, acc, c :: cs => if 128 ≤ c.toNat ∧ c.toNat < 192 then contAcc m (64 * acc + (c.toNat - 128)) cs else none
def fin3 (n least : Nat) (o : Option Nat) : Nat :=
  match o with
  | none => 0
  | some a => if a < least ∨ 1114111 < a ∨ (55296 ≤ a ∧ a < 57344) then 0 else n
theorem fin3_bad {n least a : Nat} (h : a < least ∨ 1114111 < a ∨ (55296 ≤ a ∧ a < 57344)) : fin3 n least (some a) = 0 := by unfold fin3; simp only [if_pos h]
theorem fin3_good {n least a : Nat} (h : ¬ (a < least ∨ 1114111 < a ∨ (55296 ≤ a ∧ a < 57344))) : fin3 n least (some a) = n := by unfold fin3; simp only [if_neg h]
theorem fin3_none (n least : Nat) : fin3 n least none = 0 := rfl
theorem contAcc_yes {m acc : Nat} {c : UInt8} {cs : List UInt8} (h : 128 ≤ c.toNat ∧ c.toNat < 192) : contAcc (m + 1) acc (c :: cs) = contAcc m (64 * acc + (c.toNat - 128)) cs := by rw [contAcc, if_pos h]
theorem contAcc_no {m acc : Nat} {c : UInt8} {cs : List UInt8} (h : ¬ (128 ≤ c.toNat ∧ c.toNat < 192)) : contAcc (m + 1) acc (c :: cs) = none := by rw [contAcc, if_neg h]
theorem contAcc_zero (acc : Nat) (cs : List UInt8) : contAcc 0 acc cs = some acc := by cases cs <;> rfl
theorem contAcc_short (m : Nat) : ∀ (acc : Nat) (cs : List UInt8), cs.length < m → contAcc m acc cs = none := by
  induction m with
  | zero => intro acc cs h; omega
  | succ m ih =>
    intro acc cs h
    cases cs with
    | nil => rfl
    | cons c cs =>
      rw [contAcc]
      split
      · exact ih _ _ (by simpa using h)
      · rfl
theorem chOf_def (c : UInt8) (cs : List UInt8) : chOf (c :: cs) = if c.toNat < 128 then 1 else if c.toNat < 194 then 0 else if c.toNat < 224 then (if okc 1 128 191 cs then 2 else 0)
    else if c.toNat = 224 then (if okc 2 160 191 cs then 3 else 0) else if c.toNat = 237 then (if okc 2 128 159 cs then 3 else 0)
    else if c.toNat < 240 then (if okc 2 128 191 cs then 3 else 0)
    else if c.toNat = 240 then (if okc 3 144 191 cs then 4 else 0) else if c.toNat < 244 then (if okc 3 128 191 cs then 4 else 0)
    else if c.toNat = 244 then (if okc 3 128 143 cs then 4 else 0) else 0 := rfl
theorem chOf_two (c : UInt8) (cs : List UInt8) (h1 : 192 ≤ c.toNat) (h2 : c.toNat < 224) : chOf (c :: cs) = fin3 2 128 (contAcc 1 (c.toNat - 192) cs) := by
  rw [chOf_def, if_neg (by omega)]
  obtain ⟨n, hn⟩ : ∃ n, c.toNat = n := ⟨_, rfl⟩
  rw [hn] at h1 h2 ⊢
  rw [if_pos (show n < 224 from h2)]
  cases cs with
  | nil => simp [okc, contAcc, fin3]
  | cons d ds =>
    have := d.toNat_lt
    by_cases hd : 128 ≤ d.toNat ∧ d.toNat < 192
    · have e1 : okc 1 128 191 (d :: ds) = true := by simp [okc]; omega
      rw [e1, contAcc_yes hd, contAcc_zero]
      by_cases h3 : n < 194
      · rw [if_pos h3, fin3_bad]; omega
      · rw [if_neg h3, fin3_good]
        · simp
        · omega
    · have e1 : okc 1 128 191 (d :: ds) = false := by simp [okc]; omega
      rw [e1, contAcc_no hd, fin3_none]
      simp
theorem chOf_three (c : UInt8) (cs : List UInt8) (h1 : 224 ≤ c.toNat) (h2 : c.toNat < 240) : chOf (c :: cs) = fin3 3 2048 (contAcc 2 (c.toNat - 224) cs) := by
  rw [chOf_def, if_neg (by omega), if_neg (by omega), if_neg (by omega)]
  obtain ⟨n, hn⟩ : ∃ n, c.toNat = n := ⟨_, rfl⟩
  rw [hn] at h1 h2 ⊢
  rw [if_pos (show n < 240 from h2)]
  have key : ∀ lo hi : Nat, (lo = if n = 224 then 160 else 128) → (hi = if n = 237 then 159 else 191) → (if okc 2 lo hi cs then 3 else 0) = fin3 3 2048 (contAcc 2 (n - 224) cs) := by
    intro lo hi hlo hhi
    cases cs with
    | nil => simp [okc, contAcc, fin3]
    | cons d ds =>
      cases ds with
      | nil => rw [okc_len 2 lo hi [d] (by simp), contAcc_short 2 _ [d] (by simp), fin3_none]; simp
      | cons e es =>
        have := d.toNat_lt
        have := e.toNat_lt
        by_cases hd : 128 ≤ d.toNat ∧ d.toNat < 192
        · by_cases he : 128 ≤ e.toNat ∧ e.toNat < 192
          · rw [contAcc_yes hd, contAcc_yes he, contAcc_zero]
            by_cases hq : lo ≤ d.toNat ∧ d.toNat ≤ hi
            · have e1 : okc 2 lo hi (d :: e :: es) = true := by simp [okc]; omega
              rw [e1, fin3_good]
              · simp
              · split at hlo <;> split at hhi <;> omega
            · have e1 : okc 2 lo hi (d :: e :: es) = false := by simp [okc]; omega
              rw [e1, fin3_bad]
              · simp
              · split at hlo <;> split at hhi <;> omega
          · have e1 : okc 2 lo hi (d :: e :: es) = false := by simp [okc]; omega
            rw [e1, contAcc_yes hd, contAcc_no he, fin3_none]
            simp
        · have e1 : okc 2 lo hi (d :: e :: es) = false := by simp [okc]; split at hlo <;> split at hhi <;> omega
          rw [e1, contAcc_no hd, fin3_none]
          simp
  by_cases h3 : n = 224
  · rw [if_pos h3]; exact key 160 191 (by rw [if_pos h3]) (by rw [if_neg (by omega)])
  · rw [if_neg h3]
    by_cases h4 : n = 237
    · rw [if_pos h4]; exact key 128 159 (by rw [if_neg h3]) (by rw [if_pos h4])
    · rw [if_neg h4]; exact key 128 191 (by rw [if_neg h3]) (by rw [if_neg h4])
theorem chOf_four (c : UInt8) (cs : List UInt8) (h1 : 240 ≤ c.toNat) (h2 : c.toNat < 248) : chOf (c :: cs) = fin3 4 65536 (contAcc 3 (c.toNat - 240) cs) := by
  rw [chOf_def, if_neg (by omega), if_neg (by omega), if_neg (by omega), if_neg (by omega), if_neg (by omega), if_neg (by omega)]
  obtain ⟨n, hn⟩ : ∃ n, c.toNat = n := ⟨_, rfl⟩
  rw [hn] at h1 h2 ⊢
  have key : ∀ lo hi : Nat, (lo = if n = 240 then 144 else 128) → (hi = if n = 244 then 143 else if 244 < n then 0 else 191) → (if okc 3 lo hi cs then 4 else 0) = fin3 4 65536 (contAcc 3 (n - 240) cs) := by
    intro lo hi hlo hhi
    cases cs with
    | nil => simp [okc, contAcc, fin3]
    | cons d ds =>
      cases ds with
      | nil => rw [okc_len 3 lo hi [d] (by simp), contAcc_short 3 _ [d] (by simp), fin3_none]; simp
      | cons e es =>
        cases es with
        | nil => rw [okc_len 3 lo hi [d, e] (by simp), contAcc_short 3 _ [d, e] (by simp), fin3_none]; simp
        | cons f fs =>
          have := d.toNat_lt
          have := e.toNat_lt
          have := f.toNat_lt
          by_cases hd : 128 ≤ d.toNat ∧ d.toNat < 192
          · by_cases he : 128 ≤ e.toNat ∧ e.toNat < 192
            · by_cases hf : 128 ≤ f.toNat ∧ f.toNat < 192
              · rw [contAcc_yes hd, contAcc_yes he, contAcc_yes hf, contAcc_zero]
                by_cases hq : lo ≤ d.toNat ∧ d.toNat ≤ hi
                · have e1 : okc 3 lo hi (d :: e :: f :: fs) = true := by simp [okc]; omega
                  rw [e1, fin3_good]
                  · simp
                  · split at hlo <;> split at hhi <;> (try split at hhi) <;> omega
                · have e1 : okc 3 lo hi (d :: e :: f :: fs) = false := by simp [okc]; omega
                  rw [e1, fin3_bad]
                  · simp
                  · split at hlo <;> split at hhi <;> (try split at hhi) <;> omega
              · have e1 : okc 3 lo hi (d :: e :: f :: fs) = false := by simp [okc]; omega
                rw [e1, contAcc_yes hd, contAcc_yes he, contAcc_no hf, fin3_none]
                simp
            · have e1 : okc 3 lo hi (d :: e :: f :: fs) = false := by simp [okc]; omega
              rw [e1, contAcc_yes hd, contAcc_no he, fin3_none]
              simp
          · have e1 : okc 3 lo hi (d :: e :: f :: fs) = false := by simp [okc]; split at hlo <;> split at hhi <;> (try split at hhi) <;> omega
            rw [e1, contAcc_no hd, fin3_none]
            simp
  by_cases h3 : n = 240
  · rw [if_pos h3]; exact key 144 191 (by rw [if_pos h3]) (by rw [if_neg (by omega), if_neg (by omega)])
  · rw [if_neg h3]
    by_cases h4 : n < 244
    · rw [if_pos h4]; exact key 128 191 (by rw [if_neg h3]) (by rw [if_neg (by omega), if_neg (by omega)])
    · rw [if_neg h4]
      by_cases h5 : n = 244
      · rw [if_pos h5]; exact key 128 143 (by rw [if_neg h3]) (by rw [if_pos h5])
      · rw [if_neg h5]
        have hk := key 128 0 (by rw [if_neg h3]) (by rw [if_neg h5, if_pos (by omega)])
        rw [← hk]
        cases cs with
        | nil => rfl
        | cons d ds => simp [okc]; omega
theorem chOf_no (c : UInt8) (cs : List UInt8) (h : (128 ≤ c.toNat ∧ c.toNat < 192) ∨ 248 ≤ c.toNat) : chOf (c :: cs) = 0 := by
  rw [chOf_def, if_neg (by omega)]
  rcases h with h | h
  · rw [if_pos (by omega)]
  · rw [if_neg (by omega), if_neg (by omega), if_neg (by omega), if_neg (by omega), if_neg (by omega), if_neg (by omega), if_neg (by omega), if_neg (by omega)]
end Go.Proofs.YtecmhpncgdjgjaaDoor
