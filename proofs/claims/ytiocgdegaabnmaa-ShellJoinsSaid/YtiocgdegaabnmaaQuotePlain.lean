/-
  A quoted word for bytes, in plain Lean, and that the words of it are just these bytes. Conditions: none.
-/
import Derived.Test.YtiocgdegaabnmaaQuoted
namespace Go.Proofs.Ytiocgdegaabnmaa

/-- A hexadecimal digit. -/
def hexd (n : Nat) : UInt8 := if n < 10 then UInt8.ofNat (48 + n) else UInt8.ofNat (87 + n)
/-- What is written for one byte. -/
def q1 (c : UInt8) : List UInt8 :=
  if c == 34 || c == 92 then [92, c] else if c == 10 then [92, 110] else if c == 9 then [92, 116]
  else if decide (c.toNat < 32) || decide (126 < c.toNat) then [92, 120, hexd (c.toNat / 16), hexd (c.toNat % 16)] else [c]
def qs (l : List UInt8) : List UInt8 := l.flatMap q1
def quoteOf (l : List UInt8) : List UInt8 := 34 :: (qs l ++ [34])

theorem qs_nil : qs [] = [] := rfl
theorem qs_append (l m : List UInt8) : qs (l ++ m) = qs l ++ qs m := by simp [qs, List.flatMap_append]
theorem qs_one (c : UInt8) : qs [c] = q1 c := by simp [qs]
theorem q1_len (c : UInt8) : (q1 c).length ≤ 4 := by
  unfold q1
  (repeat' split) <;> simp
theorem qs_len (l : List UInt8) : (qs l).length ≤ 4 * l.length := by
  induction l with
  | nil => simp [qs_nil]
  | cons c l ih =>
    have := q1_len c
    rw [show c :: l = [c] ++ l from rfl, qs_append, qs_one, List.length_append]
    simp
    omega

theorem q1_all : ∀ n : Fin 256, (q1 (UInt8.ofNat n) = [UInt8.ofNat n] ∧ isIn (UInt8.ofNat n) = true) ∨ (escOf (q1 (UInt8.ofNat n)) = some (UInt8.ofNat n, (q1 (UInt8.ofNat n)).length) ∧ (q1 (UInt8.ofNat n))[0]? = some 92) := by decide +kernel

theorem q1_run (c : UInt8) (w : List UInt8) (ws : List (List UInt8)) (d : Int) : ∃ d', run ⟨2, w, ws, d, false⟩ (q1 c) = ⟨2, w ++ [c], ws, d', false⟩ := by
  have h := q1_all ⟨c.toNat, c.toNat_lt⟩
  simp only [UInt8.ofNat_toNat] at h
  rcases h with ⟨h1, h2⟩ | ⟨h1, h2⟩
  · rw [h1]
    exact ⟨d, run_in [c] w ws d (by simpa using h2)⟩
  · cases hq : q1 c with
    | nil => rw [hq] at h2; simp at h2
    | cons a t =>
      rw [hq] at h1 h2
      simp at h2
      subst h2
      obtain ⟨_, _, _, d', h3⟩ := esc_some t w ws d c _ h1
      rw [List.take_of_length_le (by simp)] at h3
      exact ⟨d', h3⟩

theorem qs_run (l : List UInt8) : ∀ (w : List UInt8) (ws : List (List UInt8)) (d : Int), ∃ d', run ⟨2, w, ws, d, false⟩ (qs l) = ⟨2, w ++ l, ws, d', false⟩ := by
  induction l with
  | nil => intro w ws d; exact ⟨d, by simp [qs_nil, run_nil]⟩
  | cons c l ih =>
    intro w ws d
    obtain ⟨d1, h1⟩ := q1_run c w ws d
    obtain ⟨d2, h2⟩ := ih (w ++ [c]) ws d1
    refine ⟨d2, ?_⟩
    rw [show c :: l = [c] ++ l from rfl, qs_append, qs_one, run_append, h1, h2]
    simp

/-- Behind a quoted word the machine has one word more. -/
theorem quote_run (l : List UInt8) (ws : List (List UInt8)) (d : Int) : ∃ d', run ⟨0, [], ws, d, false⟩ (quoteOf l) = ⟨6, [], ws ++ [l], d', false⟩ := by
  obtain ⟨d1, h1⟩ := qs_run l [] ws d
  refine ⟨d1, ?_⟩
  have e : step ⟨0, [], ws, d, false⟩ 34 = ⟨2, [], ws, d, false⟩ := by simp [step, stFirst, isBlank]
  rw [quoteOf, run_cons, e, run_append, h1, run_cons, run_nil, step_close]
  simp

theorem words_quote (l : List UInt8) : wordsOf (quoteOf l) = some [l] := by
  obtain ⟨d, h⟩ := quote_run l [] 0
  unfold wordsOf st0
  rw [h]
  simp [fin]
end Go.Proofs.Ytiocgdegaabnmaa
