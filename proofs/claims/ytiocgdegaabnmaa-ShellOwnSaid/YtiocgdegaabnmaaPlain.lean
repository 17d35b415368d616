/-
  The words of a line in plain Lean: a machine that goes byte by byte, and what it comes to; no program and no memory in it. Conditions: none.
-/
import Derived.Laws.RangeAny
namespace Go.Proofs.Ytiocgdegaabnmaa

/-- Where the machine stands: what it is in (0 between, 1 bare, 2 quoted, 3 escape, 4 high, 5 low, 6 behind, 7 comment), the word so far, the words, the first digit, whether it has failed. -/
structure St where
  inn : Nat
  word : List UInt8
  words : List (List UInt8)
  digit : Int
  bad : Bool
deriving DecidableEq

def isBlank (c : UInt8) : Bool := c == 32 || c == 9
def isCtl (c : UInt8) : Bool := decide (c.toNat < 32) || c == 127
def isBad (c : UInt8) : Bool := isCtl c || c == 34 || c == 92
def hexv (c : UInt8) : Int :=
  if 48 ≤ c.toNat ∧ c.toNat ≤ 57 then (c.toNat : Int) - 48
  else if 97 ≤ c.toNat ∧ c.toNat ≤ 102 then (c.toNat : Int) - 97 + 10
  else if 65 ≤ c.toNat ∧ c.toNat ≤ 70 then (c.toNat : Int) - 65 + 10
  else -1
def low8 (d e : Int) : UInt8 := UInt8.ofNat (16 * d + e).toNat

def stPlain (s : St) (c : UInt8) : St := { s with word := s.word ++ [c], bad := s.bad || isBad c }
def stEnds (s : St) : St := { s with words := s.words ++ [s.word], word := [] }
def stFirst (s : St) (c : UInt8) : St :=
  if isBlank c then { s with inn := 0 } else if c == 35 then { s with inn := 7 } else if c == 34 then { s with inn := 2 } else stPlain { s with inn := 1 } c
def stInside (s : St) (c : UInt8) : St :=
  if c == 34 then { stEnds s with inn := 6 } else if c == 92 then { s with inn := 3 } else if isCtl c then { s with bad := true } else { s with word := s.word ++ [c] }
def stEscaped (s : St) (c : UInt8) : St :=
  if c == 92 || c == 34 then { s with inn := 2, word := s.word ++ [c] } else if c == 110 then { s with inn := 2, word := s.word ++ [10] } else if c == 116 then { s with inn := 2, word := s.word ++ [9] } else if c == 120 then { s with inn := 4 } else { s with inn := 2, bad := true }
def step (s : St) (c : UInt8) : St :=
  if s.inn = 0 then stFirst s c
  else if s.inn = 1 then (if isBlank c then { stEnds s with inn := 0 } else stPlain s c)
  else if s.inn = 2 then stInside s c
  else if s.inn = 3 then stEscaped s c
  else if s.inn = 4 then { s with digit := hexv c, inn := 5, bad := s.bad || decide (hexv c < 0) }
  else if s.inn = 5 then (if hexv c < 0 then { s with inn := 2, bad := true } else { s with inn := 2, word := s.word ++ [low8 s.digit (hexv c)] })
  else if s.inn = 6 then { s with inn := 0, bad := s.bad || !isBlank c }
  else s
def run (s : St) (l : List UInt8) : St := l.foldl step s
/-- What the machine comes to where the line ends. -/
def fin (s : St) : Option (List (List UInt8)) :=
  if s.bad || s.inn == 2 || s.inn == 3 || s.inn == 4 || s.inn == 5 then none
  else if s.inn == 1 then some (s.words ++ [s.word]) else some s.words
def st0 (ws : List (List UInt8)) : St := ⟨0, [], ws, 0, false⟩
/-- The words of a line; none: it is refused. -/
def wordsOf (l : List UInt8) : Option (List (List UInt8)) := fin (run (st0 []) l)

theorem run_nil (s : St) : run s [] = s := rfl
theorem run_cons (s : St) (c : UInt8) (l : List UInt8) : run s (c :: l) = run (step s c) l := rfl
theorem run_append (s : St) (l m : List UInt8) : run s (l ++ m) = run (run s l) m := by simp [run, List.foldl_append]

theorem step_bad (s : St) (c : UInt8) (h : s.bad = true) : (step s c).bad = true := by
  simp only [step, stFirst, stInside, stEscaped, stPlain, stEnds]
  repeat' split
  all_goals simp [h]
theorem run_bad (l : List UInt8) : ∀ s : St, s.bad = true → (run s l).bad = true := by
  induction l with
  | nil => intro s h; exact h
  | cons c l ih => intro s h; exact ih _ (step_bad s c h)
theorem fin_bad (s : St) (h : s.bad = true) : fin s = none := by simp [fin, h]
theorem fin_run_bad (s : St) (l : List UInt8) (h : s.bad = true) : fin (run s l) = none := fin_bad _ (run_bad l s h)

/-- The digit is of no account where no second digit is awaited. -/
theorem run_comment (l : List UInt8) : ∀ s : St, s.inn = 7 → run s l = s := by
  induction l with
  | nil => intro s _; rfl
  | cons c l ih =>
    intro s h
    rw [run_cons]
    have : step s c = s := by simp [step, h]
    rw [this]
    exact ih s h

/-- What takes a word off the front of a line: n bytes of it, and the word; n = 0: there is none. (ws: the words ahead.) -/
def Takes (l : List UInt8) (w : List UInt8) (n : Nat) : Prop :=
  (n = 0 ∧ ∀ ws d, fin (run ⟨0, [], ws, d, false⟩ l) = none) ∨
  (0 < n ∧ n ≤ l.length ∧ (∀ c, l[n]? = some c → isBlank c = true) ∧ ∀ ws d, ∃ d', run ⟨0, [], ws, d, false⟩ (l.take n) = ⟨1, w, ws, d', false⟩ ∨ run ⟨0, [], ws, d, false⟩ (l.take n) = ⟨6, [], ws ++ [w], d', false⟩)

theorem step_blank0 (w : List UInt8) (ws : List (List UInt8)) (d : Int) (c : UInt8) (h : isBlank c = true) : step ⟨0, w, ws, d, false⟩ c = ⟨0, w, ws, d, false⟩ := by simp [step, stFirst, h]
theorem step_blank1 (w : List UInt8) (ws : List (List UInt8)) (d : Int) (c : UInt8) (h : isBlank c = true) : step ⟨1, w, ws, d, false⟩ c = ⟨0, [], ws ++ [w], d, false⟩ := by simp [step, stEnds, h]
theorem step_blank6 (w : List UInt8) (ws : List (List UInt8)) (d : Int) (c : UInt8) (h : isBlank c = true) : step ⟨6, w, ws, d, false⟩ c = ⟨0, w, ws, d, false⟩ := by simp [step, h]

/-- Behind a word that was taken the machine goes on as if the word had ended. -/
theorem takes_on {l w : List UInt8} {n : Nat} (h : Takes l w n) (hn : 0 < n) (ws : List (List UInt8)) (d : Int) : ∃ d', fin (run ⟨0, [], ws, d, false⟩ l) = fin (run ⟨0, [], ws ++ [w], d', false⟩ (l.drop n)) := by
  rcases h with ⟨h0, _⟩ | ⟨_, hle, hbl, hr⟩
  · omega
  · obtain ⟨d', hr⟩ := hr ws d
    refine ⟨d', ?_⟩
    conv => lhs; rw [← List.take_append_drop n l, run_append]
    cases hd : l.drop n with
    | nil =>
      rcases hr with hr | hr <;> rw [hr] <;> simp [run_nil, fin]
    | cons c r =>
      have hc : l[n]? = some c := by
        have := congrArg (fun x => x[0]?) hd
        simpa using this
      have hb := hbl c hc
      rcases hr with hr | hr <;> rw [hr] <;> simp only [run_cons]
      · rw [step_blank1 _ _ _ _ hb, step_blank0 _ _ _ _ hb]
      · rw [step_blank6 _ _ _ _ hb, step_blank0 _ _ _ _ hb]

theorem run_blanks (l : List UInt8) : ∀ (w : List UInt8) (ws : List (List UInt8)) (d : Int), (∀ c ∈ l, isBlank c = true) → run ⟨0, w, ws, d, false⟩ l = ⟨0, w, ws, d, false⟩ := by
  induction l with
  | nil => intro w ws d _; rfl
  | cons c l ih =>
    intro w ws d h
    rw [run_cons, step_blank0 _ _ _ _ (h c (by simp))]
    exact ih w ws d fun x hx => h x (by simp [hx])

/-- A comment ends the line. -/
theorem fin_comment (l : List UInt8) (ws : List (List UInt8)) (d : Int) (h : l = [] ∨ l[0]? = some 35) : fin (run ⟨0, [], ws, d, false⟩ l) = some ws := by
  rcases h with rfl | h
  · simp [run_nil, fin]
  · cases l with
    | nil => simp at h
    | cons c r =>
      simp at h
      subst h
      rw [run_cons]
      have : step ⟨0, [], ws, d, false⟩ 35 = ⟨7, [], ws, d, false⟩ := by simp [step, stFirst, isBlank]
      rw [this, run_comment _ _ rfl]
      simp [fin]

/-! ### A bare word -/

/-- Bytes that may stand in a bare word. -/
def isBare (c : UInt8) : Bool := !isBlank c && !isBad c

theorem run_bare (l : List UInt8) : ∀ (w : List UInt8) (ws : List (List UInt8)) (d : Int), (∀ c ∈ l, isBare c = true) → run ⟨1, w, ws, d, false⟩ l = ⟨1, w ++ l, ws, d, false⟩ := by
  induction l with
  | nil => intro w ws d _; simp [run_nil]
  | cons c l ih =>
    intro w ws d h
    have hc := h c (by simp)
    simp only [isBare, Bool.and_eq_true, Bool.not_eq_true'] at hc
    rw [run_cons]
    have : step ⟨1, w, ws, d, false⟩ c = ⟨1, w ++ [c], ws, d, false⟩ := by simp [step, stPlain, hc.1, hc.2]
    rw [this, ih _ _ _ fun x hx => h x (by simp [hx])]
    simp

theorem step_first_bare (ws : List (List UInt8)) (d : Int) (c : UInt8) (h : isBare c = true) (h35 : c ≠ 35) : step ⟨0, [], ws, d, false⟩ c = ⟨1, [c], ws, d, false⟩ := by
  simp only [isBare, Bool.and_eq_true, Bool.not_eq_true'] at h
  have h34 : (c == 34) = false := by
    have := h.2
    simp only [isBad, Bool.or_eq_false_iff] at this
    exact this.1.2
  have h35' : (c == 35) = false := by simpa using h35
  simp [step, stFirst, h.1, h35', h34, stPlain, h.2]

/-- A bare word that goes up to a blank or the line's end. -/
theorem takes_bare (l : List UInt8) (n : Nat) (hn : 0 < n) (hle : n ≤ l.length) (hb : ∀ c ∈ l.take n, isBare c = true) (h35 : l[0]? ≠ some 35) (hbl : ∀ c, l[n]? = some c → isBlank c = true) : Takes l (l.take n) n := by
  refine .inr ⟨hn, hle, hbl, fun ws d => ⟨d, .inl ?_⟩⟩
  cases l with
  | nil => simp at hle; omega
  | cons c r =>
    obtain ⟨m, rfl⟩ : ∃ m, n = m + 1 := ⟨n - 1, by omega⟩
    simp only [List.take_succ_cons] at hb ⊢
    rw [run_cons, step_first_bare ws d c (hb c (by simp)) (by intro e; subst e; simp at h35), run_bare _ _ _ _ fun x hx => hb x (by simp [hx])]
    simp

/-- A byte that may not stand in a bare word. -/
theorem takes_bare_none (l w : List UInt8) (n : Nat) (hb : ∀ c ∈ l.take n, isBare c = true) (h35 : l[0]? ≠ some 35) (c : UInt8) (hc : l[n]? = some c) (hbad : isBad c = true) (h34 : n = 0 → c ≠ 34) (hnb : isBlank c = false) : Takes l w 0 := by
  refine .inl ⟨rfl, fun ws d => ?_⟩
  have hlt : n < l.length := by
    rcases Nat.lt_or_ge n l.length with h | h
    · exact h
    · rw [List.getElem?_eq_none h] at hc; cases hc
  have hsplit : l = l.take n ++ c :: l.drop (n + 1) := by
    have h1 : l.drop n = c :: l.drop (n + 1) := by
      rw [List.drop_eq_getElem_cons hlt]
      rw [List.getElem?_eq_getElem hlt] at hc
      rw [Option.some.inj hc]
    rw [← h1, List.take_append_drop]
  rw [hsplit, run_append, run_cons]
  refine fin_run_bad _ _ ?_
  cases n with
  | zero =>
    simp only [List.take_zero, run_nil]
    have e34 : (c == 34) = false := by simpa using h34 rfl
    have e35 : (c == 35) = false := by
      cases l with
      | nil => simp at hlt
      | cons a r =>
        simp at hc h35
        subst hc
        simpa using h35
    simp [step, stFirst, hnb, e34, e35, stPlain, hbad]
  | succ m =>
    cases l with
    | nil => simp at hlt
    | cons a r =>
      simp only [List.take_succ_cons] at hb ⊢
      rw [run_cons, step_first_bare ws d a (hb a (by simp)) (by intro e; subst e; simp at h35), run_bare _ _ _ _ fun x hx => hb x (by simp [hx])]
      simp [step, hnb, stPlain, hbad]
end Go.Proofs.Ytiocgdegaabnmaa
