/-
  A quoted word in plain Lean, and what a rune of a text is made of; no program and no memory in it. Conditions: none.
-/
import Derived.Test.YtiocgdegaabnmaaPlain
namespace Go.Proofs.Ytiocgdegaabnmaa

/-- Bytes that stand for themselves in a quoted word. -/
def isIn (c : UInt8) : Bool := !(c == 34) && !(c == 92) && !isCtl c

theorem step_in (w : List UInt8) (ws : List (List UInt8)) (d : Int) (c : UInt8) (h : isIn c = true) : step ⟨2, w, ws, d, false⟩ c = ⟨2, w ++ [c], ws, d, false⟩ := by
  simp only [isIn, Bool.and_eq_true, Bool.not_eq_true'] at h
  simp [step, stInside, h.1.1, h.1.2, h.2]

theorem run_in (l : List UInt8) : ∀ (w : List UInt8) (ws : List (List UInt8)) (d : Int), (∀ c ∈ l, isIn c = true) → run ⟨2, w, ws, d, false⟩ l = ⟨2, w ++ l, ws, d, false⟩ := by
  induction l with
  | nil => intro w ws d _; simp [run_nil]
  | cons c l ih =>
    intro w ws d h
    rw [run_cons, step_in _ _ _ _ (h c (by simp)), ih _ _ _ fun x hx => h x (by simp [hx])]
    simp

/-- What an escape stands for, and how many bytes it has. -/
def escOf (l : List UInt8) : Option (UInt8 × Nat) :=
  match l with
  | _ :: c :: r =>
    if c == 92 || c == 34 then some (c, 2)
    else if c == 110 then some (10, 2)
    else if c == 116 then some (9, 2)
    else if c == 120 then
      match r with
      | a :: b :: _ => if hexv a < 0 ∨ hexv b < 0 then none else some (low8 (hexv a) (hexv b), 4)
      | _ => none
    else none
  | _ => none

theorem hexv_low (a : UInt8) (h : ¬ hexv a < 0) : a.toNat < 128 ∧ 0 ≤ hexv a ∧ hexv a ≤ 15 := by
  unfold hexv at h ⊢
  split
  · omega
  · split
    · omega
    · split
      · omega
      · rename_i h1 h2 h3
        simp [h1, h2, h3] at h

theorem step2_92 (w : List UInt8) (ws : List (List UInt8)) (d : Int) : step ⟨2, w, ws, d, false⟩ 92 = ⟨3, w, ws, d, false⟩ := by simp [step, stInside]

theorem esc_some (t w : List UInt8) (ws : List (List UInt8)) (d : Int) (x : UInt8) (n : Nat) (h : escOf (92 :: t) = some (x, n)) :
    2 ≤ n ∧ n ≤ t.length + 1 ∧ (∀ c ∈ (92 :: t).take n, c.toNat < 128) ∧ ∃ d', run ⟨2, w, ws, d, false⟩ ((92 :: t).take n) = ⟨2, w ++ [x], ws, d', false⟩ := by
  cases t with
  | nil => simp [escOf] at h
  | cons c r =>
    simp only [escOf] at h
    split at h
    · rename_i hc
      simp only [Option.some.injEq, Prod.mk.injEq] at h
      obtain ⟨rfl, rfl⟩ := h
      refine ⟨by omega, by simp, ?_, d, ?_⟩
      · intro y hy
        simp at hy hc
        rcases hy with rfl | rfl
        · decide
        · rcases hc with rfl | rfl <;> decide
      · simp only [List.take_succ_cons, List.take_zero, run_cons, run_nil, step2_92]
        simp [step, stEscaped, hc]
    · rename_i hc
      split at h
      · rename_i h110
        simp only [Option.some.injEq, Prod.mk.injEq] at h
        obtain ⟨rfl, rfl⟩ := h
        simp at h110
        subst h110
        refine ⟨by omega, by simp, ?_, d, ?_⟩
        · intro y hy
          simp at hy
          rcases hy with rfl | rfl <;> decide
        · simp only [List.take_succ_cons, List.take_zero, run_cons, run_nil, step2_92]
          simp [step, stEscaped]
      · split at h
        · rename_i h116
          simp only [Option.some.injEq, Prod.mk.injEq] at h
          obtain ⟨rfl, rfl⟩ := h
          simp at h116
          subst h116
          refine ⟨by omega, by simp, ?_, d, ?_⟩
          · intro y hy
            simp at hy
            rcases hy with rfl | rfl <;> decide
          · simp only [List.take_succ_cons, List.take_zero, run_cons, run_nil, step2_92]
            simp [step, stEscaped]
        · split at h
          · rename_i h120
            simp at h120
            subst h120
            match r, h with
            | [], h => simp at h
            | [_], h => simp at h
            | a :: b :: r', h =>
              simp only at h
              split at h
              · cases h
              · rename_i hab
                have ha : ¬ hexv a < 0 := fun e => hab (.inl e)
                have hb : ¬ hexv b < 0 := fun e => hab (.inr e)
                simp only [Option.some.injEq, Prod.mk.injEq] at h
                obtain ⟨rfl, rfl⟩ := h
                refine ⟨by omega, by simp, ?_, hexv a, ?_⟩
                · intro y hy
                  simp at hy
                  rcases hy with rfl | rfl | rfl | rfl
                  · decide
                  · decide
                  · exact (hexv_low _ ha).1
                  · exact (hexv_low _ hb).1
                · simp only [List.take_succ_cons, List.take_zero, run_cons, run_nil, step2_92]
                  have e1 : step ⟨3, w, ws, d, false⟩ 120 = ⟨4, w, ws, d, false⟩ := by simp [step, stEscaped]
                  have e2 : step ⟨4, w, ws, d, false⟩ a = ⟨5, w, ws, hexv a, false⟩ := by simp [step, ha]
                  have e3 : step ⟨5, w, ws, hexv a, false⟩ b = ⟨2, w ++ [low8 (hexv a) (hexv b)], ws, hexv a, false⟩ := by simp [step, hb]
                  rw [e1, e2, e3]
          · cases h

theorem esc_none (t w : List UInt8) (ws : List (List UInt8)) (d : Int) (h : escOf (92 :: t) = none) : fin (run ⟨2, w, ws, d, false⟩ (92 :: t)) = none := by
  rw [run_cons, step2_92]
  cases t with
  | nil => simp [run_nil, fin]
  | cons c r =>
    simp only [escOf] at h
    split at h
    · cases h
    · rename_i hc
      split at h
      · cases h
      · rename_i h110
        split at h
        · cases h
        · rename_i h116
          split at h
          · rename_i h120
            rw [run_cons]
            have e1 : step ⟨3, w, ws, d, false⟩ c = ⟨4, w, ws, d, false⟩ := by simp [step, stEscaped, hc, h110, h116, h120]
            rw [e1]
            match r, h with
            | [], _ => simp [run_nil, fin]
            | [a], _ => simp [run_cons, run_nil, step, fin]
            | a :: b :: r', h =>
              simp only at h
              split at h
              · rename_i hab
                rw [run_cons]
                by_cases ha : hexv a < 0
                · exact fin_run_bad _ _ (by simp [step, ha])
                · have hb : hexv b < 0 := hab.resolve_left ha
                  rw [run_cons]
                  exact fin_run_bad _ _ (by simp [step, ha, hb])
              · cases h
          · rename_i h120
            rw [run_cons]
            exact fin_run_bad _ _ (by simp [step, stEscaped, hc, h110, h116, h120])

/-- Behind the first p bytes of a quoted word that is still open; w: its bytes so far. -/
def QAt (l : List UInt8) (p : Nat) (w : List UInt8) : Prop := p ≤ l.length ∧ ∀ ws d, ∃ d', run ⟨0, [], ws, d, false⟩ (l.take p) = ⟨2, w, ws, d', false⟩

theorem QAt.start {l : List UInt8} (h : l[0]? = some 34) : QAt l 1 [] := by
  cases l with
  | nil => simp at h
  | cons c r =>
    simp at h
    subst h
    exact ⟨by simp, fun ws d => ⟨d, by simp [run_cons, run_nil, step, stFirst, isBlank]⟩⟩

theorem QAt.more {l : List UInt8} {p m : Nat} {w w' : List UInt8} (h : QAt l p w) (hm : p + m ≤ l.length) (hr : ∀ ws d, ∃ d', run ⟨2, w, ws, d, false⟩ ((l.drop p).take m) = ⟨2, w', ws, d', false⟩) : QAt l (p + m) w' := by
  refine ⟨hm, fun ws d => ?_⟩
  obtain ⟨d1, h1⟩ := h.2 ws d
  obtain ⟨d2, h2⟩ := hr ws d1
  exact ⟨d2, by rw [List.take_add, run_append, h1, h2]⟩

theorem QAt.plain {l : List UInt8} {p m : Nat} {w : List UInt8} (h : QAt l p w) (hm : p + m ≤ l.length) (hp : ∀ c ∈ (l.drop p).take m, isIn c = true) : QAt l (p + m) (w ++ (l.drop p).take m) :=
  h.more hm fun ws d => ⟨d, run_in _ w ws d hp⟩

theorem drop_cons {l : List UInt8} {p : Nat} {c : UInt8} (h : l[p]? = some c) : l.drop p = c :: l.drop (p + 1) := by
  have hlt : p < l.length := by
    rcases Nat.lt_or_ge p l.length with h' | h'
    · exact h'
    · rw [List.getElem?_eq_none h'] at h; cases h
  rw [List.drop_eq_getElem_cons hlt]
  rw [List.getElem?_eq_getElem hlt] at h
  rw [Option.some.inj h]

theorem QAt.esc {l : List UInt8} {p n : Nat} {w : List UInt8} {x : UInt8} (h : QAt l p w) (h92 : l[p]? = some 92) (he : escOf (l.drop p) = some (x, n)) :
    QAt l (p + n) (w ++ [x]) ∧ 2 ≤ n ∧ p + n ≤ l.length ∧ ∀ j, p ≤ j → j < p + n → ∀ c, l[j]? = some c → c.toNat < 128 := by
  have hd := drop_cons h92
  rw [hd] at he
  have hlen : (l.drop p).length = l.length - p := List.length_drop
  rw [hd] at hlen
  simp at hlen
  have hn := esc_some _ w [] 0 x n he
  have hlt : p < l.length := by
    rcases Nat.lt_or_ge p l.length with h' | h'
    · exact h'
    · rw [List.getElem?_eq_none h'] at h92; cases h92
  have hpn : p + n ≤ l.length := by have := hn.2.1; simp at this; omega
  refine ⟨h.more hpn fun ws d => ?_, hn.1, hpn, fun j h1 h2 c hc => ?_⟩
  · rw [hd]
    exact (esc_some _ w ws d x n he).2.2.2
  · refine hn.2.2.1 c ?_
    rw [← hd]
    refine List.mem_iff_getElem?.2 ⟨j - p, ?_⟩
    rw [List.getElem?_take_of_lt (by omega), List.getElem?_drop, ← hc]
    congr 1
    omega

theorem QAt.none_of {l : List UInt8} {p : Nat} {w : List UInt8} (h : QAt l p w) (hr : ∀ ws d, fin (run ⟨2, w, ws, d, false⟩ (l.drop p)) = none) (w' : List UInt8) : Takes l w' 0 := by
  refine .inl ⟨rfl, fun ws d => ?_⟩
  obtain ⟨d1, h1⟩ := h.2 ws d
  conv => lhs; rw [← List.take_append_drop p l, run_append, h1]
  exact hr ws d1

theorem QAt.escNone {l : List UInt8} {p : Nat} {w : List UInt8} (h : QAt l p w) (h92 : l[p]? = some 92) (he : escOf (l.drop p) = none) (w' : List UInt8) : Takes l w' 0 :=
  h.none_of (fun ws d => by rw [drop_cons h92] at he ⊢; exact esc_none _ _ _ _ he) w'

theorem QAt.ctl {l : List UInt8} {p : Nat} {w : List UInt8} {c : UInt8} (h : QAt l p w) (hc : l[p]? = some c) (hctl : isCtl c = true) (h34 : c ≠ 34) (h92 : c ≠ 92) (w' : List UInt8) : Takes l w' 0 :=
  h.none_of (fun ws d => by
    rw [drop_cons hc, run_cons]
    exact fin_run_bad _ _ (by simp [step, stInside, hctl, h34, h92])) w'

theorem QAt.ends {l : List UInt8} {p : Nat} {w : List UInt8} (h : QAt l p w) (hp : l.length ≤ p) (w' : List UInt8) : Takes l w' 0 :=
  h.none_of (fun ws d => by rw [List.drop_eq_nil_of_le hp, run_nil]; simp [fin]) w'

theorem step_close (w : List UInt8) (ws : List (List UInt8)) (d : Int) : step ⟨2, w, ws, d, false⟩ 34 = ⟨6, [], ws ++ [w], d, false⟩ := by simp [step, stInside, stEnds]

theorem QAt.close {l : List UInt8} {p : Nat} {w : List UInt8} (h : QAt l p w) (hc : l[p]? = some 34) (hb : ∀ c, l[p + 1]? = some c → isBlank c = true) : Takes l w (p + 1) := by
  have hlt : p < l.length := by
    rcases Nat.lt_or_ge p l.length with h' | h'
    · exact h'
    · rw [List.getElem?_eq_none h'] at hc; cases hc
  refine .inr ⟨by omega, hlt, hb, fun ws d => ?_⟩
  obtain ⟨d1, h1⟩ := h.2 ws d
  refine ⟨d1, .inr ?_⟩
  rw [List.take_add, run_append, h1, drop_cons hc]
  simp [run_cons, run_nil, step_close]

theorem QAt.closeNone {l : List UInt8} {p : Nat} {w : List UInt8} {c : UInt8} (h : QAt l p w) (hc : l[p]? = some 34) (h1 : l[p + 1]? = some c) (hb : isBlank c = false) (w' : List UInt8) : Takes l w' 0 :=
  h.none_of (fun ws d => by
    rw [drop_cons hc, drop_cons h1, run_cons, run_cons, step_close]
    exact fin_run_bad _ _ (by simp [step, hb])) w'

/-! ### What a rune is made of -/

theorem get_of {s : ByteArray} {j : Nat} (h : j < s.size) : s.get! j = s[j]'h := by
  have := get_at s j h
  simpa using this

/-- A rune that does not begin with a byte below 128 has no such byte, and lies in the text. -/
theorem decode_bytes (s : ByteArray) (pos : Nat) (h : pos < s.size) (ha : 128 ≤ (s[pos]'h).toNat) : pos + (Utf8.decode s pos).2 ≤ s.size ∧ ∀ j (hj : j < s.size), pos ≤ j → j < pos + (Utf8.decode s pos).2 → 128 ≤ (s[j]'hj).toNat := by
  have h0 : s.get! (pos + 0) = s[pos]'h := get_of h
  have one : ∀ n, n = 1 → pos + n ≤ s.size ∧ ∀ j (hj : j < s.size), pos ≤ j → j < pos + n → 128 ≤ (s[j]'hj).toNat := by
    rintro n rfl
    refine ⟨by omega, fun j hj h1 h2 => ?_⟩
    obtain rfl : j = pos := by omega
    exact ha
  have cont : ∀ k, (decide (pos + k < s.size) && ((s.get! (pos + k)).toNat / 64 == 2)) = true → pos + k < s.size ∧ ∀ hj : pos + k < s.size, 128 ≤ (s[pos + k]'hj).toNat := by
    intro k hk
    simp only [Bool.and_eq_true, decide_eq_true_eq, beq_iff_eq] at hk
    refine ⟨hk.1, fun hj => ?_⟩
    rw [get_of hk.1] at hk
    have := hk.2
    omega
  have pick : ∀ j (hj : j < s.size) k, j = pos + k → (∀ hj : pos + k < s.size, 128 ≤ (s[pos + k]'hj).toNat) → 128 ≤ (s[j]'hj).toNat := by
    rintro j hj k rfl hk
    exact hk hj
  simp only [Utf8.decode]
  have hn : ¬ (s.get! (pos + 0)).toNat < 128 := by rw [h0]; omega
  rw [if_neg hn]
  split
  · rename_i h2
    simp only [Bool.and_eq_true] at h2
    have c1 := cont 1 (by simpa using h2.2)
    split
    · refine ⟨by have := c1.1; simp only; omega, fun j hj h3 h4 => ?_⟩
      simp only at h4
      rcases (show j = pos + 0 ∨ j = pos + 1 by omega) with e | e
      · exact pick j hj 0 e fun _ => ha
      · exact pick j hj 1 e c1.2
    · exact one _ rfl
  · split
    · rename_i h3
      simp only [Bool.and_eq_true] at h3
      have c1 := cont 1 (by simpa using h3.1.2)
      have c2 := cont 2 (by simpa using h3.2)
      split
      · refine ⟨by have := c2.1; simp only; omega, fun j hj h3 h4 => ?_⟩
        simp only at h4
        rcases (show j = pos + 0 ∨ j = pos + 1 ∨ j = pos + 2 by omega) with e | e | e
        · exact pick j hj 0 e fun _ => ha
        · exact pick j hj 1 e c1.2
        · exact pick j hj 2 e c2.2
      · exact one _ rfl
    · split
      · rename_i h4
        simp only [Bool.and_eq_true] at h4
        have c1 := cont 1 (by simpa using h4.1.1.2)
        have c2 := cont 2 (by simpa using h4.1.2)
        have c3 := cont 3 (by simpa using h4.2)
        split
        · refine ⟨by have := c3.1; simp only; omega, fun j hj h3 h4 => ?_⟩
          simp only at h4
          rcases (show j = pos + 0 ∨ j = pos + 1 ∨ j = pos + 2 ∨ j = pos + 3 by omega) with e | e | e | e
          · exact pick j hj 0 e fun _ => ha
          · exact pick j hj 1 e c1.2
          · exact pick j hj 2 e c2.2
          · exact pick j hj 3 e c3.2
        · exact one _ rfl
      · exact one _ rfl

/-- A byte from 128 on may stand in a bare and in a quoted word. -/
theorem high_bare (c : UInt8) (h : 128 ≤ c.toNat) : isBare c = true ∧ isIn c = true := by
  have n32 : (c == 32) = false := by rw [beq_eq_false_iff_ne]; intro e; subst e; simp at h
  have n9 : (c == 9) = false := by rw [beq_eq_false_iff_ne]; intro e; subst e; simp at h
  have n127 : (c == 127) = false := by rw [beq_eq_false_iff_ne]; intro e; subst e; simp at h
  have n34 : (c == 34) = false := by rw [beq_eq_false_iff_ne]; intro e; subst e; simp at h
  have n92 : (c == 92) = false := by rw [beq_eq_false_iff_ne]; intro e; subst e; simp at h
  have hc : isCtl c = false := by simp only [isCtl, n127, Bool.or_false, decide_eq_false_iff_not]; omega
  simp [isBare, isIn, isBlank, isBad, n32, n9, n34, n92, hc]
end Go.Proofs.Ytiocgdegaabnmaa
