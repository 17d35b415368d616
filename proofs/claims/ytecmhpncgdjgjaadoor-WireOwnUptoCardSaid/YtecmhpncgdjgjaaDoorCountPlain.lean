/-
  The stack of levels by which records are counted: plain Lean. Conditions: none.
-/
import Derived.Test.YtecmhpncgdjgjaaDoorJoinPlain
namespace Go.Proofs.YtecmhpncgdjgjaaDoor
open Go.RowKit
set_option linter.unusedVariables false

/-- A level: its slice value, the records that it reads as, how far one is. -/
structure Lv where
  v : Value
  l : List Rec
  at_ : Nat
def lvCells (st : List Lv) : List Value := st.flatMap fun s => [s.v, .int .i64 s.at_]
def rem : List Lv → Nat
  | [] => 0
  | s :: st => countL (s.l.drop s.at_) + rem st
/-- How deep what is left lies, level j first. -/
def dp (j : Nat) : List Lv → Nat
  | [] => 0
  | s :: st => max (j + deepL (s.l.drop s.at_)) (dp (j + 1) st)

theorem lvCells_len (st : List Lv) : (lvCells st).length = st.length * 2 := by
  induction st with
  | nil => rfl
  | cons s st ih => simp only [lvCells, List.flatMap_cons, List.length_append] at ih ⊢; simp only [List.length_cons, List.length_nil]; omega
theorem lvCells_append (a b : List Lv) : lvCells (a ++ b) = lvCells a ++ lvCells b := by simp [lvCells]
theorem rem_append (a b : List Lv) : rem (a ++ b) = rem a + rem b := by
  induction a with
  | nil => simp [rem]
  | cons s a ih => simp only [List.cons_append, rem, ih]; omega
theorem dp_append (a b : List Lv) : ∀ j, dp j (a ++ b) = max (dp j a) (dp (j + a.length) b) := by
  induction a with
  | nil => intro j; simp [dp]
  | cons s a ih => intro j; simp only [List.cons_append, dp, ih, List.length_cons]; rw [show j + 1 + a.length = j + (a.length + 1) by omega]; omega
theorem countL_drop {l : List Rec} (k : Nat) (hk : k < l.length) : countL (l.drop k) = 1 + countL (l[k]'hk).inner + countL (l.drop (k + 1)) := by
  rw [List.drop_eq_getElem_cons hk, countL]
  cases l[k]'hk with
  | mk n kd x t i => rfl
theorem deepL_drop {l : List Rec} (k : Nat) (hk : k < l.length) : deepL (l.drop k) = max (if (l[k]'hk).kind = 3 ∨ (l[k]'hk).inner.isEmpty = false then 1 + deepL (l[k]'hk).inner else 0) (deepL (l.drop (k + 1))) := by
  rw [List.drop_eq_getElem_cons hk, deepL]
  cases l[k]'hk with
  | mk n kd x t i => rfl
end Go.Proofs.YtecmhpncgdjgjaaDoor
