/-
  lent of the statements, walked: records lent, a mark behind each list. Conditions: lists that a process can hold.
-/
import Derived.Test.YtecmhpncgdjgjaaDoorRecsA
import Derived.Test.YtecmhpncgdjgjaaDoorCopy
import Derived.OwnWalk
namespace Go.Proofs.YtecmhpncgdjgjaaDoor
open Go.RowKit
set_option linter.unusedVariables false
set_option linter.unusedSimpArgs false

theorem rcells_len (L : List (Rec × Value)) : (rcells L).length = L.length * 5 := by
  induction L with
  | nil => rfl
  | cons x L ih =>
    show (five x ++ rcells L).length = _
    rw [List.length_append, ih, List.length_cons]
    have : (five x).length = 5 := rfl
    omega
/-- One cell of a record in a row is written. -/
theorem rcells_set (A : List (Rec × Value)) (z Z : List Value) (hz : z.length = 5) (j : Nat) (hj : j < 5) (v : Value) : (rcells A ++ (z ++ Z)).set (A.length * 5 + j) v = rcells A ++ (z.set j v ++ Z) := by
  rw [List.set_append_right _ _ (by rw [rcells_len]; omega), rcells_len, Nat.add_sub_cancel_left, List.set_append_left _ _ (by omega)]
theorem rcells_snoc (A : List (Rec × Value)) (x : Rec × Value) (Z : List Value) : rcells (A ++ [x]) ++ Z = rcells A ++ (five x ++ Z) := by simp [rcells]
theorem five_list {z : List Value} (h : z.length = 5) : ∃ z0 z1 z2 z3 z4, z = [z0, z1, z2, z3, z4] := by
  rcases z with _ | ⟨z0, _ | ⟨z1, _ | ⟨z2, _ | ⟨z3, _ | ⟨z4, _ | ⟨z5, Z'⟩⟩⟩⟩⟩⟩
  · simp at h
  · simp at h
  · simp at h
  · simp at h
  · simp at h
  · exact ⟨z0, z1, z2, z3, z4, rfl⟩
  · simp only [List.length_cons] at h; omega
/-- A record stored in a row of records. -/
theorem store_five {w : World} {g : Nat} {A : List (Rec × Value)} {z Z : List Value} (hz : z.length = 5) {y : Rec × Value} (h : w.heap[g]? = some (.cells (rcells A ++ (z ++ Z)).toArray 53 (0, 0))) :
    (((((w.setCell ⟨g, A.length * 5, none⟩ (.int .i64 y.1.number)).setCell ⟨g, A.length * 5 + 1, none⟩ (.int .i64 y.1.kind)).setCell ⟨g, A.length * 5 + 2, none⟩ (.int .i64 y.1.num)).setCell ⟨g, A.length * 5 + 3, none⟩ (.string ⟨y.1.text.toArray⟩)).setCell ⟨g, A.length * 5 + 4, none⟩ y.2).heap[g]? = some (.cells (rcells (A ++ [y]) ++ Z).toArray 53 (0, 0)) := by
  have h0 := heap_setCell_same w g (A.length * 5) _ 53 (.int .i64 y.1.number) h
  have h1 := heap_setCell_same _ g (A.length * 5 + 1) _ 53 (.int .i64 y.1.kind) h0
  have h2 := heap_setCell_same _ g (A.length * 5 + 2) _ 53 (.int .i64 y.1.num) h1
  have h3 := heap_setCell_same _ g (A.length * 5 + 3) _ 53 (.string ⟨y.1.text.toArray⟩) h2
  have h4 := heap_setCell_same _ g (A.length * 5 + 4) _ 53 y.2 h3
  rw [h4]
  simp only [List.setIfInBounds_toArray]
  rw [show (rcells A ++ (z ++ Z)).set (A.length * 5) (.int .i64 y.1.number) = _ from rcells_set A z Z hz 0 (by omega) _]
  rw [rcells_set A _ Z (by simpa using hz) 1 (by omega), rcells_set A _ Z (by simpa using hz) 2 (by omega), rcells_set A _ Z (by simpa using hz) 3 (by omega), rcells_set A _ Z (by simpa using hz) 4 (by omega)]
  rw [rcells_snoc]
  obtain ⟨z0, z1, z2, z3, z4, rfl⟩ := five_list hz
  simp only [List.set_cons_zero, List.set_cons_succ]
  rfl
theorem store_inner {w : World} {g : Nat} {A : List (Rec × Value)} {Z : List Value} {r : Rec} {u u' : Value} (h : w.heap[g]? = some (.cells (rcells (A ++ [(r, u)]) ++ Z).toArray 53 (0, 0))) :
    (w.setCell ⟨g, A.length * 5 + 4, none⟩ u').heap[g]? = some (.cells (rcells (A ++ [(r, u')]) ++ Z).toArray 53 (0, 0)) := by
  rw [rcells_snoc] at h
  have h4 := heap_setCell_same _ g (A.length * 5 + 4) _ 53 u' h
  rw [h4, List.setIfInBounds_toArray, rcells_set A _ Z rfl 4 (by omega), rcells_snoc]
  rfl
theorem five_parts {Z : List Value} {n : Nat} (h : Z.length = (n + 1) * 5) : ∃ z0 z1 z2 z3 z4 Z', Z = [z0, z1, z2, z3, z4] ++ Z' ∧ Z'.length = n * 5 := by
  have h2 : Z.length = n * 5 + 5 := by omega
  clear h
  rcases Z with _ | ⟨z0, _ | ⟨z1, _ | ⟨z2, _ | ⟨z3, _ | ⟨z4, Z'⟩⟩⟩⟩⟩
  · simp only [List.length_nil] at h2; omega
  · simp only [List.length_cons, List.length_nil] at h2; omega
  · simp only [List.length_cons, List.length_nil] at h2; omega
  · simp only [List.length_cons, List.length_nil] at h2; omega
  · simp only [List.length_cons, List.length_nil] at h2; omega
  · simp only [List.length_cons] at h2
    exact ⟨z0, z1, z2, z3, z4, Z', rfl, by omega⟩
theorem five_cells {w : World} {g : Nat} {A : List (Rec × Value)} {z0 z1 z2 z3 z4 : Value} {Z : List Value} (h : w.heap[g]? = some (.cells (rcells A ++ ([z0, z1, z2, z3, z4] ++ Z)).toArray 53 (0, 0))) :
    w.cell? ⟨g, A.length * 5, none⟩ = some z0 ∧ w.cell? ⟨g, A.length * 5 + 1, none⟩ = some z1 ∧ w.cell? ⟨g, A.length * 5 + 2, none⟩ = some z2 ∧ w.cell? ⟨g, A.length * 5 + 3, none⟩ = some z3 ∧ w.cell? ⟨g, A.length * 5 + 4, none⟩ = some z4 := by
  have hx := Lib.cell_of_heap h
  have hc : ∀ j, (rcells A ++ ([z0, z1, z2, z3, z4] ++ Z))[A.length * 5 + j]? = ([z0, z1, z2, z3, z4] ++ Z)[j]? := fun j => by
    rw [List.getElem?_append_right (by rw [rcells_len]; omega), rcells_len, Nat.add_sub_cancel_left]
  refine ⟨?_, ?_, ?_, ?_, ?_⟩
  · rw [hx, List.getElem?_toArray]; exact hc 0
  · rw [hx, List.getElem?_toArray]; exact hc 1
  · rw [hx, List.getElem?_toArray]; exact hc 2
  · rw [hx, List.getElem?_toArray]; exact hc 3
  · rw [hx, List.getElem?_toArray]; exact hc 4
end Go.Proofs.YtecmhpncgdjgjaaDoor
