/-
  Hand of the statements, walked. Conditions: none but a length that a machine has.
-/
import Derived.Test.YtecmhpncgdjgjaaDoorSame
import Derived.Laws.CopyOwn
import Derived.OwnWalk
namespace Go.Proofs.YtecmhpncgdjgjaaDoor
open Go.RowKit
set_option linter.unusedVariables false
set_option linter.unusedSimpArgs false

/-- What Hand leaves: the bytes, three marks behind them in the spare room. -/
def HandOut (w : World) (b : List UInt8) (e : Ending) (w' : World) : Prop :=
  e = .returned (.slice (some ⟨w.heap.size, 0, none⟩) b.length (b.length + 3)) ∧ w'.heap[w.heap.size]? = some (.cells (Lib.byteCells b ++ List.replicate 3 (Value.int .u8 171)).toArray 5 (0, 0)) ∧ Below w.heap.size w w'

/-- Marks so far. -/
def marks (b : List UInt8) (D : List Value) (j : Nat) : List Value := Lib.byteCells b ++ (List.replicate j (Value.int .u8 171) ++ D.drop j)
theorem marks_set (b : List UInt8) (D : List Value) (j : Nat) (hj : j < D.length) : (marks b D j).set (b.length + j) (.int .u8 171) = marks b D (j + 1) := by
  unfold marks
  have hl : (Lib.byteCells b).length = b.length := Lib.byteCells_length b
  rw [List.set_append_right _ _ (by omega), hl, show b.length + j - b.length = j by omega, List.set_append_right _ _ (by simp), List.length_replicate, Nat.sub_self, List.drop_eq_getElem_cons hj, List.set_cons_zero, List.replicate_succ', List.append_assoc]
  rfl
theorem marks_get (b : List UInt8) (D : List Value) (j : Nat) (hj : j < D.length) : (marks b D j)[b.length + j]? = some (D[j]'hj) := by
  unfold marks
  have hl : (Lib.byteCells b).length = b.length := Lib.byteCells_length b
  rw [List.getElem?_append_right (by omega), hl, show b.length + j - b.length = j by omega, List.getElem?_append_right (by simp), List.length_replicate, Nat.sub_self, List.getElem?_drop, Nat.add_zero, List.getElem?_eq_getElem hj]

theorem bytes_cells {w : World} {a : Option Addr} {n cap : Nat} {b : List UInt8} (h : BytesAt (fun _ => True) w (.slice a n cap) b) (h0 : 0 < (Lib.byteCells b).length) : ∃ ad, a = some ad ∧ ∀ j v, (Lib.byteCells b)[j]? = some v → w.cell? (ad.add j) = some v := by
  have hl : (Lib.byteCells b).length = b.length := Lib.byteCells_length b
  obtain ⟨g, off, rfl, _⟩ := h.byte 0 (by omega)
  refine ⟨_, rfl, fun j v hv => ?_⟩
  have hj : j < b.length := by
    rcases Nat.lt_or_ge j b.length with h1 | h1
    · exact h1
    · rw [byteCells_get, List.getElem?_eq_none h1] at hv; cases hv
  obtain ⟨g', off', e, hc⟩ := h.byte j hj
  cases e
  rw [byteCells_get, List.getElem?_eq_getElem hj] at hv
  have e1 : (⟨g, off, none⟩ : Addr).add j = ⟨g, off + j, none⟩ := by unfold Addr.add; split <;> simp_all
  rw [e1, hc]
  exact hv
theorem byteCells_ones (b : List UInt8) : ∀ v ∈ Lib.byteCells b, v.oneCell' = true := by
  intro v hv
  simp only [Lib.byteCells, List.mem_map] at hv
  obtain ⟨c, _, rfl⟩ := hv
  rfl

set_option maxHeartbeats 2000000 in
set_option maxRecDepth 100000 in
theorem hand_any (w : World) (b : List UInt8) (v : Value) (h : BytesAt (fun _ => True) w v b) (hb : b.length ≤ 140737488355000) : Calls Tryd.prog 48 #[v] w (HandOut w b) := by
  have HH := Lib.hid h
  obtain ⟨a, cap, rfl, h1, h2, h3⟩ := h
  obtain ⟨i0, hi, hz0, hz1, hz2⟩ := info_parts infoB
  obtain ⟨N, hN⟩ : ∃ N, b.length + 3 = N := ⟨_, rfl⟩
  have hNi : (b.length : Int) + 3 = (N : Int) := by omega
  have hsz1 : (Tryd.prog.info? 5).map (·.size) = some 1 := by rw [hi]; simp [hz1]
  clear h3
  go_enter Tryd.func48, Tryd.ntmps48
  go_wp2_with (refine wpList_make_full w rfl _ _ 24 rfl w.heap.size 5 i0 (.int .u8 0) 1 Tryd.underlying24 hi hz0 hz1 .i64 .i64 N N N rfl rfl rfl rfl (by rw [hz2]; omega) (by unfold maxLen; omega) (Nat.le_refl _) ?_)
  intro w1 hmake hgm
  have hbel : Below w.heap.size w w1 := (Below.refl _ _).grown hgm (Nat.le_refl _) (fun k e => by cases e)
  have hrow : ∃ Z : List Value, Z.length = N ∧ w1.heap[w.heap.size]? = some (.cells Z.toArray 5 (0, 0)) := by
    rcases hmake.2 with ⟨e, _⟩ | ⟨g, cap2, cur, e, hbg, hg, hnc, hcm, hcs, _⟩
    · cases e
    · injection e with e1 e2 e3
      injection e1 with e4
      injection e4 with e5
      subst e5 e3
      exact ⟨cur.toList, by rw [Array.length_toList, hcs]; omega, by rw [hg]⟩
  obtain ⟨Z, hZ, hzrow⟩ := hrow
  have HZ := Lib.hid hzrow
  have HBE := Lib.hid hbel
  have hbl : (Lib.byteCells b).length = b.length := Lib.byteCells_length b
  clear hmake hgm hbel hzrow
  go_wp2_with (refine wpList_copy_splice rfl _ _ 24 24 rfl 5 Tryd.underlying24 hsz1 _ _ N N b.length cap rfl rfl w.heap.size 0 Z 5 HZ.out (Lib.byteCells b) (by rw [hbl]; exact (Nat.min_eq_left (by omega)).symm) (fun h0 => ⟨rfl, bytes_cells (HH.out.later HBE.out) h0⟩) (by omega) (byteCells_ones b) w.heap.size w HBE.out (Nat.le_refl _) ?_)
  intro w2 hrow2 hbel2
  have hsp : splice Z 0 (Lib.byteCells b) = marks b (Z.drop b.length) 0 := by
    unfold splice marks
    simp [hbl]
  rw [hsp] at hrow2
  have HROW := Lib.hid hrow2.out
  have HBE2 := Lib.hid hbel2
  have hD : (Z.drop b.length).length = 3 := by rw [List.length_drop]; omega
  obtain ⟨D, hDe⟩ : ∃ D, Z.drop b.length = D := ⟨_, rfl⟩
  rw [hDe] at hD HROW
  clear hrow2 hbel2 hsp hDe
  go_wp2_with fail
  go_loopw [4] (fun vi wr => ∃ j : Nat, vi = .int .i64 ((b.length + j : Nat) : Int) ∧ j ≤ 3 ∧ wr.heap[w.heap.size]? = some (.cells (marks b D j).toArray 5 (0, 0)) ∧ Below w.heap.size w wr) (fun vi _ => N - (intOf vi).toNat)
  case atStart => exact ⟨0, rfl, by omega, HROW.out, HBE2.out⟩
  case round =>
    obtain ⟨j, rfl, hj, hrow3, hbw⟩ := hrel
    obtain ⟨m, hm⟩ : ∃ m, b.length + j = m := ⟨_, rfl⟩
    rw [hm]
    by_cases hj3 : j < 3
    · have hmN : m < N := by omega
      have hmz : (m : Int) < (N : Int) := by omega
      have kc := Lib.cell_of_heap hrow3 m
      have hget := marks_get b D j (by omega)
      have hset := marks_set b D j (by omega)
      rw [hm] at hget hset
      rw [List.getElem?_toArray, hget] at kc
      have kz := frozen_of_row wr w.heap.size m _ _ hrow3
      have HR3 := Lib.hid (show (wr.setCell ⟨w.heap.size, m, none⟩ (.int .u8 171)).heap[w.heap.size]? = some (.cells (marks b D (j + 1)).toArray 5 (0, 0)) by
        rw [heap_setCell_same wr w.heap.size m _ 5 _ hrow3, ← hset]
        simp)
      clear hget hset hrow3
      go_wp2_with fail
      go_roundw
      case rel => exact ⟨j + 1, by rw [← Nat.add_assoc, hm]; simp, by omega, HR3.out, hbw.setCell (Nat.le_refl _) _⟩
      case measure => simp [intOf] <;> omega
    · have hj3' : j = 3 := by omega
      subst hj3'
      have hmN : m = N := by omega
      have hge : (N : Int) ≤ (m : Int) := by omega
      have HR3 := Lib.hid (show wr.heap[w.heap.size]? = some (.cells (Lib.byteCells b ++ List.replicate 3 (Value.int .u8 171)).toArray 5 (0, 0)) by
        rw [hrow3]
        unfold marks
        rw [List.drop_of_length_le (by omega), List.append_nil])
      clear hrow3 hmN
      go_wp2_with fail
      go_ret
      exact ⟨by rw [hN]; rfl, HR3.out, hbw⟩
end Go.Proofs.YtecmhpncgdjgjaaDoor
