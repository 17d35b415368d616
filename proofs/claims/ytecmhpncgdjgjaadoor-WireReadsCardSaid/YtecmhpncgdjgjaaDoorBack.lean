/-
  Back of the statements, walked. Conditions: the list is as Hand left it.
-/
import Derived.Test.YtecmhpncgdjgjaaDoorHand
import Derived.Test.YtecmhpncgdjgjaaDoorRdr
namespace Go.Proofs.YtecmhpncgdjgjaaDoor
open Go.RowKit
set_option linter.unusedVariables false
set_option linter.unusedSimpArgs false

abbrev handC (b : List UInt8) : List Value := Lib.byteCells b ++ List.replicate 3 (Value.int .u8 171)
theorem handC_len (b : List UInt8) : (handC b).length = b.length + 3 := by simp [handC, Lib.byteCells_length]
theorem hand_reads {w : World} {g : Nat} {b : List UInt8} (h : w.heap[g]? = some (.cells (handC b).toArray 5 (0, 0))) (hb : b.length ≤ 140737488355000) : BytesAt (fun _ => True) w (.slice (some ⟨g, 0, none⟩) b.length (b.length + 3)) b := by
  refine ⟨_, _, rfl, by omega, by omega, .inr ⟨g, 0, rfl, trivial, fun k hk => ?_⟩⟩
  rw [Lib.cell_of_heap h, List.getElem?_toArray, Nat.zero_add, List.getElem?_append_left (by rw [Lib.byteCells_length]; exact hk), byteCells_get, List.getElem?_eq_getElem hk]
  rfl

set_option maxHeartbeats 4000000 in
set_option maxRecDepth 100000 in
theorem back_any (w : World) (g : Nat) (b : List UInt8) (u : Value) (h : w.heap[g]? = some (.cells (handC b).toArray 5 (0, 0))) (hu : BytesAt (fun _ => True) w u b) (hb : b.length ≤ 140737488355000) :
    Calls Tryd.prog 50 #[.slice (some ⟨g, 0, none⟩) b.length (b.length + 3), u] w fun e w' => e = .returned (.bool true) ∧ Turn w.heap.size g w w' := by
  have HS := Lib.hid (same_any _ _ b b _ _ w (hand_reads h hb) hu)
  have HH := Lib.hid h
  have hgl : g < w.heap.size := (Array.getElem?_eq_some_iff.1 h).1
  obtain ⟨a, cap, rfl, h1, h2, h3⟩ := hu
  obtain ⟨N, hN⟩ : ∃ N, b.length + 3 = N := ⟨_, rfl⟩
  have hNi : (b.length : Int) + 3 = (N : Int) := by omega
  have hlen := handC_len b
  rw [hN] at hlen HS
  rw [hN]
  clear h3 h
  go_enter Tryd.func50, Tryd.ntmps50
  go_wp2_with fail
  refine HS.out.mono ?_
  rintro e w1 ⟨rfl, hb1⟩
  simp only [decide_true]
  have hrow := (hb1.block g hgl).trans HH.out
  have HB1 := Lib.hid hb1
  have HR1 := Lib.hid hrow
  clear hb1 hrow
  go_wp2_with fail
  go_loopw [5, 7] (fun v5 v7 wr => v5 = .bool true ∧ ∃ j : Nat, v7 = .int .i64 ((b.length + j : Nat) : Int) ∧ j ≤ 3 ∧ Below w.heap.size w wr) (fun _ v7 _ => N - (intOf v7).toNat)
  case atStart => exact ⟨rfl, 0, rfl, by omega, HB1.out⟩
  case round =>
    obtain ⟨rfl, j, rfl, hj, hbw⟩ := hrel
    have hrow := (hbw.block g hgl).trans HH.out
    obtain ⟨m, hm⟩ : ∃ m, b.length + j = m := ⟨_, rfl⟩
    rw [hm]
    by_cases hj3 : j < 3
    · have hmN : m < N := by omega
      have hmz : (m : Int) < (N : Int) := by omega
      have kc := Lib.cell_of_heap hrow m
      have hg171 : (handC b)[m]? = some (Value.int .u8 171) := by
        rw [List.getElem?_append_right (by rw [Lib.byteCells_length]; omega), Lib.byteCells_length, List.getElem?_replicate, if_pos (by omega)]
      rw [List.getElem?_toArray, hg171] at kc
      clear hrow hg171
      go_wp2_with fail
      go_roundw
      case rel => exact ⟨rfl, j + 1, by rw [← Nat.add_assoc, hm]; simp, by omega, hbw⟩
      case measure => simp [intOf] <;> omega
    · have hmN : m = N := by omega
      have hge : (N : Int) ≤ (m : Int) := by omega
      have HBW := Lib.hid hbw
      have HRW := Lib.hid hrow
      clear hrow hmN
      go_wp2_with fail
      go_loopw [8] (fun v8 wr => ∃ (i : Nat) (cur : Array Value), v8 = .int .i64 i ∧ i ≤ N ∧ cur.size = N ∧ wr.heap[g]? = some (.cells cur 5 (0, 0)) ∧ Turn w.heap.size g w wr) (fun v8 _ => N - (intOf v8).toNat)
      case atStart => exact ⟨0, _, rfl, by omega, by simpa using hlen, HRW.out, .of HBW.out⟩
      case round =>
        obtain ⟨i, cur, rfl, hi, hcs, hcur, htn⟩ := hrel
        by_cases hiN : i < N
        · have hiz : (i : Int) < (N : Int) := by omega
          have kc := Lib.cell_of_heap hcur i
          rw [Array.getElem?_eq_getElem (by omega)] at kc
          have kz := frozen_of_row _ g i _ _ hcur
          have HC := Lib.hid (heap_setCell_same _ g i cur 5 (.int .u8 213) hcur)
          clear hcur
          go_wp2_with fail
          go_roundw
          case rel => exact ⟨i + 1, _, by simp, by omega, by simpa using hcs, HC.out, htn.set i _⟩
          case measure => simp [intOf] <;> omega
        · have hge2 : (N : Int) ≤ (i : Int) := by omega
          clear hcur
          go_wp2_with fail
          go_ret
          exact ⟨rfl, htn⟩
end Go.Proofs.YtecmhpncgdjgjaaDoor
