/-
  Twin, within and long of the statements, walked. Conditions: none but lengths that a machine has.
-/
import Derived.Test.YtecmhpncgdjgjaaDoorHand
namespace Go.Proofs.YtecmhpncgdjgjaaDoor
open Go.RowKit
set_option linter.unusedVariables false
set_option linter.unusedSimpArgs false

theorem OwnB.of_row {w : World} {B g : Nat} {b : List UInt8} (hB : B ≤ g) (h : w.heap[g]? = some (.cells (Lib.byteCells b).toArray 5 (0, 0))) (hl : b.length ≤ 9223372036854775807) : OwnB w B (.slice (some ⟨g, 0, none⟩) b.length b.length) b := by
  have hbl : (Lib.byteCells b).length = b.length := Lib.byteCells_length b
  refine ⟨by omega, .inr ⟨g, b.length, _, rfl, hB, h, Nat.le_refl _, by unfold maxLen; exact hl, by simp [hbl], ?_⟩⟩
  simp [hbl]
  rw [← hbl, List.take_length]

/-- A byte written into a row of one's own. -/
theorem OwnB.set {w : World} {B g n cap : Nat} {b : List UInt8} (h : OwnB w B (.slice (some ⟨g, 0, none⟩) n cap) b) (k : Nat) (hk : k < b.length) (c : UInt8) : OwnB (w.setCell ⟨g, k, none⟩ (.int .u8 (c.toNat : Int))) B (.slice (some ⟨g, 0, none⟩) n cap) (b.set k c) := by
  have hbl : (Lib.byteCells b).length = b.length := Lib.byteCells_length b
  obtain ⟨h1, h2 | ⟨g', cap', cur, e, hg, hh, hn, hm, hs, ht⟩⟩ := h
  · cases h2.1
  · injection e with e1 e2 e3
    injection e1 with e4
    injection e4 with e5
    subst e5 e3 e2
    refine ⟨by simp [Lib.byteCells], .inr ⟨g, cap, cur.setIfInBounds k (.int .u8 (c.toNat : Int)), ?_, hg, ?_, by simpa using hn, hm, by simpa using hs, ?_⟩⟩
    · simp
    · rw [heap_setCell_same w g k _ 5 _ hh]
    · rw [Array.toList_setIfInBounds, List.length_set, List.take_set, ht]
      simp only [Lib.byteCells]
      rw [List.map_set]

set_option maxHeartbeats 2000000 in
set_option maxRecDepth 100000 in
theorem twin_any (w : World) (b : List UInt8) (v : Value) (h : BytesAt (fun _ => True) w v b) (hb : b.length ≤ 140737488355000) : Calls Tryd.prog 37 #[v] w (News w b) := by
  have HH := Lib.hid h
  obtain ⟨a, cap, rfl, h1, h2, h3⟩ := h
  obtain ⟨i0, hi, hz0, hz1, hz2⟩ := info_parts infoB
  obtain ⟨N, hN⟩ : ∃ N, b.length = N := ⟨_, rfl⟩
  have hsz1 : (Tryd.prog.info? 5).map (·.size) = some 1 := by rw [hi]; simp [hz1]
  clear h3
  rw [hN] at h1 hb ⊢
  go_enter Tryd.func37, Tryd.ntmps37
  go_wp2_with (refine wpList_make_full w rfl _ _ 24 rfl w.heap.size 5 i0 (.int .u8 0) 1 Tryd.underlying24 hi hz0 hz1 .i64 .i64 N N N rfl rfl rfl rfl (by rw [hz2]; omega) (by unfold maxLen; omega) (Nat.le_refl _) ?_)
  intro w1 hmake hgm
  have hbel : Below w.heap.size w w1 := (Below.refl _ _).grown hgm (Nat.le_refl _) (fun k e => by cases e)
  have hrow : ∃ Z : List Value, Z.length = N ∧ w1.heap[w.heap.size]? = some (.cells Z.toArray 5 (0, 0)) := by
    rcases hmake.2 with ⟨e, _⟩ | ⟨g, cap2, cur, e, hbg, hg, hnc, hcm, hcs, _⟩
    · cases e
    · injection e with e1 e2 e3
      injection e1 with e4
      injection e4 with e5
      subst e5 e3
      exact ⟨cur.toList, by rw [Array.length_toList, hcs]; omega, by rw [hg]⟩
  obtain ⟨Z, hZ, hzrow⟩ := hrow
  have HZ := Lib.hid hzrow
  have HBE := Lib.hid hbel
  have hbl : (Lib.byteCells b).length = N := by rw [Lib.byteCells_length, hN]
  clear hmake hgm hbel hzrow
  rw [hN] at HH
  go_wp2_with (refine wpList_copy_splice rfl _ _ 24 24 rfl 5 Tryd.underlying24 hsz1 _ _ N N N cap rfl rfl w.heap.size 0 Z 5 HZ.out (Lib.byteCells b) (by rw [hbl]; exact (Nat.min_self _).symm) (fun h0 => ⟨rfl, bytes_cells (HH.out.later HBE.out) h0⟩) (by omega) (byteCells_ones b) w.heap.size w HBE.out (Nat.le_refl _) ?_)
  intro w2 hrow2 hbel2
  have hsp : splice Z 0 (Lib.byteCells b) = Lib.byteCells b := by
    unfold splice
    simp
    rw [hbl]
    omega
  rw [hsp] at hrow2
  have HO := Lib.hid (show OwnB w2 w.heap.size (.slice (some ⟨w.heap.size, 0, none⟩) N N) b by
    have := OwnB.of_row (Nat.le_refl _) hrow2.out (by omega)
    rw [hN] at this
    exact this)
  have HBE2 := Lib.hid hbel2
  clear hrow2 hbel2 hsp
  go_wp2_with fail
  go_ret
  exact ⟨_, rfl, HO.out, HBE2.out⟩

/-- v, brought into lo .. hi. -/
def withinV (v lo hi : Int) : Int := lo + v % (hi - lo + 1)
theorem withinV_le {v lo hi : Int} (h : lo ≤ hi) : lo ≤ withinV v lo hi ∧ withinV v lo hi ≤ hi := by
  unfold withinV
  have h1 := Int.emod_nonneg v (b := hi - lo + 1) (by omega)
  have h2 := Int.emod_lt_of_pos v (b := hi - lo + 1) (by omega)
  omega

set_option maxHeartbeats 2000000 in
set_option maxRecDepth 100000 in
theorem within_any (v lo hi : Int) (hlo : 0 ≤ lo) (hh : lo ≤ hi) (hm : hi < 4611686018427387904) (w : World) : Calls Tryd.prog 39 #[.int .i64 v, .int .i64 lo, .int .i64 hi] w fun e w' => e = .returned (.int .i64 (withinV v lo hi)) ∧ w = w' := by
  obtain ⟨n, hn⟩ : ∃ n, hi - lo + 1 = n := ⟨_, rfl⟩
  have hn0 : 0 < n := by omega
  have hW : withinV v lo hi = lo + v % n := by unfold withinV; rw [hn]
  have e1 := Int.emod_nonneg v (b := n) (by omega)
  have e2 := Int.emod_lt_of_pos v (b := n) (by omega)
  obtain ⟨t, ht⟩ : ∃ t, Int.tmod v n = t := ⟨_, rfl⟩
  have e3 : t = v % n ∨ t = v % n - n := by
    rw [← ht, Int.tmod_eq_emod]
    split
    · left; simp
    · right; rw [Int.natAbs_of_nonneg (by omega)]
  rw [hW]
  clear hW
  go_enter Tryd.func39, Tryd.ntmps39
  go_wp2_with fail
  all_goals go_ret
  all_goals exact ⟨ret_int (by omega), rfl⟩

/-- A byte with the bit that says: more. -/
def hi8 (c : UInt8) : UInt8 := UInt8.ofNat (c.toNat % 128 + 128)
theorem hi8_or (c : UInt8) : bits BinOp.or IntKind.u8 (c.toNat : Int) 128 = ((hi8 c).toNat : Int) := by
  have h := or128 ⟨c.toNat, c.toNat_lt⟩
  simp only at h
  rw [h]
  unfold hi8
  rw [UInt8.toNat_ofNat']
  simp
  omega
/-- A varint's bytes with n bytes more, as far as ten suffice. -/
def longV : Nat → List UInt8 → List UInt8
  | 0, b => b
  | n + 1, b => if b.length < 10 then longV n (b.set (b.length - 1) (hi8 (b.getD (b.length - 1) 0)) ++ [0]) else b
theorem longV_more {n : Nat} {b : List UInt8} (h : b.length < 10) : longV (n + 1) b = longV n (b.set (b.length - 1) (hi8 (b.getD (b.length - 1) 0)) ++ [0]) := by rw [longV, if_pos h]
theorem longV_stop {n : Nat} {b : List UInt8} (h : ¬ b.length < 10) : longV n b = b := by
  cases n with
  | zero => rfl
  | succ n => rw [longV, if_neg h]

theorem OwnB.form {w : World} {B : Nat} {v : Value} {b : List UInt8} (h : OwnB w B v b) (h0 : 0 < b.length) : ∃ g cap cur, v = .slice (some ⟨g, 0, none⟩) b.length cap ∧ B ≤ g ∧ w.heap[g]? = some (.cells cur 5 (0, 0)) ∧ b.length ≤ cap ∧ cap ≤ 9223372036854775807 ∧ ∀ k (hk : k < b.length), cur[k]? = some (.int .u8 ((b[k]'hk).toNat : Int)) := by
  obtain ⟨h1, h2 | ⟨g, cap, cur, e, hg, hh, hn, hm, hs, ht⟩⟩ := h
  · omega
  · refine ⟨g, cap, cur, e, hg, hh, hn, by unfold maxLen at hm; exact hm, fun k hk => ?_⟩
    have h3 : (cur.toList.take (b.length * 1))[k]? = (Lib.byteCells b)[k]? := by rw [ht]
    rw [List.getElem?_take_of_lt (by omega), byteCells_get, List.getElem?_eq_getElem hk, Array.getElem?_toList] at h3
    exact h3

set_option maxHeartbeats 4000000 in
set_option maxRecDepth 100000 in
theorem long_any (w : World) (b : List UInt8) (n : Nat) (v : Value) (h : BytesAt (fun _ => True) w v b) (h1 : 1 ≤ b.length) (hb : b.length ≤ 10) (hn : n ≤ 1000) : Calls Tryd.prog 40 #[v, .int .i64 n] w (News w (longV n b)) := by
  have HH := Lib.hid h
  obtain ⟨i0, hi, hz0, hz1, hz2⟩ := info_parts infoB
  go_enter Tryd.func40, Tryd.ntmps40
  go_wp2_with fail
  refine (twin_any w b v h (by omega)).mono ?_
  rintro e w1 ⟨v1, rfl, ho1, hb1⟩
  have HO1 := Lib.hid ho1
  have HB1 := Lib.hid hb1
  clear ho1 hb1
  go_wp2_with fail
  go_loopw [5, 6] (fun v5 v6 wr => ∃ (i : Nat) (l : List UInt8), v6 = .int .i64 i ∧ i ≤ n ∧ 1 ≤ l.length ∧ l.length ≤ 10 ∧ longV (n - i) l = longV n b ∧ OwnB wr w.heap.size v5 l ∧ Below w.heap.size w wr) (fun _ v6 _ => n - (intOf v6).toNat)
  case atStart => exact ⟨0, b, rfl, Nat.zero_le _, h1, hb, rfl, HO1.out, HB1.out⟩
  case round =>
    obtain ⟨i, l, rfl, hin, hl1, hl10, hlv, hown, hbw⟩ := hrel
    obtain ⟨g, cap, cur, rfl, hBg, hrow, hcap, hcm, hget⟩ := hown.form (by omega)
    have HO := Lib.hid hown
    have HB := Lib.hid hbw
    have HG := Lib.hid hget
    have HROW := Lib.hid hrow
    obtain ⟨L, hL⟩ : ∃ L, l.length = L := ⟨_, rfl⟩
    have HL := Lib.hid hL
    have HLV := Lib.hid hlv
    rw [hL] at hl1 hl10 hcap ⊢
    clear hown hbw hget hL hlv hrow
    by_cases hiN : i < n
    · have hda : decide (i < n) = true := by simp; omega
      have hiz : (i : Int) < (n : Int) := by omega
      by_cases hl9 : L < 10
      · have hdb : decide (L < 10) = true := by simp; omega
        obtain ⟨c, hc⟩ : ∃ c, l.getD (L - 1) 0 = c := ⟨_, rfl⟩
        have kc := Lib.cell_of_heap HROW.out (L - 1)
        rw [HG.out (L - 1) (by rw [HL.out]; omega)] at kc
        rw [show l[L - 1]'(by rw [HL.out]; omega) = c by rw [← hc, List.getD_eq_getElem?_getD, List.getElem?_eq_getElem]; rfl] at kc
        have kz := frozen_of_row wr g (L - 1) _ _ HROW.out
        have hor := hi8_or c
        have HC := Lib.hid hc
        clear hc
        obtain ⟨l2, hl2⟩ : ∃ l2, l.set (L - 1) (hi8 c) = l2 := ⟨_, rfl⟩
        have hl2L : l2.length = L := by rw [← hl2, List.length_set, HL.out]
        have hown2 : OwnB (wr.setCell ⟨g, L - 1, none⟩ (.int .u8 ((hi8 c).toNat : Int))) w.heap.size (.slice (some ⟨g, 0, none⟩) L cap) l2 := by
          have := HO.out.set (L - 1) (by rw [HL.out]; omega) (hi8 c)
          rw [HL.out, hl2] at this
          exact this
        have HLV2 := Lib.hid (show longV (n - (i + 1)) (l2 ++ [0]) = longV n b by
          rw [← HLV.out, show n - i = (n - (i + 1)) + 1 by omega, longV_more (by rw [HL.out]; exact hl9), HL.out, HC.out, hl2])
        have HBS := Lib.hid (HB.out.setCell (p := ⟨g, L - 1, none⟩) hBg (.int .u8 ((hi8 c).toNat : Int)))
        clear hl2
        go_wp2_with (at_builtin; refine wpList_append_own_at _ rfl _ _ 24 rfl w.heap.size 5 i0 (.int .u8 0) 1 1 Tryd.underlying24 hi hz0 hz1 hz2 rfl (by decide) _ _ _ rfl (World.ownsRow.alloc hown2 _) ⟨wr.heap.size, 0, none⟩ 1 1 [.int .u8 0] rfl rfl ?c1 ?c2 ?c3 ?c4 ?c5 ?_)
        case c1 => exact news_row (by simp)
        case c2 => intro u hu; simp at hu; rw [hu]; rfl
        case c3 => unfold maxLen; omega
        case c4 => omega
        case c5 => have := HBS.out.size; simp at this ⊢; omega
        intro v' w2 hown' hgrow _ hat
        have hY : OwnB w2 w.heap.size v' (l2 ++ [0]) := OwnB.put hown' rfl (by simp [hl2L])
        have hB2 : Below w.heap.size w w2 := (HBS.out.alloc HBS.out.size _).grown hgrow (by have := HBS.out.size; simp at this ⊢; omega) (fun k e => by simp [Value.ownBlock] at e; omega)
        have HY := Lib.hid hY
        have HB2 := Lib.hid hB2
        clear hown' hgrow hat hY hB2
        go_wp2_with fail
        go_roundw
        case rel => exact ⟨i + 1, l2 ++ [0], by simp, by omega, by simp, by simp; omega, HLV2.out, HY.out, HB2.out⟩
        case measure => simp [intOf] <;> omega
      · have hdb : decide (L < 10) = false := by simp; omega
        have HE := Lib.hid (show longV n b = l by rw [← HLV.out]; exact longV_stop (by rw [HL.out]; exact hl9))
        go_wp2_with fail
        go_ret
        rw [HE.out]
        exact ⟨_, rfl, by have := HO.out; rw [HL.out] at this; exact this, HB.out⟩
    · have hda : decide (i < n) = false := by simp; omega
      have HE := Lib.hid (show longV n b = l by rw [← HLV.out, show n - i = 0 by omega]; rfl)
      go_wp2_with fail
      go_ret
      rw [HE.out]
      exact ⟨_, rfl, by have := HO.out; rw [HL.out] at this; exact this, HB.out⟩
end Go.Proofs.YtecmhpncgdjgjaaDoor
