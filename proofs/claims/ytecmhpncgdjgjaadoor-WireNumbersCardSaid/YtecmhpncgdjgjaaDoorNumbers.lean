/-
  The statement WireNumbers of package sigillaw2, walked. Conditions: the rows of characters lie as they are laid. (Printed by gen_numbers.py.)
-/
import Derived.Test.YtecmhpncgdjgjaaDoorLaid
import Derived.Test.YtecmhpncgdjgjaaDoorZigs
import Derived.Deep.RegionHeld3
namespace Go.Proofs.YtecmhpncgdjgjaaDoor
open Go.RowKit
set_option linter.unusedVariables false
set_option linter.unusedSimpArgs false

theorem cellAt_lt {w : World} {a : Addr} {v : Value} (h : w.cell? a = some v) : a.block < w.heap.size := by
  rcases Nat.lt_or_ge a.block w.heap.size with h1 | h1
  · exact h1
  · simp [World.cell?, Array.getElem?_eq_none h1] at h
theorem keep_step {X wq xn : World} {a b : Addr} {x y : Value} (hS : wq.cell? a = some x ∧ wq.cell? b = some y ∧ Below X.heap.size X wq) (hb : Below wq.heap.size wq xn) : xn.cell? a = some x ∧ xn.cell? b = some y ∧ Below X.heap.size X xn :=
  ⟨(hb.cell (cellAt_lt hS.1)).trans hS.1, (hb.cell (cellAt_lt hS.2.1)).trans hS.2.1, hS.2.2.trans (hb.mono hS.2.2.size)⟩

set_option maxHeartbeats 16000000 in
set_option maxRecDepth 100000 in
theorem numbers_walk (a : Option Addr) (len cap : Nat) (zs : List Int) (w : World) (h : IsRow .i64 w a len cap zs) (hr : RowsAt w) : Calls Tryd.prog 3 #[.slice a len cap] w fun e w' => e = .returned (.bool true) ∧ Below w.heap.size w w' := by
  have HH := Lib.hid h
  obtain ⟨hc1, hc2⟩ := h.cap
  clear h
  go_enter Tryd.func3, Tryd.ntmps3
  go_wp2_with fail
  refine (known_any w hr).mono ?_
  rintro e w1 ⟨rfl, hb1⟩
  go_wp2_with fail
  go_loopw [3] (fun vi wr => ∃ k : Nat, vi = .int .i64 k ∧ (k = 0 ∨ k + 1 ≤ len) ∧ Below w.heap.size w wr) (fun vi _ => len - (intOf vi).toNat)
  case atStart => exact ⟨0, rfl, .inl rfl, hb1⟩
  case round =>
    obtain ⟨k, rfl, hk, hbw⟩ := hrel
    by_cases hlt : k + 1 < len
    · obtain ⟨g, off, rfl, hc, h64⟩ := HH.out.int k (by omega)
      obtain ⟨g2, off2, hga, hd, g64⟩ := HH.out.int (k + 1) hlt
      cases hga
      have hgl := cell_lt hc
      have kc := hbw.cell (p := ⟨g, off + k, none⟩) (cell_lt hc)
      rw [hc] at kc
      have kd := hbw.cell (p := ⟨g, off + (k + 1), none⟩) (cell_lt hd)
      rw [hd] at kd
      obtain ⟨v, hv⟩ : ∃ v, zs.getD k 0 = v := ⟨_, rfl⟩
      obtain ⟨u, hu⟩ : ∃ u, zs.getD (k + 1) 0 = u := ⟨_, rfl⟩
      rw [hv] at kc h64
      rw [hu] at kd g64
      have H64 := Lib.hid h64
      have G64 := Lib.hid g64
      have HB := Lib.hid hbw
      have hbs := hbw.size
      have hki : (k : Int) + 1 = ((k + 1 : Nat) : Int) := by omega
      obtain ⟨k1, hk1⟩ : ∃ k1, k + 1 = k1 := ⟨_, rfl⟩
      have hkl : k < len := by omega
      rw [hk1] at kd hki hlt
      have hwk : IntKind.i64.wrap (k1 : Int) = (k1 : Int) := by rw [IntKind.wrap_i64]; omega
      have HK1 := Lib.hid hk1
      clear hc hd hv hu h64 g64 hk1
      go_wp2_with fail
      refine (wVarint_any v wr).mono ?_
      rintro e x1 ⟨v1, rfl, ho1, hb1⟩
      have HB := Lib.hid (HB.out.trans (hb1.mono HB.out.size))
      have kc := hb1.cell (p := ⟨g, off + k, none⟩) (cell_lt kc) |>.trans kc
      have kd := hb1.cell (p := ⟨g, off + k1, none⟩) (cell_lt kd) |>.trans kd
      have FA := Lib.hid (show BytesAt (fun _ => True) x1 v1 (vb (Go.Proofs.YtecmhpncgdjgjaaDoor.u64 v)) from ho1.reads.mono fun _ _ => trivial)
      clear hb1
      go_wp2_with fail
      refine (zig_any v H64.out x1).mono ?_
      rintro e _ ⟨rfl, rfl⟩
      go_wp2_with fail
      refine (zag_any v x1).mono ?_
      rintro e _ ⟨rfl, rfl⟩
      go_wp2_with fail
      refine (rVarint_any v H64.out x1).mono ?_
      rintro e x2 ⟨v2, rfl, ho2, hb2⟩
      have HB := Lib.hid (HB.out.trans (hb2.mono HB.out.size))
      have kc := hb2.cell (p := ⟨g, off + k, none⟩) (cell_lt kc) |>.trans kc
      have kd := hb2.cell (p := ⟨g, off + k1, none⟩) (cell_lt kd) |>.trans kd
      have FA := Lib.hid (FA.out.later hb2)
      have FB := Lib.hid (show BytesAt (fun _ => True) x2 v2 (vb (Go.Proofs.YtecmhpncgdjgjaaDoor.u64 v)) from ho2.reads.mono fun _ _ => trivial)
      clear hb2
      go_wp2_with fail
      refine (same_any (fun _ => True) (fun _ => True) (vb (Go.Proofs.YtecmhpncgdjgjaaDoor.u64 v)) (vb (Go.Proofs.YtecmhpncgdjgjaaDoor.u64 v)) _ _ x2 FA.out FB.out).mono ?_
      rintro e x3 ⟨rfl, hb3⟩
      rw [show decide ((vb (Go.Proofs.YtecmhpncgdjgjaaDoor.u64 v)) = (vb (Go.Proofs.YtecmhpncgdjgjaaDoor.u64 v))) = true by simp]
      have HB := Lib.hid (HB.out.trans (hb3.mono HB.out.size))
      have kc := hb3.cell (p := ⟨g, off + k, none⟩) (cell_lt kc) |>.trans kc
      have kd := hb3.cell (p := ⟨g, off + k1, none⟩) (cell_lt kd) |>.trans kd
      have FA := Lib.hid (FA.out.later hb3)
      have FB := Lib.hid (FB.out.later hb3)
      clear hb3
      have hz1 : (zigV v != zigV v) = false := by simp
      have hz2 : (zagV v != zagV v) = false := by simp
      go_wp2_with fail
      refine (rZig_any v H64.out x3).mono ?_
      rintro e _ ⟨rfl, rfl⟩
      go_wp2_with fail
      refine (rZag_any v H64.out x3).mono ?_
      rintro e _ ⟨rfl, rfl⟩
      obtain ⟨R, hR⟩ : ∃ R, fixedOf v u = R := ⟨_, rfl⟩
      have HR := Lib.hid hR
      clear hR
      have herr : (R.2 != R.2) = false := by simp
      go_wp2_with fail
      go_region_held3 (fun w' => w'.cell? ⟨g, off + k, none⟩ = some (.int .i64 v) ∧ w'.cell? ⟨g, off + k1, none⟩ = some (.int .i64 u) ∧ Below x3.heap.size x3 w')
        (first | exact ⟨kc, kd, (Below.refl _ _).drew⟩ | exact keep_step (by assumption) (by assumption))
        (first | (go_at_call 23; refine (HR.out ▸ wFixed_any v u H64.out _).mono ?_; rintro e x4 ⟨v4, rfl, ho4, hbx4⟩))
      have hH4 : x4.cell? ⟨g, off + k, none⟩ = some (.int .i64 v) ∧ x4.cell? ⟨g, off + k1, none⟩ = some (.int .i64 u) ∧ Below x3.heap.size x3 x4 := by assumption
      have hb4 := hH4.2.2
      clear hbx4 hH4
      have HB := Lib.hid (HB.out.trans (hb4.mono HB.out.size))
      have kc := hb4.cell (p := ⟨g, off + k, none⟩) (cell_lt kc) |>.trans kc
      have kd := hb4.cell (p := ⟨g, off + k1, none⟩) (cell_lt kd) |>.trans kd
      have FA := Lib.hid (show BytesAt (fun _ => True) x4 v4 R.1 from ho4.reads.mono fun _ _ => trivial)
      clear hb4
      go_wp2_with fail
      go_region_held3 (fun w' => w'.cell? ⟨g, off + k, none⟩ = some (.int .i64 v) ∧ w'.cell? ⟨g, off + k1, none⟩ = some (.int .i64 u) ∧ Below x4.heap.size x4 w')
        (first | exact ⟨kc, kd, (Below.refl _ _).drew⟩ | exact keep_step (by assumption) (by assumption))
        (first | (go_at_call 24; refine (HR.out ▸ rFixed_any v u H64.out _).mono ?_; rintro e x5 ⟨v5, rfl, ho5, hbx5⟩))
      have hH5 : x5.cell? ⟨g, off + k, none⟩ = some (.int .i64 v) ∧ x5.cell? ⟨g, off + k1, none⟩ = some (.int .i64 u) ∧ Below x4.heap.size x4 x5 := by assumption
      have hb5 := hH5.2.2
      clear hbx5 hH5
      have HB := Lib.hid (HB.out.trans (hb5.mono HB.out.size))
      have kc := hb5.cell (p := ⟨g, off + k, none⟩) (cell_lt kc) |>.trans kc
      have kd := hb5.cell (p := ⟨g, off + k1, none⟩) (cell_lt kd) |>.trans kd
      have FA := Lib.hid (FA.out.later hb5)
      have FB := Lib.hid (show BytesAt (fun _ => True) x5 v5 R.1 from ho5.reads.mono fun _ _ => trivial)
      clear hb5
      go_wp2_with fail
      refine (same_any (fun _ => True) (fun _ => True) R.1 R.1 _ _ x5 FA.out FB.out).mono ?_
      rintro e x6 ⟨rfl, hb6⟩
      rw [show decide (R.1 = R.1) = true by simp]
      have HB := Lib.hid (HB.out.trans (hb6.mono HB.out.size))
      have kc := hb6.cell (p := ⟨g, off + k, none⟩) (cell_lt kc) |>.trans kc
      have kd := hb6.cell (p := ⟨g, off + k1, none⟩) (cell_lt kd) |>.trans kd
      have FA := Lib.hid (FA.out.later hb6)
      have FB := Lib.hid (FB.out.later hb6)
      clear hb6
      go_wp2_with fail
      go_loopw [11] (fun vs wq => ∃ s : Nat, vs = .int .i64 s ∧ (s = 4 ∨ s = 8 ∨ s = 12) ∧ Below x6.heap.size x6 wq) (fun vs _ => 20 - (intOf vs).toNat)
      case atStart => exact ⟨4, rfl, .inl rfl, Below.refl _ _⟩
      case round =>
        obtain ⟨s, rfl, hs, hbq⟩ := hrel
        have HB0 := Lib.hid (HB.out.trans (hbq.mono HB.out.size))
        have kc0 := hbq.cell (p := ⟨g, off + k, none⟩) (cell_lt kc) |>.trans kc
        have kd0 := hbq.cell (p := ⟨g, off + k1, none⟩) (cell_lt kd) |>.trans kd
        by_cases hs8 : s ≤ 8
        · have HS := Lib.hid hs
          have HBQ := Lib.hid hbq
          have HB := HB0
          have kc := kc0
          have kd := kd0
          clear hs hbq HB0 kc0 kd0
          obtain ⟨R, hR⟩ : ∃ R, fixedOf v s = R := ⟨_, rfl⟩
          have HR := Lib.hid hR
          have herr : (R.2 != R.2) = false := by simp
          clear hR
          go_wp2_with fail
          refine (HR.out ▸ wFixed_any v s H64.out wr).mono ?_
          rintro e x7 ⟨v7, rfl, ho7, hb7⟩
          have HBQ := Lib.hid (HBQ.out.trans (hb7.mono HBQ.out.size))
          have HB := Lib.hid (HB.out.trans (hb7.mono HB.out.size))
          have kc := hb7.cell (p := ⟨g, off + k, none⟩) (cell_lt kc) |>.trans kc
          have kd := hb7.cell (p := ⟨g, off + k1, none⟩) (cell_lt kd) |>.trans kd
          have FA := Lib.hid (show BytesAt (fun _ => True) x7 v7 R.1 from ho7.reads.mono fun _ _ => trivial)
          clear hb7
          go_wp2_with fail
          refine (HR.out ▸ rFixed_any v s H64.out x7).mono ?_
          rintro e x8 ⟨v8, rfl, ho8, hb8⟩
          have HBQ := Lib.hid (HBQ.out.trans (hb8.mono HBQ.out.size))
          have HB := Lib.hid (HB.out.trans (hb8.mono HB.out.size))
          have kc := hb8.cell (p := ⟨g, off + k, none⟩) (cell_lt kc) |>.trans kc
          have kd := hb8.cell (p := ⟨g, off + k1, none⟩) (cell_lt kd) |>.trans kd
          have FA := Lib.hid (FA.out.later hb8)
          have FB := Lib.hid (show BytesAt (fun _ => True) x8 v8 R.1 from ho8.reads.mono fun _ _ => trivial)
          clear hb8
          go_wp2_with fail
          refine (same_any (fun _ => True) (fun _ => True) R.1 R.1 _ _ x8 FA.out FB.out).mono ?_
          rintro e x9 ⟨rfl, hb9⟩
          rw [show decide (R.1 = R.1) = true by simp]
          have HBQ := Lib.hid (HBQ.out.trans (hb9.mono HBQ.out.size))
          have HB := Lib.hid (HB.out.trans (hb9.mono HB.out.size))
          have kc := hb9.cell (p := ⟨g, off + k, none⟩) (cell_lt kc) |>.trans kc
          have kd := hb9.cell (p := ⟨g, off + k1, none⟩) (cell_lt kd) |>.trans kd
          have FA := Lib.hid (FA.out.later hb9)
          have FB := Lib.hid (FB.out.later hb9)
          clear hb9
          go_wp2_with fail
          go_roundw
          case rel => exact ⟨s + 4, by simp, by have := HS.out; omega, HBQ.out⟩
          case measure => have := HS.out; simp [intOf] <;> omega
        · have hs12 : s = 12 := by omega
          subst hs12
          have HB := HB0
          have kc := kc0
          have kd := kd0
          clear hs hbq HB0 kc0 kd0 hs8
          obtain ⟨R, hR⟩ : ∃ R, tagOf v u = R := ⟨_, rfl⟩
          have HR := Lib.hid hR
          clear hR
          have herr : (R.2 != R.2) = false := by simp
          go_wp2_with fail
          go_region_held3 (fun w' => w'.cell? ⟨g, off + k, none⟩ = some (.int .i64 v) ∧ w'.cell? ⟨g, off + k1, none⟩ = some (.int .i64 u) ∧ Below wr.heap.size wr w')
            (first | exact ⟨kc, kd, (Below.refl _ _).drew⟩ | exact keep_step (by assumption) (by assumption))
            (first | (go_at_call 25; refine (HR.out ▸ wTag_any v u _).mono ?_; rintro e x10 ⟨v10, rfl, ho10, hbx10⟩))
          have hH10 : x10.cell? ⟨g, off + k, none⟩ = some (.int .i64 v) ∧ x10.cell? ⟨g, off + k1, none⟩ = some (.int .i64 u) ∧ Below wr.heap.size wr x10 := by assumption
          have hb10 := hH10.2.2
          clear hbx10 hH10
          have HB := Lib.hid (HB.out.trans (hb10.mono HB.out.size))
          have kc := hb10.cell (p := ⟨g, off + k, none⟩) (cell_lt kc) |>.trans kc
          have kd := hb10.cell (p := ⟨g, off + k1, none⟩) (cell_lt kd) |>.trans kd
          have FA := Lib.hid (show BytesAt (fun _ => True) x10 v10 R.1 from ho10.reads.mono fun _ _ => trivial)
          clear hb10
          go_wp2_with fail
          go_region_held3 (fun w' => w'.cell? ⟨g, off + k, none⟩ = some (.int .i64 v) ∧ w'.cell? ⟨g, off + k1, none⟩ = some (.int .i64 u) ∧ Below x10.heap.size x10 w')
            (first | exact ⟨kc, kd, (Below.refl _ _).drew⟩ | exact keep_step (by assumption) (by assumption))
            (first | (go_at_call 26; refine (HR.out ▸ rTag_any v u _).mono ?_; rintro e x11 ⟨v11, rfl, ho11, hbx11⟩))
          have hH11 : x11.cell? ⟨g, off + k, none⟩ = some (.int .i64 v) ∧ x11.cell? ⟨g, off + k1, none⟩ = some (.int .i64 u) ∧ Below x10.heap.size x10 x11 := by assumption
          have hb11 := hH11.2.2
          clear hbx11 hH11
          have HB := Lib.hid (HB.out.trans (hb11.mono HB.out.size))
          have kc := hb11.cell (p := ⟨g, off + k, none⟩) (cell_lt kc) |>.trans kc
          have kd := hb11.cell (p := ⟨g, off + k1, none⟩) (cell_lt kd) |>.trans kd
          have FA := Lib.hid (FA.out.later hb11)
          have FB := Lib.hid (show BytesAt (fun _ => True) x11 v11 R.1 from ho11.reads.mono fun _ _ => trivial)
          clear hb11
          go_wp2_with fail
          refine (same_any (fun _ => True) (fun _ => True) R.1 R.1 _ _ x11 FA.out FB.out).mono ?_
          rintro e x12 ⟨rfl, hb12⟩
          rw [show decide (R.1 = R.1) = true by simp]
          have HB := Lib.hid (HB.out.trans (hb12.mono HB.out.size))
          have kc := hb12.cell (p := ⟨g, off + k, none⟩) (cell_lt kc) |>.trans kc
          have kd := hb12.cell (p := ⟨g, off + k1, none⟩) (cell_lt kd) |>.trans kd
          have FA := Lib.hid (FA.out.later hb12)
          have FB := Lib.hid (FB.out.later hb12)
          clear hb12
          go_wp2_with fail
          go_roundw
          case rel => exact ⟨k1, by first | rfl | simp | (rw [← hki]), by omega, HB.out⟩
          case measure => have := HK1.out; simp [intOf] <;> omega
    · obtain ⟨k2, hk2⟩ : ∃ k2, k + 1 = k2 := ⟨_, rfl⟩
      have hk2i : (k : Int) + 1 = (k2 : Int) := by omega
      have hge : (len : Int) ≤ (k2 : Int) := by omega
      have hk63 : (k2 : Int) ≤ 9223372036854775807 := by omega
      clear hk hlt hk2
      go_wp2_with fail
      go_ret
      exact ⟨rfl, hbw⟩
end Go.Proofs.YtecmhpncgdjgjaaDoor
