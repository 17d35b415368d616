/-
  Varint of the reference's cursor, walked. Conditions: as for the cursor. (Printed by gen_cur2.py.)
-/
import Derived.Test.YtecmhpncgdjgjaaDoorCur
namespace Go.Proofs.YtecmhpncgdjgjaaDoor
open Go.RowKit
set_option linter.unusedVariables false
set_option linter.unusedSimpArgs false

theorem crv_ends {st : Bool} {l : List UInt8} (h : l.length ≤ lead 9 l) : crv st l = (0, 20, 0) := if_pos h
theorem crv_over {st : Bool} {l : List UInt8} (h : ¬ l.length ≤ lead 9 l) (h2 : lead 9 l = 9 ∧ 1 < (l.getD 9 0).toNat) : crv st l = (0, 21, 0) := (if_neg h).trans (if_pos h2)
theorem crv_longer {st : Bool} {l : List UInt8} (h : ¬ l.length ≤ lead 9 l) (h2 : ¬ (lead 9 l = 9 ∧ 1 < (l.getD 9 0).toNat)) (h3 : st = true ∧ 0 < lead 9 l ∧ (l.getD (lead 9 l) 0).toNat = 0) : crv st l = (0, 22, 0) := (if_neg h).trans ((if_neg h2).trans (if_pos h3))
theorem crv_ok {st : Bool} {l : List UInt8} (h : ¬ l.length ≤ lead 9 l) (h2 : ¬ (lead 9 l = 9 ∧ 1 < (l.getD 9 0).toNat)) (h3 : ¬ (st = true ∧ 0 < lead 9 l ∧ (l.getD (lead 9 l) 0).toNat = 0)) : crv st l = (le7 (l.take (lead 9 l + 1)), 0, lead 9 l + 1) := (if_neg h).trans ((if_neg h2).trans (if_neg h3))
theorem vRd_cbad {st : Bool} {b : List UInt8} {q : Nat} {e : Int} (h : crv st (b.drop q) = (0, e, 0)) (he : e ≠ 0) : vRd st b q = (0, e, q) := by rw [vRd_crv, h, if_neg he]
theorem vRd_cok {st : Bool} {b : List UInt8} {q u n : Nat} (h : crv st (b.drop q) = (u, 0, n)) : vRd st b q = (s64 u, 0, q + n) := by rw [vRd_crv, h]; rfl
theorem drop_getD (b : List UInt8) (q i : Nat) (h : q + i < b.length) : (b.drop q).getD i 0 = b[q + i]'h := by
  rw [List.getD_eq_getElem?_getD, List.getElem?_drop, List.getElem?_eq_getElem h]; rfl
theorem le7_step {l : List UInt8} {n i : Nat} (hi : i ≤ n) (hn : n < l.length) : le7 ((l.take (n + 1)).drop i) = (l.getD i 0).toNat % 128 + 128 * le7 ((l.take (n + 1)).drop (i + 1)) := by
  have hl : i < (l.take (n + 1)).length := by rw [List.length_take]; omega
  rw [List.drop_eq_getElem_cons hl, le7]
  congr 3
  rw [List.getElem_take, List.getD_eq_getElem?_getD, List.getElem?_eq_getElem (by omega)]
  rfl

set_option maxHeartbeats 8000000 in
set_option maxRecDepth 100000 in
theorem crVarint_any (w : World) (p : Nat) (st : Bool) (b : List UInt8) (q : Nat) (a : Option Addr) (cap : Nat) (h : CrAt w p st b q a cap) :
    Calls Tryd.prog 77 #[.pointer (some ⟨p, 0, none⟩)] w (Crs w p st b (vRd st b q).2.2 a cap (.tuple #[.int .i64 (vRd st b q).1, .int .i64 (vRd st b q).2.1])) := by
  obtain ⟨l, hl⟩ : ∃ l, b.drop q = l := ⟨_, rfl⟩
  obtain ⟨N, hN⟩ : ∃ N, lead 9 l = N := ⟨_, rfl⟩
  have hll : l.length = b.length - q := by rw [← hl, List.length_drop]
  have hle := lead_le 9 l
  rw [hN] at hle
  have hbl := h.hb
  have hqb := h.hq
  have HNB := Lib.hid (fun i => lead_byte 9 l i)
  have HNN := Lib.hid (fun i => lead_next 9 l i)
  rw [hN] at HNB HNN
  have HH := Lib.hid h
  have HL := Lib.hid hl
  have HN := Lib.hid hN
  obtain ⟨hN9, hNl⟩ := hle
  clear hl hN h
  go_enter Tryd.func77, Tryd.ntmps77
  go_wp2_with fail
  go_loopw [4] (fun vi wr => ∃ i : Nat, vi = .int .i64 i ∧ i ≤ N ∧ Below w.heap.size w wr) (fun vi _ => 10 - (intOf vi).toNat)
  case atStart => exact ⟨0, rfl, Nat.zero_le _, Below.refl _ _⟩
  case round =>
    obtain ⟨i, rfl, hi, hbw⟩ := hrel
    have hR := HH.out.later hbw
    have k0 := hR.c0
    have k1 := hR.c1
    have k2 := hR.c2
    have k3 := hR.c3
    have kz := hR.fz
    obtain ⟨m, hm⟩ : ∃ m : Nat, q + i = m := ⟨_, rfl⟩
    have hmi : (q : Int) + (i : Int) = (m : Int) := by omega
    by_cases hiN : i < N
    · have hml : m < b.length := by omega
      have hmlz : (m : Int) < (b.length : Int) := by omega
      have hi9 : (i : Int) < 9 := by omega
      obtain ⟨g, off, rfl, kb⟩ := hR.byte m hml
      have hx0 := HNB.out i hiN
      rw [← HL.out, drop_getD b q i (by omega)] at hx0
      subst hm
      obtain ⟨x, hx⟩ : ∃ x, (b[q + i]'hml).toNat = x := ⟨_, rfl⟩
      rw [hx] at kb hx0
      have hxz : (128 : Int) ≤ (x : Int) := by omega
      clear hx
      obtain ⟨m, hm⟩ : ∃ m, q + i = m := ⟨_, rfl⟩
      rw [hm] at kb hmi hml hmlz
      clear hm
      have hda : decide (m < b.length) = true := by simp; omega
      have hdb : decide (i < 9) = true := by simp; omega
      go_wp2_with fail
      go_quiet (fail)
      go_wp2_with fail
      go_roundw
      case rel => exact ⟨i + 1, by simp, by omega, below_drawn hbw _⟩
      case measure => simp [intOf] <;> omega
    · obtain rfl : i = N := by omega
      have hnx := (HNN.out i (Nat.le_refl _)).1 rfl
      by_cases hend : b.length ≤ m
      · have HV := Lib.hid (vRd_cbad (st := st) (b := b) (q := q) (by rw [HL.out]; exact crv_ends (by rw [HN.out]; omega)) (by omega))
        have hendz : (b.length : Int) ≤ (m : Int) := by omega
        have hda : decide (m < b.length) = false := by simp; omega
        clear hnx hm hiN
        go_wp2_with fail
        go_quiet (fail)
        go_wp2_with fail
        go_quiet (fail)
        go_wp2_with fail
        go_ret2
        rw [HV.out]
        exact ⟨rfl, (hR.later (below_drawn (Below.refl _ _) _)).later (below_drawn (Below.refl _ _) _), .of (below_drawn (below_drawn hbw _) _)⟩
      have hml : m < b.length := by omega
      have hmlz : (m : Int) < (b.length : Int) := by omega
      have hda : decide (m < b.length) = true := by simp; omega
      have hne : ¬ l.length ≤ lead 9 l := by rw [HN.out]; omega
      have HNE := Lib.hid hne
      obtain ⟨g, off, rfl, kb⟩ := hR.byte m hml
      have hgd : (l.getD i 0) = b[m]'hml := by
        subst hm
        rw [← HL.out, drop_getD b q i (by omega)]
      obtain ⟨x, hx⟩ : ∃ x, (b[m]'hml).toNat = x := ⟨_, rfl⟩
      have hx256 : x < 256 := by rw [← hx]; exact UInt8.toNat_lt _
      rw [hgd, hx] at hnx
      rw [hx] at kb
      have HGD := Lib.hid (show (l.getD i 0).toNat = x by rw [hgd, hx])
      have HM := Lib.hid hm
      clear hgd hx hm hne hiN hend
      by_cases h9 : i = 9
      · subst h9
        have hq9 : (q : Int) + 9 = (m : Int) := by omega
        by_cases hov : 1 < x
        · have HV := Lib.hid (vRd_cbad (st := st) (b := b) (q := q) (by rw [HL.out]; exact crv_over HNE.out ⟨HN.out, by rw [HGD.out]; exact hov⟩) (by omega))
          have hovz : (1 : Int) < (x : Int) := by omega
          clear hnx
          go_wp2_with fail
          go_quiet (fail)
          go_wp2_with fail
          go_quiet (fail)
          go_wp2_with fail
          go_quiet (fail)
          go_wp2_with fail
          go_ret2
          rw [HV.out]
          exact ⟨rfl, ((hR.later (below_drawn (Below.refl _ _) _)).later (below_drawn (Below.refl _ _) _)).later (below_drawn (Below.refl _ _) _), .of (below_drawn (below_drawn (below_drawn hbw _) _) _)⟩
        · have hovz : (x : Int) ≤ 1 := by omega
          have HNO := Lib.hid (show ¬ (lead 9 l = 9 ∧ 1 < (l.getD 9 0).toNat) by rw [HGD.out]; omega)
          clear hnx
          by_cases hL : st = true ∧ 0 < 9 ∧ x = 0
          · have HV := Lib.hid (vRd_cbad (st := st) (b := b) (q := q) (by rw [HL.out]; exact crv_longer HNE.out HNO.out ⟨hL.1, by rw [HN.out]; exact hL.2.1, by rw [HN.out, HGD.out]; exact hL.2.2⟩) (by omega))
            obtain ⟨rfl, hi0, rfl⟩ := hL
            have hi0z : (0 : Int) < (9 : Int) := by omega
            have hdn : decide (0 < 9) = true := by simp <;> omega
            go_wp2_with fail
            go_quiet (fail)
            obtain ⟨wa, hwa⟩ : ∃ wa, wr.drewN nq = wa := ⟨_, rfl⟩
            have hRwa := CrAt.later (w' := wa) hR (by rw [← hwa]; exact below_drawn (Below.refl _ _) _)
            have hbwa : Below w.heap.size w wa := by rw [← hwa]; exact below_drawn hbw _
            have kb := (show wa.cell? ⟨g, off + m, none⟩ = wr.cell? ⟨g, off + m, none⟩ from by rw [← hwa]; rfl).trans kb
            rw [hwa]
            clear hwa k0 k1 k2 k3 kz
            have k0 := hRwa.c0
            have k1 := hRwa.c1
            have k2 := hRwa.c2
            have k3 := hRwa.c3
            have kz := hRwa.fz
            go_wp2_with fail
            go_quiet (fail)
            obtain ⟨wb, hwb⟩ : ∃ wb, wa.drewN nq = wb := ⟨_, rfl⟩
            have hRwb := CrAt.later (w' := wb) hRwa (by rw [← hwb]; exact below_drawn (Below.refl _ _) _)
            have hbwb : Below w.heap.size w wb := by rw [← hwb]; exact below_drawn hbwa _
            have kb := (show wb.cell? ⟨g, off + m, none⟩ = wa.cell? ⟨g, off + m, none⟩ from by rw [← hwb]; rfl).trans kb
            rw [hwb]
            clear hwb k0 k1 k2 k3 kz
            have k0 := hRwb.c0
            have k1 := hRwb.c1
            have k2 := hRwb.c2
            have k3 := hRwb.c3
            have kz := hRwb.fz
            go_wp2_with fail
            go_quiet (fail)
            obtain ⟨wx, hwx⟩ : ∃ wx, wb.drewN nq = wx := ⟨_, rfl⟩
            have hRwx := CrAt.later (w' := wx) hRwb (by rw [← hwx]; exact below_drawn (Below.refl _ _) _)
            have hbwx : Below w.heap.size w wx := by rw [← hwx]; exact below_drawn hbwb _
            have kb := (show wx.cell? ⟨g, off + m, none⟩ = wb.cell? ⟨g, off + m, none⟩ from by rw [← hwx]; rfl).trans kb
            rw [hwx]
            clear hwx k0 k1 k2 k3 kz
            have k0 := hRwx.c0
            have k1 := hRwx.c1
            have k2 := hRwx.c2
            have k3 := hRwx.c3
            have kz := hRwx.fz
            go_wp2_with fail
            go_quiet (fail)
            go_wp2_with fail
            go_ret2
            rw [HV.out]
            exact ⟨rfl, hRwx.later (below_drawn (Below.refl _ _) _), .of (below_drawn hbwx _)⟩
          have HV := Lib.hid (vRd_cok (st := st) (b := b) (q := q) (by rw [HL.out]; exact crv_ok HNE.out HNO.out (by rw [HN.out, HGD.out]; exact hL)))
          rw [HN.out] at HV
          have hLd : st = false ∨ (st = true ∧ 9 = 0) ∨ (st = true ∧ 0 < 9 ∧ x ≠ 0) := by
            cases st
            · exact .inl rfl
            · rcases Nat.eq_zero_or_pos 9 with h0 | h0
              · exact .inr (.inl ⟨rfl, h0⟩)
              · exact .inr (.inr ⟨rfl, h0, fun e => hL ⟨rfl, h0, e⟩⟩)
          clear hL
          go_wp2_with fail
          go_quiet (fail)
          obtain ⟨wa, hwa⟩ : ∃ wa, wr.drewN nq = wa := ⟨_, rfl⟩
          have hRwa := CrAt.later (w' := wa) hR (by rw [← hwa]; exact below_drawn (Below.refl _ _) _)
          have hbwa : Below w.heap.size w wa := by rw [← hwa]; exact below_drawn hbw _
          have kb := (show wa.cell? ⟨g, off + m, none⟩ = wr.cell? ⟨g, off + m, none⟩ from by rw [← hwa]; rfl).trans kb
          rw [hwa]
          clear hwa k0 k1 k2 k3 kz
          have k0 := hRwa.c0
          have k1 := hRwa.c1
          have k2 := hRwa.c2
          have k3 := hRwa.c3
          have kz := hRwa.fz
          go_wp2_with fail
          go_quiet (fail)
          obtain ⟨wb, hwb⟩ : ∃ wb, wa.drewN nq = wb := ⟨_, rfl⟩
          have hRwb := CrAt.later (w' := wb) hRwa (by rw [← hwb]; exact below_drawn (Below.refl _ _) _)
          have hbwb : Below w.heap.size w wb := by rw [← hwb]; exact below_drawn hbwa _
          have kb := (show wb.cell? ⟨g, off + m, none⟩ = wa.cell? ⟨g, off + m, none⟩ from by rw [← hwb]; rfl).trans kb
          rw [hwb]
          clear hwb k0 k1 k2 k3 kz
          have k0 := hRwb.c0
          have k1 := hRwb.c1
          have k2 := hRwb.c2
          have k3 := hRwb.c3
          have kz := hRwb.fz
          go_wp2_with fail
          go_quiet (fail)
          obtain ⟨wx, hwx⟩ : ∃ wx, wb.drewN nq = wx := ⟨_, rfl⟩
          have hRwx := CrAt.later (w' := wx) hRwb (by rw [← hwx]; exact below_drawn (Below.refl _ _) _)
          have hbwx : Below w.heap.size w wx := by rw [← hwx]; exact below_drawn hbwb _
          have kb := (show wx.cell? ⟨g, off + m, none⟩ = wb.cell? ⟨g, off + m, none⟩ from by rw [← hwx]; rfl).trans kb
          rw [hwx]
          clear hwx k0 k1 k2 k3 kz
          have k0 := hRwx.c0
          have k1 := hRwx.c1
          have k2 := hRwx.c2
          have k3 := hRwx.c3
          have kz := hRwx.fz
          rcases hLd with rfl | ⟨rfl, hz0⟩ | ⟨rfl, hi0, hx0⟩
          · go_wp2_with fail
            go_quiet (fail)
            obtain ⟨wy, hwy⟩ : ∃ wy, wx.drewN nq = wy := ⟨_, rfl⟩
            have hRy := CrAt.later (w' := wy) hRwx (by rw [← hwy]; exact below_drawn (Below.refl _ _) _)
            have hby : Below w.heap.size w wy := by rw [← hwy]; exact below_drawn hbwx _
            rw [hwy]
            clear hwy k0 k1 k2 k3 kz kb
            go_wp2_with fail
            go_loopw [5, 6] (fun v5 v6 wq => Below w.heap.size w wq ∧ ((∃ j : Nat, v6 = .int .i64 j ∧ j ≤ 9 ∧ v5 = .int .i64 (s64 (le7 ((l.take (9 + 1)).drop (j + 1))))) ∨ (v6 = .int .i64 (-1) ∧ v5 = .int .i64 (s64 (le7 (l.take (9 + 1))))))) (fun _ v6 _ => (intOf v6 + 1).toNat)
            case atStart => exact ⟨hby, .inl ⟨9, rfl, Nat.le_refl _, by rw [List.drop_of_length_le (by rw [List.length_take]; omega)]; simp [le7, s64, wrap64]⟩⟩
            case round =>
              obtain ⟨hbq, hrel⟩ := hrel
              have hRq := HH.out.later hbq
              rcases hrel with ⟨j, rfl, hj, rfl⟩ | ⟨rfl, rfl⟩
              · have k0 := hRq.c0
                have k1 := hRq.c1
                obtain ⟨g2, off2, e2, kb⟩ := hRq.byte (q + j) (by omega)
                cases e2
                have hst := le7_step (l := l) (n := 9) (i := j) hj (by omega)
                have hgj : (l.getD j 0).toNat = (b[q + j]'(by omega)).toNat := by rw [← HL.out, drop_getD b q j (by omega)]
                rw [hgj] at hst
                obtain ⟨y, hy⟩ : ∃ y, (b[q + j]'(by omega)).toNat = y := ⟨_, rfl⟩
                have hy256 : y < 256 := by rw [← hy]; exact UInt8.toNat_lt _
                rw [hy] at hst kb
                have hyt : (y : Int).tmod 128 = ((y % 128 : Nat) : Int) := by rw [Int.tmod_eq_emod_of_nonneg (by omega)]; omega
                obtain ⟨y7, hy7⟩ : ∃ y7, y % 128 = y7 := ⟨_, rfl⟩
                rw [hy7] at hyt hst
                have hs := s64_wrap128 (le7 ((l.take (9 + 1)).drop (j + 1))) y7 (by omega)
                rw [← hst] at hs
                obtain ⟨V, hV⟩ : ∃ V, s64 (le7 ((l.take (9 + 1)).drop (j + 1))) = V := ⟨_, rfl⟩
                obtain ⟨V2, hV2⟩ : ∃ V2, s64 (le7 ((l.take (9 + 1)).drop j)) = V2 := ⟨_, rfl⟩
                rw [hV, hV2] at hs
                rw [hV]
                have HV2 := Lib.hid hV2
                obtain ⟨mj, hmj⟩ : ∃ mj, q + j = mj := ⟨_, rfl⟩
                have hmji : (q : Int) + (j : Int) = (mj : Int) := by omega
                have hmjl : mj < b.length := by omega
                rw [hmj] at kb
                clear hst hgj hy hy7 hV hV2 hmj
                go_wp2_with fail
                go_quiet (fail)
                go_wp2_with fail
                go_roundw
                case rel => exact ⟨below_drawn hbq _, by
                  rcases j with _ | j
                  · exact .inr ⟨by simp, by rw [hs, ← HV2.out, List.drop_zero]⟩
                  · exact .inl ⟨j, by simp, by omega, by rw [hs, ← HV2.out]⟩⟩
                case measure => simp [intOf] <;> omega
              · have k1 := hRq.c1
                have kz := hRq.fz
                have HX := Lib.hid (hRq.set (q + (9 + 1)) (by omega))
                have HMo := HM.out
                have hqi : (q : Int) + (9 : Int) = (m : Int) := by omega
                have hm1 : (m : Int) + 1 = ((q + (9 + 1) : Nat) : Int) := by omega
                clear HMo
                go_wp2_with fail
                go_ret2
                rw [HV.out]
                exact ⟨rfl, HX.out, (Turn.of hbq).set 1 _⟩
          · exact absurd hz0 (by decide)
          · have hi0z : (0 : Int) < (9 : Int) := by omega
            have hdn : decide (0 < 9) = true := by simp <;> omega
            have hx0b : ((x : Int) == 0) = false := by simp; exact hx0
            go_wp2_with fail
            go_quiet (fail)
            obtain ⟨wy, hwy⟩ : ∃ wy, wx.drewN nq = wy := ⟨_, rfl⟩
            have hRy := CrAt.later (w' := wy) hRwx (by rw [← hwy]; exact below_drawn (Below.refl _ _) _)
            have hby : Below w.heap.size w wy := by rw [← hwy]; exact below_drawn hbwx _
            rw [hwy]
            clear hwy k0 k1 k2 k3 kz kb
            go_wp2_with fail
            go_loopw [5, 6] (fun v5 v6 wq => Below w.heap.size w wq ∧ ((∃ j : Nat, v6 = .int .i64 j ∧ j ≤ 9 ∧ v5 = .int .i64 (s64 (le7 ((l.take (9 + 1)).drop (j + 1))))) ∨ (v6 = .int .i64 (-1) ∧ v5 = .int .i64 (s64 (le7 (l.take (9 + 1))))))) (fun _ v6 _ => (intOf v6 + 1).toNat)
            case atStart => exact ⟨hby, .inl ⟨9, rfl, Nat.le_refl _, by rw [List.drop_of_length_le (by rw [List.length_take]; omega)]; simp [le7, s64, wrap64]⟩⟩
            case round =>
              obtain ⟨hbq, hrel⟩ := hrel
              have hRq := HH.out.later hbq
              rcases hrel with ⟨j, rfl, hj, rfl⟩ | ⟨rfl, rfl⟩
              · have k0 := hRq.c0
                have k1 := hRq.c1
                obtain ⟨g2, off2, e2, kb⟩ := hRq.byte (q + j) (by omega)
                cases e2
                have hst := le7_step (l := l) (n := 9) (i := j) hj (by omega)
                have hgj : (l.getD j 0).toNat = (b[q + j]'(by omega)).toNat := by rw [← HL.out, drop_getD b q j (by omega)]
                rw [hgj] at hst
                obtain ⟨y, hy⟩ : ∃ y, (b[q + j]'(by omega)).toNat = y := ⟨_, rfl⟩
                have hy256 : y < 256 := by rw [← hy]; exact UInt8.toNat_lt _
                rw [hy] at hst kb
                have hyt : (y : Int).tmod 128 = ((y % 128 : Nat) : Int) := by rw [Int.tmod_eq_emod_of_nonneg (by omega)]; omega
                obtain ⟨y7, hy7⟩ : ∃ y7, y % 128 = y7 := ⟨_, rfl⟩
                rw [hy7] at hyt hst
                have hs := s64_wrap128 (le7 ((l.take (9 + 1)).drop (j + 1))) y7 (by omega)
                rw [← hst] at hs
                obtain ⟨V, hV⟩ : ∃ V, s64 (le7 ((l.take (9 + 1)).drop (j + 1))) = V := ⟨_, rfl⟩
                obtain ⟨V2, hV2⟩ : ∃ V2, s64 (le7 ((l.take (9 + 1)).drop j)) = V2 := ⟨_, rfl⟩
                rw [hV, hV2] at hs
                rw [hV]
                have HV2 := Lib.hid hV2
                obtain ⟨mj, hmj⟩ : ∃ mj, q + j = mj := ⟨_, rfl⟩
                have hmji : (q : Int) + (j : Int) = (mj : Int) := by omega
                have hmjl : mj < b.length := by omega
                rw [hmj] at kb
                clear hst hgj hy hy7 hV hV2 hmj
                go_wp2_with fail
                go_quiet (fail)
                go_wp2_with fail
                go_roundw
                case rel => exact ⟨below_drawn hbq _, by
                  rcases j with _ | j
                  · exact .inr ⟨by simp, by rw [hs, ← HV2.out, List.drop_zero]⟩
                  · exact .inl ⟨j, by simp, by omega, by rw [hs, ← HV2.out]⟩⟩
                case measure => simp [intOf] <;> omega
              · have k1 := hRq.c1
                have kz := hRq.fz
                have HX := Lib.hid (hRq.set (q + (9 + 1)) (by omega))
                have HMo := HM.out
                have hqi : (q : Int) + (9 : Int) = (m : Int) := by omega
                have hm1 : (m : Int) + 1 = ((q + (9 + 1) : Nat) : Int) := by omega
                clear HMo
                go_wp2_with fail
                go_ret2
                rw [HV.out]
                exact ⟨rfl, HX.out, (Turn.of hbq).set 1 _⟩
      · have h9b : ((i : Int) == 9) = false := by simp; omega
        have hi9 : (i : Int) < 9 := by omega
        have hdb : decide (i < 9) = true := by simp; omega
        have hx128 : x < 128 := by omega
        have hx128z : (x : Int) < 128 := by omega
        have hdx : decide (128 ≤ x) = false := by simp; omega
        have HNO := Lib.hid (show ¬ (lead 9 l = 9 ∧ 1 < (l.getD 9 0).toNat) by rw [HN.out]; omega)
        clear hnx h9
        by_cases hL : st = true ∧ 0 < i ∧ x = 0
        · have HV := Lib.hid (vRd_cbad (st := st) (b := b) (q := q) (by rw [HL.out]; exact crv_longer HNE.out HNO.out ⟨hL.1, by rw [HN.out]; exact hL.2.1, by rw [HN.out, HGD.out]; exact hL.2.2⟩) (by omega))
          obtain ⟨rfl, hi0, rfl⟩ := hL
          have hi0z : (0 : Int) < (i : Int) := by omega
          have hdn : decide (0 < i) = true := by simp <;> omega
          go_wp2_with fail
          go_quiet (fail)
          obtain ⟨wa, hwa⟩ : ∃ wa, wr.drewN nq = wa := ⟨_, rfl⟩
          have hRwa := CrAt.later (w' := wa) hR (by rw [← hwa]; exact below_drawn (Below.refl _ _) _)
          have hbwa : Below w.heap.size w wa := by rw [← hwa]; exact below_drawn hbw _
          have kb := (show wa.cell? ⟨g, off + m, none⟩ = wr.cell? ⟨g, off + m, none⟩ from by rw [← hwa]; rfl).trans kb
          rw [hwa]
          clear hwa k0 k1 k2 k3 kz
          have k0 := hRwa.c0
          have k1 := hRwa.c1
          have k2 := hRwa.c2
          have k3 := hRwa.c3
          have kz := hRwa.fz
          go_wp2_with fail
          go_quiet (fail)
          obtain ⟨wb, hwb⟩ : ∃ wb, wa.drewN nq = wb := ⟨_, rfl⟩
          have hRwb := CrAt.later (w' := wb) hRwa (by rw [← hwb]; exact below_drawn (Below.refl _ _) _)
          have hbwb : Below w.heap.size w wb := by rw [← hwb]; exact below_drawn hbwa _
          have kb := (show wb.cell? ⟨g, off + m, none⟩ = wa.cell? ⟨g, off + m, none⟩ from by rw [← hwb]; rfl).trans kb
          rw [hwb]
          clear hwb k0 k1 k2 k3 kz
          have k0 := hRwb.c0
          have k1 := hRwb.c1
          have k2 := hRwb.c2
          have k3 := hRwb.c3
          have kz := hRwb.fz
          go_wp2_with fail
          go_quiet (fail)
          obtain ⟨wx, hwx⟩ : ∃ wx, wb.drewN nq = wx := ⟨_, rfl⟩
          have hRwx := CrAt.later (w' := wx) hRwb (by rw [← hwx]; exact below_drawn (Below.refl _ _) _)
          have hbwx : Below w.heap.size w wx := by rw [← hwx]; exact below_drawn hbwb _
          have kb := (show wx.cell? ⟨g, off + m, none⟩ = wb.cell? ⟨g, off + m, none⟩ from by rw [← hwx]; rfl).trans kb
          rw [hwx]
          clear hwx k0 k1 k2 k3 kz
          have k0 := hRwx.c0
          have k1 := hRwx.c1
          have k2 := hRwx.c2
          have k3 := hRwx.c3
          have kz := hRwx.fz
          go_wp2_with fail
          go_quiet (fail)
          go_wp2_with fail
          go_ret2
          rw [HV.out]
          exact ⟨rfl, hRwx.later (below_drawn (Below.refl _ _) _), .of (below_drawn hbwx _)⟩
        have HV := Lib.hid (vRd_cok (st := st) (b := b) (q := q) (by rw [HL.out]; exact crv_ok HNE.out HNO.out (by rw [HN.out, HGD.out]; exact hL)))
        rw [HN.out] at HV
        have hLd : st = false ∨ (st = true ∧ i = 0) ∨ (st = true ∧ 0 < i ∧ x ≠ 0) := by
          cases st
          · exact .inl rfl
          · rcases Nat.eq_zero_or_pos i with h0 | h0
            · exact .inr (.inl ⟨rfl, h0⟩)
            · exact .inr (.inr ⟨rfl, h0, fun e => hL ⟨rfl, h0, e⟩⟩)
        clear hL
        go_wp2_with fail
        go_quiet (fail)
        obtain ⟨wa, hwa⟩ : ∃ wa, wr.drewN nq = wa := ⟨_, rfl⟩
        have hRwa := CrAt.later (w' := wa) hR (by rw [← hwa]; exact below_drawn (Below.refl _ _) _)
        have hbwa : Below w.heap.size w wa := by rw [← hwa]; exact below_drawn hbw _
        have kb := (show wa.cell? ⟨g, off + m, none⟩ = wr.cell? ⟨g, off + m, none⟩ from by rw [← hwa]; rfl).trans kb
        rw [hwa]
        clear hwa k0 k1 k2 k3 kz
        have k0 := hRwa.c0
        have k1 := hRwa.c1
        have k2 := hRwa.c2
        have k3 := hRwa.c3
        have kz := hRwa.fz
        go_wp2_with fail
        go_quiet (fail)
        obtain ⟨wb, hwb⟩ : ∃ wb, wa.drewN nq = wb := ⟨_, rfl⟩
        have hRwb := CrAt.later (w' := wb) hRwa (by rw [← hwb]; exact below_drawn (Below.refl _ _) _)
        have hbwb : Below w.heap.size w wb := by rw [← hwb]; exact below_drawn hbwa _
        have kb := (show wb.cell? ⟨g, off + m, none⟩ = wa.cell? ⟨g, off + m, none⟩ from by rw [← hwb]; rfl).trans kb
        rw [hwb]
        clear hwb k0 k1 k2 k3 kz
        have k0 := hRwb.c0
        have k1 := hRwb.c1
        have k2 := hRwb.c2
        have k3 := hRwb.c3
        have kz := hRwb.fz
        go_wp2_with fail
        go_quiet (fail)
        obtain ⟨wx, hwx⟩ : ∃ wx, wb.drewN nq = wx := ⟨_, rfl⟩
        have hRwx := CrAt.later (w' := wx) hRwb (by rw [← hwx]; exact below_drawn (Below.refl _ _) _)
        have hbwx : Below w.heap.size w wx := by rw [← hwx]; exact below_drawn hbwb _
        have kb := (show wx.cell? ⟨g, off + m, none⟩ = wb.cell? ⟨g, off + m, none⟩ from by rw [← hwx]; rfl).trans kb
        rw [hwx]
        clear hwx k0 k1 k2 k3 kz
        have k0 := hRwx.c0
        have k1 := hRwx.c1
        have k2 := hRwx.c2
        have k3 := hRwx.c3
        have kz := hRwx.fz
        rcases hLd with rfl | ⟨rfl, hz0⟩ | ⟨rfl, hi0, hx0⟩
        · go_wp2_with fail
          go_quiet (fail)
          obtain ⟨wy, hwy⟩ : ∃ wy, wx.drewN nq = wy := ⟨_, rfl⟩
          have hRy := CrAt.later (w' := wy) hRwx (by rw [← hwy]; exact below_drawn (Below.refl _ _) _)
          have hby : Below w.heap.size w wy := by rw [← hwy]; exact below_drawn hbwx _
          rw [hwy]
          clear hwy k0 k1 k2 k3 kz kb
          go_wp2_with fail
          go_loopw [5, 6] (fun v5 v6 wq => Below w.heap.size w wq ∧ ((∃ j : Nat, v6 = .int .i64 j ∧ j ≤ i ∧ v5 = .int .i64 (s64 (le7 ((l.take (i + 1)).drop (j + 1))))) ∨ (v6 = .int .i64 (-1) ∧ v5 = .int .i64 (s64 (le7 (l.take (i + 1))))))) (fun _ v6 _ => (intOf v6 + 1).toNat)
          case atStart => exact ⟨hby, .inl ⟨i, rfl, Nat.le_refl _, by rw [List.drop_of_length_le (by rw [List.length_take]; omega)]; simp [le7, s64, wrap64]⟩⟩
          case round =>
            obtain ⟨hbq, hrel⟩ := hrel
            have hRq := HH.out.later hbq
            rcases hrel with ⟨j, rfl, hj, rfl⟩ | ⟨rfl, rfl⟩
            · have k0 := hRq.c0
              have k1 := hRq.c1
              obtain ⟨g2, off2, e2, kb⟩ := hRq.byte (q + j) (by omega)
              cases e2
              have hst := le7_step (l := l) (n := i) (i := j) hj (by omega)
              have hgj : (l.getD j 0).toNat = (b[q + j]'(by omega)).toNat := by rw [← HL.out, drop_getD b q j (by omega)]
              rw [hgj] at hst
              obtain ⟨y, hy⟩ : ∃ y, (b[q + j]'(by omega)).toNat = y := ⟨_, rfl⟩
              have hy256 : y < 256 := by rw [← hy]; exact UInt8.toNat_lt _
              rw [hy] at hst kb
              have hyt : (y : Int).tmod 128 = ((y % 128 : Nat) : Int) := by rw [Int.tmod_eq_emod_of_nonneg (by omega)]; omega
              obtain ⟨y7, hy7⟩ : ∃ y7, y % 128 = y7 := ⟨_, rfl⟩
              rw [hy7] at hyt hst
              have hs := s64_wrap128 (le7 ((l.take (i + 1)).drop (j + 1))) y7 (by omega)
              rw [← hst] at hs
              obtain ⟨V, hV⟩ : ∃ V, s64 (le7 ((l.take (i + 1)).drop (j + 1))) = V := ⟨_, rfl⟩
              obtain ⟨V2, hV2⟩ : ∃ V2, s64 (le7 ((l.take (i + 1)).drop j)) = V2 := ⟨_, rfl⟩
              rw [hV, hV2] at hs
              rw [hV]
              have HV2 := Lib.hid hV2
              obtain ⟨mj, hmj⟩ : ∃ mj, q + j = mj := ⟨_, rfl⟩
              have hmji : (q : Int) + (j : Int) = (mj : Int) := by omega
              have hmjl : mj < b.length := by omega
              rw [hmj] at kb
              clear hst hgj hy hy7 hV hV2 hmj
              go_wp2_with fail
              go_quiet (fail)
              go_wp2_with fail
              go_roundw
              case rel => exact ⟨below_drawn hbq _, by
                rcases j with _ | j
                · exact .inr ⟨by simp, by rw [hs, ← HV2.out, List.drop_zero]⟩
                · exact .inl ⟨j, by simp, by omega, by rw [hs, ← HV2.out]⟩⟩
              case measure => simp [intOf] <;> omega
            · have k1 := hRq.c1
              have kz := hRq.fz
              have HX := Lib.hid (hRq.set (q + (i + 1)) (by omega))
              have HMo := HM.out
              have hqi : (q : Int) + (i : Int) = (m : Int) := by omega
              have hm1 : (m : Int) + 1 = ((q + (i + 1) : Nat) : Int) := by omega
              clear HMo
              go_wp2_with fail
              go_ret2
              rw [HV.out]
              exact ⟨rfl, HX.out, (Turn.of hbq).set 1 _⟩
        · have hz0b : decide ((0 : Int) < (i : Int)) = false := by simp <;> omega
          have hdn : decide (0 < i) = false := by simp <;> omega
          clear hz0
          go_wp2_with fail
          go_quiet (fail)
          obtain ⟨wy, hwy⟩ : ∃ wy, wx.drewN nq = wy := ⟨_, rfl⟩
          have hRy := CrAt.later (w' := wy) hRwx (by rw [← hwy]; exact below_drawn (Below.refl _ _) _)
          have hby : Below w.heap.size w wy := by rw [← hwy]; exact below_drawn hbwx _
          rw [hwy]
          clear hwy k0 k1 k2 k3 kz kb
          go_wp2_with fail
          go_loopw [5, 6] (fun v5 v6 wq => Below w.heap.size w wq ∧ ((∃ j : Nat, v6 = .int .i64 j ∧ j ≤ i ∧ v5 = .int .i64 (s64 (le7 ((l.take (i + 1)).drop (j + 1))))) ∨ (v6 = .int .i64 (-1) ∧ v5 = .int .i64 (s64 (le7 (l.take (i + 1))))))) (fun _ v6 _ => (intOf v6 + 1).toNat)
          case atStart => exact ⟨hby, .inl ⟨i, rfl, Nat.le_refl _, by rw [List.drop_of_length_le (by rw [List.length_take]; omega)]; simp [le7, s64, wrap64]⟩⟩
          case round =>
            obtain ⟨hbq, hrel⟩ := hrel
            have hRq := HH.out.later hbq
            rcases hrel with ⟨j, rfl, hj, rfl⟩ | ⟨rfl, rfl⟩
            · have k0 := hRq.c0
              have k1 := hRq.c1
              obtain ⟨g2, off2, e2, kb⟩ := hRq.byte (q + j) (by omega)
              cases e2
              have hst := le7_step (l := l) (n := i) (i := j) hj (by omega)
              have hgj : (l.getD j 0).toNat = (b[q + j]'(by omega)).toNat := by rw [← HL.out, drop_getD b q j (by omega)]
              rw [hgj] at hst
              obtain ⟨y, hy⟩ : ∃ y, (b[q + j]'(by omega)).toNat = y := ⟨_, rfl⟩
              have hy256 : y < 256 := by rw [← hy]; exact UInt8.toNat_lt _
              rw [hy] at hst kb
              have hyt : (y : Int).tmod 128 = ((y % 128 : Nat) : Int) := by rw [Int.tmod_eq_emod_of_nonneg (by omega)]; omega
              obtain ⟨y7, hy7⟩ : ∃ y7, y % 128 = y7 := ⟨_, rfl⟩
              rw [hy7] at hyt hst
              have hs := s64_wrap128 (le7 ((l.take (i + 1)).drop (j + 1))) y7 (by omega)
              rw [← hst] at hs
              obtain ⟨V, hV⟩ : ∃ V, s64 (le7 ((l.take (i + 1)).drop (j + 1))) = V := ⟨_, rfl⟩
              obtain ⟨V2, hV2⟩ : ∃ V2, s64 (le7 ((l.take (i + 1)).drop j)) = V2 := ⟨_, rfl⟩
              rw [hV, hV2] at hs
              rw [hV]
              have HV2 := Lib.hid hV2
              obtain ⟨mj, hmj⟩ : ∃ mj, q + j = mj := ⟨_, rfl⟩
              have hmji : (q : Int) + (j : Int) = (mj : Int) := by omega
              have hmjl : mj < b.length := by omega
              rw [hmj] at kb
              clear hst hgj hy hy7 hV hV2 hmj
              go_wp2_with fail
              go_quiet (fail)
              go_wp2_with fail
              go_roundw
              case rel => exact ⟨below_drawn hbq _, by
                rcases j with _ | j
                · exact .inr ⟨by simp, by rw [hs, ← HV2.out, List.drop_zero]⟩
                · exact .inl ⟨j, by simp, by omega, by rw [hs, ← HV2.out]⟩⟩
              case measure => simp [intOf] <;> omega
            · have k1 := hRq.c1
              have kz := hRq.fz
              have HX := Lib.hid (hRq.set (q + (i + 1)) (by omega))
              have HMo := HM.out
              have hqi : (q : Int) + (i : Int) = (m : Int) := by omega
              have hm1 : (m : Int) + 1 = ((q + (i + 1) : Nat) : Int) := by omega
              clear HMo
              go_wp2_with fail
              go_ret2
              rw [HV.out]
              exact ⟨rfl, HX.out, (Turn.of hbq).set 1 _⟩
        · have hi0z : (0 : Int) < (i : Int) := by omega
          have hdn : decide (0 < i) = true := by simp <;> omega
          have hx0b : ((x : Int) == 0) = false := by simp; exact hx0
          go_wp2_with fail
          go_quiet (fail)
          obtain ⟨wy, hwy⟩ : ∃ wy, wx.drewN nq = wy := ⟨_, rfl⟩
          have hRy := CrAt.later (w' := wy) hRwx (by rw [← hwy]; exact below_drawn (Below.refl _ _) _)
          have hby : Below w.heap.size w wy := by rw [← hwy]; exact below_drawn hbwx _
          rw [hwy]
          clear hwy k0 k1 k2 k3 kz kb
          go_wp2_with fail
          go_loopw [5, 6] (fun v5 v6 wq => Below w.heap.size w wq ∧ ((∃ j : Nat, v6 = .int .i64 j ∧ j ≤ i ∧ v5 = .int .i64 (s64 (le7 ((l.take (i + 1)).drop (j + 1))))) ∨ (v6 = .int .i64 (-1) ∧ v5 = .int .i64 (s64 (le7 (l.take (i + 1))))))) (fun _ v6 _ => (intOf v6 + 1).toNat)
          case atStart => exact ⟨hby, .inl ⟨i, rfl, Nat.le_refl _, by rw [List.drop_of_length_le (by rw [List.length_take]; omega)]; simp [le7, s64, wrap64]⟩⟩
          case round =>
            obtain ⟨hbq, hrel⟩ := hrel
            have hRq := HH.out.later hbq
            rcases hrel with ⟨j, rfl, hj, rfl⟩ | ⟨rfl, rfl⟩
            · have k0 := hRq.c0
              have k1 := hRq.c1
              obtain ⟨g2, off2, e2, kb⟩ := hRq.byte (q + j) (by omega)
              cases e2
              have hst := le7_step (l := l) (n := i) (i := j) hj (by omega)
              have hgj : (l.getD j 0).toNat = (b[q + j]'(by omega)).toNat := by rw [← HL.out, drop_getD b q j (by omega)]
              rw [hgj] at hst
              obtain ⟨y, hy⟩ : ∃ y, (b[q + j]'(by omega)).toNat = y := ⟨_, rfl⟩
              have hy256 : y < 256 := by rw [← hy]; exact UInt8.toNat_lt _
              rw [hy] at hst kb
              have hyt : (y : Int).tmod 128 = ((y % 128 : Nat) : Int) := by rw [Int.tmod_eq_emod_of_nonneg (by omega)]; omega
              obtain ⟨y7, hy7⟩ : ∃ y7, y % 128 = y7 := ⟨_, rfl⟩
              rw [hy7] at hyt hst
              have hs := s64_wrap128 (le7 ((l.take (i + 1)).drop (j + 1))) y7 (by omega)
              rw [← hst] at hs
              obtain ⟨V, hV⟩ : ∃ V, s64 (le7 ((l.take (i + 1)).drop (j + 1))) = V := ⟨_, rfl⟩
              obtain ⟨V2, hV2⟩ : ∃ V2, s64 (le7 ((l.take (i + 1)).drop j)) = V2 := ⟨_, rfl⟩
              rw [hV, hV2] at hs
              rw [hV]
              have HV2 := Lib.hid hV2
              obtain ⟨mj, hmj⟩ : ∃ mj, q + j = mj := ⟨_, rfl⟩
              have hmji : (q : Int) + (j : Int) = (mj : Int) := by omega
              have hmjl : mj < b.length := by omega
              rw [hmj] at kb
              clear hst hgj hy hy7 hV hV2 hmj
              go_wp2_with fail
              go_quiet (fail)
              go_wp2_with fail
              go_roundw
              case rel => exact ⟨below_drawn hbq _, by
                rcases j with _ | j
                · exact .inr ⟨by simp, by rw [hs, ← HV2.out, List.drop_zero]⟩
                · exact .inl ⟨j, by simp, by omega, by rw [hs, ← HV2.out]⟩⟩
              case measure => simp [intOf] <;> omega
            · have k1 := hRq.c1
              have kz := hRq.fz
              have HX := Lib.hid (hRq.set (q + (i + 1)) (by omega))
              have HMo := HM.out
              have hqi : (q : Int) + (i : Int) = (m : Int) := by omega
              have hm1 : (m : Int) + 1 = ((q + (i + 1) : Nat) : Int) := by omega
              clear HMo
              go_wp2_with fail
              go_ret2
              rw [HV.out]
              exact ⟨rfl, HX.out, (Turn.of hbq).set 1 _⟩
end Go.Proofs.YtecmhpncgdjgjaaDoor
