/-
  The statement WireSame of package sigillaw2, walked. Conditions: the rows of characters lie as they are laid; bytes that a process can hold.
-/
import Derived.Test.YtecmhpncgdjgjaaDoorWalkPlain
import Derived.Test.YtecmhpncgdjgjaaDoorSkip2
import Derived.Test.YtecmhpncgdjgjaaDoorAt
import Derived.Test.YtecmhpncgdjgjaaDoorTwin
import Derived.Test.YtecmhpncgdjgjaaDoorLaid
import Derived.Deep.RegionHeld3
namespace Go.Proofs.YtecmhpncgdjgjaaDoor
open Go.RowKit
set_option linter.unusedVariables false
set_option linter.unusedSimpArgs false

theorem BytesAt.drop {w : World} {g off cap n : Nat} {b : List UInt8} (h : BytesAt (fun _ => True) w (.slice (some ⟨g, off, none⟩) n cap) b) (q : Nat) (hq : q ≤ b.length) : BytesAt (fun _ => True) w (.slice (some ⟨g, off + q, none⟩) (n - q) (cap - q)) (b.drop q) := by
  obtain ⟨a', cap', e, h1, h2, h3⟩ := h
  cases e
  refine ⟨some ⟨g, off + q, none⟩, cap - q, by rw [List.length_drop], by rw [List.length_drop]; omega, by omega, ?_⟩
  rcases h3 with h3 | ⟨g', off', e, hP, hc⟩
  · left; rw [h3]; simp
  · cases e
    refine .inr ⟨g, off + q, rfl, trivial, fun k hk => ?_⟩
    rw [List.getElem_drop]
    have hk2 : q + k < b.length := by rw [List.length_drop] at hk; omega
    have := hc (q + k) hk2
    rw [Nat.add_assoc]
    exact this
theorem BytesAt.none0 {w : World} {x : Option Addr} {q : Nat} {b : List UInt8} (hq : b.length ≤ q) : BytesAt (fun _ => True) w (.slice x 0 0) (b.drop q) := by
  have e : b.drop q = [] := List.drop_eq_nil_of_le hq
  rw [e]
  exact ⟨x, 0, rfl, Nat.le_refl _, by omega, .inl rfl⟩

theorem RdAt.other {w w' : World} {p p' : Nat} {st : Bool} {b : List UInt8} {q : Nat} {a : Option Addr} {cap : Nat} (h : RdAt w p st b q a cap) (ht : Turn w.heap.size p' w w') (hne : p ≠ p') (hg : ∀ g, a = some ⟨g, 0, none⟩ → g ≠ p') : RdAt w' p st b q a cap := by
  have hp := ht.block p h.lt hne
  refine ⟨(World.cell?_of_block (w := w) hp).trans h.c0, (World.cell?_of_block (w := w) hp).trans h.c1, (World.cell?_of_block (w := w) hp).trans h.c2, (World.frozen?_of_block (w := w) hp).trans h.fz, h.hq, h.hb, h.hc, h.hm, ?_⟩
  rcases h.hby with h1 | ⟨g, h1, h2, h3⟩
  · exact .inl h1
  · exact .inr ⟨g, h1, h2, fun k hk => (World.cell?_of_block (w := w) (ht.block g (cell_lt (h3 k hk)) (hg g h1))).trans (h3 k hk)⟩
theorem keep_five {X W x1 : World} {p bl o : Nat} {v0 v1 v2 v3 v4 : Value} (hS : (W.cell? ⟨bl, o, none⟩ = some v0 ∧ W.cell? ⟨bl, o + 1, none⟩ = some v1 ∧ W.cell? ⟨bl, o + 2, none⟩ = some v2 ∧ W.cell? ⟨bl, o + 3, none⟩ = some v3 ∧ W.cell? ⟨bl, o + 4, none⟩ = some v4) ∧ Turn X.heap.size p X W)
    (ht : Turn W.heap.size p W x1) (hne : bl ≠ p) : (x1.cell? ⟨bl, o, none⟩ = some v0 ∧ x1.cell? ⟨bl, o + 1, none⟩ = some v1 ∧ x1.cell? ⟨bl, o + 2, none⟩ = some v2 ∧ x1.cell? ⟨bl, o + 3, none⟩ = some v3 ∧ x1.cell? ⟨bl, o + 4, none⟩ = some v4) ∧ Turn X.heap.size p X x1 :=
  ⟨⟨ht.cell hS.1.1 (Nat.le_refl _) hne, ht.cell hS.1.2.1 (Nat.le_refl _) hne, ht.cell hS.1.2.2.1 (Nat.le_refl _) hne, ht.cell hS.1.2.2.2.1 (Nat.le_refl _) hne, ht.cell hS.1.2.2.2.2 (Nat.le_refl _) hne⟩, hS.2.trans (ht.mono hS.2.size)⟩

set_option maxHeartbeats 16000000 in
set_option maxRecDepth 100000 in
theorem same_walk (b : List UInt8) (hb : b.length ≤ 140737488355000) (st : Bool) (v : Value) (w : World) (hv : BytesAt (fun _ => True) w v b) (hr : RowsAt w) : Calls Tryd.prog 14 #[v, .bool st] w fun e w' => e = .returned (.bool true) ∧ Below w.heap.size w w' := by
  have HV := Lib.hid hv
  obtain ⟨a, cap, rfl, h1, h2, hv0⟩ := hv
  clear hv0
  go_enter Tryd.func14, Tryd.ntmps14
  go_wp2_with fail
  refine (known_any w hr).mono ?_
  rintro e w1 ⟨rfl, hb1⟩
  have HB1 := Lib.hid hb1
  have hs1 := hb1.size
  clear hb1
  go_wp2_with fail
  refine (twin_any w1 b _ (HV.out.later HB1.out) hb).mono ?_
  rintro e w2 ⟨v2, rfl, ho2, hb2⟩
  have HB2 := Lib.hid (HB1.out.trans (hb2.mono hs1))
  have HT2 := Lib.hid (ho2.reads.mono fun _ _ => trivial : BytesAt (fun _ => True) w2 v2 b)
  have hs2 := hb2.size
  clear ho2 hb2
  have HS := Lib.hid (fun W u (hW : BytesAt (fun _ => True) W u b) => wSplit_any W st b u hW)
  have HALL := Lib.hid (splitOf_all st b)
  have HBIG := Lib.hid (fun h : 1048576 < b.length => show splitOf st b = ([], 2, 0) from if_pos h)
  obtain ⟨⟨l, es, at_⟩, hS⟩ : ∃ r, splitOf st b = r := ⟨_, rfl⟩
  rw [hS] at HS HALL HBIG
  clear hS
  go_wp2_with fail
  refine (HS.out w2 _ HT2.out).mono ?_
  rintro e w3 ⟨v3, rfl, hr3, hn3, hb3⟩
  simp only at hr3 hn3
  have HB3 := Lib.hid (HB2.out.trans (hb3.mono (by omega)))
  have HR3 := Lib.hid (show Reads w3 v3 l from hr3.mono fun _ _ => trivial)
  have HN3 := Lib.hid hn3
  have hs3 := hb3.size
  clear hr3 hn3 hb3
  go_wp2_with fail
  refine (twin_any w3 b _ (HV.out.later HB3.out) hb).mono ?_
  rintro e w4 ⟨v4, rfl, ho4, hb4⟩
  have HB34 := Lib.hid hb4
  have HB4 := Lib.hid (HB3.out.trans (hb4.mono (by omega)))
  have HT4 := Lib.hid (ho4.reads.mono fun _ _ => trivial : BytesAt (fun _ => True) w4 v4 b)
  have hs4 := hb4.size
  clear ho4 hb4
  obtain ⟨a3, c3, rfl, h31, h32, h33⟩ := HR3.out.form
  clear h33
  go_wp2_with fail
  refine (wRead_any w4 st b _ HT4.out).mono ?_
  rintro e w5 ⟨hbig, hsmall⟩
  by_cases hbl : 1048576 < b.length
  · obtain ⟨rfl, hb5⟩ := hbig hbl
    have he2 := HBIG.out hbl
    simp only [Prod.mk.injEq] at he2
    obtain ⟨rfl, rfl, rfl⟩ := he2
    have HB5 := Lib.hid (HB4.out.trans (hb5.mono (by omega)))
    clear hbig hsmall hb5
    go_wp2_with fail
    go_ret
    exact ⟨rfl, HB5.out⟩
  · obtain ⟨pr, ar, cr, rfl, hpr, har, hRd, hb5⟩ := hsmall (by omega)
    have HB35 := Lib.hid (HB34.out.trans (hb5.mono hs4))
    have HB5 := Lib.hid (HB4.out.trans (hb5.mono (by omega)))
    have hs5 := hb5.size
    have HRD := Lib.hid hRd
    have hA := HALL.out (by omega)
    simp only [Prod.mk.injEq] at hA
    obtain ⟨hA1, hA2, hA3⟩ := hA
    have HA1 := Lib.hid hA1
    have HA2 := Lib.hid hA2
    have HA3 := Lib.hid hA3
    clear hbig hsmall hb5 hRd hA1 hA2 hA3
    obtain ⟨N, hN⟩ : ∃ N, b.length = N := ⟨_, rfl⟩
    have HBN := Lib.hid hN
    rw [hN] at hbl h1 hb HV ⊢
    clear hN
    go_wp2_with fail
    go_loopw [10] (fun v10 wr => ∃ (n p : Nat) (acc : List Rec), v10 = .int .i64 n ∧ acc.length = n ∧ n ≤ p ∧ p ≤ N ∧ RdAt wr pr st b p ar cr ∧ allR st b = pre acc (recsF st b 63 0 0 p) ∧ Below w3.heap.size w3 wr ∧ w5.heap.size ≤ wr.heap.size) (fun v10 _ => N + 1 - (intOf v10).toNat)
    case atStart => exact ⟨0, 0, [], rfl, rfl, Nat.le_refl _, Nat.zero_le _, HRD.out, (pre_nilF st b 63 0 0 0 (Nat.zero_le _)).symm, HB35.out, Nat.le_refl _⟩
    case round =>
      obtain ⟨n, p, acc, rfl, hacc, hnp, hpN, hRd, hall, hbw, hsw⟩ := hrel
      have HACC := Lib.hid hacc
      have HRP := Lib.hid hRd
      have HALLP := Lib.hid hall
      have HBW := Lib.hid hbw
      have hprl := hRd.lt
      have hsw3 : w3.heap.size ≤ wr.heap.size := hbw.size
      clear hacc hRd hall hbw
      by_cases hlt : p < N
      · have HD := Lib.hid (show decide (p < b.length) = true by rw [HBN.out]; simp [hlt])
        have hltb : p < b.length := by rw [HBN.out]; exact hlt
        have HLTB := Lib.hid hltb
        have hgp := gRd_place st b p (by omega)
        have hgn := gRd_nums st b p
        obtain ⟨⟨num, k, er, q⟩, hg⟩ : ∃ r, gRd st b p = r := ⟨_, rfl⟩
        have HTAG := Lib.hid (fun (W : World) (hW : RdAt W pr st b p ar cr) => hg ▸ rdTag_any W pr st b p ar cr hW)
        rw [hg, HBN.out] at hgp
        rw [hg] at hgn
        simp only at hgp hgn
        have HG := Lib.hid hg
        obtain ⟨hg1, hg2, hg3, hg4⟩ := hgp
        clear hg hltb
        cases her : (er != 0 : Bool)
        · obtain rfl : er = 0 := by simpa using her
          obtain ⟨hn1, hn2, hk0, hk5⟩ := hgn rfl
          have hpq := hg3 rfl
          clear hg3 hg4 hgn
          cases hk4 : (k == 4 : Bool)
          · have hk4' : k ≠ 4 := by simpa using hk4
            go_wp2_with fail
            refine (rdMore_any wr pr st b _ ar cr HRP.out).mono ?_
            rintro e z1 ⟨rfl, hz1, hbz1⟩
            rw [HD.out]
            have HZ1 := Lib.hid hz1
            go_wp2_with fail
            refine (rdAt_any _ pr st b _ ar cr HZ1.out).mono ?_
            rintro e _ ⟨rfl, rfl⟩
            go_wp2_with fail
            refine (HTAG.out z1 HZ1.out).mono ?_
            rintro e z2 ⟨rfl, hz2, htz2⟩
            have HRZ2 := Lib.hid hz2
            have hsz1 := hbz1.size
            have hsz2 := htz2.size
            have HBZ2 := Lib.hid ((HBW.out.trans (hbz1.mono hsw3)).trans (htz2.below (by omega) (by omega)))
            clear hz1 hbz1 hz2 htz2
            go_wp2_with fail
            refine (rdAt_any _ pr st b _ ar cr HRZ2.out).mono ?_
            rintro e _ ⟨rfl, rfl⟩
            obtain ⟨gv, ov, rfl⟩ : ∃ g off, a = some ⟨g, off, none⟩ := by
              obtain ⟨g, off, e, _⟩ := HV.out.byte 0 (by rw [HBN.out]; omega)
              exact ⟨g, off, e⟩
            have HVZ := Lib.hid (HV.out.later (HB3.out.trans (HBZ2.out.mono (by omega))))
            have HDL := Lib.hid (show (b.drop q).length = N - q by rw [List.length_drop, HBN.out])
            obtain ⟨⟨se, sp⟩, hsk⟩ : ∃ r, skipR st b num k 63 q = r := ⟨_, rfl⟩
            have HSKIP := Lib.hid (fun (W : World) (hW : RdAt W pr st b q ar cr) => hsk ▸ skip_any W pr st b q ar cr hW num k 63)
            have hws := walk_skip HALLP.out HLTB.out HG.out hk4' hsk
            have HWS1 := Lib.hid hws.1
            have HWS2 := Lib.hid hws.2
            clear hws hsk
            rcases Decidable.em (q = cap) with hcq | hcq
            all_goals (try subst hcq)
            all_goals
              go_wp2_with fail
              refine (twin_any z2 (b.drop q) _ (by first | exact BytesAt.drop HVZ.out q (by rw [HBN.out]; exact hg1) | exact BytesAt.none0 (by rw [HBN.out]; omega)) (by rw [HDL.out]; omega)).mono ?_
              rintro e z3 ⟨v3, rfl, ho3, hbz3⟩
              have HT3 := Lib.hid (ho3.reads.mono fun _ _ => trivial : BytesAt (fun _ => True) z3 v3 (b.drop q))
              have hsz3 := hbz3.size
              have HBZ23 := Lib.hid hbz3
              clear ho3 hbz3
              go_wp2_with fail
              refine (wRead_any z3 st (b.drop q) _ HT3.out).mono ?_
              rintro e z4 ⟨_, hsm⟩
              obtain ⟨ps, az, cs, rfl, hps, has, hSd, hbz4⟩ := hsm (by rw [HDL.out]; omega)
              have hsz4 := hbz4.size
              have HBZ24 := Lib.hid (HBZ23.out.trans (hbz4.mono hsz3))
              have HSD := Lib.hid hSd
              have HAS := Lib.hid has
              clear hsm hSd hbz4 has
              go_wp2_with fail
              refine (HSKIP.out z4 (HRZ2.out.later HBZ24.out)).mono ?_
              rintro e z5 ⟨rfl, hz5, htz5⟩
              have HR5 := Lib.hid hz5
              have HT5 := Lib.hid htz5
              have hsz5 := htz5.size
              clear hz5 htz5
              have hprz : pr < z4.heap.size := by omega
              have HBZ5 := Lib.hid ((HBZ2.out.trans (HBZ24.out.mono (by omega))).trans (HT5.out.below (by omega) (by omega)))
              cases hse : (se != 0 : Bool)
              · obtain rfl : se = 0 := by simpa using hse
                obtain ⟨x, t, i, hcr, hnew, hps1, hsp2, hqs⟩ := HWS2.out (by trivial)
                have HCR := Lib.hid hcr
                have HNEW := Lib.hid hnew
                clear hcr hnew
                have hPN := HBN.out ▸ hsp2
                cases hes : (es != 0 : Bool)
                · obtain rfl : es = 0 := by simpa using hes
                  have hgl := walk_get HNEW.out HA2.out.symm
                  have hal : (allR st b).1 = l := HA1.out.symm
                  obtain ⟨hgl1, hgl2⟩ := hgl
                  have hgl3 : n < l.length := by rw [← hal, ← HACC.out]; exact hgl1
                  have HGET := Lib.hid (show l[n]'hgl3 = .mk num k x t i by
                    have := hgl2 hgl1
                    simp only [hal, HACC.out] at this
                    exact this)
                  obtain ⟨bl, ol, ul, e3, hrec, hin⟩ := Reads.at (HR3.out.later HBZ5.out) n hgl3
                  have hbl3 : bl < w3.heap.size := by
                    obtain ⟨b0, o0, u0, e0, hr0, _⟩ := Reads.at HR3.out n hgl3
                    have h9 := cell_lt hr0.c0
                    rw [e3] at e0
                    cases e0
                    exact h9
                  rw [HGET.out] at hrec hin
                  obtain ⟨c0, c1, c2, c3', c4, m0, m1, m2, m3⟩ := hrec
                  simp only [Rec.number, Rec.kind, Rec.num, Rec.text, Rec.inner] at c0 c1 c2 c3' c4 hin
                  obtain ⟨ai, capi, rfl, hi1, hi2, hi3⟩ := hin.form
                  subst e3
                  have hbll := cell_lt c0
                  clear hi3 hin m0 m1 m2 m3 hgl1 hgl2 hal hsp2
                  go_wp2_with fail
                  refine (rdAt_any z5 pr st b sp ar cr HR5.out).mono ?_
                  rintro e _ ⟨rfl, rfl⟩
                  have HCON := Lib.hid (show ∀ W, RdAt W ps st (b.drop q) 0 az cs → Calls Tryd.prog 57 #[.pointer (some ⟨ps, 0, none⟩), .agg #[.int .i64 num, .int .i64 k, .int .i64 x, .string ⟨t.toArray⟩, .slice ai i.length capi], .int .i64 (IntKind.i64.wrap ((sp : Int) - (q : Int)))] W (fun e w' => e = .returned (.bool true) ∧ Turn W.heap.size ps W w') from fun W hW => by
                    by_cases hk3 : k = 3
                    · subst hk3
                      exact content3_any W ps num x t _ _
                    · rw [show IntKind.i64.wrap ((sp : Int) - (q : Int)) = ((sp - q : Nat) : Int) by rw [IntKind.wrap_i64]; omega]
                      refine content_any W ps st (b.drop q) az cs hW num k x t (sp - q) _ (by omega) ?_
                      rw [shift_c st k b q (by rw [HBN.out]; exact hg1), HCR.out hk3])
                  have HSD5 := Lib.hid (show RdAt z5 ps st (b.drop q) 0 az cs from HSD.out.other HT5.out (by omega) (fun g hg => by have := HAS.out g hg; omega))
                  have hdb : Below z5.heap.size z5 z5.drew := (Below.refl _ _).drew
                  have HS0 : ((z5.drew.cell? ⟨bl, ol + n * 5, none⟩ = some (.int .i64 num) ∧ z5.drew.cell? ⟨bl, ol + n * 5 + 1, none⟩ = some (.int .i64 k) ∧ z5.drew.cell? ⟨bl, ol + n * 5 + 2, none⟩ = some (.int .i64 x) ∧ z5.drew.cell? ⟨bl, ol + n * 5 + 3, none⟩ = some (.string ⟨t.toArray⟩) ∧ z5.drew.cell? ⟨bl, ol + n * 5 + 4, none⟩ = some (.slice ai i.length capi)) ∧ Turn z5.heap.size ps z5 z5.drew) := ⟨⟨(hdb.cell (cell_lt c0)).trans c0, (hdb.cell (cell_lt c1)).trans c1, (hdb.cell (cell_lt c2)).trans c2, (hdb.cell (cell_lt c3')).trans c3', (hdb.cell (cell_lt c4)).trans c4⟩, .of hdb⟩
                  have HRD0 := Lib.hid (HR5.out.later hdb)
                  have HSD0 := Lib.hid (HSD5.out.later hdb)
                  have hbne : bl ≠ ps := by omega
                  have HS0 := Lib.hid HS0
                  clear hdb
                  go_wp2_with fail
                  go_region_held3 (fun w' => (w'.cell? ⟨bl, ol + n * 5, none⟩ = some (.int .i64 num) ∧ w'.cell? ⟨bl, ol + n * 5 + 1, none⟩ = some (.int .i64 k) ∧ w'.cell? ⟨bl, ol + n * 5 + 2, none⟩ = some (.int .i64 x) ∧ w'.cell? ⟨bl, ol + n * 5 + 3, none⟩ = some (.string ⟨t.toArray⟩) ∧ w'.cell? ⟨bl, ol + n * 5 + 4, none⟩ = some (.slice ai i.length capi)) ∧ Turn z5.heap.size ps z5 w')
                    (first | exact keep_five (by assumption) (by assumption) hbne | exact HS0.out)
                    (first | (go_at_call 54; refine (rdAt_any _ pr st b sp ar cr HRD0.out).mono ?_; rintro e _ ⟨rfl, rfl⟩) | (go_at_call 57; refine (HCON.out _ HSD0.out).mono ?_; rintro e x1 ⟨rfl, hx1⟩))
                  have hS1 : Turn z5.heap.size ps z5 x1 := (by assumption : _ ∧ Turn z5.heap.size ps z5 x1).2
                  have hB51 := hS1.below (B' := wr.heap.size) (by omega) (by omega)
                  have HRX := Lib.hid (HRP.out.stay HR5.out hB51)
                  have HBX := Lib.hid (HBZ5.out.trans (hB51.mono hsw3))
                  have hsx := hS1.size
                  clear hS1 hB51 hx1
                  go_wp2_with fail
                  go_roundw
                  case rel => exact ⟨n + 1, sp, acc ++ [.mk num k x t i], by simp, by simp [HACC.out], by omega, hPN, HRX.out, HNEW.out, HBX.out, by omega⟩
                  case measure => simp [intOf] <;> omega
                · have hes2 : (es == 0 : Bool) = false := by simpa using hes
                  clear hsp2
                  go_wp2_with fail
                  refine (rdAt_any z5 pr st b sp ar cr HR5.out).mono ?_
                  rintro e _ ⟨rfl, rfl⟩
                  go_wp2_with fail
                  go_quiet (fail)
                  have hdn : Below z5.heap.size z5 (z5.drewN nq) := below_drawn (Below.refl _ _) nq
                  have HRX := Lib.hid (HR5.out.later hdn)
                  have HBX := Lib.hid (HBZ5.out.trans (hdn.mono (by omega)))
                  have hsx := hdn.size
                  clear hdn
                  go_wp2_with fail
                  go_roundw
                  case rel => exact ⟨n + 1, sp, acc ++ [.mk num k x t i], by simp, by simp [HACC.out], by omega, hPN, HRX.out, HNEW.out, HBX.out, by omega⟩
                  case measure => simp [intOf] <;> omega
              · have hse2 : se ≠ 0 := by simpa using hse
                have hW := HWS1.out hse2
                obtain rfl : l = [] := by rw [HA1.out, hW]
                obtain rfl : es = se := by rw [HA2.out, hW]
                obtain rfl : at_ = sp := by rw [HA3.out, hW]; simp [hse2]
                clear hW
                go_wp2_with fail
                refine (rdAt_any z5 pr st b at_ ar cr HR5.out).mono ?_
                rintro e _ ⟨rfl, rfl⟩
                go_wp2_with fail
                go_ret
                exact ⟨rfl, HB3.out.trans (HBZ5.out.mono (by omega))⟩
          · obtain rfl : k = 4 := by simpa using hk4
            have hW := walk_4 HALLP.out HLTB.out HG.out
            obtain rfl : l = [] := by rw [HA1.out, hW]
            obtain rfl : es = 25 := by rw [HA2.out, hW]
            obtain rfl : at_ = p := by rw [HA3.out, hW]; simp
            clear hW
            go_wp2_with fail
            refine (rdMore_any wr pr st b _ ar cr HRP.out).mono ?_
            rintro e z1 ⟨rfl, hz1, hbz1⟩
            rw [HD.out]
            have HZ1 := Lib.hid hz1
            go_wp2_with fail
            refine (rdAt_any _ pr st b _ ar cr HZ1.out).mono ?_
            rintro e _ ⟨rfl, rfl⟩
            go_wp2_with fail
            refine (HTAG.out z1 HZ1.out).mono ?_
            rintro e z2 ⟨rfl, hz2, htz2⟩
            have HRZ2 := Lib.hid hz2
            have hsz1 := hbz1.size
            have hsz2 := htz2.size
            have HBZ2 := Lib.hid ((HBW.out.trans (hbz1.mono hsw3)).trans (htz2.below (by omega) (by omega)))
            clear hz1 hbz1 hz2 htz2
            go_wp2_with fail
            go_ret
            exact ⟨rfl, HB3.out.trans (HBZ2.out.mono (by omega))⟩
        · have her2 : er ≠ 0 := by simpa using her
          obtain rfl : q = p := hg4 her2
          have hW := walk_tag HALLP.out HLTB.out HG.out her2
          obtain rfl : l = [] := by rw [HA1.out, hW]
          obtain rfl : es = er := by rw [HA2.out, hW]
          obtain rfl : at_ = q := by rw [HA3.out, hW]; simp [her2]
          clear hW
          go_wp2_with fail
          refine (rdMore_any wr pr st b _ ar cr HRP.out).mono ?_
          rintro e z1 ⟨rfl, hz1, hbz1⟩
          rw [HD.out]
          have HZ1 := Lib.hid hz1
          go_wp2_with fail
          refine (rdAt_any _ pr st b _ ar cr HZ1.out).mono ?_
          rintro e _ ⟨rfl, rfl⟩
          go_wp2_with fail
          refine (HTAG.out z1 HZ1.out).mono ?_
          rintro e z2 ⟨rfl, hz2, htz2⟩
          have HRZ2 := Lib.hid hz2
          have hsz1 := hbz1.size
          have hsz2 := htz2.size
          have HBZ2 := Lib.hid ((HBW.out.trans (hbz1.mono hsw3)).trans (htz2.below (by omega) (by omega)))
          clear hz1 hbz1 hz2 htz2
          go_wp2_with fail
          refine (rdAt_any _ pr st b _ ar cr HRZ2.out).mono ?_
          rintro e _ ⟨rfl, rfl⟩
          go_wp2_with fail
          go_ret
          exact ⟨rfl, HB3.out.trans (HBZ2.out.mono (by omega))⟩
      · have HD := Lib.hid (show decide (p < b.length) = false by rw [HBN.out]; simp [hlt])
        have hW := walk_end HALLP.out (by rw [HBN.out]; omega)
        obtain rfl : l = acc := by rw [HA1.out, hW]
        obtain rfl : es = 0 := by rw [HA2.out, hW]
        clear hW
        go_wp2_with fail
        refine (rdMore_any wr pr st b _ ar cr HRP.out).mono ?_
        rintro e z1 ⟨rfl, hz1, hbz1⟩
        rw [HD.out]
        have HBZ1 := Lib.hid (HBW.out.trans (hbz1.mono hsw3))
        have hln := HACC.out
        clear hz1 hbz1
        go_wp2_with fail
        go_ret
        refine ⟨?_, HB3.out.trans (HBZ1.out.mono (by omega))⟩
        simp <;> omega
end Go.Proofs.YtecmhpncgdjgjaaDoor
