/-
  records of package wire, walked again: each list of records that it makes lies in a block of its own. Conditions: as for Varint; at most 63 groups open. (Turned by gen_recst.py.)
  Split of package wire, walked again: each list that it makes lies in a block of its own. Conditions: none.
-/
import Derived.Test.YtecmhpncgdjgjaaDoorTree
import Derived.Test.YtecmhpncgdjgjaaDoorSplit
namespace Go.Proofs.YtecmhpncgdjgjaaDoor
open Go.RowKit
set_option linter.unusedVariables false
set_option linter.unusedSimpArgs false

set_option maxHeartbeats 16000000 in
set_option maxRecDepth 100000 in
theorem recordsT_any (N : Nat) : ∀ (F : Nat), F ≤ N → ∀ (number : Int) (op : Nat) (w : World) (p : Nat) (st : Bool) (b : List UInt8) (q : Nat) (a : Option Addr) (cap : Nat), RdAt w p st b q a cap → b.length < q + F → op ≤ 63 →
    Calls Tryd.prog 70 #[.pointer (some ⟨p, 0, none⟩), .int .i64 number, .int .i64 op] w (RecsOutT w p st b a cap (recsR st b 63 F number op q)) := by
  induction N with
  | zero => intro F hF number op w p st b q a cap h hf; have := h.hq; omega
  | succ N ih =>
    intro F hF number op w p st b q a cap h hf hop
    have IH := Lib.hid ih
    obtain ⟨i0, hi, hz0, hz1, hz2⟩ := infoRecP
    obtain ⟨R, hR⟩ : ∃ R, recsR st b 63 F number op q = R := ⟨_, rfl⟩
    have hR0 : pre [] R = R := pre_nil (by rw [← hR]; exact (recsR_facts st b 63 F number op q h.hq).1)
    rw [hR]
    have HR := Lib.hid hR
    have HR0 := Lib.hid hR0
    have HP := Lib.hid h
    have hpl := h.lt
    have hbl := h.hb
    clear ih hR hR0 h
    go_enter Tryd.func70, Tryd.ntmps70
    go_wp2_with fail
    go_loopg [8] F (fun f v8 wr => ∃ (L : List (Rec × Value)) (q' : Nat), LOkT wr w.heap.size v8 L ∧ RdAt wr p st b q' a cap ∧ Turn w.heap.size p w wr ∧ b.length < q' + f ∧ L.length ≤ q' ∧ f ≤ F ∧ R = pre (L.map (·.1)) (recsR st b 63 f number op q'))
    case atStart => exact ⟨[], q, LOkT.nil _ _, HP.out, Turn.refl _ _ _, hf, Nat.zero_le _, Nat.le_refl _, by rw [← HR0.out, ← HR.out]; rfl⟩
    case round =>
      obtain ⟨L, q', hL, hRd, ht, hfq, hLq, hfF, hRR⟩ := hrel
      have hq' := hRd.hq
      have hsz := ht.size
      obtain ⟨f', rfl⟩ : ∃ f', gk = f' + 1 := ⟨gk - 1, by omega⟩
      by_cases hlt : q' < b.length
      · have hge : ¬ b.length ≤ q' := by omega
        have hd : decide (q' < b.length) = true := by simp [hlt]
        have HD := Lib.hid hd
        have hgp := gRd_place st b q' hq'
        have hgn := gRd_nums st b q'
        obtain ⟨⟨n, k, er, q1⟩, hg⟩ : ∃ r, gRd st b q' = r := ⟨_, rfl⟩
        have HTAG := Lib.hid (fun (W : World) (hW : RdAt W p st b q' a cap) => hg ▸ rdTag_any W p st b q' a cap hW)
        rw [hg] at hgp hgn
        simp only at hgp hgn
        have HG := Lib.hid hg
        have HRR := Lib.hid hRR
        have HT := Lib.hid ht
        have HL := Lib.hid hL
        obtain ⟨hg1, hg2, hg3, hg4⟩ := hgp
        clear hd hg hRR ht hL
        cases her : (er != 0 : Bool)
        · have he0 : er = 0 := by simpa using her
          obtain ⟨hn1, hn2, hk0, hk5⟩ := hgn he0
          have hg5 := hg3 he0
          subst he0
          clear hg3 hg4 hgn
          cases hk4 : (k == 4 : Bool)
          · cases hk3 : (k == 3 : Bool)
            · have hkc : k = 0 ∨ k = 1 ∨ k = 2 ∨ k = 5 := by simp at hk3 hk4; omega
              clear hk3 hk4 hk0 hk5
              rcases hkc with rfl | rfl | rfl | rfl
              · have HS := Lib.hid (recsR_c st b 63 f' number op q' hge (by rw [HG.out]) (by rw [HG.out]; simp) (by rw [HG.out]; simp) (L.map (·.1)))
                have hcp := cRd_place st 0 b q1 hg1
                obtain ⟨⟨x, er2, q2⟩, hv⟩ : ∃ r, vRd st b q1 = r := ⟨_, rfl⟩
                have hcd : cRd st 0 b q1 = (x, [], er2, q2) := by rw [cRd_0, hv]
                have HREAD := Lib.hid (fun (W : World) (hW : RdAt W p st b q1 a cap) (o : Nat) (ho : W.cell? ⟨o, 2, none⟩ = some (.int .i64 0)) (hz : W.frozen? ⟨o, 2, none⟩ = false) (hne : o ≠ p) => hv ▸ read0_any W p st b q1 a cap hW o _ ho hz hne)
                have HS2 := Lib.hid (show R = if er2 ≠ 0 then ([], er2, q2) else pre (L.map (·.1) ++ [Rec.mk n 0 x [] []]) (recsR st b 63 f' number op q2) from HRR.out.trans (HS.out.trans (by rw [HG.out]; simp only [hcd])))
                rw [hcd] at hcp
                simp only at hcp
                obtain ⟨hq2a, hq2b, hxl, hx64⟩ := hcp
                clear hv hcd
                cases hie : (er2 != 0 : Bool)
                · have hie0 : er2 = 0 := by simpa using hie
                  subst hie0
                  have HV := Lib.hid (HS2.out.trans (if_neg (by simp)))
                  have HOK := Lib.hid (show RecOk (Rec.mk n 0 x [] []) from ⟨⟨by show _ ≤ n; omega, by show n < _; omega⟩, ⟨by show _ ≤ (0 : Int); omega, by show (0 : Int) < _; omega⟩, hx64, by simp [Rec.text]⟩)
                  go_wp2_with fail
                  refine (rdMore_any wr p st b q' a cap hRd).mono ?_
                  rintro e w1 ⟨rfl, hR1, hb1⟩
                  rw [HD.out]
                  have k1 := hR1.c1
                  go_wp2_with fail
                  refine (HTAG.out w1 hR1).mono ?_
                  rintro e w2 ⟨rfl, hR2, ht2⟩
                  have k1 := hR2.c1
                  have kz := hR2.fz
                  have hs2 : wr.heap.size ≤ w2.heap.size := by have := hb1.size; have := ht2.size; omega
                  have HT2 := Lib.hid (((HT.out.trans (.of (hb1.mono hsz))).trans (ht2.mono (by have := hb1.size; omega))))
                  have HL2 := Lib.hid ((HL.out.turn (.of hb1) hpl).turn ht2 hpl)
                  have HR2 := Lib.hid hR2
                  clear hb1 ht2 hR1
                  go_wp2_with fail
                  refine (kinds_any _).mono ?_
                  rintro e w3 ⟨rfl, rfl⟩
                  have hblk := ((alloc_below (w2.alloc (Obj.cells #[.int .i64 n, .int .i64 0, .int .i64 0, .string ⟨#[]⟩, .slice none 0 0] 53)) kindsB).block w2.heap.size (by simp)).trans (alloc_at _ _)
                  go_wp2_with fail
                  refine (HREAD.out _ ((HR2.out.later (alloc_below _ _)).later (alloc_below _ _)) w2.heap.size (Lib.cell_of_heap hblk 2) (frozen_of_row _ w2.heap.size 2 _ _ hblk) (by omega)).mono ?_
                  rintro e w5 ⟨w4, rfl, rfl, hR3, ht3⟩
                  simp only [World.size_alloc] at ht3
                  have hblk4 := (ht3.block w2.heap.size (by omega) (by omega)).trans hblk
                  have hX := Lib.cell_of_heap hblk4
                  have HTX := Lib.hid (((Turn.of (alloc_below w2 _)).trans (Turn.of ((alloc_below _ _).mono (by simp)))).trans (ht3.mono (by omega)))
                  have HR3 := Lib.hid hR3
                  clear hblk hblk4 ht3 hR3
                  have hs2x : w2.heap.size ≤ w4.heap.size := HTX.out.size
                  have hTW := HTX.out.trans ((Turn.of ((Below.refl w2.heap.size w4).setCell (p := ⟨w2.heap.size, 2, none⟩) (Nat.le_refl _) (.int .i64 x))).trans (Turn.of ((alloc_below _ (.cells #[.int .i64 n, .int .i64 0, .int .i64 x, .string ⟨#[]⟩, .slice none 0 0] 53)).mono (by rw [World.size_setCell]; exact hs2x))))
                  have hLW := HL2.out.turn hTW hpl
                  have hRW := HP.out.stay HR3.out (((Below.refl w.heap.size w4).setCell (p := ⟨w2.heap.size, 2, none⟩) (by show w.heap.size ≤ w2.heap.size; omega) (.int .i64 x)).trans ((alloc_below _ (.cells #[.int .i64 n, .int .i64 0, .int .i64 x, .string ⟨#[]⟩, .slice none 0 0] 53)).mono (by rw [World.size_setCell]; omega)))
                  have HTW := Lib.hid hTW
                  have HLW := Lib.hid hLW
                  have HRW := Lib.hid hRW
                  clear hTW hLW hRW
                  go_wp2_with (at_builtin; refine wpList_append_own_at _ rfl _ _ 36 rfl w.heap.size 53 i0 (.agg #[.int .i64 0, .int .i64 0, .int .i64 0, .string ⟨#[]⟩, .slice none 0 0]) 5 64 Tryd.underlying36 hi hz0 hz1 hz2 rfl (by decide) _ _ _ rfl HLW.out.own ⟨w4.heap.size, 0, none⟩ 1 1 (five (Rec.mk n 0 x [] [], .slice none 0 0)) rfl rfl ?c1 ?c2 ?c3 ?c4 ?c5 ?_)
                  case c1 => exact news_row (by simp)
                  case c2 => intro u hu; simp [five] at hu; rcases hu with rfl | rfl | rfl | rfl | rfl <;> rfl
                  case c3 => unfold maxLen; omega
                  case c4 => omega
                  case c5 => simp; omega
                  intro v' w5 hown' hgrow _ hat
                  have hput := LOkT.put (x := (Rec.mk n 0 x [] [], .slice none 0 0)) HL2.out HTW.out hpl (by omega) hown' hgrow (by simpa using hat) HOK.out (.none _)
                  have hB5 := (Below.refl w.heap.size _).grown hgrow (by simp; omega) (own_base HLW.out.own)
                  have HL5 := Lib.hid hput
                  have HR5 := Lib.hid (HP.out.stay HRW.out hB5)
                  have HT5 := Lib.hid ((HT2.out.trans (HTW.out.mono (by omega))).trans (.of hB5))
                  clear hown' hgrow hat hput hB5
                  go_wp2
                  go_roundg f'
                  case measure => omega
                  case rel => exact ⟨L ++ [(Rec.mk n 0 x [] [], .slice none 0 0)], q2, HL5.out, HR5.out, HT5.out, by omega, by simp; omega, by omega, by rw [HV.out]; simp⟩
                · have HV := Lib.hid (HS2.out.trans (if_pos (by simpa using hie)))
                  go_wp2_with fail
                  refine (rdMore_any wr p st b q' a cap hRd).mono ?_
                  rintro e w1 ⟨rfl, hR1, hb1⟩
                  rw [HD.out]
                  have k1 := hR1.c1
                  go_wp2_with fail
                  refine (HTAG.out w1 hR1).mono ?_
                  rintro e w2 ⟨rfl, hR2, ht2⟩
                  have k1 := hR2.c1
                  have kz := hR2.fz
                  have hs2 : wr.heap.size ≤ w2.heap.size := by have := hb1.size; have := ht2.size; omega
                  have HT2 := Lib.hid (((HT.out.trans (.of (hb1.mono hsz))).trans (ht2.mono (by have := hb1.size; omega))))
                  have HL2 := Lib.hid ((HL.out.turn (.of hb1) hpl).turn ht2 hpl)
                  have HR2 := Lib.hid hR2
                  clear hb1 ht2 hR1
                  go_wp2_with fail
                  refine (kinds_any _).mono ?_
                  rintro e w3 ⟨rfl, rfl⟩
                  have hblk := ((alloc_below (w2.alloc (Obj.cells #[.int .i64 n, .int .i64 0, .int .i64 0, .string ⟨#[]⟩, .slice none 0 0] 53)) kindsB).block w2.heap.size (by simp)).trans (alloc_at _ _)
                  go_wp2_with fail
                  refine (HREAD.out _ ((HR2.out.later (alloc_below _ _)).later (alloc_below _ _)) w2.heap.size (Lib.cell_of_heap hblk 2) (frozen_of_row _ w2.heap.size 2 _ _ hblk) (by omega)).mono ?_
                  rintro e w5 ⟨w4, rfl, rfl, hR3, ht3⟩
                  simp only [World.size_alloc] at ht3
                  have hs4 := ht3.size
                  simp only [World.size_alloc] at hs4
                  have HT3 := Lib.hid (HT2.out.trans ((((Turn.of (alloc_below w2 _)).trans (Turn.of ((alloc_below _ _).mono (by simp)))).trans (ht3.mono (by omega))).mono (by omega)))
                  have HR3 := Lib.hid hR3
                  clear hblk ht3 hR3
                  go_wp2_with fail
                  go_ret2
                  exact out_errT HV.out (HP.out.stay HR3.out ((Below.refl _ _).setCell (by show w.heap.size ≤ w2.heap.size; omega) _)) (HT3.out.trans (.of ((Below.refl _ _).setCell (by show w.heap.size ≤ w2.heap.size; omega) _)))
              · have HS := Lib.hid (recsR_c st b 63 f' number op q' hge (by rw [HG.out]) (by rw [HG.out]; simp) (by rw [HG.out]; simp) (L.map (·.1)))
                have hcp := cRd_place st 1 b q1 hg1
                obtain ⟨⟨x, er2, q2⟩, hv⟩ : ∃ r, fRd 8 b q1 = r := ⟨_, rfl⟩
                have hcd : cRd st 1 b q1 = (x, [], er2, q2) := by rw [cRd_1, hv]
                have HREAD := Lib.hid (fun (W : World) (hW : RdAt W p st b q1 a cap) (o : Nat) (ho : W.cell? ⟨o, 2, none⟩ = some (.int .i64 0)) (hz : W.frozen? ⟨o, 2, none⟩ = false) (hne : o ≠ p) => hv ▸ read1_any W p st b q1 a cap hW o _ ho hz hne)
                have HS2 := Lib.hid (show R = if er2 ≠ 0 then ([], er2, q2) else pre (L.map (·.1) ++ [Rec.mk n 1 x [] []]) (recsR st b 63 f' number op q2) from HRR.out.trans (HS.out.trans (by rw [HG.out]; simp only [hcd])))
                rw [hcd] at hcp
                simp only at hcp
                obtain ⟨hq2a, hq2b, hxl, hx64⟩ := hcp
                clear hv hcd
                cases hie : (er2 != 0 : Bool)
                · have hie0 : er2 = 0 := by simpa using hie
                  subst hie0
                  have HV := Lib.hid (HS2.out.trans (if_neg (by simp)))
                  have HOK := Lib.hid (show RecOk (Rec.mk n 1 x [] []) from ⟨⟨by show _ ≤ n; omega, by show n < _; omega⟩, ⟨by show _ ≤ (1 : Int); omega, by show (1 : Int) < _; omega⟩, hx64, by simp [Rec.text]⟩)
                  go_wp2_with fail
                  refine (rdMore_any wr p st b q' a cap hRd).mono ?_
                  rintro e w1 ⟨rfl, hR1, hb1⟩
                  rw [HD.out]
                  have k1 := hR1.c1
                  go_wp2_with fail
                  refine (HTAG.out w1 hR1).mono ?_
                  rintro e w2 ⟨rfl, hR2, ht2⟩
                  have k1 := hR2.c1
                  have kz := hR2.fz
                  have hs2 : wr.heap.size ≤ w2.heap.size := by have := hb1.size; have := ht2.size; omega
                  have HT2 := Lib.hid (((HT.out.trans (.of (hb1.mono hsz))).trans (ht2.mono (by have := hb1.size; omega))))
                  have HL2 := Lib.hid ((HL.out.turn (.of hb1) hpl).turn ht2 hpl)
                  have HR2 := Lib.hid hR2
                  clear hb1 ht2 hR1
                  go_wp2_with fail
                  refine (kinds_any _).mono ?_
                  rintro e w3 ⟨rfl, rfl⟩
                  have hblk := ((alloc_below (w2.alloc (Obj.cells #[.int .i64 n, .int .i64 1, .int .i64 0, .string ⟨#[]⟩, .slice none 0 0] 53)) kindsB).block w2.heap.size (by simp)).trans (alloc_at _ _)
                  go_wp2_with fail
                  refine (HREAD.out _ ((HR2.out.later (alloc_below _ _)).later (alloc_below _ _)) w2.heap.size (Lib.cell_of_heap hblk 2) (frozen_of_row _ w2.heap.size 2 _ _ hblk) (by omega)).mono ?_
                  rintro e w5 ⟨w4, rfl, rfl, hR3, ht3⟩
                  simp only [World.size_alloc] at ht3
                  have hblk4 := (ht3.block w2.heap.size (by omega) (by omega)).trans hblk
                  have hX := Lib.cell_of_heap hblk4
                  have HTX := Lib.hid (((Turn.of (alloc_below w2 _)).trans (Turn.of ((alloc_below _ _).mono (by simp)))).trans (ht3.mono (by omega)))
                  have HR3 := Lib.hid hR3
                  clear hblk hblk4 ht3 hR3
                  have hs2x : w2.heap.size ≤ w4.heap.size := HTX.out.size
                  have hTW := HTX.out.trans ((Turn.of ((Below.refl w2.heap.size w4).setCell (p := ⟨w2.heap.size, 2, none⟩) (Nat.le_refl _) (.int .i64 x))).trans (Turn.of ((alloc_below _ (.cells #[.int .i64 n, .int .i64 1, .int .i64 x, .string ⟨#[]⟩, .slice none 0 0] 53)).mono (by rw [World.size_setCell]; exact hs2x))))
                  have hLW := HL2.out.turn hTW hpl
                  have hRW := HP.out.stay HR3.out (((Below.refl w.heap.size w4).setCell (p := ⟨w2.heap.size, 2, none⟩) (by show w.heap.size ≤ w2.heap.size; omega) (.int .i64 x)).trans ((alloc_below _ (.cells #[.int .i64 n, .int .i64 1, .int .i64 x, .string ⟨#[]⟩, .slice none 0 0] 53)).mono (by rw [World.size_setCell]; omega)))
                  have HTW := Lib.hid hTW
                  have HLW := Lib.hid hLW
                  have HRW := Lib.hid hRW
                  clear hTW hLW hRW
                  go_wp2_with (at_builtin; refine wpList_append_own_at _ rfl _ _ 36 rfl w.heap.size 53 i0 (.agg #[.int .i64 0, .int .i64 0, .int .i64 0, .string ⟨#[]⟩, .slice none 0 0]) 5 64 Tryd.underlying36 hi hz0 hz1 hz2 rfl (by decide) _ _ _ rfl HLW.out.own ⟨w4.heap.size, 0, none⟩ 1 1 (five (Rec.mk n 1 x [] [], .slice none 0 0)) rfl rfl ?c1 ?c2 ?c3 ?c4 ?c5 ?_)
                  case c1 => exact news_row (by simp)
                  case c2 => intro u hu; simp [five] at hu; rcases hu with rfl | rfl | rfl | rfl | rfl <;> rfl
                  case c3 => unfold maxLen; omega
                  case c4 => omega
                  case c5 => simp; omega
                  intro v' w5 hown' hgrow _ hat
                  have hput := LOkT.put (x := (Rec.mk n 1 x [] [], .slice none 0 0)) HL2.out HTW.out hpl (by omega) hown' hgrow (by simpa using hat) HOK.out (.none _)
                  have hB5 := (Below.refl w.heap.size _).grown hgrow (by simp; omega) (own_base HLW.out.own)
                  have HL5 := Lib.hid hput
                  have HR5 := Lib.hid (HP.out.stay HRW.out hB5)
                  have HT5 := Lib.hid ((HT2.out.trans (HTW.out.mono (by omega))).trans (.of hB5))
                  clear hown' hgrow hat hput hB5
                  go_wp2
                  go_roundg f'
                  case measure => omega
                  case rel => exact ⟨L ++ [(Rec.mk n 1 x [] [], .slice none 0 0)], q2, HL5.out, HR5.out, HT5.out, by omega, by simp; omega, by omega, by rw [HV.out]; simp⟩
                · have HV := Lib.hid (HS2.out.trans (if_pos (by simpa using hie)))
                  go_wp2_with fail
                  refine (rdMore_any wr p st b q' a cap hRd).mono ?_
                  rintro e w1 ⟨rfl, hR1, hb1⟩
                  rw [HD.out]
                  have k1 := hR1.c1
                  go_wp2_with fail
                  refine (HTAG.out w1 hR1).mono ?_
                  rintro e w2 ⟨rfl, hR2, ht2⟩
                  have k1 := hR2.c1
                  have kz := hR2.fz
                  have hs2 : wr.heap.size ≤ w2.heap.size := by have := hb1.size; have := ht2.size; omega
                  have HT2 := Lib.hid (((HT.out.trans (.of (hb1.mono hsz))).trans (ht2.mono (by have := hb1.size; omega))))
                  have HL2 := Lib.hid ((HL.out.turn (.of hb1) hpl).turn ht2 hpl)
                  have HR2 := Lib.hid hR2
                  clear hb1 ht2 hR1
                  go_wp2_with fail
                  refine (kinds_any _).mono ?_
                  rintro e w3 ⟨rfl, rfl⟩
                  have hblk := ((alloc_below (w2.alloc (Obj.cells #[.int .i64 n, .int .i64 1, .int .i64 0, .string ⟨#[]⟩, .slice none 0 0] 53)) kindsB).block w2.heap.size (by simp)).trans (alloc_at _ _)
                  go_wp2_with fail
                  refine (HREAD.out _ ((HR2.out.later (alloc_below _ _)).later (alloc_below _ _)) w2.heap.size (Lib.cell_of_heap hblk 2) (frozen_of_row _ w2.heap.size 2 _ _ hblk) (by omega)).mono ?_
                  rintro e w5 ⟨w4, rfl, rfl, hR3, ht3⟩
                  simp only [World.size_alloc] at ht3
                  have hs4 := ht3.size
                  simp only [World.size_alloc] at hs4
                  have HT3 := Lib.hid (HT2.out.trans ((((Turn.of (alloc_below w2 _)).trans (Turn.of ((alloc_below _ _).mono (by simp)))).trans (ht3.mono (by omega))).mono (by omega)))
                  have HR3 := Lib.hid hR3
                  clear hblk ht3 hR3
                  go_wp2_with fail
                  go_ret2
                  exact out_errT HV.out (HP.out.stay HR3.out ((Below.refl _ _).setCell (by show w.heap.size ≤ w2.heap.size; omega) _)) (HT3.out.trans (.of ((Below.refl _ _).setCell (by show w.heap.size ≤ w2.heap.size; omega) _)))
              · have HS := Lib.hid (recsR_c st b 63 f' number op q' hge (by rw [HG.out]) (by rw [HG.out]; simp) (by rw [HG.out]; simp) (L.map (·.1)))
                have hcp := cRd_place st 2 b q1 hg1
                obtain ⟨⟨x, er2, q2⟩, hv⟩ : ∃ r, tRd st b q1 = r := ⟨_, rfl⟩
                have hcd : cRd st 2 b q1 = (0, x, er2, q2) := by rw [cRd_2, hv]
                have HREAD := Lib.hid (fun (W : World) (hW : RdAt W p st b q1 a cap) (o : Nat) (ho : W.cell? ⟨o, 3, none⟩ = some (.string ⟨#[]⟩)) (hz : W.frozen? ⟨o, 3, none⟩ = false) (hne : o ≠ p) => hv ▸ read2_any W p st b q1 a cap hW o _ ho hz hne)
                have HS2 := Lib.hid (show R = if er2 ≠ 0 then ([], er2, q2) else pre (L.map (·.1) ++ [Rec.mk n 2 0 x []]) (recsR st b 63 f' number op q2) from HRR.out.trans (HS.out.trans (by rw [HG.out]; simp only [hcd])))
                rw [hcd] at hcp
                simp only at hcp
                obtain ⟨hq2a, hq2b, hxl, hx64⟩ := hcp
                clear hv hcd
                cases hie : (er2 != 0 : Bool)
                · have hie0 : er2 = 0 := by simpa using hie
                  subst hie0
                  have HV := Lib.hid (HS2.out.trans (if_neg (by simp)))
                  have HOK := Lib.hid (show RecOk (Rec.mk n 2 0 x []) from ⟨⟨by show _ ≤ n; omega, by show n < _; omega⟩, ⟨by show _ ≤ (2 : Int); omega, by show (2 : Int) < _; omega⟩, ⟨by show _ ≤ (0 : Int); omega, by show (0 : Int) < _; omega⟩, by show x.length ≤ _; omega⟩)
                  go_wp2_with fail
                  refine (rdMore_any wr p st b q' a cap hRd).mono ?_
                  rintro e w1 ⟨rfl, hR1, hb1⟩
                  rw [HD.out]
                  have k1 := hR1.c1
                  go_wp2_with fail
                  refine (HTAG.out w1 hR1).mono ?_
                  rintro e w2 ⟨rfl, hR2, ht2⟩
                  have k1 := hR2.c1
                  have kz := hR2.fz
                  have hs2 : wr.heap.size ≤ w2.heap.size := by have := hb1.size; have := ht2.size; omega
                  have HT2 := Lib.hid (((HT.out.trans (.of (hb1.mono hsz))).trans (ht2.mono (by have := hb1.size; omega))))
                  have HL2 := Lib.hid ((HL.out.turn (.of hb1) hpl).turn ht2 hpl)
                  have HR2 := Lib.hid hR2
                  clear hb1 ht2 hR1
                  go_wp2_with fail
                  refine (kinds_any _).mono ?_
                  rintro e w3 ⟨rfl, rfl⟩
                  have hblk := ((alloc_below (w2.alloc (Obj.cells #[.int .i64 n, .int .i64 2, .int .i64 0, .string ⟨#[]⟩, .slice none 0 0] 53)) kindsB).block w2.heap.size (by simp)).trans (alloc_at _ _)
                  go_wp2_with fail
                  refine (HREAD.out _ ((HR2.out.later (alloc_below _ _)).later (alloc_below _ _)) w2.heap.size (Lib.cell_of_heap hblk 3) (frozen_of_row _ w2.heap.size 3 _ _ hblk) (by omega)).mono ?_
                  rintro e w5 ⟨w4, rfl, rfl, hR3, ht3⟩
                  simp only [World.size_alloc] at ht3
                  have hblk4 := (ht3.block w2.heap.size (by omega) (by omega)).trans hblk
                  have hX := Lib.cell_of_heap hblk4
                  have HTX := Lib.hid (((Turn.of (alloc_below w2 _)).trans (Turn.of ((alloc_below _ _).mono (by simp)))).trans (ht3.mono (by omega)))
                  have HR3 := Lib.hid hR3
                  clear hblk hblk4 ht3 hR3
                  have hs2x : w2.heap.size ≤ w4.heap.size := HTX.out.size
                  have hTW := HTX.out.trans ((Turn.of ((Below.refl w2.heap.size w4).setCell (p := ⟨w2.heap.size, 3, none⟩) (Nat.le_refl _) (.string ⟨x.toArray⟩))).trans (Turn.of ((alloc_below _ (.cells #[.int .i64 n, .int .i64 2, .int .i64 0, .string ⟨x.toArray⟩, .slice none 0 0] 53)).mono (by rw [World.size_setCell]; exact hs2x))))
                  have hLW := HL2.out.turn hTW hpl
                  have hRW := HP.out.stay HR3.out (((Below.refl w.heap.size w4).setCell (p := ⟨w2.heap.size, 3, none⟩) (by show w.heap.size ≤ w2.heap.size; omega) (.string ⟨x.toArray⟩)).trans ((alloc_below _ (.cells #[.int .i64 n, .int .i64 2, .int .i64 0, .string ⟨x.toArray⟩, .slice none 0 0] 53)).mono (by rw [World.size_setCell]; omega)))
                  have HTW := Lib.hid hTW
                  have HLW := Lib.hid hLW
                  have HRW := Lib.hid hRW
                  clear hTW hLW hRW
                  go_wp2_with (at_builtin; refine wpList_append_own_at _ rfl _ _ 36 rfl w.heap.size 53 i0 (.agg #[.int .i64 0, .int .i64 0, .int .i64 0, .string ⟨#[]⟩, .slice none 0 0]) 5 64 Tryd.underlying36 hi hz0 hz1 hz2 rfl (by decide) _ _ _ rfl HLW.out.own ⟨w4.heap.size, 0, none⟩ 1 1 (five (Rec.mk n 2 0 x [], .slice none 0 0)) rfl rfl ?c1 ?c2 ?c3 ?c4 ?c5 ?_)
                  case c1 => exact news_row (by simp)
                  case c2 => intro u hu; simp [five] at hu; rcases hu with rfl | rfl | rfl | rfl | rfl <;> rfl
                  case c3 => unfold maxLen; omega
                  case c4 => omega
                  case c5 => simp; omega
                  intro v' w5 hown' hgrow _ hat
                  have hput := LOkT.put (x := (Rec.mk n 2 0 x [], .slice none 0 0)) HL2.out HTW.out hpl (by omega) hown' hgrow (by simpa using hat) HOK.out (.none _)
                  have hB5 := (Below.refl w.heap.size _).grown hgrow (by simp; omega) (own_base HLW.out.own)
                  have HL5 := Lib.hid hput
                  have HR5 := Lib.hid (HP.out.stay HRW.out hB5)
                  have HT5 := Lib.hid ((HT2.out.trans (HTW.out.mono (by omega))).trans (.of hB5))
                  clear hown' hgrow hat hput hB5
                  go_wp2
                  go_roundg f'
                  case measure => omega
                  case rel => exact ⟨L ++ [(Rec.mk n 2 0 x [], .slice none 0 0)], q2, HL5.out, HR5.out, HT5.out, by omega, by simp; omega, by omega, by rw [HV.out]; simp⟩
                · have HV := Lib.hid (HS2.out.trans (if_pos (by simpa using hie)))
                  go_wp2_with fail
                  refine (rdMore_any wr p st b q' a cap hRd).mono ?_
                  rintro e w1 ⟨rfl, hR1, hb1⟩
                  rw [HD.out]
                  have k1 := hR1.c1
                  go_wp2_with fail
                  refine (HTAG.out w1 hR1).mono ?_
                  rintro e w2 ⟨rfl, hR2, ht2⟩
                  have k1 := hR2.c1
                  have kz := hR2.fz
                  have hs2 : wr.heap.size ≤ w2.heap.size := by have := hb1.size; have := ht2.size; omega
                  have HT2 := Lib.hid (((HT.out.trans (.of (hb1.mono hsz))).trans (ht2.mono (by have := hb1.size; omega))))
                  have HL2 := Lib.hid ((HL.out.turn (.of hb1) hpl).turn ht2 hpl)
                  have HR2 := Lib.hid hR2
                  clear hb1 ht2 hR1
                  go_wp2_with fail
                  refine (kinds_any _).mono ?_
                  rintro e w3 ⟨rfl, rfl⟩
                  have hblk := ((alloc_below (w2.alloc (Obj.cells #[.int .i64 n, .int .i64 2, .int .i64 0, .string ⟨#[]⟩, .slice none 0 0] 53)) kindsB).block w2.heap.size (by simp)).trans (alloc_at _ _)
                  go_wp2_with fail
                  refine (HREAD.out _ ((HR2.out.later (alloc_below _ _)).later (alloc_below _ _)) w2.heap.size (Lib.cell_of_heap hblk 3) (frozen_of_row _ w2.heap.size 3 _ _ hblk) (by omega)).mono ?_
                  rintro e w5 ⟨w4, rfl, rfl, hR3, ht3⟩
                  simp only [World.size_alloc] at ht3
                  have hs4 := ht3.size
                  simp only [World.size_alloc] at hs4
                  have HT3 := Lib.hid (HT2.out.trans ((((Turn.of (alloc_below w2 _)).trans (Turn.of ((alloc_below _ _).mono (by simp)))).trans (ht3.mono (by omega))).mono (by omega)))
                  have HR3 := Lib.hid hR3
                  clear hblk ht3 hR3
                  go_wp2_with fail
                  go_ret2
                  exact out_errT HV.out (HP.out.stay HR3.out ((Below.refl _ _).setCell (by show w.heap.size ≤ w2.heap.size; omega) _)) (HT3.out.trans (.of ((Below.refl _ _).setCell (by show w.heap.size ≤ w2.heap.size; omega) _)))
              · have HS := Lib.hid (recsR_c st b 63 f' number op q' hge (by rw [HG.out]) (by rw [HG.out]; simp) (by rw [HG.out]; simp) (L.map (·.1)))
                have hcp := cRd_place st 5 b q1 hg1
                obtain ⟨⟨x, er2, q2⟩, hv⟩ : ∃ r, fRd 4 b q1 = r := ⟨_, rfl⟩
                have hcd : cRd st 5 b q1 = (x, [], er2, q2) := by rw [cRd_5, hv]
                have HREAD := Lib.hid (fun (W : World) (hW : RdAt W p st b q1 a cap) (o : Nat) (ho : W.cell? ⟨o, 2, none⟩ = some (.int .i64 0)) (hz : W.frozen? ⟨o, 2, none⟩ = false) (hne : o ≠ p) => hv ▸ read5_any W p st b q1 a cap hW o _ ho hz hne)
                have HS2 := Lib.hid (show R = if er2 ≠ 0 then ([], er2, q2) else pre (L.map (·.1) ++ [Rec.mk n 5 x [] []]) (recsR st b 63 f' number op q2) from HRR.out.trans (HS.out.trans (by rw [HG.out]; simp only [hcd])))
                rw [hcd] at hcp
                simp only at hcp
                obtain ⟨hq2a, hq2b, hxl, hx64⟩ := hcp
                clear hv hcd
                cases hie : (er2 != 0 : Bool)
                · have hie0 : er2 = 0 := by simpa using hie
                  subst hie0
                  have HV := Lib.hid (HS2.out.trans (if_neg (by simp)))
                  have HOK := Lib.hid (show RecOk (Rec.mk n 5 x [] []) from ⟨⟨by show _ ≤ n; omega, by show n < _; omega⟩, ⟨by show _ ≤ (5 : Int); omega, by show (5 : Int) < _; omega⟩, hx64, by simp [Rec.text]⟩)
                  go_wp2_with fail
                  refine (rdMore_any wr p st b q' a cap hRd).mono ?_
                  rintro e w1 ⟨rfl, hR1, hb1⟩
                  rw [HD.out]
                  have k1 := hR1.c1
                  go_wp2_with fail
                  refine (HTAG.out w1 hR1).mono ?_
                  rintro e w2 ⟨rfl, hR2, ht2⟩
                  have k1 := hR2.c1
                  have kz := hR2.fz
                  have hs2 : wr.heap.size ≤ w2.heap.size := by have := hb1.size; have := ht2.size; omega
                  have HT2 := Lib.hid (((HT.out.trans (.of (hb1.mono hsz))).trans (ht2.mono (by have := hb1.size; omega))))
                  have HL2 := Lib.hid ((HL.out.turn (.of hb1) hpl).turn ht2 hpl)
                  have HR2 := Lib.hid hR2
                  clear hb1 ht2 hR1
                  go_wp2_with fail
                  refine (kinds_any _).mono ?_
                  rintro e w3 ⟨rfl, rfl⟩
                  have hblk := ((alloc_below (w2.alloc (Obj.cells #[.int .i64 n, .int .i64 5, .int .i64 0, .string ⟨#[]⟩, .slice none 0 0] 53)) kindsB).block w2.heap.size (by simp)).trans (alloc_at _ _)
                  go_wp2_with fail
                  refine (HREAD.out _ ((HR2.out.later (alloc_below _ _)).later (alloc_below _ _)) w2.heap.size (Lib.cell_of_heap hblk 2) (frozen_of_row _ w2.heap.size 2 _ _ hblk) (by omega)).mono ?_
                  rintro e w5 ⟨w4, rfl, rfl, hR3, ht3⟩
                  simp only [World.size_alloc] at ht3
                  have hblk4 := (ht3.block w2.heap.size (by omega) (by omega)).trans hblk
                  have hX := Lib.cell_of_heap hblk4
                  have HTX := Lib.hid (((Turn.of (alloc_below w2 _)).trans (Turn.of ((alloc_below _ _).mono (by simp)))).trans (ht3.mono (by omega)))
                  have HR3 := Lib.hid hR3
                  clear hblk hblk4 ht3 hR3
                  have hs2x : w2.heap.size ≤ w4.heap.size := HTX.out.size
                  have hTW := HTX.out.trans ((Turn.of ((Below.refl w2.heap.size w4).setCell (p := ⟨w2.heap.size, 2, none⟩) (Nat.le_refl _) (.int .i64 x))).trans (Turn.of ((alloc_below _ (.cells #[.int .i64 n, .int .i64 5, .int .i64 x, .string ⟨#[]⟩, .slice none 0 0] 53)).mono (by rw [World.size_setCell]; exact hs2x))))
                  have hLW := HL2.out.turn hTW hpl
                  have hRW := HP.out.stay HR3.out (((Below.refl w.heap.size w4).setCell (p := ⟨w2.heap.size, 2, none⟩) (by show w.heap.size ≤ w2.heap.size; omega) (.int .i64 x)).trans ((alloc_below _ (.cells #[.int .i64 n, .int .i64 5, .int .i64 x, .string ⟨#[]⟩, .slice none 0 0] 53)).mono (by rw [World.size_setCell]; omega)))
                  have HTW := Lib.hid hTW
                  have HLW := Lib.hid hLW
                  have HRW := Lib.hid hRW
                  clear hTW hLW hRW
                  go_wp2_with (at_builtin; refine wpList_append_own_at _ rfl _ _ 36 rfl w.heap.size 53 i0 (.agg #[.int .i64 0, .int .i64 0, .int .i64 0, .string ⟨#[]⟩, .slice none 0 0]) 5 64 Tryd.underlying36 hi hz0 hz1 hz2 rfl (by decide) _ _ _ rfl HLW.out.own ⟨w4.heap.size, 0, none⟩ 1 1 (five (Rec.mk n 5 x [] [], .slice none 0 0)) rfl rfl ?c1 ?c2 ?c3 ?c4 ?c5 ?_)
                  case c1 => exact news_row (by simp)
                  case c2 => intro u hu; simp [five] at hu; rcases hu with rfl | rfl | rfl | rfl | rfl <;> rfl
                  case c3 => unfold maxLen; omega
                  case c4 => omega
                  case c5 => simp; omega
                  intro v' w5 hown' hgrow _ hat
                  have hput := LOkT.put (x := (Rec.mk n 5 x [] [], .slice none 0 0)) HL2.out HTW.out hpl (by omega) hown' hgrow (by simpa using hat) HOK.out (.none _)
                  have hB5 := (Below.refl w.heap.size _).grown hgrow (by simp; omega) (own_base HLW.out.own)
                  have HL5 := Lib.hid hput
                  have HR5 := Lib.hid (HP.out.stay HRW.out hB5)
                  have HT5 := Lib.hid ((HT2.out.trans (HTW.out.mono (by omega))).trans (.of hB5))
                  clear hown' hgrow hat hput hB5
                  go_wp2
                  go_roundg f'
                  case measure => omega
                  case rel => exact ⟨L ++ [(Rec.mk n 5 x [] [], .slice none 0 0)], q2, HL5.out, HR5.out, HT5.out, by omega, by simp; omega, by omega, by rw [HV.out]; simp⟩
                · have HV := Lib.hid (HS2.out.trans (if_pos (by simpa using hie)))
                  go_wp2_with fail
                  refine (rdMore_any wr p st b q' a cap hRd).mono ?_
                  rintro e w1 ⟨rfl, hR1, hb1⟩
                  rw [HD.out]
                  have k1 := hR1.c1
                  go_wp2_with fail
                  refine (HTAG.out w1 hR1).mono ?_
                  rintro e w2 ⟨rfl, hR2, ht2⟩
                  have k1 := hR2.c1
                  have kz := hR2.fz
                  have hs2 : wr.heap.size ≤ w2.heap.size := by have := hb1.size; have := ht2.size; omega
                  have HT2 := Lib.hid (((HT.out.trans (.of (hb1.mono hsz))).trans (ht2.mono (by have := hb1.size; omega))))
                  have HL2 := Lib.hid ((HL.out.turn (.of hb1) hpl).turn ht2 hpl)
                  have HR2 := Lib.hid hR2
                  clear hb1 ht2 hR1
                  go_wp2_with fail
                  refine (kinds_any _).mono ?_
                  rintro e w3 ⟨rfl, rfl⟩
                  have hblk := ((alloc_below (w2.alloc (Obj.cells #[.int .i64 n, .int .i64 5, .int .i64 0, .string ⟨#[]⟩, .slice none 0 0] 53)) kindsB).block w2.heap.size (by simp)).trans (alloc_at _ _)
                  go_wp2_with fail
                  refine (HREAD.out _ ((HR2.out.later (alloc_below _ _)).later (alloc_below _ _)) w2.heap.size (Lib.cell_of_heap hblk 2) (frozen_of_row _ w2.heap.size 2 _ _ hblk) (by omega)).mono ?_
                  rintro e w5 ⟨w4, rfl, rfl, hR3, ht3⟩
                  simp only [World.size_alloc] at ht3
                  have hs4 := ht3.size
                  simp only [World.size_alloc] at hs4
                  have HT3 := Lib.hid (HT2.out.trans ((((Turn.of (alloc_below w2 _)).trans (Turn.of ((alloc_below _ _).mono (by simp)))).trans (ht3.mono (by omega))).mono (by omega)))
                  have HR3 := Lib.hid hR3
                  clear hblk ht3 hR3
                  go_wp2_with fail
                  go_ret2
                  exact out_errT HV.out (HP.out.stay HR3.out ((Below.refl _ _).setCell (by show w.heap.size ≤ w2.heap.size; omega) _)) (HT3.out.trans (.of ((Below.refl _ _).setCell (by show w.heap.size ≤ w2.heap.size; omega) _)))
            · have hk3' : k = 3 := by simpa using hk3
              subst hk3'
              by_cases hop63 : op = 63
              · subst hop63
                have HV := Lib.hid (HRR.out.trans (by rw [recsR_deep st b 63 f' number 63 q' hge (by rw [HG.out]) (by rw [HG.out]) rfl, pre_e _ _ _ (by omega)]))
                go_wp2_with fail
                refine (rdMore_any wr p st b q' a cap hRd).mono ?_
                rintro e w1 ⟨rfl, hR1, hb1⟩
                rw [HD.out]
                have k1 := hR1.c1
                go_wp2_with fail
                refine (HTAG.out w1 hR1).mono ?_
                rintro e w2 ⟨rfl, hR2, ht2⟩
                have k1 := hR2.c1
                have kz := hR2.fz
                have hs2 : wr.heap.size ≤ w2.heap.size := by have := hb1.size; have := ht2.size; omega
                have HT2 := Lib.hid (((HT.out.trans (.of (hb1.mono hsz))).trans (ht2.mono (by have := hb1.size; omega))))
                have HL2 := Lib.hid ((HL.out.turn (.of hb1) hpl).turn ht2 hpl)
                have HR2 := Lib.hid hR2
                clear hb1 ht2 hR1
                go_wp2_with fail
                go_ret2
                exact out_errT HV.out (HR2.out.set q' hq') (HT2.out.set 1 _)
              · have hop2 : ((op : Int) == 63) = false := by simp; omega
                have HS := Lib.hid (recsR_3 st b 63 f' number op q' hge (by rw [HG.out]) (by rw [HG.out]) hop63 (L.map (·.1)))
                obtain ⟨I, hI⟩ : ∃ I, recsR st b 63 f' n (op + 1) q1 = I := ⟨_, rfl⟩
                have hIf := recsR_facts st b 63 f' n (op + 1) q1 hg1
                have HIH := Lib.hid (fun (W : World) (hW : RdAt W p st b q1 a cap) => hI ▸ IH.out f' (by omega) n (op + 1) W p st b q1 a cap hW (by omega) (by omega))
                rw [hI] at hIf
                have HS2 := Lib.hid (show R = if I.2.1 ≠ 0 then ([], I.2) else pre (L.map (·.1) ++ [.mk n 3 0 [] I.1]) (recsR st b 63 f' number op I.2.2) from HRR.out.trans (HS.out.trans (by subst hI; rw [HG.out])))
                clear hI
                obtain ⟨il, ie, iq⟩ := I
                simp only at hIf
                obtain ⟨hI1, hI2, hI3, hI4⟩ := hIf
                cases hie : (ie != 0 : Bool)
                · have hie0 : ie = 0 := by simpa using hie
                  subst hie0
                  have HV := Lib.hid (HS2.out.trans (if_neg (by simp)))
                  have HOK := Lib.hid (show RecOk (.mk n 3 0 [] il) from ⟨⟨by show _ ≤ n; omega, by show n < _; omega⟩, ⟨by show _ ≤ (3 : Int); omega, by show (3 : Int) < _; omega⟩, ⟨by show _ ≤ (0 : Int); omega, by show (0 : Int) < _; omega⟩, by simp [Rec.text]⟩)
                  clear hI1
                  go_wp2_with fail
                  refine (rdMore_any wr p st b q' a cap hRd).mono ?_
                  rintro e w1 ⟨rfl, hR1, hb1⟩
                  rw [HD.out]
                  have k1 := hR1.c1
                  go_wp2_with fail
                  refine (HTAG.out w1 hR1).mono ?_
                  rintro e w2 ⟨rfl, hR2, ht2⟩
                  have k1 := hR2.c1
                  have kz := hR2.fz
                  have hs2 : wr.heap.size ≤ w2.heap.size := by have := hb1.size; have := ht2.size; omega
                  have HT2 := Lib.hid (((HT.out.trans (.of (hb1.mono hsz))).trans (ht2.mono (by have := hb1.size; omega))))
                  have HL2 := Lib.hid ((HL.out.turn (.of hb1) hpl).turn ht2 hpl)
                  have HR2 := Lib.hid hR2
                  clear hb1 ht2 hR1
                  go_wp2_with fail
                  rw [show ((op : Int) + 1) = ((op + 1 : Nat) : Int) by omega]
                  refine (HIH.out _ (HR2.out.later (alloc_below _ _))).mono ?_
                  rintro e w3 ⟨v, rfl, hrd, _, hR3, ht3⟩
                  simp only at hR3 hrd
                  obtain ⟨a2, cap2, rfl, _, _⟩ := hrd.form
                  have hs3 := ht3.size
                  rw [World.size_alloc] at hs3 ht3
                  have hblk := (ht3.block w2.heap.size (by omega) (by omega)).trans (alloc_at _ _)
                  have hX := Lib.cell_of_heap hblk
                  have hZ := frozen_of_row w3 w2.heap.size 4 _ _ hblk
                  have HTX := Lib.hid ((Turn.of (alloc_below w2 _)).trans (ht3.mono (by omega)))
                  have HRD := Lib.hid hrd
                  have HOWN := Lib.hid HL2.out.own
                  have HR3 := Lib.hid hR3
                  clear hrd hblk ht3 hR3
                  have hs2x : w2.heap.size ≤ w3.heap.size := HTX.out.size
                  have hTW := HTX.out.trans ((Turn.of ((Below.refl w2.heap.size w3).setCell (p := ⟨w2.heap.size, 4, none⟩) (Nat.le_refl _) (.slice a2 il.length cap2))).trans (Turn.of ((alloc_below _ (.cells #[.int .i64 n, .int .i64 3, .int .i64 0, .string ⟨#[]⟩, .slice a2 il.length cap2] 53)).mono (by rw [World.size_setCell]; exact hs2x))))
                  have hLW := HL2.out.turn hTW hpl
                  have hRW := HP.out.stay HR3.out (((Below.refl w.heap.size w3).setCell (p := ⟨w2.heap.size, 4, none⟩) (by show w.heap.size ≤ w2.heap.size; omega) (.slice a2 il.length cap2)).trans ((alloc_below _ (.cells #[.int .i64 n, .int .i64 3, .int .i64 0, .string ⟨#[]⟩, .slice a2 il.length cap2] 53)).mono (by rw [World.size_setCell]; omega)))
                  have HTW := Lib.hid hTW
                  have HLW := Lib.hid hLW
                  have HRW := Lib.hid hRW
                  clear hTW hLW hRW
                  go_wp2_with (at_builtin; refine wpList_append_own_at _ rfl _ _ 36 rfl w.heap.size 53 i0 (.agg #[.int .i64 0, .int .i64 0, .int .i64 0, .string ⟨#[]⟩, .slice none 0 0]) 5 64 Tryd.underlying36 hi hz0 hz1 hz2 rfl (by decide) _ _ _ rfl HLW.out.own ⟨w3.heap.size, 0, none⟩ 1 1 (five (Rec.mk n 3 0 [] il, .slice a2 il.length cap2)) rfl rfl ?c1 ?c2 ?c3 ?c4 ?c5 ?_)
                  case c1 => exact news_row (by simp)
                  case c2 => intro u hu; simp [five] at hu; rcases hu with rfl | rfl | rfl | rfl | rfl <;> rfl
                  case c3 => unfold maxLen; omega
                  case c4 => omega
                  case c5 => simp; omega
                  intro v' w5 hown' hgrow _ hat
                  have hput := LOkT.put (x := (Rec.mk n 3 0 [] il, .slice a2 il.length cap2)) HL2.out HTW.out hpl (by omega) hown' hgrow (by simpa using hat) HOK.out ((HRD.out.held (fun k hk hl => ((alloc_below _ _).block k (by rw [World.size_setCell]; exact hl)).trans (Below.heap_setCell _ _ _ _ (by intro e; rw [World.size_alloc] at hk; have : k = w2.heap.size := e; omega)))).mono fun k hk => by rw [World.size_alloc] at hk; show w2.heap.size ≤ k; omega)
                  have hB5 := (Below.refl w.heap.size _).grown hgrow (by simp; omega) (own_base HLW.out.own)
                  have HL5 := Lib.hid hput
                  have HR5 := Lib.hid (HP.out.stay HRW.out hB5)
                  have HT5 := Lib.hid ((HT2.out.trans (HTW.out.mono (by omega))).trans (.of hB5))
                  clear hown' hgrow hat hput hB5
                  go_wp2
                  go_roundg f'
                  case measure => omega
                  case rel => exact ⟨L ++ [(Rec.mk n 3 0 [] il, .slice a2 il.length cap2)], iq, HL5.out, HR5.out, HT5.out, by omega, by simp; omega, by omega, by rw [HV.out]; simp⟩
                · have HV := Lib.hid (HS2.out.trans (if_pos (by simpa using hie)))
                  go_wp2_with fail
                  refine (rdMore_any wr p st b q' a cap hRd).mono ?_
                  rintro e w1 ⟨rfl, hR1, hb1⟩
                  rw [HD.out]
                  have k1 := hR1.c1
                  go_wp2_with fail
                  refine (HTAG.out w1 hR1).mono ?_
                  rintro e w2 ⟨rfl, hR2, ht2⟩
                  have k1 := hR2.c1
                  have kz := hR2.fz
                  have hs2 : wr.heap.size ≤ w2.heap.size := by have := hb1.size; have := ht2.size; omega
                  have HT2 := Lib.hid (((HT.out.trans (.of (hb1.mono hsz))).trans (ht2.mono (by have := hb1.size; omega))))
                  have HL2 := Lib.hid ((HL.out.turn (.of hb1) hpl).turn ht2 hpl)
                  have HR2 := Lib.hid hR2
                  clear hb1 ht2 hR1
                  go_wp2_with fail
                  rw [show ((op : Int) + 1) = ((op + 1 : Nat) : Int) by omega]
                  refine (HIH.out _ (HR2.out.later (alloc_below _ _))).mono ?_
                  rintro e w3 ⟨v, rfl, hrd, hvn, hR3, ht3⟩
                  obtain rfl := hvn (by simpa using hie)
                  simp only at hR3 hrd
                  have hs3 := ht3.size
                  rw [World.size_alloc] at hs3 ht3
                  have hblk := (ht3.block w2.heap.size (by omega) (by omega)).trans (alloc_at _ _)
                  have hX := Lib.cell_of_heap hblk
                  have hZ := frozen_of_row w3 w2.heap.size 4 _ _ hblk
                  have HT3 := Lib.hid (HT2.out.trans ((Turn.of ((alloc_below _ _).mono (by omega))).trans (ht3.mono (by omega))))
                  have HR3 := Lib.hid hR3
                  clear hrd hblk ht3 hR3
                  go_wp2_with fail
                  go_ret2
                  exact out_errT HV.out (HP.out.stay HR3.out ((Below.refl _ _).setCell (by show w.heap.size ≤ w2.heap.size; omega) _)) (HT3.out.trans (.of ((Below.refl _ _).setCell (by show w.heap.size ≤ w2.heap.size; omega) _)))
          · have hk4' : k = 4 := by simpa using hk4
            subst hk4'
            have HS := Lib.hid (recsR_4 st b 63 f' number op q' hge (by rw [HG.out]) (by rw [HG.out]))
            by_cases hop0 : op = 0
            · have HV := Lib.hid (HRR.out.trans (by rw [HS.out, if_pos (.inl hop0), pre_e _ _ _ (by omega)]))
              subst hop0
              go_wp2_with fail
              refine (rdMore_any wr p st b q' a cap hRd).mono ?_
              rintro e w1 ⟨rfl, hR1, hb1⟩
              rw [HD.out]
              have k1 := hR1.c1
              go_wp2_with fail
              refine (HTAG.out w1 hR1).mono ?_
              rintro e w2 ⟨rfl, hR2, ht2⟩
              have k1 := hR2.c1
              have kz := hR2.fz
              go_wp2_with fail
              go_ret2
              exact out_errT HV.out (hR2.set q' hq') (((HT.out.trans (.of (hb1.mono hsz))).trans (ht2.mono (by have := hb1.size; omega))).set 1 _)
            · have hop1 : ((op : Int) == 0) = false := by simp; omega
              by_cases hnn : n = number
              · have HV := Lib.hid (HRR.out.trans (by rw [HS.out, HG.out, if_neg (by simp [hop0, hnn]), pre_0]))
                subst hnn
                go_wp2_with fail
                refine (rdMore_any wr p st b q' a cap hRd).mono ?_
                rintro e w1 ⟨rfl, hR1, hb1⟩
                rw [HD.out]
                have k1 := hR1.c1
                go_wp2_with fail
                refine (HTAG.out w1 hR1).mono ?_
                rintro e w2 ⟨rfl, hR2, ht2⟩
                have k1 := hR2.c1
                have kz := hR2.fz
                go_wp2_with fail
                go_ret2
                exact out_okT HV.out ((HL.out.turn (.of hb1) hpl).turn ht2 hpl) hR2 ((HT.out.trans (.of (hb1.mono hsz))).trans (ht2.mono (by have := hb1.size; omega)))
              · have HV := Lib.hid (HRR.out.trans (by rw [HS.out, HG.out, if_pos (.inr hnn), pre_e _ _ _ (by omega)]))
                have hnn' : (n != number) = true := by simpa using hnn
                go_wp2_with fail
                refine (rdMore_any wr p st b q' a cap hRd).mono ?_
                rintro e w1 ⟨rfl, hR1, hb1⟩
                rw [HD.out]
                have k1 := hR1.c1
                go_wp2_with fail
                refine (HTAG.out w1 hR1).mono ?_
                rintro e w2 ⟨rfl, hR2, ht2⟩
                have k1 := hR2.c1
                have kz := hR2.fz
                go_wp2_with fail
                go_ret2
                exact out_errT HV.out (hR2.set q' hq') (((HT.out.trans (.of (hb1.mono hsz))).trans (ht2.mono (by have := hb1.size; omega))).set 1 _)
        · have hq1 : q1 = q' := hg4 (by simpa using her)
          subst hq1
          have HV := Lib.hid (HRR.out.trans (by rw [recsR_tag st b 63 f' number op q1 hge (by rw [HG.out]; simpa using her), HG.out, pre_e _ _ _ (by simpa using her)]))
          go_wp2_with fail
          refine (rdMore_any wr p st b q1 a cap hRd).mono ?_
          rintro e w1 ⟨rfl, hR1, hb1⟩
          rw [HD.out]
          have k1 := hR1.c1
          go_wp2_with fail
          refine (HTAG.out w1 hR1).mono ?_
          rintro e w2 ⟨rfl, hR2, ht2⟩
          go_wp2_with fail
          go_ret2
          exact out_errT HV.out hR2 ((HT.out.trans (.of (hb1.mono hsz))).trans (ht2.mono (by have := hb1.size; omega)))
      · have hge : b.length ≤ q' := by omega
        have hd : decide (q' < b.length) = false := by simp [hlt]
        have HD := Lib.hid hd
        have HT := Lib.hid ht
        have HL := Lib.hid hL
        by_cases hop0 : 0 < op
        · have HV := Lib.hid (hRR.trans (by rw [recsR_end _ _ _ _ _ _ _ hge, if_pos hop0, pre_e _ _ _ (by omega)]))
          clear hd hRR ht hL
          go_wp2_with fail
          refine (rdMore_any wr p st b q' a cap hRd).mono ?_
          rintro e w1 ⟨rfl, hR1, hb1⟩
          rw [HD.out]
          go_wp2_with fail
          go_ret2
          exact out_errT HV.out hR1 (HT.out.trans (.of (hb1.mono hsz)))
        · have HV := Lib.hid (hRR.trans (by rw [recsR_end _ _ _ _ _ _ _ hge, if_neg hop0, pre_0]))
          clear hd hRR ht hL
          go_wp2_with fail
          refine (rdMore_any wr p st b q' a cap hRd).mono ?_
          rintro e w1 ⟨rfl, hR1, hb1⟩
          rw [HD.out]
          go_wp2_with fail
          go_ret2
          exact out_okT HV.out (HL.out.turn (.of hb1) hpl) hR1 (HT.out.trans (.of (hb1.mono hsz)))
end Go.Proofs.YtecmhpncgdjgjaaDoor

namespace Go.Proofs.YtecmhpncgdjgjaaDoor
open Go.RowKit
set_option linter.unusedVariables false
set_option linter.unusedSimpArgs false

/-- What Split leaves. -/
def SplitOutT (w : World) (r : List Rec × Int × Nat) (e : Ending) (w' : World) : Prop :=
  ∃ v, e = .returned (.tuple #[v, .int .i64 r.2.2, .int .i64 r.2.1]) ∧ OwnT w' (fun k => w.heap.size ≤ k) v r.1 ∧ (r.2.1 ≠ 0 → v = .slice none 0 0) ∧ Below w.heap.size w w'

set_option maxHeartbeats 4000000 in
set_option maxRecDepth 100000 in
theorem wSplitT_any (w : World) (st : Bool) (b : List UInt8) (v : Value) (h : BytesAt (fun _ => True) w v b) : Calls Tryd.prog 36 #[v, .bool st] w (SplitOutT w (splitOf st b)) := by
  have HC := Lib.hid (wRead_any w st b v h)
  obtain ⟨a, cap, rfl, h1, h2, h3⟩ := h
  clear h3
  by_cases hbig : 1048576 < b.length
  · have HV := Lib.hid (show splitOf st b = ([], 2, 0) from if_pos hbig)
    go_enter Tryd.func36, Tryd.ntmps36
    go_wp2_with fail
    refine HC.out.mono ?_
    rintro e w1 ⟨h5, _⟩
    obtain ⟨rfl, hb⟩ := h5 hbig
    go_wp2
    go_ret3
    rw [HV.out]
    exact ⟨_, rfl, .none _, fun _ => rfl, hb⟩
  · have hle : b.length ≤ 1048576 := by omega
    have HV := Lib.hid (show splitOf st b = _ from if_neg hbig)
    obtain ⟨R, hR⟩ : ∃ R, recsR st b 63 (b.length + 1) 0 0 0 = R := ⟨_, rfl⟩
    have HREC := Lib.hid (fun (W : World) (p : Nat) (a : Option Addr) (cap : Nat) (hW : RdAt W p st b 0 a cap) => hR ▸ recordsT_any (b.length + 1) (b.length + 1) (Nat.le_refl _) 0 0 W p st b 0 a cap hW (by omega) (by omega))
    rw [hR] at HV
    clear hR
    obtain ⟨rl, re, rq⟩ := R
    simp only at HV
    cases hre : (re != 0 : Bool)
    · have hre0 : re = 0 := by simpa using hre
      subst hre0
      go_enter Tryd.func36, Tryd.ntmps36
      go_wp2_with fail
      refine HC.out.mono ?_
      rintro e w1 ⟨_, h5⟩
      obtain ⟨p, a, cap, rfl, hp, ha, hRd, hb⟩ := h5 hle
      have HRD := Lib.hid hRd
      clear h5 hRd ha
      go_wp2_with fail
      refine (HREC.out w1 p a cap HRD.out).mono ?_
      rintro e w2 ⟨v2, rfl, hr2, hn2, hR2, ht2⟩
      simp only at hr2 hn2 hR2
      have hb2 := hb.trans (ht2.below hp hb.size)
      have hr3 := Lib.hid (hr2.mono fun k hk => Nat.le_trans hb.size hk)
      clear hr2 hn2
      go_wp2
      go_ret3
      rw [HV.out]
      exact ⟨v2, rfl, hr3.out, fun e => absurd rfl e, hb2⟩
    · go_enter Tryd.func36, Tryd.ntmps36
      go_wp2_with fail
      refine HC.out.mono ?_
      rintro e w1 ⟨_, h5⟩
      obtain ⟨p, a, cap, rfl, hp, ha, hRd, hb⟩ := h5 hle
      have HRD := Lib.hid hRd
      clear h5 hRd ha
      go_wp2_with fail
      refine (HREC.out w1 p a cap HRD.out).mono ?_
      rintro e w2 ⟨v2, rfl, hr2, hn2, hR2, ht2⟩
      simp only at hr2 hn2 hR2
      obtain rfl := hn2 (by simpa using hre)
      have hb2 := hb.trans (ht2.below hp hb.size)
      have k1 := hR2.c1
      have hrl := Lib.hid (hr2)
      clear hr2 hn2
      go_wp2_with fail
      go_quiet (fail)
      go_wp2
      go_ret3
      rw [HV.out, if_neg (by simpa using hre)]
      refine ⟨_, rfl, ?_, fun _ => rfl, below_drawn hb2 _⟩
      exact (OwnT.held (w' := w2.drewN nq) hrl.out (fun _ _ _ => rfl)).mono fun k hk => Nat.le_trans hb.size hk
end Go.Proofs.YtecmhpncgdjgjaaDoor
