/-
  Skip of package wire, walked. Conditions: as for the reader's other calls. (Printed by gen_skip.py.)
-/
import Derived.Test.YtecmhpncgdjgjaaDoorSkipPlain
import Derived.Test.YtecmhpncgdjgjaaDoorRecs
import Derived.Test.YtecmhpncgdjgjaaDoorCounted
namespace Go.Proofs.YtecmhpncgdjgjaaDoor
open Go.RowKit
set_option linter.unusedVariables false
set_option linter.unusedSimpArgs false

theorem infoI : (Tryd.prog.info? 3).map (fun i => (i.zero, i.size, i.bytes)) = some (some (.int .i64 0), 1, 8) := by kernel_rfl
theorem infoIP : ∃ i, Tryd.prog.info? 3 = some i ∧ i.zero = some (.int .i64 0) ∧ i.size = 1 ∧ i.bytes = 8 := by
  obtain ⟨i, hi, h⟩ := Option.map_eq_some_iff.1 infoI
  simp only [Prod.mk.injEq] at h
  exact ⟨i, hi, h.1, h.2.1, h.2.2⟩
/-- A row of ints of the call's own; the last is the top. -/
def ints (l : List Int) : List Value := l.map fun z => .int .i64 z
def OwnI (w : World) (B : Nat) (v : Value) (l : List Int) : Prop := w.ownsRow B 3 1 v l.length (ints l)
theorem ints_len (l : List Int) : (ints l).length = l.length := List.length_map _
theorem OwnI.turn {w w' : World} {B p : Nat} {v : Value} {l : List Int} (h : OwnI w B v l) (ht : Turn w.heap.size p w w') (hp : p < B) : OwnI w' B v l := by
  unfold OwnI at h ⊢
  refine ⟨h.1, ?_⟩
  rcases h.2 with h0 | ⟨g, cap, cur, rfl, hbg, hg, rest⟩
  · exact .inl h0
  · exact .inr ⟨g, cap, cur, rfl, hbg, (ht.block g (Array.getElem?_eq_some_iff.1 hg).1 (by omega)).trans hg, rest⟩
theorem OwnI.below {w w' : World} {B : Nat} {v : Value} {l : List Int} (h : OwnI w B v l) (ht : Below w.heap.size w w') (hp : 0 < B) : OwnI w' B v l := h.turn (p := 0) (.of ht) hp
/-- Its top. -/
theorem OwnI.top {w : World} {B : Nat} {v : Value} {s : Int} {ss : List Int} (h : OwnI w B v (ss.reverse ++ [s])) : ∃ g cap, v = .slice (some ⟨g, 0, none⟩) (ss.length + 1) cap ∧ ss.length + 1 ≤ cap ∧ cap ≤ 9223372036854775807 ∧ B ≤ g ∧ g < w.heap.size ∧ w.cell? ⟨g, ss.length, none⟩ = some (.int .i64 s) := by
  have hl : (ss.reverse ++ [s]).length = ss.length + 1 := by simp
  unfold OwnI at h
  rw [hl] at h
  obtain ⟨g, capS, rfl, hgB, hgl⟩ := World.ownsRow.form h (by omega)
  obtain ⟨hc1, hc2⟩ := own_cap h
  refine ⟨g, capS, rfl, hc1, hc2, hgB, hgl, ?_⟩
  rw [h.cellAt _ (by omega)]
  simp [ints]
theorem OwnI.pop {w : World} {B : Nat} {g cap : Nat} {s : Int} {ss : List Int} (h : OwnI w B (.slice (some ⟨g, 0, none⟩) (ss.length + 1) cap) (ss.reverse ++ [s])) : OwnI w B (.slice (some ⟨g, 0, none⟩) ss.length cap) ss.reverse := by
  have hl : (ss.reverse ++ [s]).length = ss.length + 1 := by simp
  unfold OwnI at h ⊢
  rw [hl] at h
  have e : ints (ss.reverse ++ [s]) = ints ss.reverse ++ [.int .i64 s] := by simp [ints]
  rw [e] at h
  have h2 := own_shrink h (by rw [ints_len, List.length_reverse]; omega)
  rw [List.length_reverse]
  exact h2
theorem OwnI.put {w : World} {B : Nat} {v : Value} {s n : Int} {ss : List Int} (h : w.ownsRow B 3 1 v (ss.length + 1 + 1) (ints (ss.reverse ++ [s]) ++ [.int .i64 n])) : OwnI w B v ((n :: s :: ss).reverse) := by
  unfold OwnI
  have e : (n :: s :: ss).reverse = ss.reverse ++ [s] ++ [n] := by simp
  rw [e]
  simp only [List.length_append, List.length_reverse, List.length_singleton]
  simpa [ints] using h

theorem own_len {w : World} {B m : Nat} {v : Value} {s : Int} {ss : List Int} (hm : ss.length = m) (h : w.ownsRow B 3 1 v (ss.reverse ++ [s]).length (ints (ss.reverse ++ [s]))) : w.ownsRow B 3 1 v (m + 1) (ints (ss.reverse ++ [s])) := by
  have hl : (ss.reverse ++ [s]).length = m + 1 := by simp [hm]
  rwa [hl] at h
theorem own_pop {w : World} {B g cap m : Nat} {s : Int} {ss : List Int} (hm : ss.length = m) (h : OwnI w B (.slice (some ⟨g, 0, none⟩) (m + 1) cap) (ss.reverse ++ [s])) : OwnI w B (.slice (some ⟨g, 0, none⟩) m cap) ss.reverse := by
  subst hm
  exact h.pop
theorem own_top2 {w : World} {B g cap m : Nat} {s : Int} {ss : List Int} (hm : ss.length = m) (h : OwnI w B (.slice (some ⟨g, 0, none⟩) (m + 1) cap) (ss.reverse ++ [s])) : g < w.heap.size ∧ w.cell? ⟨g, m, none⟩ = some (.int .i64 s) := by
  subst hm
  obtain ⟨g', cap', e, _, _, _, h5, h6⟩ := h.top
  cases e
  exact ⟨h5, h6⟩
/-- An empty record. -/
def rec0 : Obj := .cells #[.int .i64 0, .int .i64 0, .int .i64 0, .string ⟨#[]⟩, .slice none 0 0] 53
theorem alloc2_at (w : World) (o1 o2 : Obj) : ((w.alloc o1).alloc o2).heap[w.heap.size + 1]? = some o2 := by
  have := alloc_at (w.alloc o1) o2
  rw [World.size_alloc] at this
  exact this

theorem sk_end {w w' : World} {p : Nat} {st : Bool} {b : List UInt8} {a : Option Addr} {cap : Nat} {R : Int × Nat} {er : Int} {q2 : Nat} (hV : R = (er, q2)) (h1 : RdAt w' p st b q2 a cap) (h2 : Turn w.heap.size p w w') :
    Rds w p st b R.2 a cap (.int .i64 R.1) (.returned (.int .i64 er)) w' := by
  subst hV
  exact ⟨rfl, h1, h2⟩

set_option maxHeartbeats 16000000 in
set_option maxRecDepth 100000 in
/-- Over a group. -/
theorem skip3_any (w : World) (p : Nat) (st : Bool) (b : List UInt8) (q : Nat) (a : Option Addr) (cap : Nat) (h : RdAt w p st b q a cap) (n depth : Int) (h1 : 1 ≤ n) (h2 : n ≤ 536870911) (hd1 : 1 ≤ depth) :
    Calls Tryd.prog 56 #[.pointer (some ⟨p, 0, none⟩), .int .i64 n, .int .i64 3, .int .i64 depth] w (Rds w p st b (skipL st b depth.toNat (b.length + 2) [n] q).2 a cap (.int .i64 (skipL st b depth.toNat (b.length + 2) [n] q).1)) := by
  obtain ⟨i0, hi, hz0, hz1, hz2⟩ := infoIP
  have HP := Lib.hid h
  have hpl := h.lt
  have hbl := h.hb
  have hq := h.hq
  obtain ⟨most, hmost⟩ : ∃ most : Nat, depth = (most : Int) := ⟨depth.toNat, by omega⟩
  subst hmost
  rw [Int.toNat_natCast]
  obtain ⟨R, hR⟩ : ∃ R, skipL st b most (b.length + 2) [n] q = R := ⟨_, rfl⟩
  have HR := Lib.hid hR
  rw [hR]
  clear h hR
  go_enter Tryd.func56, Tryd.ntmps56
  go_wp2_with fail
  go_loopg [9] (b.length + 2) (fun f v9 wr => ∃ (l : List Int) (q' : Nat), OwnI wr w.heap.size v9 l.reverse ∧ RdAt wr p st b q' a cap ∧ Turn w.heap.size p w wr ∧ b.length + 1 < q' + f ∧ l.length ≤ q' + 1 ∧ R = skipL st b most f l q')
  case atStart =>
    refine ⟨[n], q, ?_, HP.out.later (alloc_below _ _), .of (alloc_below _ _), by omega, by simp, HR.out.symm⟩
    exact World.ownsRow_lit w #[.int .i64 n] 1 (Nat.le_refl _) (by unfold maxLen; omega) rfl
  case round =>
    obtain ⟨l, q', hown, hRd, ht, hfq, hlq, hRR⟩ := hrel
    have hq' := hRd.hq
    have hsz := ht.size
    obtain ⟨f', rfl⟩ : ∃ f', gk = f' + 1 := ⟨gk - 1, by omega⟩
    cases l with
    | nil =>
      have HV := Lib.hid (show R = (0, q') by rw [hRR, skipL_nil])
      have HRD := Lib.hid hRd
      have HT := Lib.hid ht
      obtain ⟨av, capv, hve, hv2⟩ : ∃ av capv, u9 = .slice av 0 capv ∧ capv ≤ 9223372036854775807 := by
        have h0 : u9 = .slice none 0 0 ∨ ∃ g c, u9 = .slice (some ⟨g, 0, none⟩) 0 c ∧ c ≤ 9223372036854775807 := by
          rcases hown.2 with ⟨h0, _⟩ | ⟨g, c, cur, h0, _, _, _, hm, _⟩
          · exact .inl h0
          · exact .inr ⟨g, c, h0, by unfold maxLen at hm; omega⟩
        rcases h0 with h0 | ⟨g, c, h0, hm⟩
        · exact ⟨none, 0, h0, by omega⟩
        · exact ⟨_, c, h0, hm⟩
      subst hve
      clear hown hRR hRd ht
      go_wp2_with fail
      go_ret
      exact sk_end HV.out HRD.out HT.out
    | cons s ss =>
      rw [List.reverse_cons] at hown
      obtain ⟨g, capS, rfl, hcs1, hcs2, hgB, hgl, ktop⟩ := hown.top
      obtain ⟨m, hm⟩ : ∃ m, ss.length = m := ⟨_, rfl⟩
      rw [hm] at hown
      have HOWN := Lib.hid hown
      have HRD := Lib.hid hRd
      have HT := Lib.hid ht
      have HRR := Lib.hid hRR
      have hls : ss.length ≤ q' := by simpa using hlq
      have HM := Lib.hid hm
      rw [hm] at hcs1 hls ktop ⊢
      clear hown hRd ht hRR hlq hm
      by_cases hlt : q' < b.length
      · have hge : ¬ b.length ≤ q' := by omega
        have HD := Lib.hid (show decide (q' < b.length) = true by simp [hlt])
        have hgp := gRd_place st b q' hq'
        have hgn := gRd_nums st b q'
        obtain ⟨⟨n1, k, er, q1⟩, hg⟩ : ∃ r, gRd st b q' = r := ⟨_, rfl⟩
        have HTAG := Lib.hid (fun (W : World) (hW : RdAt W p st b q' a cap) => hg ▸ rdTag_any W p st b q' a cap hW)
        rw [hg] at hgp hgn
        simp only at hgp hgn
        have HG := Lib.hid hg
        obtain ⟨hg1, hg2, hg3, hg4⟩ := hgp
        clear hg
        cases her : (er != 0 : Bool)
        · obtain rfl : er = 0 := by simpa using her
          obtain ⟨hn1, hn2, hk0, hk5⟩ := hgn rfl
          have hg5 := hg3 rfl
          clear hg3 hg4 hgn
          cases hk4 : (k == 4 : Bool)
          · cases hk3 : (k == 3 : Bool)
            · have hkc : k = 0 ∨ k = 1 ∨ k = 2 ∨ k = 5 := by simp at hk3 hk4; omega
              clear hk3 hk4 hk0 hk5
              rcases hkc with rfl | rfl | rfl | rfl
              · have HS := Lib.hid (HRR.out.trans (skipL_c st b most f' q' s ss hge HG.out (by omega) (by omega)))
                have hcp := cRd_place st 0 b q1 hg1
                obtain ⟨⟨x, er2, q2⟩, hv⟩ : ∃ r, vRd st b q1 = r := ⟨_, rfl⟩
                have hcd : (cRd st 0 b q1).2.2 = (er2, q2) := by rw [cRd_0, hv]
                have HREAD := Lib.hid (fun (W : World) (hW : RdAt W p st b q1 a cap) (o : Nat) (ho : W.cell? ⟨o, 2, none⟩ = some (.int .i64 0)) (hz : W.frozen? ⟨o, 2, none⟩ = false) (hne : o ≠ p) => hv ▸ read0_any W p st b q1 a cap hW o _ ho hz hne)
                rw [hcd] at hcp HS
                have hq2a := hcp.1
                have hq2b := hcp.2.1
                simp only at hq2a hq2b
                clear hv hcd hcp
                cases hie : (er2 != 0 : Bool)
                · obtain rfl : er2 = 0 := by simpa using hie
                  have HV := Lib.hid (HS.out.trans (if_neg (by simp)))
                  go_wp2_with fail
                  refine (rdMore_any wr p st b _ a cap HRD.out).mono ?_
                  rintro e w1 ⟨rfl, hR1, hb1⟩
                  rw [HD.out]
                  have k1 := hR1.c1
                  go_wp2_with fail
                  refine (HTAG.out w1 hR1).mono ?_
                  rintro e w2 ⟨rfl, hR2, ht2⟩
                  have k1 := hR2.c1
                  have kz := hR2.fz
                  have hs2 : wr.heap.size ≤ w2.heap.size := by have := hb1.size; have := ht2.size; omega
                  have HT2 := Lib.hid ((HT.out.trans (.of (hb1.mono hsz))).trans (ht2.mono (by have := hb1.size; omega)))
                  have HO2 := Lib.hid ((HOWN.out.below hb1 (by omega)).turn ht2 hpl)
                  have ktop := (own_top2 HM.out HO2.out).2
                  have hgl := (own_top2 HM.out HO2.out).1
                  have HR2 := Lib.hid hR2
                  clear hb1 ht2 hR1 hR2
                  go_wp2_with fail
                  refine (kinds_any _).mono ?_
                  rintro e w3 ⟨rfl, rfl⟩
                  have hblk := alloc2_at w2 kindsB rec0
                  go_wp2_with fail
                  refine (HREAD.out _ ((HR2.out.later (alloc_below _ _)).later (alloc_below _ _)) (w2.heap.size + 1) (Lib.cell_of_heap hblk 2) (frozen_of_row _ (w2.heap.size + 1) 2 _ _ hblk) (by have := HR2.out.lt; omega)).mono ?_
                  rintro e w5 ⟨w4, rfl, rfl, hR3, ht3⟩
                  simp only [World.size_alloc] at ht3
                  have hs4 := ht3.size
                  simp only [World.size_alloc] at hs4
                  have ht23 := ((Turn.of (p := p) (alloc_below w2 kindsB)).trans (Turn.of ((alloc_below (w2.alloc kindsB) rec0).mono (by simp)))).trans (ht3.mono (by omega))
                  have HO5 := Lib.hid (HO2.out.turn (ht23.trans (.of ((Below.refl w2.heap.size w4).setCell (p := ⟨w2.heap.size + 1, 2, none⟩) (by show w2.heap.size ≤ w2.heap.size + 1; omega) (.int .i64 x)))) hpl)
                  have HR5 := Lib.hid (HP.out.stay hR3 ((Below.refl w.heap.size w4).setCell (p := ⟨w2.heap.size + 1, 2, none⟩) (by show w.heap.size ≤ w2.heap.size + 1; omega) (.int .i64 x)))
                  have HT5 := Lib.hid ((HT2.out.trans (ht23.mono (by omega))).trans (.of ((Below.refl w.heap.size w4).setCell (p := ⟨w2.heap.size + 1, 2, none⟩) (by show w.heap.size ≤ w2.heap.size + 1; omega) (.int .i64 x))))
                  clear hblk ht3 hR3 ht23
                  go_wp2_with fail
                  go_roundg f'
                  case measure => omega
                  case rel => exact ⟨s :: ss, q2, by rw [List.reverse_cons]; exact HO5.out, HR5.out, HT5.out, by omega, by simp [HM.out]; omega, HV.out⟩
                · have HV := Lib.hid (HS.out.trans (if_pos (by simpa using hie)))
                  go_wp2_with fail
                  refine (rdMore_any wr p st b _ a cap HRD.out).mono ?_
                  rintro e w1 ⟨rfl, hR1, hb1⟩
                  rw [HD.out]
                  have k1 := hR1.c1
                  go_wp2_with fail
                  refine (HTAG.out w1 hR1).mono ?_
                  rintro e w2 ⟨rfl, hR2, ht2⟩
                  have k1 := hR2.c1
                  have kz := hR2.fz
                  have hs2 : wr.heap.size ≤ w2.heap.size := by have := hb1.size; have := ht2.size; omega
                  have HT2 := Lib.hid ((HT.out.trans (.of (hb1.mono hsz))).trans (ht2.mono (by have := hb1.size; omega)))
                  have HO2 := Lib.hid ((HOWN.out.below hb1 (by omega)).turn ht2 hpl)
                  have ktop := (own_top2 HM.out HO2.out).2
                  have hgl := (own_top2 HM.out HO2.out).1
                  have HR2 := Lib.hid hR2
                  clear hb1 ht2 hR1 hR2
                  go_wp2_with fail
                  refine (kinds_any _).mono ?_
                  rintro e w3 ⟨rfl, rfl⟩
                  have hblk := alloc2_at w2 kindsB rec0
                  go_wp2_with fail
                  refine (HREAD.out _ ((HR2.out.later (alloc_below _ _)).later (alloc_below _ _)) (w2.heap.size + 1) (Lib.cell_of_heap hblk 2) (frozen_of_row _ (w2.heap.size + 1) 2 _ _ hblk) (by have := HR2.out.lt; omega)).mono ?_
                  rintro e w5 ⟨w4, rfl, rfl, hR3, ht3⟩
                  simp only [World.size_alloc] at ht3
                  have hs4 := ht3.size
                  simp only [World.size_alloc] at hs4
                  have ht23 := ((Turn.of (p := p) (alloc_below w2 kindsB)).trans (Turn.of ((alloc_below (w2.alloc kindsB) rec0).mono (by simp)))).trans (ht3.mono (by omega))
                  have HO5 := Lib.hid (HO2.out.turn (ht23.trans (.of ((Below.refl w2.heap.size w4).setCell (p := ⟨w2.heap.size + 1, 2, none⟩) (by show w2.heap.size ≤ w2.heap.size + 1; omega) (.int .i64 x)))) hpl)
                  have HR5 := Lib.hid (HP.out.stay hR3 ((Below.refl w.heap.size w4).setCell (p := ⟨w2.heap.size + 1, 2, none⟩) (by show w.heap.size ≤ w2.heap.size + 1; omega) (.int .i64 x)))
                  have HT5 := Lib.hid ((HT2.out.trans (ht23.mono (by omega))).trans (.of ((Below.refl w.heap.size w4).setCell (p := ⟨w2.heap.size + 1, 2, none⟩) (by show w.heap.size ≤ w2.heap.size + 1; omega) (.int .i64 x))))
                  clear hblk ht3 hR3 ht23
                  go_wp2_with fail
                  go_ret
                  exact sk_end HV.out HR5.out HT5.out
              · have HS := Lib.hid (HRR.out.trans (skipL_c st b most f' q' s ss hge HG.out (by omega) (by omega)))
                have hcp := cRd_place st 1 b q1 hg1
                obtain ⟨⟨x, er2, q2⟩, hv⟩ : ∃ r, fRd 8 b q1 = r := ⟨_, rfl⟩
                have hcd : (cRd st 1 b q1).2.2 = (er2, q2) := by rw [cRd_1, hv]
                have HREAD := Lib.hid (fun (W : World) (hW : RdAt W p st b q1 a cap) (o : Nat) (ho : W.cell? ⟨o, 2, none⟩ = some (.int .i64 0)) (hz : W.frozen? ⟨o, 2, none⟩ = false) (hne : o ≠ p) => hv ▸ read1_any W p st b q1 a cap hW o _ ho hz hne)
                rw [hcd] at hcp HS
                have hq2a := hcp.1
                have hq2b := hcp.2.1
                simp only at hq2a hq2b
                clear hv hcd hcp
                cases hie : (er2 != 0 : Bool)
                · obtain rfl : er2 = 0 := by simpa using hie
                  have HV := Lib.hid (HS.out.trans (if_neg (by simp)))
                  go_wp2_with fail
                  refine (rdMore_any wr p st b _ a cap HRD.out).mono ?_
                  rintro e w1 ⟨rfl, hR1, hb1⟩
                  rw [HD.out]
                  have k1 := hR1.c1
                  go_wp2_with fail
                  refine (HTAG.out w1 hR1).mono ?_
                  rintro e w2 ⟨rfl, hR2, ht2⟩
                  have k1 := hR2.c1
                  have kz := hR2.fz
                  have hs2 : wr.heap.size ≤ w2.heap.size := by have := hb1.size; have := ht2.size; omega
                  have HT2 := Lib.hid ((HT.out.trans (.of (hb1.mono hsz))).trans (ht2.mono (by have := hb1.size; omega)))
                  have HO2 := Lib.hid ((HOWN.out.below hb1 (by omega)).turn ht2 hpl)
                  have ktop := (own_top2 HM.out HO2.out).2
                  have hgl := (own_top2 HM.out HO2.out).1
                  have HR2 := Lib.hid hR2
                  clear hb1 ht2 hR1 hR2
                  go_wp2_with fail
                  refine (kinds_any _).mono ?_
                  rintro e w3 ⟨rfl, rfl⟩
                  have hblk := alloc2_at w2 kindsB rec0
                  go_wp2_with fail
                  refine (HREAD.out _ ((HR2.out.later (alloc_below _ _)).later (alloc_below _ _)) (w2.heap.size + 1) (Lib.cell_of_heap hblk 2) (frozen_of_row _ (w2.heap.size + 1) 2 _ _ hblk) (by have := HR2.out.lt; omega)).mono ?_
                  rintro e w5 ⟨w4, rfl, rfl, hR3, ht3⟩
                  simp only [World.size_alloc] at ht3
                  have hs4 := ht3.size
                  simp only [World.size_alloc] at hs4
                  have ht23 := ((Turn.of (p := p) (alloc_below w2 kindsB)).trans (Turn.of ((alloc_below (w2.alloc kindsB) rec0).mono (by simp)))).trans (ht3.mono (by omega))
                  have HO5 := Lib.hid (HO2.out.turn (ht23.trans (.of ((Below.refl w2.heap.size w4).setCell (p := ⟨w2.heap.size + 1, 2, none⟩) (by show w2.heap.size ≤ w2.heap.size + 1; omega) (.int .i64 x)))) hpl)
                  have HR5 := Lib.hid (HP.out.stay hR3 ((Below.refl w.heap.size w4).setCell (p := ⟨w2.heap.size + 1, 2, none⟩) (by show w.heap.size ≤ w2.heap.size + 1; omega) (.int .i64 x)))
                  have HT5 := Lib.hid ((HT2.out.trans (ht23.mono (by omega))).trans (.of ((Below.refl w.heap.size w4).setCell (p := ⟨w2.heap.size + 1, 2, none⟩) (by show w.heap.size ≤ w2.heap.size + 1; omega) (.int .i64 x))))
                  clear hblk ht3 hR3 ht23
                  go_wp2_with fail
                  go_roundg f'
                  case measure => omega
                  case rel => exact ⟨s :: ss, q2, by rw [List.reverse_cons]; exact HO5.out, HR5.out, HT5.out, by omega, by simp [HM.out]; omega, HV.out⟩
                · have HV := Lib.hid (HS.out.trans (if_pos (by simpa using hie)))
                  go_wp2_with fail
                  refine (rdMore_any wr p st b _ a cap HRD.out).mono ?_
                  rintro e w1 ⟨rfl, hR1, hb1⟩
                  rw [HD.out]
                  have k1 := hR1.c1
                  go_wp2_with fail
                  refine (HTAG.out w1 hR1).mono ?_
                  rintro e w2 ⟨rfl, hR2, ht2⟩
                  have k1 := hR2.c1
                  have kz := hR2.fz
                  have hs2 : wr.heap.size ≤ w2.heap.size := by have := hb1.size; have := ht2.size; omega
                  have HT2 := Lib.hid ((HT.out.trans (.of (hb1.mono hsz))).trans (ht2.mono (by have := hb1.size; omega)))
                  have HO2 := Lib.hid ((HOWN.out.below hb1 (by omega)).turn ht2 hpl)
                  have ktop := (own_top2 HM.out HO2.out).2
                  have hgl := (own_top2 HM.out HO2.out).1
                  have HR2 := Lib.hid hR2
                  clear hb1 ht2 hR1 hR2
                  go_wp2_with fail
                  refine (kinds_any _).mono ?_
                  rintro e w3 ⟨rfl, rfl⟩
                  have hblk := alloc2_at w2 kindsB rec0
                  go_wp2_with fail
                  refine (HREAD.out _ ((HR2.out.later (alloc_below _ _)).later (alloc_below _ _)) (w2.heap.size + 1) (Lib.cell_of_heap hblk 2) (frozen_of_row _ (w2.heap.size + 1) 2 _ _ hblk) (by have := HR2.out.lt; omega)).mono ?_
                  rintro e w5 ⟨w4, rfl, rfl, hR3, ht3⟩
                  simp only [World.size_alloc] at ht3
                  have hs4 := ht3.size
                  simp only [World.size_alloc] at hs4
                  have ht23 := ((Turn.of (p := p) (alloc_below w2 kindsB)).trans (Turn.of ((alloc_below (w2.alloc kindsB) rec0).mono (by simp)))).trans (ht3.mono (by omega))
                  have HO5 := Lib.hid (HO2.out.turn (ht23.trans (.of ((Below.refl w2.heap.size w4).setCell (p := ⟨w2.heap.size + 1, 2, none⟩) (by show w2.heap.size ≤ w2.heap.size + 1; omega) (.int .i64 x)))) hpl)
                  have HR5 := Lib.hid (HP.out.stay hR3 ((Below.refl w.heap.size w4).setCell (p := ⟨w2.heap.size + 1, 2, none⟩) (by show w.heap.size ≤ w2.heap.size + 1; omega) (.int .i64 x)))
                  have HT5 := Lib.hid ((HT2.out.trans (ht23.mono (by omega))).trans (.of ((Below.refl w.heap.size w4).setCell (p := ⟨w2.heap.size + 1, 2, none⟩) (by show w.heap.size ≤ w2.heap.size + 1; omega) (.int .i64 x))))
                  clear hblk ht3 hR3 ht23
                  go_wp2_with fail
                  go_ret
                  exact sk_end HV.out HR5.out HT5.out
              · have HS := Lib.hid (HRR.out.trans (skipL_c st b most f' q' s ss hge HG.out (by omega) (by omega)))
                have hcp := cRd_place st 2 b q1 hg1
                obtain ⟨⟨x, er2, q2⟩, hv⟩ : ∃ r, tRd st b q1 = r := ⟨_, rfl⟩
                have hcd : (cRd st 2 b q1).2.2 = (er2, q2) := by rw [cRd_2, hv]
                have HREAD := Lib.hid (fun (W : World) (hW : RdAt W p st b q1 a cap) (o : Nat) (ho : W.cell? ⟨o, 3, none⟩ = some (.string ⟨#[]⟩)) (hz : W.frozen? ⟨o, 3, none⟩ = false) (hne : o ≠ p) => hv ▸ read2_any W p st b q1 a cap hW o _ ho hz hne)
                rw [hcd] at hcp HS
                have hq2a := hcp.1
                have hq2b := hcp.2.1
                simp only at hq2a hq2b
                clear hv hcd hcp
                cases hie : (er2 != 0 : Bool)
                · obtain rfl : er2 = 0 := by simpa using hie
                  have HV := Lib.hid (HS.out.trans (if_neg (by simp)))
                  go_wp2_with fail
                  refine (rdMore_any wr p st b _ a cap HRD.out).mono ?_
                  rintro e w1 ⟨rfl, hR1, hb1⟩
                  rw [HD.out]
                  have k1 := hR1.c1
                  go_wp2_with fail
                  refine (HTAG.out w1 hR1).mono ?_
                  rintro e w2 ⟨rfl, hR2, ht2⟩
                  have k1 := hR2.c1
                  have kz := hR2.fz
                  have hs2 : wr.heap.size ≤ w2.heap.size := by have := hb1.size; have := ht2.size; omega
                  have HT2 := Lib.hid ((HT.out.trans (.of (hb1.mono hsz))).trans (ht2.mono (by have := hb1.size; omega)))
                  have HO2 := Lib.hid ((HOWN.out.below hb1 (by omega)).turn ht2 hpl)
                  have ktop := (own_top2 HM.out HO2.out).2
                  have hgl := (own_top2 HM.out HO2.out).1
                  have HR2 := Lib.hid hR2
                  clear hb1 ht2 hR1 hR2
                  go_wp2_with fail
                  refine (kinds_any _).mono ?_
                  rintro e w3 ⟨rfl, rfl⟩
                  have hblk := alloc2_at w2 kindsB rec0
                  go_wp2_with fail
                  refine (HREAD.out _ ((HR2.out.later (alloc_below _ _)).later (alloc_below _ _)) (w2.heap.size + 1) (Lib.cell_of_heap hblk 3) (frozen_of_row _ (w2.heap.size + 1) 3 _ _ hblk) (by have := HR2.out.lt; omega)).mono ?_
                  rintro e w5 ⟨w4, rfl, rfl, hR3, ht3⟩
                  simp only [World.size_alloc] at ht3
                  have hs4 := ht3.size
                  simp only [World.size_alloc] at hs4
                  have ht23 := ((Turn.of (p := p) (alloc_below w2 kindsB)).trans (Turn.of ((alloc_below (w2.alloc kindsB) rec0).mono (by simp)))).trans (ht3.mono (by omega))
                  have HO5 := Lib.hid (HO2.out.turn (ht23.trans (.of ((Below.refl w2.heap.size w4).setCell (p := ⟨w2.heap.size + 1, 3, none⟩) (by show w2.heap.size ≤ w2.heap.size + 1; omega) (.string ⟨x.toArray⟩)))) hpl)
                  have HR5 := Lib.hid (HP.out.stay hR3 ((Below.refl w.heap.size w4).setCell (p := ⟨w2.heap.size + 1, 3, none⟩) (by show w.heap.size ≤ w2.heap.size + 1; omega) (.string ⟨x.toArray⟩)))
                  have HT5 := Lib.hid ((HT2.out.trans (ht23.mono (by omega))).trans (.of ((Below.refl w.heap.size w4).setCell (p := ⟨w2.heap.size + 1, 3, none⟩) (by show w.heap.size ≤ w2.heap.size + 1; omega) (.string ⟨x.toArray⟩))))
                  clear hblk ht3 hR3 ht23
                  go_wp2_with fail
                  go_roundg f'
                  case measure => omega
                  case rel => exact ⟨s :: ss, q2, by rw [List.reverse_cons]; exact HO5.out, HR5.out, HT5.out, by omega, by simp [HM.out]; omega, HV.out⟩
                · have HV := Lib.hid (HS.out.trans (if_pos (by simpa using hie)))
                  go_wp2_with fail
                  refine (rdMore_any wr p st b _ a cap HRD.out).mono ?_
                  rintro e w1 ⟨rfl, hR1, hb1⟩
                  rw [HD.out]
                  have k1 := hR1.c1
                  go_wp2_with fail
                  refine (HTAG.out w1 hR1).mono ?_
                  rintro e w2 ⟨rfl, hR2, ht2⟩
                  have k1 := hR2.c1
                  have kz := hR2.fz
                  have hs2 : wr.heap.size ≤ w2.heap.size := by have := hb1.size; have := ht2.size; omega
                  have HT2 := Lib.hid ((HT.out.trans (.of (hb1.mono hsz))).trans (ht2.mono (by have := hb1.size; omega)))
                  have HO2 := Lib.hid ((HOWN.out.below hb1 (by omega)).turn ht2 hpl)
                  have ktop := (own_top2 HM.out HO2.out).2
                  have hgl := (own_top2 HM.out HO2.out).1
                  have HR2 := Lib.hid hR2
                  clear hb1 ht2 hR1 hR2
                  go_wp2_with fail
                  refine (kinds_any _).mono ?_
                  rintro e w3 ⟨rfl, rfl⟩
                  have hblk := alloc2_at w2 kindsB rec0
                  go_wp2_with fail
                  refine (HREAD.out _ ((HR2.out.later (alloc_below _ _)).later (alloc_below _ _)) (w2.heap.size + 1) (Lib.cell_of_heap hblk 3) (frozen_of_row _ (w2.heap.size + 1) 3 _ _ hblk) (by have := HR2.out.lt; omega)).mono ?_
                  rintro e w5 ⟨w4, rfl, rfl, hR3, ht3⟩
                  simp only [World.size_alloc] at ht3
                  have hs4 := ht3.size
                  simp only [World.size_alloc] at hs4
                  have ht23 := ((Turn.of (p := p) (alloc_below w2 kindsB)).trans (Turn.of ((alloc_below (w2.alloc kindsB) rec0).mono (by simp)))).trans (ht3.mono (by omega))
                  have HO5 := Lib.hid (HO2.out.turn (ht23.trans (.of ((Below.refl w2.heap.size w4).setCell (p := ⟨w2.heap.size + 1, 3, none⟩) (by show w2.heap.size ≤ w2.heap.size + 1; omega) (.string ⟨x.toArray⟩)))) hpl)
                  have HR5 := Lib.hid (HP.out.stay hR3 ((Below.refl w.heap.size w4).setCell (p := ⟨w2.heap.size + 1, 3, none⟩) (by show w.heap.size ≤ w2.heap.size + 1; omega) (.string ⟨x.toArray⟩)))
                  have HT5 := Lib.hid ((HT2.out.trans (ht23.mono (by omega))).trans (.of ((Below.refl w.heap.size w4).setCell (p := ⟨w2.heap.size + 1, 3, none⟩) (by show w.heap.size ≤ w2.heap.size + 1; omega) (.string ⟨x.toArray⟩))))
                  clear hblk ht3 hR3 ht23
                  go_wp2_with fail
                  go_ret
                  exact sk_end HV.out HR5.out HT5.out
              · have HS := Lib.hid (HRR.out.trans (skipL_c st b most f' q' s ss hge HG.out (by omega) (by omega)))
                have hcp := cRd_place st 5 b q1 hg1
                obtain ⟨⟨x, er2, q2⟩, hv⟩ : ∃ r, fRd 4 b q1 = r := ⟨_, rfl⟩
                have hcd : (cRd st 5 b q1).2.2 = (er2, q2) := by rw [cRd_5, hv]
                have HREAD := Lib.hid (fun (W : World) (hW : RdAt W p st b q1 a cap) (o : Nat) (ho : W.cell? ⟨o, 2, none⟩ = some (.int .i64 0)) (hz : W.frozen? ⟨o, 2, none⟩ = false) (hne : o ≠ p) => hv ▸ read5_any W p st b q1 a cap hW o _ ho hz hne)
                rw [hcd] at hcp HS
                have hq2a := hcp.1
                have hq2b := hcp.2.1
                simp only at hq2a hq2b
                clear hv hcd hcp
                cases hie : (er2 != 0 : Bool)
                · obtain rfl : er2 = 0 := by simpa using hie
                  have HV := Lib.hid (HS.out.trans (if_neg (by simp)))
                  go_wp2_with fail
                  refine (rdMore_any wr p st b _ a cap HRD.out).mono ?_
                  rintro e w1 ⟨rfl, hR1, hb1⟩
                  rw [HD.out]
                  have k1 := hR1.c1
                  go_wp2_with fail
                  refine (HTAG.out w1 hR1).mono ?_
                  rintro e w2 ⟨rfl, hR2, ht2⟩
                  have k1 := hR2.c1
                  have kz := hR2.fz
                  have hs2 : wr.heap.size ≤ w2.heap.size := by have := hb1.size; have := ht2.size; omega
                  have HT2 := Lib.hid ((HT.out.trans (.of (hb1.mono hsz))).trans (ht2.mono (by have := hb1.size; omega)))
                  have HO2 := Lib.hid ((HOWN.out.below hb1 (by omega)).turn ht2 hpl)
                  have ktop := (own_top2 HM.out HO2.out).2
                  have hgl := (own_top2 HM.out HO2.out).1
                  have HR2 := Lib.hid hR2
                  clear hb1 ht2 hR1 hR2
                  go_wp2_with fail
                  refine (kinds_any _).mono ?_
                  rintro e w3 ⟨rfl, rfl⟩
                  have hblk := alloc2_at w2 kindsB rec0
                  go_wp2_with fail
                  refine (HREAD.out _ ((HR2.out.later (alloc_below _ _)).later (alloc_below _ _)) (w2.heap.size + 1) (Lib.cell_of_heap hblk 2) (frozen_of_row _ (w2.heap.size + 1) 2 _ _ hblk) (by have := HR2.out.lt; omega)).mono ?_
                  rintro e w5 ⟨w4, rfl, rfl, hR3, ht3⟩
                  simp only [World.size_alloc] at ht3
                  have hs4 := ht3.size
                  simp only [World.size_alloc] at hs4
                  have ht23 := ((Turn.of (p := p) (alloc_below w2 kindsB)).trans (Turn.of ((alloc_below (w2.alloc kindsB) rec0).mono (by simp)))).trans (ht3.mono (by omega))
                  have HO5 := Lib.hid (HO2.out.turn (ht23.trans (.of ((Below.refl w2.heap.size w4).setCell (p := ⟨w2.heap.size + 1, 2, none⟩) (by show w2.heap.size ≤ w2.heap.size + 1; omega) (.int .i64 x)))) hpl)
                  have HR5 := Lib.hid (HP.out.stay hR3 ((Below.refl w.heap.size w4).setCell (p := ⟨w2.heap.size + 1, 2, none⟩) (by show w.heap.size ≤ w2.heap.size + 1; omega) (.int .i64 x)))
                  have HT5 := Lib.hid ((HT2.out.trans (ht23.mono (by omega))).trans (.of ((Below.refl w.heap.size w4).setCell (p := ⟨w2.heap.size + 1, 2, none⟩) (by show w.heap.size ≤ w2.heap.size + 1; omega) (.int .i64 x))))
                  clear hblk ht3 hR3 ht23
                  go_wp2_with fail
                  go_roundg f'
                  case measure => omega
                  case rel => exact ⟨s :: ss, q2, by rw [List.reverse_cons]; exact HO5.out, HR5.out, HT5.out, by omega, by simp [HM.out]; omega, HV.out⟩
                · have HV := Lib.hid (HS.out.trans (if_pos (by simpa using hie)))
                  go_wp2_with fail
                  refine (rdMore_any wr p st b _ a cap HRD.out).mono ?_
                  rintro e w1 ⟨rfl, hR1, hb1⟩
                  rw [HD.out]
                  have k1 := hR1.c1
                  go_wp2_with fail
                  refine (HTAG.out w1 hR1).mono ?_
                  rintro e w2 ⟨rfl, hR2, ht2⟩
                  have k1 := hR2.c1
                  have kz := hR2.fz
                  have hs2 : wr.heap.size ≤ w2.heap.size := by have := hb1.size; have := ht2.size; omega
                  have HT2 := Lib.hid ((HT.out.trans (.of (hb1.mono hsz))).trans (ht2.mono (by have := hb1.size; omega)))
                  have HO2 := Lib.hid ((HOWN.out.below hb1 (by omega)).turn ht2 hpl)
                  have ktop := (own_top2 HM.out HO2.out).2
                  have hgl := (own_top2 HM.out HO2.out).1
                  have HR2 := Lib.hid hR2
                  clear hb1 ht2 hR1 hR2
                  go_wp2_with fail
                  refine (kinds_any _).mono ?_
                  rintro e w3 ⟨rfl, rfl⟩
                  have hblk := alloc2_at w2 kindsB rec0
                  go_wp2_with fail
                  refine (HREAD.out _ ((HR2.out.later (alloc_below _ _)).later (alloc_below _ _)) (w2.heap.size + 1) (Lib.cell_of_heap hblk 2) (frozen_of_row _ (w2.heap.size + 1) 2 _ _ hblk) (by have := HR2.out.lt; omega)).mono ?_
                  rintro e w5 ⟨w4, rfl, rfl, hR3, ht3⟩
                  simp only [World.size_alloc] at ht3
                  have hs4 := ht3.size
                  simp only [World.size_alloc] at hs4
                  have ht23 := ((Turn.of (p := p) (alloc_below w2 kindsB)).trans (Turn.of ((alloc_below (w2.alloc kindsB) rec0).mono (by simp)))).trans (ht3.mono (by omega))
                  have HO5 := Lib.hid (HO2.out.turn (ht23.trans (.of ((Below.refl w2.heap.size w4).setCell (p := ⟨w2.heap.size + 1, 2, none⟩) (by show w2.heap.size ≤ w2.heap.size + 1; omega) (.int .i64 x)))) hpl)
                  have HR5 := Lib.hid (HP.out.stay hR3 ((Below.refl w.heap.size w4).setCell (p := ⟨w2.heap.size + 1, 2, none⟩) (by show w.heap.size ≤ w2.heap.size + 1; omega) (.int .i64 x)))
                  have HT5 := Lib.hid ((HT2.out.trans (ht23.mono (by omega))).trans (.of ((Below.refl w.heap.size w4).setCell (p := ⟨w2.heap.size + 1, 2, none⟩) (by show w.heap.size ≤ w2.heap.size + 1; omega) (.int .i64 x))))
                  clear hblk ht3 hR3 ht23
                  go_wp2_with fail
                  go_ret
                  exact sk_end HV.out HR5.out HT5.out
            · obtain rfl : k = 3 := by simpa using hk3
              have HS := Lib.hid (HRR.out.trans (skipL_3 st b most f' q' s ss hge HG.out))
              rw [HM.out] at HS
              by_cases hdp : most ≤ m + 1
              · have HV := Lib.hid (HS.out.trans (if_pos hdp))
                go_wp2_with fail
                refine (rdMore_any wr p st b _ a cap HRD.out).mono ?_
                rintro e w1 ⟨rfl, hR1, hb1⟩
                rw [HD.out]
                have k1 := hR1.c1
                go_wp2_with fail
                refine (HTAG.out w1 hR1).mono ?_
                rintro e w2 ⟨rfl, hR2, ht2⟩
                have k1 := hR2.c1
                have kz := hR2.fz
                have hs2 : wr.heap.size ≤ w2.heap.size := by have := hb1.size; have := ht2.size; omega
                have HT2 := Lib.hid ((HT.out.trans (.of (hb1.mono hsz))).trans (ht2.mono (by have := hb1.size; omega)))
                have HO2 := Lib.hid ((HOWN.out.below hb1 (by omega)).turn ht2 hpl)
                have ktop := (own_top2 HM.out HO2.out).2
                have hgl := (own_top2 HM.out HO2.out).1
                have HR2 := Lib.hid hR2
                clear hb1 ht2 hR1 hR2
                go_wp2_with fail
                go_ret
                exact sk_end HV.out (HR2.out.set q' hq') (HT2.out.set 1 _)
              · have HV := Lib.hid (HS.out.trans (if_neg hdp))
                go_wp2_with fail
                refine (rdMore_any wr p st b _ a cap HRD.out).mono ?_
                rintro e w1 ⟨rfl, hR1, hb1⟩
                rw [HD.out]
                have k1 := hR1.c1
                go_wp2_with fail
                refine (HTAG.out w1 hR1).mono ?_
                rintro e w2 ⟨rfl, hR2, ht2⟩
                have k1 := hR2.c1
                have kz := hR2.fz
                have hs2 : wr.heap.size ≤ w2.heap.size := by have := hb1.size; have := ht2.size; omega
                have HT2 := Lib.hid ((HT.out.trans (.of (hb1.mono hsz))).trans (ht2.mono (by have := hb1.size; omega)))
                have HO2 := Lib.hid ((HOWN.out.below hb1 (by omega)).turn ht2 hpl)
                have ktop := (own_top2 HM.out HO2.out).2
                have hgl := (own_top2 HM.out HO2.out).1
                have HR2 := Lib.hid hR2
                clear hb1 ht2 hR1 hR2
                have hoa := World.ownsRow.alloc HO2.out (.cells #[.int .i64 n1] 3)
                go_wp2_with (at_builtin; refine wpList_append_own_at _ rfl _ _ 22 rfl w.heap.size 3 i0 (.int .i64 0) 1 8 Tryd.underlying22 hi hz0 hz1 hz2 rfl (by decide) _ _ _ rfl (own_len HM.out hoa) ⟨w2.heap.size, 0, none⟩ 1 1 [.int .i64 n1] rfl rfl ?c1 ?c2 ?c3 ?c4 ?c5 ?_)
                case c1 => exact news_row (by simp)
                case c2 => intro u hu; simp at hu; rw [hu]; rfl
                case c3 => unfold maxLen; omega
                case c4 => omega
                case c5 => simp; omega
                intro v' w5 hown' hgrow _ hat
                have hput := OwnI.put (ss := ss) (by rw [HM.out]; exact hown')
                have hB5 := (Below.refl w.heap.size _).grown hgrow (by simp; omega) (own_base HO2.out)
                have HO5 := Lib.hid hput
                have HR5 := Lib.hid (HP.out.stay (HR2.out.later (alloc_below _ _)) hB5)
                have HT5 := Lib.hid ((HT2.out.trans (.of ((alloc_below w2 (.cells #[.int .i64 n1] 3)).mono (by omega)))).trans (.of hB5))
                clear hown' hgrow hat hput hB5 hoa
                go_wp2
                go_roundg f'
                case measure => omega
                case rel => exact ⟨n1 :: s :: ss, q1, HO5.out, HR5.out, HT5.out, by omega, by simp [HM.out]; omega, HV.out⟩
          · obtain rfl : k = 4 := by simpa using hk4
            have HS := Lib.hid (HRR.out.trans (skipL_4 st b most f' q' s ss hge HG.out))
            cases hns : (n1 != s : Bool)
            · obtain rfl : n1 = s := by simpa using hns
              have HV := Lib.hid (HS.out.trans (if_neg (by simp)))
              go_wp2_with fail
              refine (rdMore_any wr p st b _ a cap HRD.out).mono ?_
              rintro e w1 ⟨rfl, hR1, hb1⟩
              rw [HD.out]
              have k1 := hR1.c1
              go_wp2_with fail
              refine (HTAG.out w1 hR1).mono ?_
              rintro e w2 ⟨rfl, hR2, ht2⟩
              have k1 := hR2.c1
              have kz := hR2.fz
              have hs2 : wr.heap.size ≤ w2.heap.size := by have := hb1.size; have := ht2.size; omega
              have HT2 := Lib.hid ((HT.out.trans (.of (hb1.mono hsz))).trans (ht2.mono (by have := hb1.size; omega)))
              have HO2 := Lib.hid ((HOWN.out.below hb1 (by omega)).turn ht2 hpl)
              have ktop := (own_top2 HM.out HO2.out).2
              have hgl := (own_top2 HM.out HO2.out).1
              have HR2 := Lib.hid hR2
              clear hb1 ht2 hR1 hR2
              have HPOP := Lib.hid (show OwnI w2 w.heap.size (.slice (some ⟨g, 0, none⟩) m capS) ss.reverse from own_pop HM.out HO2.out)
              go_wp2_with fail
              go_roundg f'
              case measure => omega
              case rel => exact ⟨ss, q1, HPOP.out, HR2.out, HT2.out, by omega, by rw [HM.out]; omega, HV.out⟩
            · have HV := Lib.hid (HS.out.trans (if_pos (by simpa using hns)))
              go_wp2_with fail
              refine (rdMore_any wr p st b _ a cap HRD.out).mono ?_
              rintro e w1 ⟨rfl, hR1, hb1⟩
              rw [HD.out]
              have k1 := hR1.c1
              go_wp2_with fail
              refine (HTAG.out w1 hR1).mono ?_
              rintro e w2 ⟨rfl, hR2, ht2⟩
              have k1 := hR2.c1
              have kz := hR2.fz
              have hs2 : wr.heap.size ≤ w2.heap.size := by have := hb1.size; have := ht2.size; omega
              have HT2 := Lib.hid ((HT.out.trans (.of (hb1.mono hsz))).trans (ht2.mono (by have := hb1.size; omega)))
              have HO2 := Lib.hid ((HOWN.out.below hb1 (by omega)).turn ht2 hpl)
              have ktop := (own_top2 HM.out HO2.out).2
              have hgl := (own_top2 HM.out HO2.out).1
              have HR2 := Lib.hid hR2
              clear hb1 ht2 hR1 hR2
              go_wp2_with fail
              go_ret
              exact sk_end HV.out (HR2.out.set q' hq') (HT2.out.set 1 _)
        · have hq1 : q1 = q' := hg4 (by simpa using her)
          subst hq1
          have HV := Lib.hid (HRR.out.trans (skipL_tag st b most f' q1 s ss hge HG.out (by simpa using her)))
          go_wp2_with fail
          refine (rdMore_any wr p st b _ a cap HRD.out).mono ?_
          rintro e w1 ⟨rfl, hR1, hb1⟩
          rw [HD.out]
          have k1 := hR1.c1
          go_wp2_with fail
          refine (HTAG.out w1 hR1).mono ?_
          rintro e w2 ⟨rfl, hR2, ht2⟩
          have k1 := hR2.c1
          have kz := hR2.fz
          have hs2 : wr.heap.size ≤ w2.heap.size := by have := hb1.size; have := ht2.size; omega
          have HT2 := Lib.hid ((HT.out.trans (.of (hb1.mono hsz))).trans (ht2.mono (by have := hb1.size; omega)))
          have HO2 := Lib.hid ((HOWN.out.below hb1 (by omega)).turn ht2 hpl)
          have ktop := (own_top2 HM.out HO2.out).2
          have hgl := (own_top2 HM.out HO2.out).1
          have HR2 := Lib.hid hR2
          clear hb1 ht2 hR1 hR2
          go_wp2_with fail
          go_ret
          exact sk_end HV.out HR2.out HT2.out
      · have hge : b.length ≤ q' := by omega
        have HD := Lib.hid (show decide (q' < b.length) = false by simp [hlt])
        have HV := Lib.hid (HRR.out.trans (skipL_end st b most f' q' s ss hge))
        go_wp2_with fail
        refine (rdMore_any wr p st b q' a cap HRD.out).mono ?_
        rintro e w1 ⟨rfl, hR1, hb1⟩
        rw [HD.out]
        have HR1 := Lib.hid hR1
        have HT1 := Lib.hid (HT.out.trans (.of (hb1.mono hsz)))
        clear hR1 hb1
        go_wp2_with fail
        go_ret
        exact sk_end HV.out HR1.out HT1.out
end Go.Proofs.YtecmhpncgdjgjaaDoor
