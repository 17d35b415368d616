/-
  Skip of package wire, walked, of any number, kind and depth. Conditions: as for the reader's other calls. (Printed by gen_skip2.py.)
-/
import Derived.Test.YtecmhpncgdjgjaaDoorSkip
namespace Go.Proofs.YtecmhpncgdjgjaaDoor
open Go.RowKit
set_option linter.unusedVariables false
set_option linter.unusedSimpArgs false

set_option maxHeartbeats 8000000 in
set_option maxRecDepth 100000 in
theorem skip_any (w : World) (p : Nat) (st : Bool) (b : List UInt8) (q : Nat) (a : Option Addr) (cap : Nat) (h : RdAt w p st b q a cap) (n k depth : Int) :
    Calls Tryd.prog 56 #[.pointer (some ⟨p, 0, none⟩), .int .i64 n, .int .i64 k, .int .i64 depth] w (Rds w p st b (skipR st b n k depth q).2 a cap (.int .i64 (skipR st b n k depth q).1)) := by
  have HP := Lib.hid h
  have hpl := h.lt
  have hbl := h.hb
  have hq := h.hq
  by_cases c1 : n < 1
  · have HV := Lib.hid (show skipR st b n k depth q = (24, q) from if_pos (.inl c1))
    rw [HV.out]
    clear h
    go_enter Tryd.func56, Tryd.ntmps56
    go_wp2_with fail
    go_ret
    exact ⟨rfl, HP.out, Turn.refl _ _ _⟩
  by_cases c2 : 536870911 < n
  · have HV := Lib.hid (show skipR st b n k depth q = (24, q) from if_pos (.inr c2))
    rw [HV.out]
    clear h
    go_enter Tryd.func56, Tryd.ntmps56
    go_wp2_with fail
    go_ret
    exact ⟨rfl, HP.out, Turn.refl _ _ _⟩
  have c3 : ¬ (n < 1 ∨ 536870911 < n) := by omega
  by_cases c4 : k < 0
  · have HV := Lib.hid (show skipR st b n k depth q = (23, q) from (if_neg c3).trans (if_pos (.inl c4)))
    rw [HV.out]
    clear h
    go_enter Tryd.func56, Tryd.ntmps56
    go_wp2_with fail
    go_ret
    exact ⟨rfl, HP.out, Turn.refl _ _ _⟩
  by_cases c5 : 5 < k
  · have HV := Lib.hid (show skipR st b n k depth q = (23, q) from (if_neg c3).trans (if_pos (.inr c5)))
    rw [HV.out]
    clear h
    go_enter Tryd.func56, Tryd.ntmps56
    go_wp2_with fail
    go_ret
    exact ⟨rfl, HP.out, Turn.refl _ _ _⟩
  have c6 : ¬ (k < 0 ∨ 5 < k) := by omega
  by_cases c7 : k = 4
  · subst c7
    have HV := Lib.hid (show skipR st b n 4 depth q = (25, q) from (if_neg c3).trans ((if_neg c6).trans (if_pos rfl)))
    rw [HV.out]
    clear h
    go_enter Tryd.func56, Tryd.ntmps56
    go_wp2_with fail
    go_ret
    exact ⟨rfl, HP.out, Turn.refl _ _ _⟩
  by_cases c8 : k = 3
  · subst c8
    by_cases c9 : depth < 1
    · have HV := Lib.hid (show skipR st b n 3 depth q = (4, q) from (if_neg c3).trans ((if_neg c6).trans ((if_neg c7).trans (if_pos ⟨rfl, c9⟩))))
      rw [HV.out]
      clear h
      go_enter Tryd.func56, Tryd.ntmps56
      go_wp2_with fail
      go_ret
      exact ⟨rfl, HP.out, Turn.refl _ _ _⟩
    · have HV : skipR st b n 3 depth q = (recsF st b depth.toNat n 1 q).2 := (if_neg c3).trans ((if_neg c6).trans ((if_neg c7).trans ((if_neg (by omega)).trans (if_pos rfl))))
      rw [HV, ← skip_one st b depth.toNat n q hq (by omega)]
      exact skip3_any w p st b q a cap h n depth (by omega) (by omega) (by omega)
  have HV : skipR st b n k depth q = (cRd st k b q).2.2 := (if_neg c3).trans ((if_neg c6).trans ((if_neg c7).trans ((if_neg (by omega)).trans (if_neg c8))))
  rw [HV]
  have hkc : k = 0 ∨ k = 1 ∨ k = 2 ∨ k = 5 := by omega
  have hn1 : 1 ≤ n := by omega
  have hn2 : n ≤ 536870911 := by omega
  clear c1 c2 c3 c4 c5 c6 c7 c8 HV h
  rcases hkc with rfl | rfl | rfl | rfl
  · obtain ⟨⟨x, er2, q2⟩, hv⟩ : ∃ r, vRd st b q = r := ⟨_, rfl⟩
    have hcd : (cRd st 0 b q).2.2 = (er2, q2) := by rw [cRd_0, hv]
    have HREAD := Lib.hid (fun (W : World) (hW : RdAt W p st b q a cap) (o : Nat) (ho : W.cell? ⟨o, 2, none⟩ = some (.int .i64 0)) (hz : W.frozen? ⟨o, 2, none⟩ = false) (hne : o ≠ p) => hv ▸ read0_any W p st b q a cap hW o _ ho hz hne)
    rw [hcd]
    clear hv hcd
    go_enter Tryd.func56, Tryd.ntmps56
    go_wp2_with fail
    refine (kinds_any _).mono ?_
    rintro e w3 ⟨rfl, rfl⟩
    have hblk := alloc2_at w kindsB rec0
    go_wp2_with fail
    refine (HREAD.out _ ((HP.out.later (alloc_below _ _)).later (alloc_below _ _)) (w.heap.size + 1) (Lib.cell_of_heap hblk 2) (frozen_of_row _ (w.heap.size + 1) 2 _ _ hblk) (by omega)).mono ?_
    rintro e w5 ⟨w4, rfl, rfl, hR3, ht3⟩
    simp only [World.size_alloc] at ht3
    have hs4 := ht3.size
    simp only [World.size_alloc] at hs4
    have ht23 := ((Turn.of (p := p) (alloc_below w kindsB)).trans (Turn.of ((alloc_below (w.alloc kindsB) rec0).mono (by simp)))).trans (ht3.mono (by omega))
    have HR5 := Lib.hid (HP.out.stay hR3 ((Below.refl w.heap.size w4).setCell (p := ⟨w.heap.size + 1, 2, none⟩) (by show w.heap.size ≤ w.heap.size + 1; omega) (.int .i64 x)))
    have HT5 := Lib.hid (ht23.trans (.of ((Below.refl w.heap.size w4).setCell (p := ⟨w.heap.size + 1, 2, none⟩) (by show w.heap.size ≤ w.heap.size + 1; omega) (.int .i64 x))))
    clear hblk ht3 hR3 ht23
    go_wp2_with fail
    go_ret
    exact ⟨rfl, HR5.out, HT5.out⟩
  · obtain ⟨⟨x, er2, q2⟩, hv⟩ : ∃ r, fRd 8 b q = r := ⟨_, rfl⟩
    have hcd : (cRd st 1 b q).2.2 = (er2, q2) := by rw [cRd_1, hv]
    have HREAD := Lib.hid (fun (W : World) (hW : RdAt W p st b q a cap) (o : Nat) (ho : W.cell? ⟨o, 2, none⟩ = some (.int .i64 0)) (hz : W.frozen? ⟨o, 2, none⟩ = false) (hne : o ≠ p) => hv ▸ read1_any W p st b q a cap hW o _ ho hz hne)
    rw [hcd]
    clear hv hcd
    go_enter Tryd.func56, Tryd.ntmps56
    go_wp2_with fail
    refine (kinds_any _).mono ?_
    rintro e w3 ⟨rfl, rfl⟩
    have hblk := alloc2_at w kindsB rec0
    go_wp2_with fail
    refine (HREAD.out _ ((HP.out.later (alloc_below _ _)).later (alloc_below _ _)) (w.heap.size + 1) (Lib.cell_of_heap hblk 2) (frozen_of_row _ (w.heap.size + 1) 2 _ _ hblk) (by omega)).mono ?_
    rintro e w5 ⟨w4, rfl, rfl, hR3, ht3⟩
    simp only [World.size_alloc] at ht3
    have hs4 := ht3.size
    simp only [World.size_alloc] at hs4
    have ht23 := ((Turn.of (p := p) (alloc_below w kindsB)).trans (Turn.of ((alloc_below (w.alloc kindsB) rec0).mono (by simp)))).trans (ht3.mono (by omega))
    have HR5 := Lib.hid (HP.out.stay hR3 ((Below.refl w.heap.size w4).setCell (p := ⟨w.heap.size + 1, 2, none⟩) (by show w.heap.size ≤ w.heap.size + 1; omega) (.int .i64 x)))
    have HT5 := Lib.hid (ht23.trans (.of ((Below.refl w.heap.size w4).setCell (p := ⟨w.heap.size + 1, 2, none⟩) (by show w.heap.size ≤ w.heap.size + 1; omega) (.int .i64 x))))
    clear hblk ht3 hR3 ht23
    go_wp2_with fail
    go_ret
    exact ⟨rfl, HR5.out, HT5.out⟩
  · obtain ⟨⟨x, er2, q2⟩, hv⟩ : ∃ r, tRd st b q = r := ⟨_, rfl⟩
    have hcd : (cRd st 2 b q).2.2 = (er2, q2) := by rw [cRd_2, hv]
    have HREAD := Lib.hid (fun (W : World) (hW : RdAt W p st b q a cap) (o : Nat) (ho : W.cell? ⟨o, 3, none⟩ = some (.string ⟨#[]⟩)) (hz : W.frozen? ⟨o, 3, none⟩ = false) (hne : o ≠ p) => hv ▸ read2_any W p st b q a cap hW o _ ho hz hne)
    rw [hcd]
    clear hv hcd
    go_enter Tryd.func56, Tryd.ntmps56
    go_wp2_with fail
    refine (kinds_any _).mono ?_
    rintro e w3 ⟨rfl, rfl⟩
    have hblk := alloc2_at w kindsB rec0
    go_wp2_with fail
    refine (HREAD.out _ ((HP.out.later (alloc_below _ _)).later (alloc_below _ _)) (w.heap.size + 1) (Lib.cell_of_heap hblk 3) (frozen_of_row _ (w.heap.size + 1) 3 _ _ hblk) (by omega)).mono ?_
    rintro e w5 ⟨w4, rfl, rfl, hR3, ht3⟩
    simp only [World.size_alloc] at ht3
    have hs4 := ht3.size
    simp only [World.size_alloc] at hs4
    have ht23 := ((Turn.of (p := p) (alloc_below w kindsB)).trans (Turn.of ((alloc_below (w.alloc kindsB) rec0).mono (by simp)))).trans (ht3.mono (by omega))
    have HR5 := Lib.hid (HP.out.stay hR3 ((Below.refl w.heap.size w4).setCell (p := ⟨w.heap.size + 1, 3, none⟩) (by show w.heap.size ≤ w.heap.size + 1; omega) (.string ⟨x.toArray⟩)))
    have HT5 := Lib.hid (ht23.trans (.of ((Below.refl w.heap.size w4).setCell (p := ⟨w.heap.size + 1, 3, none⟩) (by show w.heap.size ≤ w.heap.size + 1; omega) (.string ⟨x.toArray⟩))))
    clear hblk ht3 hR3 ht23
    go_wp2_with fail
    go_ret
    exact ⟨rfl, HR5.out, HT5.out⟩
  · obtain ⟨⟨x, er2, q2⟩, hv⟩ : ∃ r, fRd 4 b q = r := ⟨_, rfl⟩
    have hcd : (cRd st 5 b q).2.2 = (er2, q2) := by rw [cRd_5, hv]
    have HREAD := Lib.hid (fun (W : World) (hW : RdAt W p st b q a cap) (o : Nat) (ho : W.cell? ⟨o, 2, none⟩ = some (.int .i64 0)) (hz : W.frozen? ⟨o, 2, none⟩ = false) (hne : o ≠ p) => hv ▸ read5_any W p st b q a cap hW o _ ho hz hne)
    rw [hcd]
    clear hv hcd
    go_enter Tryd.func56, Tryd.ntmps56
    go_wp2_with fail
    refine (kinds_any _).mono ?_
    rintro e w3 ⟨rfl, rfl⟩
    have hblk := alloc2_at w kindsB rec0
    go_wp2_with fail
    refine (HREAD.out _ ((HP.out.later (alloc_below _ _)).later (alloc_below _ _)) (w.heap.size + 1) (Lib.cell_of_heap hblk 2) (frozen_of_row _ (w.heap.size + 1) 2 _ _ hblk) (by omega)).mono ?_
    rintro e w5 ⟨w4, rfl, rfl, hR3, ht3⟩
    simp only [World.size_alloc] at ht3
    have hs4 := ht3.size
    simp only [World.size_alloc] at hs4
    have ht23 := ((Turn.of (p := p) (alloc_below w kindsB)).trans (Turn.of ((alloc_below (w.alloc kindsB) rec0).mono (by simp)))).trans (ht3.mono (by omega))
    have HR5 := Lib.hid (HP.out.stay hR3 ((Below.refl w.heap.size w4).setCell (p := ⟨w.heap.size + 1, 2, none⟩) (by show w.heap.size ≤ w.heap.size + 1; omega) (.int .i64 x)))
    have HT5 := Lib.hid (ht23.trans (.of ((Below.refl w.heap.size w4).setCell (p := ⟨w.heap.size + 1, 2, none⟩) (by show w.heap.size ≤ w.heap.size + 1; omega) (.int .i64 x))))
    clear hblk ht3 hR3 ht23
    go_wp2_with fail
    go_ret
    exact ⟨rfl, HR5.out, HT5.out⟩
end Go.Proofs.YtecmhpncgdjgjaaDoor
