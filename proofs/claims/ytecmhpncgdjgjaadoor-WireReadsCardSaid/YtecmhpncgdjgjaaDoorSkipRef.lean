/-
  behind and Skip of the reference's cursor, walked, of any number, kind and depth; Fixed of the reader at another size. Conditions: as for the other calls. (Printed by gen_skipref.py.)
-/
import Derived.Test.YtecmhpncgdjgjaaDoorCRecs
import Derived.Test.YtecmhpncgdjgjaaDoorSkipPlain
namespace Go.Proofs.YtecmhpncgdjgjaaDoor
open Go.RowKit
set_option linter.unusedVariables false
set_option linter.unusedSimpArgs false

set_option maxHeartbeats 8000000 in
set_option maxRecDepth 100000 in
theorem behindc_any (st : Bool) (b : List UInt8) (n k most : Int) (op q : Nat) (w : World) (p : Nat) (a : Option Addr) (cap : Nat) (h : CrAt w p st b q a cap) (hk : k = 0 ∨ k = 1 ∨ k = 2 ∨ k = 5) (hop : op < 1000000000) :
    Calls Tryd.prog 86 #[.pointer (some ⟨p, 0, none⟩), .int .i64 n, .int .i64 k, .int .i64 op, .int .i64 most] w (BehOut w p st b a cap (.mk n k (cRd st k b q).1 (cRd st k b q).2.1 [], (cRd st k b q).2.2)) := by
  have HH := Lib.hid h
  have hpl := h.lt
  clear h
  rcases hk with rfl | rfl | rfl | rfl
  · obtain ⟨⟨x, er, q1⟩, hv⟩ : ∃ r, vRd st b q = r := ⟨_, rfl⟩
    have hbeh : (Rec.mk n 0 (cRd st 0 b q).1 (cRd st 0 b q).2.1 [], (cRd st 0 b q).2.2) = (.mk n 0 x [] [], er, q1) := by rw [cRd_0, hv]
    have HB := Lib.hid hbeh
    have HC := Lib.hid (fun W (hW : CrAt W p st b q a cap) => hv ▸ crVarint_any W p st b q a cap hW)
    clear hv hbeh
    go_enter Tryd.func86, Tryd.ntmps86
    go_wp2_with fail
    refine (HC.out _ ((HH.out.later (alloc_below _ _)).later (alloc_below _ _))).mono ?_
    rintro e w1 ⟨rfl, hR1, ht1⟩
    simp only [World.size_alloc] at ht1
    have hA := (ht1.block w.heap.size (by omega) (by omega)).trans (((alloc_below _ _).block w.heap.size (by simp)).trans (alloc_at w _))
    have hB := (ht1.block (w.heap.size + 1) (by omega) (by omega)).trans (alloc2_at _ _ _)
    have hXA := Lib.cell_of_heap hA
    have hXB := Lib.cell_of_heap hB
    have hZA : ∀ j, w1.frozen? ⟨w.heap.size, j, none⟩ = false := fun j => frozen_of_row w1 w.heap.size j _ _ hA
    have hZB : ∀ j, w1.frozen? ⟨w.heap.size + 1, j, none⟩ = false := fun j => frozen_of_row w1 (w.heap.size + 1) j _ _ hB
    have HR1 := Lib.hid hR1
    have HT1 := Lib.hid ht1
    clear hA hB hR1 ht1
    go_wp2_with fail
    rw [HB.out]
    refine bodyPost_ret (v := .tuple #[.agg #[.int .i64 n, .int .i64 0, .int .i64 x, .string ⟨#[]⟩, .slice none 0 0], .int .i64 er]) ?_ rfl ?_
    · rw [results_cell_tmp rfl]
      go_simp
    · have hbel : ∀ W, Below w.heap.size w1 W → BehOut w p st b a cap (.mk n 0 x [] [], er, q1) (.returned (.tuple #[.agg #[.int .i64 n, .int .i64 0, .int .i64 x, .string ⟨#[]⟩, .slice none 0 0], .int .i64 er])) W := fun W hW =>
        ⟨_, rfl, .none _ _ (by omega), HH.out.stay HR1.out hW, (((Turn.of (alloc_below w _)).trans (Turn.of ((alloc_below _ _).mono (by simp)))).trans (HT1.out.mono (by omega))).trans (.of hW)⟩
      refine hbel _ ?_
      refine Below.setCell (Below.setCell (Below.setCell (Below.setCell (Below.setCell (Below.setCell (Below.refl _ _) (by simp) _) (by simp) _) (by simp) _) (by simp) _) (by simp) _) (by simp) _
  · obtain ⟨⟨x, er, q1⟩, hv⟩ : ∃ r, fRd 8 b q = r := ⟨_, rfl⟩
    have hbeh : (Rec.mk n 1 (cRd st 1 b q).1 (cRd st 1 b q).2.1 [], (cRd st 1 b q).2.2) = (.mk n 1 x [] [], er, q1) := by rw [cRd_1, hv]
    have HB := Lib.hid hbeh
    have HC := Lib.hid (fun W (hW : CrAt W p st b q a cap) => hv ▸ crFixed_any 8 (.inr rfl) W p st b q a cap hW)
    clear hv hbeh
    go_enter Tryd.func86, Tryd.ntmps86
    go_wp2_with fail
    refine (HC.out _ ((HH.out.later (alloc_below _ _)).later (alloc_below _ _))).mono ?_
    rintro e w1 ⟨rfl, hR1, ht1⟩
    simp only [World.size_alloc] at ht1
    have hA := (ht1.block w.heap.size (by omega) (by omega)).trans (((alloc_below _ _).block w.heap.size (by simp)).trans (alloc_at w _))
    have hB := (ht1.block (w.heap.size + 1) (by omega) (by omega)).trans (alloc2_at _ _ _)
    have hXA := Lib.cell_of_heap hA
    have hXB := Lib.cell_of_heap hB
    have hZA : ∀ j, w1.frozen? ⟨w.heap.size, j, none⟩ = false := fun j => frozen_of_row w1 w.heap.size j _ _ hA
    have hZB : ∀ j, w1.frozen? ⟨w.heap.size + 1, j, none⟩ = false := fun j => frozen_of_row w1 (w.heap.size + 1) j _ _ hB
    have HR1 := Lib.hid hR1
    have HT1 := Lib.hid ht1
    clear hA hB hR1 ht1
    go_wp2_with fail
    rw [HB.out]
    refine bodyPost_ret (v := .tuple #[.agg #[.int .i64 n, .int .i64 1, .int .i64 x, .string ⟨#[]⟩, .slice none 0 0], .int .i64 er]) ?_ rfl ?_
    · rw [results_cell_tmp rfl]
      go_simp
    · have hbel : ∀ W, Below w.heap.size w1 W → BehOut w p st b a cap (.mk n 1 x [] [], er, q1) (.returned (.tuple #[.agg #[.int .i64 n, .int .i64 1, .int .i64 x, .string ⟨#[]⟩, .slice none 0 0], .int .i64 er])) W := fun W hW =>
        ⟨_, rfl, .none _ _ (by omega), HH.out.stay HR1.out hW, (((Turn.of (alloc_below w _)).trans (Turn.of ((alloc_below _ _).mono (by simp)))).trans (HT1.out.mono (by omega))).trans (.of hW)⟩
      refine hbel _ ?_
      refine Below.setCell (Below.setCell (Below.setCell (Below.setCell (Below.setCell (Below.setCell (Below.refl _ _) (by simp) _) (by simp) _) (by simp) _) (by simp) _) (by simp) _) (by simp) _
  · obtain ⟨⟨x, er, q1⟩, hv⟩ : ∃ r, tRd st b q = r := ⟨_, rfl⟩
    have hbeh : (Rec.mk n 2 (cRd st 2 b q).1 (cRd st 2 b q).2.1 [], (cRd st 2 b q).2.2) = (.mk n 2 0 x [], er, q1) := by rw [cRd_2, hv]
    have HB := Lib.hid hbeh
    have HC := Lib.hid (fun W (hW : CrAt W p st b q a cap) => hv ▸ crText_any W p st b q a cap hW)
    clear hv hbeh
    go_enter Tryd.func86, Tryd.ntmps86
    go_wp2_with fail
    refine (HC.out _ ((HH.out.later (alloc_below _ _)).later (alloc_below _ _))).mono ?_
    rintro e w1 ⟨rfl, hR1, ht1⟩
    simp only [World.size_alloc] at ht1
    have hA := (ht1.block w.heap.size (by omega) (by omega)).trans (((alloc_below _ _).block w.heap.size (by simp)).trans (alloc_at w _))
    have hB := (ht1.block (w.heap.size + 1) (by omega) (by omega)).trans (alloc2_at _ _ _)
    have hXA := Lib.cell_of_heap hA
    have hXB := Lib.cell_of_heap hB
    have hZA : ∀ j, w1.frozen? ⟨w.heap.size, j, none⟩ = false := fun j => frozen_of_row w1 w.heap.size j _ _ hA
    have hZB : ∀ j, w1.frozen? ⟨w.heap.size + 1, j, none⟩ = false := fun j => frozen_of_row w1 (w.heap.size + 1) j _ _ hB
    have HR1 := Lib.hid hR1
    have HT1 := Lib.hid ht1
    clear hA hB hR1 ht1
    go_wp2_with fail
    rw [HB.out]
    refine bodyPost_ret (v := .tuple #[.agg #[.int .i64 n, .int .i64 2, .int .i64 0, .string ⟨x.toArray⟩, .slice none 0 0], .int .i64 er]) ?_ rfl ?_
    · rw [results_cell_tmp rfl]
      go_simp
    · have hbel : ∀ W, Below w.heap.size w1 W → BehOut w p st b a cap (.mk n 2 0 x [], er, q1) (.returned (.tuple #[.agg #[.int .i64 n, .int .i64 2, .int .i64 0, .string ⟨x.toArray⟩, .slice none 0 0], .int .i64 er])) W := fun W hW =>
        ⟨_, rfl, .none _ _ (by omega), HH.out.stay HR1.out hW, (((Turn.of (alloc_below w _)).trans (Turn.of ((alloc_below _ _).mono (by simp)))).trans (HT1.out.mono (by omega))).trans (.of hW)⟩
      refine hbel _ ?_
      refine Below.setCell (Below.setCell (Below.setCell (Below.setCell (Below.setCell (Below.setCell (Below.refl _ _) (by simp) _) (by simp) _) (by simp) _) (by simp) _) (by simp) _) (by simp) _
  · obtain ⟨⟨x, er, q1⟩, hv⟩ : ∃ r, fRd 4 b q = r := ⟨_, rfl⟩
    have hbeh : (Rec.mk n 5 (cRd st 5 b q).1 (cRd st 5 b q).2.1 [], (cRd st 5 b q).2.2) = (.mk n 5 x [] [], er, q1) := by rw [cRd_5, hv]
    have HB := Lib.hid hbeh
    have HC := Lib.hid (fun W (hW : CrAt W p st b q a cap) => hv ▸ crFixed_any 4 (.inl rfl) W p st b q a cap hW)
    clear hv hbeh
    go_enter Tryd.func86, Tryd.ntmps86
    go_wp2_with fail
    refine (HC.out _ ((HH.out.later (alloc_below _ _)).later (alloc_below _ _))).mono ?_
    rintro e w1 ⟨rfl, hR1, ht1⟩
    simp only [World.size_alloc] at ht1
    have hA := (ht1.block w.heap.size (by omega) (by omega)).trans (((alloc_below _ _).block w.heap.size (by simp)).trans (alloc_at w _))
    have hB := (ht1.block (w.heap.size + 1) (by omega) (by omega)).trans (alloc2_at _ _ _)
    have hXA := Lib.cell_of_heap hA
    have hXB := Lib.cell_of_heap hB
    have hZA : ∀ j, w1.frozen? ⟨w.heap.size, j, none⟩ = false := fun j => frozen_of_row w1 w.heap.size j _ _ hA
    have hZB : ∀ j, w1.frozen? ⟨w.heap.size + 1, j, none⟩ = false := fun j => frozen_of_row w1 (w.heap.size + 1) j _ _ hB
    have HR1 := Lib.hid hR1
    have HT1 := Lib.hid ht1
    clear hA hB hR1 ht1
    go_wp2_with fail
    rw [HB.out]
    refine bodyPost_ret (v := .tuple #[.agg #[.int .i64 n, .int .i64 5, .int .i64 x, .string ⟨#[]⟩, .slice none 0 0], .int .i64 er]) ?_ rfl ?_
    · rw [results_cell_tmp rfl]
      go_simp
    · have hbel : ∀ W, Below w.heap.size w1 W → BehOut w p st b a cap (.mk n 5 x [] [], er, q1) (.returned (.tuple #[.agg #[.int .i64 n, .int .i64 5, .int .i64 x, .string ⟨#[]⟩, .slice none 0 0], .int .i64 er])) W := fun W hW =>
        ⟨_, rfl, .none _ _ (by omega), HH.out.stay HR1.out hW, (((Turn.of (alloc_below w _)).trans (Turn.of ((alloc_below _ _).mono (by simp)))).trans (HT1.out.mono (by omega))).trans (.of hW)⟩
      refine hbel _ ?_
      refine Below.setCell (Below.setCell (Below.setCell (Below.setCell (Below.setCell (Below.setCell (Below.refl _ _) (by simp) _) (by simp) _) (by simp) _) (by simp) _) (by simp) _) (by simp) _

set_option maxHeartbeats 2000000 in
set_option maxRecDepth 100000 in
theorem rdFixed_bad (n : Int) (h4 : n ≠ 4) (h8 : n ≠ 8) (w : World) (p : Nat) : Calls Tryd.prog 78 #[.pointer (some ⟨p, 0, none⟩), .int .i64 n] w (fun e w' => e = .returned (.tuple #[.int .i64 0, .int .i64 1]) ∧ w = w') := by
  have hb4 : (n != 4 : Bool) = true := by simp [h4]
  have hb8 : (n != 8 : Bool) = true := by simp [h8]
  clear h4 h8
  go_enter Tryd.func78, Tryd.ntmps78
  go_wp2_with fail
  go_ret2
  exact ⟨rfl, rfl⟩

set_option maxHeartbeats 8000000 in
set_option maxRecDepth 100000 in
theorem crSkip_any (w : World) (p : Nat) (st : Bool) (b : List UInt8) (q : Nat) (a : Option Addr) (cap : Nat) (h : CrAt w p st b q a cap) (n k depth : Int) :
    Calls Tryd.prog 83 #[.pointer (some ⟨p, 0, none⟩), .int .i64 n, .int .i64 k, .int .i64 depth] w (Crs w p st b (skipR st b n k depth q).2 a cap (.int .i64 (skipR st b n k depth q).1)) := by
  have HP := Lib.hid h
  have hpl := h.lt
  have hbl := h.hb
  have hq := h.hq
  by_cases c1 : n < 1
  · have HV := Lib.hid (show skipR st b n k depth q = (24, q) from if_pos (.inl c1))
    rw [HV.out]
    clear h
    go_enter Tryd.func83, Tryd.ntmps83
    go_wp2_with fail
    go_ret
    exact ⟨rfl, HP.out, Turn.refl _ _ _⟩
  by_cases c2 : 536870911 < n
  · have HV := Lib.hid (show skipR st b n k depth q = (24, q) from if_pos (.inr c2))
    rw [HV.out]
    clear h
    go_enter Tryd.func83, Tryd.ntmps83
    go_wp2_with fail
    go_ret
    exact ⟨rfl, HP.out, Turn.refl _ _ _⟩
  have c3 : ¬ (n < 1 ∨ 536870911 < n) := by omega
  by_cases c4 : k < 0
  · have HV := Lib.hid (show skipR st b n k depth q = (23, q) from (if_neg c3).trans (if_pos (.inl c4)))
    rw [HV.out]
    clear h
    go_enter Tryd.func83, Tryd.ntmps83
    go_wp2_with fail
    go_ret
    exact ⟨rfl, HP.out, Turn.refl _ _ _⟩
  by_cases c5 : 5 < k
  · have HV := Lib.hid (show skipR st b n k depth q = (23, q) from (if_neg c3).trans (if_pos (.inr c5)))
    rw [HV.out]
    clear h
    go_enter Tryd.func83, Tryd.ntmps83
    go_wp2_with fail
    go_ret
    exact ⟨rfl, HP.out, Turn.refl _ _ _⟩
  have c6 : ¬ (k < 0 ∨ 5 < k) := by omega
  by_cases c7 : k = 4
  · subst c7
    have HV := Lib.hid (show skipR st b n 4 depth q = (25, q) from (if_neg c3).trans ((if_neg c6).trans (if_pos rfl)))
    rw [HV.out]
    clear h
    go_enter Tryd.func83, Tryd.ntmps83
    go_wp2_with fail
    go_ret
    exact ⟨rfl, HP.out, Turn.refl _ _ _⟩
  by_cases c8 : k = 3
  · subst c8
    by_cases c9 : depth < 1
    · have HV := Lib.hid (show skipR st b n 3 depth q = (4, q) from (if_neg c3).trans ((if_neg c6).trans ((if_neg c7).trans (if_pos ⟨rfl, c9⟩))))
      rw [HV.out]
      clear h
      go_enter Tryd.func83, Tryd.ntmps83
      go_wp2_with fail
      go_ret
      exact ⟨rfl, HP.out, Turn.refl _ _ _⟩
    · have HV : skipR st b n 3 depth q = (recsF st b depth.toNat n 1 q).2 := (if_neg c3).trans ((if_neg c6).trans ((if_neg c7).trans ((if_neg (by omega)).trans (if_pos rfl))))
      rw [HV]
      obtain ⟨most, hmost⟩ : ∃ most : Nat, depth = (most : Int) := ⟨depth.toNat, by omega⟩
      subst hmost
      rw [Int.toNat_natCast]
      have HREC := Lib.hid (fun W (hW : CrAt W p st b q a cap) => crecs_any st b most (b.length + 1) (b.length + 1) (Nat.le_refl _) n 1 W p q a cap hW (by omega) (by constructor <;> intro e <;> omega) (by omega))
      have HB := Lib.hid (show ∀ W, CrAt W p st b q a cap → Calls Tryd.prog 86 #[.pointer (some ⟨p, 0, none⟩), .int .i64 n, .int .i64 3, .int .i64 0, .int .i64 most] W (BehOut W p st b a cap (behR st b most (b.length + 1) n 3 0 q)) from fun W hW => behind_any st b most (b.length + 1) n 3 0 q W p a cap hW (.inr (.inr (.inr (.inl rfl)))) (by omega) (fun _ W hW => HREC.out W hW))
      have hbe : behR st b most (b.length + 1) n 3 0 q = (.mk n 3 0 [] (recsF st b most n 1 q).1, (recsF st b most n 1 q).2) := if_pos rfl
      rw [hbe] at HB
      obtain ⟨R, hR⟩ : ∃ R, recsF st b most n 1 q = R := ⟨_, rfl⟩
      rw [hR] at HB ⊢
      have hn1 : 1 ≤ n := by omega
      have hn2 : n ≤ 536870911 := by omega
      have hd1 : 1 ≤ most := by omega
      clear hbe hR c1 c2 c3 c4 c5 c6 c7 c9 HV h
      obtain ⟨il, ie, iq⟩ := R
      go_enter Tryd.func83, Tryd.ntmps83
      go_wp2_with fail
      refine (HB.out w HP.out).mono ?_
      rintro e w1 ⟨v, rfl, hrd, hR1, ht1⟩
      simp only [Rec.number, Rec.kind, Rec.num, Rec.text, Rec.inner] at hrd hR1 ⊢
      obtain ⟨a2, cap2, rfl, _, _⟩ := hrd.form
      have HR1 := Lib.hid (hR1.later (alloc_below w1 (.cells #[.int .i64 n, .int .i64 3, .int .i64 0, .string ⟨#[]⟩, .slice a2 il.length cap2] 53)))
      have HT1 := Lib.hid (ht1.trans (.of ((alloc_below w1 (.cells #[.int .i64 n, .int .i64 3, .int .i64 0, .string ⟨#[]⟩, .slice a2 il.length cap2] 53)).mono ht1.size)))
      clear hrd hR1 ht1
      go_wp2_with fail
      go_ret
      exact ⟨rfl, HR1.out, HT1.out⟩
  have HV : skipR st b n k depth q = (cRd st k b q).2.2 := (if_neg c3).trans ((if_neg c6).trans ((if_neg c7).trans ((if_neg (by omega)).trans (if_neg c8))))
  rw [HV]
  have hkc : k = 0 ∨ k = 1 ∨ k = 2 ∨ k = 5 := by omega
  have HB := Lib.hid (show ∀ W, CrAt W p st b q a cap → Calls Tryd.prog 86 #[.pointer (some ⟨p, 0, none⟩), .int .i64 n, .int .i64 k, .int .i64 0, .int .i64 depth] W (BehOut W p st b a cap (.mk n k (cRd st k b q).1 (cRd st k b q).2.1 [], (cRd st k b q).2.2)) from fun W hW => behindc_any st b n k depth 0 q W p a cap hW hkc (by omega))
  obtain ⟨R, hR⟩ : ∃ R, cRd st k b q = R := ⟨_, rfl⟩
  rw [hR] at HB ⊢
  have hn1 : 1 ≤ n := by omega
  have hn2 : n ≤ 536870911 := by omega
  clear hR HV h c1 c2 c3 c4 c5 c6 c7 c8
  obtain ⟨cx, ct, ie, iq⟩ := R
  rcases hkc with rfl | rfl | rfl | rfl
  · go_enter Tryd.func83, Tryd.ntmps83
    go_wp2_with fail
    refine (HB.out w HP.out).mono ?_
    rintro e w1 ⟨v, rfl, hrd, hR1, ht1⟩
    simp only [Rec.number, Rec.kind, Rec.num, Rec.text, Rec.inner] at hrd hR1 ⊢
    obtain ⟨a2, cap2, rfl, _, _⟩ := hrd.form
    have HR1 := Lib.hid (hR1.later (alloc_below w1 (.cells #[.int .i64 n, .int .i64 0, .int .i64 cx, .string ⟨ct.toArray⟩, .slice a2 0 cap2] 53)))
    have HT1 := Lib.hid (ht1.trans (.of ((alloc_below w1 (.cells #[.int .i64 n, .int .i64 0, .int .i64 cx, .string ⟨ct.toArray⟩, .slice a2 0 cap2] 53)).mono ht1.size)))
    clear hrd hR1 ht1
    go_wp2_with fail
    go_ret
    exact ⟨rfl, HR1.out, HT1.out⟩
  · go_enter Tryd.func83, Tryd.ntmps83
    go_wp2_with fail
    refine (HB.out w HP.out).mono ?_
    rintro e w1 ⟨v, rfl, hrd, hR1, ht1⟩
    simp only [Rec.number, Rec.kind, Rec.num, Rec.text, Rec.inner] at hrd hR1 ⊢
    obtain ⟨a2, cap2, rfl, _, _⟩ := hrd.form
    have HR1 := Lib.hid (hR1.later (alloc_below w1 (.cells #[.int .i64 n, .int .i64 1, .int .i64 cx, .string ⟨ct.toArray⟩, .slice a2 0 cap2] 53)))
    have HT1 := Lib.hid (ht1.trans (.of ((alloc_below w1 (.cells #[.int .i64 n, .int .i64 1, .int .i64 cx, .string ⟨ct.toArray⟩, .slice a2 0 cap2] 53)).mono ht1.size)))
    clear hrd hR1 ht1
    go_wp2_with fail
    go_ret
    exact ⟨rfl, HR1.out, HT1.out⟩
  · go_enter Tryd.func83, Tryd.ntmps83
    go_wp2_with fail
    refine (HB.out w HP.out).mono ?_
    rintro e w1 ⟨v, rfl, hrd, hR1, ht1⟩
    simp only [Rec.number, Rec.kind, Rec.num, Rec.text, Rec.inner] at hrd hR1 ⊢
    obtain ⟨a2, cap2, rfl, _, _⟩ := hrd.form
    have HR1 := Lib.hid (hR1.later (alloc_below w1 (.cells #[.int .i64 n, .int .i64 2, .int .i64 cx, .string ⟨ct.toArray⟩, .slice a2 0 cap2] 53)))
    have HT1 := Lib.hid (ht1.trans (.of ((alloc_below w1 (.cells #[.int .i64 n, .int .i64 2, .int .i64 cx, .string ⟨ct.toArray⟩, .slice a2 0 cap2] 53)).mono ht1.size)))
    clear hrd hR1 ht1
    go_wp2_with fail
    go_ret
    exact ⟨rfl, HR1.out, HT1.out⟩
  · go_enter Tryd.func83, Tryd.ntmps83
    go_wp2_with fail
    refine (HB.out w HP.out).mono ?_
    rintro e w1 ⟨v, rfl, hrd, hR1, ht1⟩
    simp only [Rec.number, Rec.kind, Rec.num, Rec.text, Rec.inner] at hrd hR1 ⊢
    obtain ⟨a2, cap2, rfl, _, _⟩ := hrd.form
    have HR1 := Lib.hid (hR1.later (alloc_below w1 (.cells #[.int .i64 n, .int .i64 5, .int .i64 cx, .string ⟨ct.toArray⟩, .slice a2 0 cap2] 53)))
    have HT1 := Lib.hid (ht1.trans (.of ((alloc_below w1 (.cells #[.int .i64 n, .int .i64 5, .int .i64 cx, .string ⟨ct.toArray⟩, .slice a2 0 cap2] 53)).mono ht1.size)))
    clear hrd hR1 ht1
    go_wp2_with fail
    go_ret
    exact ⟨rfl, HR1.out, HT1.out⟩
end Go.Proofs.YtecmhpncgdjgjaaDoor
