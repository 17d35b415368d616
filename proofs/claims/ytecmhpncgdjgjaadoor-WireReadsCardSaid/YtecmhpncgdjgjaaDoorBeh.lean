/-
  behind and records of the reference's cursor, walked. Conditions: as for the cursor; the group number is 0 just where none is open. (Printed by gen_beh.py.)
-/
import Derived.Test.YtecmhpncgdjgjaaDoorCur3
import Derived.Test.YtecmhpncgdjgjaaDoorRecs
import Derived.Laws.ResultCell
namespace Go.Proofs.YtecmhpncgdjgjaaDoor
open Go.RowKit
set_option linter.unusedVariables false
set_option linter.unusedSimpArgs false

theorem alloc2_at (w : World) (o1 o2 : Obj) : ((w.alloc o1).alloc o2).heap[w.heap.size + 1]? = some o2 := by
  have := alloc_at (w.alloc o1) o2
  rw [World.size_alloc] at this
  exact this
/-- What records of a cursor leaves. -/
def CrecsOut (w : World) (p : Nat) (st : Bool) (b : List UInt8) (a : Option Addr) (cap : Nat) (r : List Rec × Int × Nat) (e : Ending) (w' : World) : Prop :=
  ∃ v, e = .returned (.tuple #[v, .int .i64 r.2.1]) ∧ ReadsR (fun k => w.heap.size ≤ k) w' v r.1 ∧ (r.2.1 ≠ 0 → v = .slice none 0 0) ∧ CrAt w' p st b r.2.2 a cap ∧ Turn w.heap.size p w w'
/-- What is behind a tag: the record, the error, the place. -/
def behR (st : Bool) (b : List UInt8) (most f : Nat) (n k : Int) (op q : Nat) : Rec × Int × Nat :=
  if k = 3 then (.mk n 3 0 [] (recsR st b most f n (op + 1) q).1, (recsR st b most f n (op + 1) q).2) else (.mk n k (cRd st k b q).1 (cRd st k b q).2.1 [], (cRd st k b q).2.2)
def BehOut (w : World) (p : Nat) (st : Bool) (b : List UInt8) (a : Option Addr) (cap : Nat) (r : Rec × Int × Nat) (e : Ending) (w' : World) : Prop :=
  ∃ v, e = .returned (.tuple #[.agg #[.int .i64 r.1.number, .int .i64 r.1.kind, .int .i64 r.1.num, .string ⟨r.1.text.toArray⟩, v], .int .i64 r.2.1]) ∧ ReadsR (fun k => w.heap.size ≤ k) w' v r.1.inner ∧ CrAt w' p st b r.2.2 a cap ∧ Turn w.heap.size p w w'

set_option maxHeartbeats 8000000 in
set_option maxRecDepth 100000 in
theorem behind_any (st : Bool) (b : List UInt8) (most f : Nat) (n k : Int) (op q : Nat) (w : World) (p : Nat) (a : Option Addr) (cap : Nat) (h : CrAt w p st b q a cap) (hk : k = 0 ∨ k = 1 ∨ k = 2 ∨ k = 3 ∨ k = 5) (hop : op < 1000000000)
    (hrec : k = 3 → ∀ W, CrAt W p st b q a cap → Calls Tryd.prog 85 #[.pointer (some ⟨p, 0, none⟩), .int .i64 n, .int .i64 ((op + 1 : Nat) : Int), .int .i64 most] W (CrecsOut W p st b a cap (recsR st b most f n (op + 1) q))) :
    Calls Tryd.prog 86 #[.pointer (some ⟨p, 0, none⟩), .int .i64 n, .int .i64 k, .int .i64 op, .int .i64 most] w (BehOut w p st b a cap (behR st b most f n k op q)) := by
  have HH := Lib.hid h
  have HREC := Lib.hid hrec
  have hpl := h.lt
  clear hrec h
  rcases hk with rfl | rfl | rfl | rfl | rfl
  · obtain ⟨⟨x, er, q1⟩, hv⟩ : ∃ r, vRd st b q = r := ⟨_, rfl⟩
    have hbeh : behR st b most f n 0 op q = (.mk n 0 x [] [], er, q1) := by unfold behR; rw [if_neg (by decide), cRd_0, hv]
    have HB := Lib.hid hbeh
    have HC := Lib.hid (fun W (hW : CrAt W p st b q a cap) => hv ▸ crVarint_any W p st b q a cap hW)
    clear hv hbeh
    go_enter Tryd.func86, Tryd.ntmps86
    go_wp2_with fail
    refine (HC.out _ ((HH.out.later (alloc_below _ _)).later (alloc_below _ _))).mono ?_
    rintro e w1 ⟨rfl, hR1, ht1⟩
    simp only [World.size_alloc] at ht1
    have hA := (ht1.block w.heap.size (by omega) (by omega)).trans (((alloc_below _ _).block w.heap.size (by simp)).trans (alloc_at w _))
    have hB := (ht1.block (w.heap.size + 1) (by omega) (by omega)).trans (alloc2_at _ _ _)
    have hXA := Lib.cell_of_heap hA
    have hXB := Lib.cell_of_heap hB
    have hZA : ∀ j, w1.frozen? ⟨w.heap.size, j, none⟩ = false := fun j => frozen_of_row w1 w.heap.size j _ _ hA
    have hZB : ∀ j, w1.frozen? ⟨w.heap.size + 1, j, none⟩ = false := fun j => frozen_of_row w1 (w.heap.size + 1) j _ _ hB
    have HR1 := Lib.hid hR1
    have HT1 := Lib.hid ht1
    clear hA hB hR1 ht1
    go_wp2_with fail
    rw [HB.out]
    refine bodyPost_ret (v := .tuple #[.agg #[.int .i64 n, .int .i64 0, .int .i64 x, .string ⟨#[]⟩, .slice none 0 0], .int .i64 er]) ?_ rfl ?_
    · rw [results_cell_tmp rfl]
      go_simp
    · have hbel : ∀ W, Below w.heap.size w1 W → BehOut w p st b a cap (.mk n 0 x [] [], er, q1) (.returned (.tuple #[.agg #[.int .i64 n, .int .i64 0, .int .i64 x, .string ⟨#[]⟩, .slice none 0 0], .int .i64 er])) W := fun W hW =>
        ⟨_, rfl, .none _ _ (by omega), HH.out.stay HR1.out hW, (((Turn.of (alloc_below w _)).trans (Turn.of ((alloc_below _ _).mono (by simp)))).trans (HT1.out.mono (by omega))).trans (.of hW)⟩
      refine hbel _ ?_
      refine Below.setCell (Below.setCell (Below.setCell (Below.setCell (Below.setCell (Below.setCell (Below.refl _ _) (by simp) _) (by simp) _) (by simp) _) (by simp) _) (by simp) _) (by simp) _
  · obtain ⟨⟨x, er, q1⟩, hv⟩ : ∃ r, fRd 8 b q = r := ⟨_, rfl⟩
    have hbeh : behR st b most f n 1 op q = (.mk n 1 x [] [], er, q1) := by unfold behR; rw [if_neg (by decide), cRd_1, hv]
    have HB := Lib.hid hbeh
    have HC := Lib.hid (fun W (hW : CrAt W p st b q a cap) => hv ▸ crFixed_any 8 (.inr rfl) W p st b q a cap hW)
    clear hv hbeh
    go_enter Tryd.func86, Tryd.ntmps86
    go_wp2_with fail
    refine (HC.out _ ((HH.out.later (alloc_below _ _)).later (alloc_below _ _))).mono ?_
    rintro e w1 ⟨rfl, hR1, ht1⟩
    simp only [World.size_alloc] at ht1
    have hA := (ht1.block w.heap.size (by omega) (by omega)).trans (((alloc_below _ _).block w.heap.size (by simp)).trans (alloc_at w _))
    have hB := (ht1.block (w.heap.size + 1) (by omega) (by omega)).trans (alloc2_at _ _ _)
    have hXA := Lib.cell_of_heap hA
    have hXB := Lib.cell_of_heap hB
    have hZA : ∀ j, w1.frozen? ⟨w.heap.size, j, none⟩ = false := fun j => frozen_of_row w1 w.heap.size j _ _ hA
    have hZB : ∀ j, w1.frozen? ⟨w.heap.size + 1, j, none⟩ = false := fun j => frozen_of_row w1 (w.heap.size + 1) j _ _ hB
    have HR1 := Lib.hid hR1
    have HT1 := Lib.hid ht1
    clear hA hB hR1 ht1
    go_wp2_with fail
    rw [HB.out]
    refine bodyPost_ret (v := .tuple #[.agg #[.int .i64 n, .int .i64 1, .int .i64 x, .string ⟨#[]⟩, .slice none 0 0], .int .i64 er]) ?_ rfl ?_
    · rw [results_cell_tmp rfl]
      go_simp
    · have hbel : ∀ W, Below w.heap.size w1 W → BehOut w p st b a cap (.mk n 1 x [] [], er, q1) (.returned (.tuple #[.agg #[.int .i64 n, .int .i64 1, .int .i64 x, .string ⟨#[]⟩, .slice none 0 0], .int .i64 er])) W := fun W hW =>
        ⟨_, rfl, .none _ _ (by omega), HH.out.stay HR1.out hW, (((Turn.of (alloc_below w _)).trans (Turn.of ((alloc_below _ _).mono (by simp)))).trans (HT1.out.mono (by omega))).trans (.of hW)⟩
      refine hbel _ ?_
      refine Below.setCell (Below.setCell (Below.setCell (Below.setCell (Below.setCell (Below.setCell (Below.refl _ _) (by simp) _) (by simp) _) (by simp) _) (by simp) _) (by simp) _) (by simp) _
  · obtain ⟨⟨x, er, q1⟩, hv⟩ : ∃ r, tRd st b q = r := ⟨_, rfl⟩
    have hbeh : behR st b most f n 2 op q = (.mk n 2 0 x [], er, q1) := by unfold behR; rw [if_neg (by decide), cRd_2, hv]
    have HB := Lib.hid hbeh
    have HC := Lib.hid (fun W (hW : CrAt W p st b q a cap) => hv ▸ crText_any W p st b q a cap hW)
    clear hv hbeh
    go_enter Tryd.func86, Tryd.ntmps86
    go_wp2_with fail
    refine (HC.out _ ((HH.out.later (alloc_below _ _)).later (alloc_below _ _))).mono ?_
    rintro e w1 ⟨rfl, hR1, ht1⟩
    simp only [World.size_alloc] at ht1
    have hA := (ht1.block w.heap.size (by omega) (by omega)).trans (((alloc_below _ _).block w.heap.size (by simp)).trans (alloc_at w _))
    have hB := (ht1.block (w.heap.size + 1) (by omega) (by omega)).trans (alloc2_at _ _ _)
    have hXA := Lib.cell_of_heap hA
    have hXB := Lib.cell_of_heap hB
    have hZA : ∀ j, w1.frozen? ⟨w.heap.size, j, none⟩ = false := fun j => frozen_of_row w1 w.heap.size j _ _ hA
    have hZB : ∀ j, w1.frozen? ⟨w.heap.size + 1, j, none⟩ = false := fun j => frozen_of_row w1 (w.heap.size + 1) j _ _ hB
    have HR1 := Lib.hid hR1
    have HT1 := Lib.hid ht1
    clear hA hB hR1 ht1
    go_wp2_with fail
    rw [HB.out]
    refine bodyPost_ret (v := .tuple #[.agg #[.int .i64 n, .int .i64 2, .int .i64 0, .string ⟨x.toArray⟩, .slice none 0 0], .int .i64 er]) ?_ rfl ?_
    · rw [results_cell_tmp rfl]
      go_simp
    · have hbel : ∀ W, Below w.heap.size w1 W → BehOut w p st b a cap (.mk n 2 0 x [], er, q1) (.returned (.tuple #[.agg #[.int .i64 n, .int .i64 2, .int .i64 0, .string ⟨x.toArray⟩, .slice none 0 0], .int .i64 er])) W := fun W hW =>
        ⟨_, rfl, .none _ _ (by omega), HH.out.stay HR1.out hW, (((Turn.of (alloc_below w _)).trans (Turn.of ((alloc_below _ _).mono (by simp)))).trans (HT1.out.mono (by omega))).trans (.of hW)⟩
      refine hbel _ ?_
      refine Below.setCell (Below.setCell (Below.setCell (Below.setCell (Below.setCell (Below.setCell (Below.refl _ _) (by simp) _) (by simp) _) (by simp) _) (by simp) _) (by simp) _) (by simp) _
  · obtain ⟨R, hR⟩ : ∃ R, recsR st b most f n (op + 1) q = R := ⟨_, rfl⟩
    have hbeh : behR st b most f n 3 op q = (.mk n 3 0 [] R.1, R.2) := by unfold behR; rw [if_pos rfl, hR]
    have HB := Lib.hid hbeh
    have HC := Lib.hid (fun W (hW : CrAt W p st b q a cap) => hR ▸ HREC.out rfl W hW)
    clear hR hbeh
    obtain ⟨il, ie, iq⟩ := R
    go_enter Tryd.func86, Tryd.ntmps86
    go_wp2_with fail
    rw [show ((op : Int) + 1) = ((op + 1 : Nat) : Int) by omega]
    refine (HC.out _ ((HH.out.later (alloc_below _ _)).later (alloc_below _ _))).mono ?_
    rintro e w1 ⟨v, rfl, hrd, hvn, hR1, ht1⟩
    simp only [World.size_alloc] at ht1 hrd hR1
    obtain ⟨a2, cap2, rfl, _, _⟩ := hrd.form
    have hA := (ht1.block w.heap.size (by omega) (by omega)).trans (((alloc_below _ _).block w.heap.size (by simp)).trans (alloc_at w _))
    have hB := (ht1.block (w.heap.size + 1) (by omega) (by omega)).trans (alloc2_at _ _ _)
    have hXA := Lib.cell_of_heap hA
    have hXB := Lib.cell_of_heap hB
    have hZA : ∀ j, w1.frozen? ⟨w.heap.size, j, none⟩ = false := fun j => frozen_of_row w1 w.heap.size j _ _ hA
    have hZB : ∀ j, w1.frozen? ⟨w.heap.size + 1, j, none⟩ = false := fun j => frozen_of_row w1 (w.heap.size + 1) j _ _ hB
    have HR1 := Lib.hid hR1
    have HT1 := Lib.hid ht1
    have HRD := Lib.hid hrd
    clear hA hB hR1 ht1 hrd hvn
    go_wp2_with fail
    rw [HB.out]
    refine bodyPost_ret (v := .tuple #[.agg #[.int .i64 n, .int .i64 3, .int .i64 0, .string ⟨#[]⟩, .slice a2 il.length cap2], .int .i64 ie]) ?_ rfl ?_
    · rw [results_cell_tmp rfl]
      go_simp
    · have hbel : ∀ W, Below w.heap.size w1 W → (∀ k, w.heap.size + 1 + 1 ≤ k → W.heap[k]? = w1.heap[k]?) → BehOut w p st b a cap (.mk n 3 0 [] il, ie, iq) (.returned (.tuple #[.agg #[.int .i64 n, .int .i64 3, .int .i64 0, .string ⟨#[]⟩, .slice a2 il.length cap2], .int .i64 ie])) W := fun W hW hk =>
        ⟨_, rfl, (HRD.out.held (fun k hk1 _ => hk k hk1)).mono (fun k hk1 => by omega), HH.out.stay HR1.out hW, (((Turn.of (alloc_below w _)).trans (Turn.of ((alloc_below _ _).mono (by simp)))).trans (HT1.out.mono (by omega))).trans (.of hW)⟩
      refine hbel _ ?_ ?_
      · refine Below.setCell (Below.setCell (Below.setCell (Below.setCell (Below.setCell (Below.setCell (Below.refl _ _) (by simp) _) (by simp) _) (by simp) _) (by simp) _) (by simp) _) (by simp) _
      · intro k hk
        have h1 : k ≠ w.heap.size := by omega
        have h2 : k ≠ w.heap.size + 1 := by omega
        exact (Below.heap_setCell _ ⟨_, _, _⟩ _ k h1).trans ((Below.heap_setCell _ ⟨_, _, _⟩ _ k h1).trans ((Below.heap_setCell _ ⟨_, _, _⟩ _ k h1).trans ((Below.heap_setCell _ ⟨_, _, _⟩ _ k h1).trans ((Below.heap_setCell _ ⟨_, _, _⟩ _ k h1).trans (Below.heap_setCell _ ⟨_, _, _⟩ _ k h2)))))
  · obtain ⟨⟨x, er, q1⟩, hv⟩ : ∃ r, fRd 4 b q = r := ⟨_, rfl⟩
    have hbeh : behR st b most f n 5 op q = (.mk n 5 x [] [], er, q1) := by unfold behR; rw [if_neg (by decide), cRd_5, hv]
    have HB := Lib.hid hbeh
    have HC := Lib.hid (fun W (hW : CrAt W p st b q a cap) => hv ▸ crFixed_any 4 (.inl rfl) W p st b q a cap hW)
    clear hv hbeh
    go_enter Tryd.func86, Tryd.ntmps86
    go_wp2_with fail
    refine (HC.out _ ((HH.out.later (alloc_below _ _)).later (alloc_below _ _))).mono ?_
    rintro e w1 ⟨rfl, hR1, ht1⟩
    simp only [World.size_alloc] at ht1
    have hA := (ht1.block w.heap.size (by omega) (by omega)).trans (((alloc_below _ _).block w.heap.size (by simp)).trans (alloc_at w _))
    have hB := (ht1.block (w.heap.size + 1) (by omega) (by omega)).trans (alloc2_at _ _ _)
    have hXA := Lib.cell_of_heap hA
    have hXB := Lib.cell_of_heap hB
    have hZA : ∀ j, w1.frozen? ⟨w.heap.size, j, none⟩ = false := fun j => frozen_of_row w1 w.heap.size j _ _ hA
    have hZB : ∀ j, w1.frozen? ⟨w.heap.size + 1, j, none⟩ = false := fun j => frozen_of_row w1 (w.heap.size + 1) j _ _ hB
    have HR1 := Lib.hid hR1
    have HT1 := Lib.hid ht1
    clear hA hB hR1 ht1
    go_wp2_with fail
    rw [HB.out]
    refine bodyPost_ret (v := .tuple #[.agg #[.int .i64 n, .int .i64 5, .int .i64 x, .string ⟨#[]⟩, .slice none 0 0], .int .i64 er]) ?_ rfl ?_
    · rw [results_cell_tmp rfl]
      go_simp
    · have hbel : ∀ W, Below w.heap.size w1 W → BehOut w p st b a cap (.mk n 5 x [] [], er, q1) (.returned (.tuple #[.agg #[.int .i64 n, .int .i64 5, .int .i64 x, .string ⟨#[]⟩, .slice none 0 0], .int .i64 er])) W := fun W hW =>
        ⟨_, rfl, .none _ _ (by omega), HH.out.stay HR1.out hW, (((Turn.of (alloc_below w _)).trans (Turn.of ((alloc_below _ _).mono (by simp)))).trans (HT1.out.mono (by omega))).trans (.of hW)⟩
      refine hbel _ ?_
      refine Below.setCell (Below.setCell (Below.setCell (Below.setCell (Below.setCell (Below.setCell (Below.refl _ _) (by simp) _) (by simp) _) (by simp) _) (by simp) _) (by simp) _) (by simp) _
end Go.Proofs.YtecmhpncgdjgjaaDoor
