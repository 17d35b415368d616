/-
  At of package wire; content of the statements, walked. Conditions: as for the reader's other calls. (Printed by gen_at.py.)
-/
import Derived.Test.YtecmhpncgdjgjaaDoorRecs
namespace Go.Proofs.YtecmhpncgdjgjaaDoor
open Go.RowKit
set_option linter.unusedVariables false
set_option linter.unusedSimpArgs false

theorem rdAt_any (w : World) (p : Nat) (st : Bool) (b : List UInt8) (q : Nat) (a : Option Addr) (cap : Nat) (h : RdAt w p st b q a cap) : Calls Tryd.prog 54 #[.pointer (some ⟨p, 0, none⟩)] w (fun e w' => e = .returned (.int .i64 q) ∧ w = w') := by
  have k1 := h.c1
  go_enter Tryd.func54, Tryd.ntmps54
  go_wp2
  go_ret
  exact ⟨rfl, rfl⟩

set_option maxHeartbeats 8000000 in
set_option maxRecDepth 100000 in
/-- What a reader reads of a record that is no group. -/
theorem content_any (w : World) (p : Nat) (st : Bool) (b : List UInt8) (a : Option Addr) (cap : Nat) (h : RdAt w p st b 0 a cap) (n k x : Int) (t : List UInt8) (sz : Nat) (u : Value) (hk : k = 0 ∨ k = 1 ∨ k = 2 ∨ k = 5)
    (hc : cRd st k b 0 = (x, t, 0, sz)) : Calls Tryd.prog 57 #[.pointer (some ⟨p, 0, none⟩), .agg #[.int .i64 n, .int .i64 k, .int .i64 x, .string ⟨t.toArray⟩, u], .int .i64 sz] w (fun e w' => e = .returned (.bool true) ∧ Turn w.heap.size p w w') := by
  have HP := Lib.hid h
  have hpl := h.lt
  rcases hk with rfl | rfl | rfl | rfl
  · have hv : vRd st b 0 = (x, 0, sz) := by
      rw [cRd_0] at hc
      have h1 := congrArg (·.1) hc
      have h2 := congrArg (·.2.2) hc
      exact Prod.ext h1 h2
    have HREAD := Lib.hid (fun (W : World) (hW : RdAt W p st b 0 a cap) => hv ▸ rdVarint_any W p st b 0 a cap hW)
    obtain rfl : t = [] := by rw [cRd_0] at hc; exact (congrArg (·.2.1) hc).symm
    clear hv hc
    go_enter Tryd.func57, Tryd.ntmps57
    go_wp2_with fail
    refine (HREAD.out _ (HP.out.later (alloc_below _ _))).mono ?_
    rintro e w1 ⟨rfl, hR1, ht1⟩
    have HR1 := Lib.hid hR1
    simp only [World.size_alloc] at ht1
    have HT1 := Lib.hid ((Turn.of (alloc_below w _)).trans (ht1.mono (by omega)))
    have hblk := (ht1.block w.heap.size (by omega) (by omega)).trans (alloc_at w _)
    have hX := Lib.cell_of_heap hblk
    clear hR1 ht1 hblk
    go_wp2_with fail
    refine (rdAt_any w1 p st b sz a cap HR1.out).mono ?_
    rintro e _ ⟨rfl, rfl⟩
    go_wp2_with fail
    go_ret
    exact ⟨by simp, HT1.out⟩
  · have hv : fRd 8 b 0 = (x, 0, sz) := by
      rw [cRd_1] at hc
      have h1 := congrArg (·.1) hc
      have h2 := congrArg (·.2.2) hc
      exact Prod.ext h1 h2
    have HREAD := Lib.hid (fun (W : World) (hW : RdAt W p st b 0 a cap) => hv ▸ rdFixed_any 8 (.inr rfl) W p st b 0 a cap hW)
    obtain rfl : t = [] := by rw [cRd_1] at hc; exact (congrArg (·.2.1) hc).symm
    clear hv hc
    go_enter Tryd.func57, Tryd.ntmps57
    go_wp2_with fail
    refine (HREAD.out _ (HP.out.later (alloc_below _ _))).mono ?_
    rintro e w1 ⟨rfl, hR1, ht1⟩
    have HR1 := Lib.hid hR1
    simp only [World.size_alloc] at ht1
    have HT1 := Lib.hid ((Turn.of (alloc_below w _)).trans (ht1.mono (by omega)))
    have hblk := (ht1.block w.heap.size (by omega) (by omega)).trans (alloc_at w _)
    have hX := Lib.cell_of_heap hblk
    clear hR1 ht1 hblk
    go_wp2_with fail
    refine (rdAt_any w1 p st b sz a cap HR1.out).mono ?_
    rintro e _ ⟨rfl, rfl⟩
    go_wp2_with fail
    go_ret
    exact ⟨by simp, HT1.out⟩
  · have hv : tRd st b 0 = (t, 0, sz) := by
      rw [cRd_2] at hc
      have h1 := congrArg (·.2) hc
      exact h1
    have HREAD := Lib.hid (fun (W : World) (hW : RdAt W p st b 0 a cap) => hv ▸ rdText_any W p st b 0 a cap hW)
    obtain rfl : x = 0 := by rw [cRd_2] at hc; exact (congrArg (·.1) hc).symm
    clear hv hc
    go_enter Tryd.func57, Tryd.ntmps57
    go_wp2_with fail
    refine (HREAD.out _ (HP.out.later (alloc_below _ _))).mono ?_
    rintro e w1 ⟨rfl, hR1, ht1⟩
    have HR1 := Lib.hid hR1
    simp only [World.size_alloc] at ht1
    have HT1 := Lib.hid ((Turn.of (alloc_below w _)).trans (ht1.mono (by omega)))
    have hblk := (ht1.block w.heap.size (by omega) (by omega)).trans (alloc_at w _)
    have hX := Lib.cell_of_heap hblk
    clear hR1 ht1 hblk
    go_wp2_with fail
    refine (rdAt_any w1 p st b sz a cap HR1.out).mono ?_
    rintro e _ ⟨rfl, rfl⟩
    go_wp2_with fail
    go_ret
    exact ⟨by simp, HT1.out⟩
  · have hv : fRd 4 b 0 = (x, 0, sz) := by
      rw [cRd_5] at hc
      have h1 := congrArg (·.1) hc
      have h2 := congrArg (·.2.2) hc
      exact Prod.ext h1 h2
    have HREAD := Lib.hid (fun (W : World) (hW : RdAt W p st b 0 a cap) => hv ▸ rdFixed_any 4 (.inl rfl) W p st b 0 a cap hW)
    obtain rfl : t = [] := by rw [cRd_5] at hc; exact (congrArg (·.2.1) hc).symm
    clear hv hc
    go_enter Tryd.func57, Tryd.ntmps57
    go_wp2_with fail
    refine (HREAD.out _ (HP.out.later (alloc_below _ _))).mono ?_
    rintro e w1 ⟨rfl, hR1, ht1⟩
    have HR1 := Lib.hid hR1
    simp only [World.size_alloc] at ht1
    have HT1 := Lib.hid ((Turn.of (alloc_below w _)).trans (ht1.mono (by omega)))
    have hblk := (ht1.block w.heap.size (by omega) (by omega)).trans (alloc_at w _)
    have hX := Lib.cell_of_heap hblk
    clear hR1 ht1 hblk
    go_wp2_with fail
    refine (rdAt_any w1 p st b sz a cap HR1.out).mono ?_
    rintro e _ ⟨rfl, rfl⟩
    go_wp2_with fail
    go_ret
    exact ⟨by simp, HT1.out⟩
theorem content3_any (w : World) (p : Nat) (n x : Int) (t : List UInt8) (sz : Int) (u : Value) : Calls Tryd.prog 57 #[.pointer (some ⟨p, 0, none⟩), .agg #[.int .i64 n, .int .i64 3, .int .i64 x, .string ⟨t.toArray⟩, u], .int .i64 sz] w (fun e w' => e = .returned (.bool true) ∧ Turn w.heap.size p w w') := by
  go_enter Tryd.func57, Tryd.ntmps57
  go_wp2_with fail
  go_ret
  exact ⟨rfl, .of (alloc_below _ _)⟩
end Go.Proofs.YtecmhpncgdjgjaaDoor
