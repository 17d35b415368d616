/-
  kinds of package wire: the functions that read into a record, walked; More and At. Conditions: as for Varint; the record lies apart from the reader.
-/
import Derived.Test.YtecmhpncgdjgjaaDoorRdr2
namespace Go.Proofs.YtecmhpncgdjgjaaDoor
open Go.RowKit
set_option linter.unusedVariables false
set_option linter.unusedSimpArgs false

theorem Turn.frozen {B p : Nat} {w w' : World} (h : Turn B p w w') {b o : Nat} {v : Value} (hc : w.cell? ⟨b, o, none⟩ = some v) (hz : w.frozen? ⟨b, o, none⟩ = false) (hB : w.heap.size ≤ B) (hb : b ≠ p) : w'.frozen? ⟨b, o, none⟩ = false :=
  (World.frozen?_of_block (w := w) (h.block b (by have := cell_lt hc; omega) hb)).trans hz

/-- What a reading function leaves: an error, the reader at q', a cell of the record. -/
def Into (w : World) (p : Nat) (st : Bool) (b : List UInt8) (q' : Nat) (a : Option Addr) (cap : Nat) (o f : Nat) (v : Value) (er : Int) (e : Ending) (w' : World) : Prop :=
  ∃ w1, e = .returned (.int .i64 er) ∧ w' = w1.setCell ⟨o, f, none⟩ v ∧ RdAt w1 p st b q' a cap ∧ Turn w.heap.size p w w1

set_option maxHeartbeats 2000000 in
set_option maxRecDepth 100000 in
theorem read0_any (w : World) (p : Nat) (st : Bool) (b : List UInt8) (q : Nat) (a : Option Addr) (cap : Nat) (h : RdAt w p st b q a cap) (o : Nat) (u : Value) (ho : w.cell? ⟨o, 2, none⟩ = some u) (hz : w.frozen? ⟨o, 2, none⟩ = false) (hne : o ≠ p) :
    Calls Tryd.prog 89 #[.pointer (some ⟨p, 0, none⟩), .pointer (some ⟨o, 0, none⟩)] w (Into w p st b (vRd st b q).2.2 a cap o 2 (.int .i64 (vRd st b q).1) (vRd st b q).2.1) := by
  have HC := Lib.hid (rdVarint_any w p st b q a cap h)
  go_enter Tryd.func89, Tryd.ntmps89
  go_wp2_with fail
  refine HC.out.mono ?_
  rintro e w1 ⟨rfl, hR1, ht1⟩
  have ko := ht1.cell ho (Nat.le_refl _) hne
  have kz := ht1.frozen ho hz (Nat.le_refl _) hne
  go_wp2
  go_ret
  exact ⟨w1, rfl, rfl, hR1, ht1⟩

set_option maxHeartbeats 2000000 in
set_option maxRecDepth 100000 in
theorem read1_any (w : World) (p : Nat) (st : Bool) (b : List UInt8) (q : Nat) (a : Option Addr) (cap : Nat) (h : RdAt w p st b q a cap) (o : Nat) (u : Value) (ho : w.cell? ⟨o, 2, none⟩ = some u) (hz : w.frozen? ⟨o, 2, none⟩ = false) (hne : o ≠ p) :
    Calls Tryd.prog 92 #[.pointer (some ⟨p, 0, none⟩), .pointer (some ⟨o, 0, none⟩)] w (Into w p st b (fRd 8 b q).2.2 a cap o 2 (.int .i64 (fRd 8 b q).1) (fRd 8 b q).2.1) := by
  have HC := Lib.hid (rdFixed_any 8 (.inr rfl) w p st b q a cap h)
  go_enter Tryd.func92, Tryd.ntmps92
  go_wp2_with fail
  refine HC.out.mono ?_
  rintro e w1 ⟨rfl, hR1, ht1⟩
  have ko := ht1.cell ho (Nat.le_refl _) hne
  have kz := ht1.frozen ho hz (Nat.le_refl _) hne
  go_wp2
  go_ret
  exact ⟨w1, rfl, rfl, hR1, ht1⟩

set_option maxHeartbeats 2000000 in
set_option maxRecDepth 100000 in
theorem read2_any (w : World) (p : Nat) (st : Bool) (b : List UInt8) (q : Nat) (a : Option Addr) (cap : Nat) (h : RdAt w p st b q a cap) (o : Nat) (u : Value) (ho : w.cell? ⟨o, 3, none⟩ = some u) (hz : w.frozen? ⟨o, 3, none⟩ = false) (hne : o ≠ p) :
    Calls Tryd.prog 95 #[.pointer (some ⟨p, 0, none⟩), .pointer (some ⟨o, 0, none⟩)] w (Into w p st b (tRd st b q).2.2 a cap o 3 (.string ⟨(tRd st b q).1.toArray⟩) (tRd st b q).2.1) := by
  have HC := Lib.hid (rdText_any w p st b q a cap h)
  go_enter Tryd.func95, Tryd.ntmps95
  go_wp2_with fail
  refine HC.out.mono ?_
  rintro e w1 ⟨rfl, hR1, ht1⟩
  have ko := ht1.cell ho (Nat.le_refl _) hne
  have kz := ht1.frozen ho hz (Nat.le_refl _) hne
  go_wp2
  go_ret
  exact ⟨w1, rfl, rfl, hR1, ht1⟩

set_option maxHeartbeats 2000000 in
set_option maxRecDepth 100000 in
theorem read5_any (w : World) (p : Nat) (st : Bool) (b : List UInt8) (q : Nat) (a : Option Addr) (cap : Nat) (h : RdAt w p st b q a cap) (o : Nat) (u : Value) (ho : w.cell? ⟨o, 2, none⟩ = some u) (hz : w.frozen? ⟨o, 2, none⟩ = false) (hne : o ≠ p) :
    Calls Tryd.prog 99 #[.pointer (some ⟨p, 0, none⟩), .pointer (some ⟨o, 0, none⟩)] w (Into w p st b (fRd 4 b q).2.2 a cap o 2 (.int .i64 (fRd 4 b q).1) (fRd 4 b q).2.1) := by
  have HC := Lib.hid (rdFixed_any 4 (.inl rfl) w p st b q a cap h)
  go_enter Tryd.func99, Tryd.ntmps99
  go_wp2_with fail
  refine HC.out.mono ?_
  rintro e w1 ⟨rfl, hR1, ht1⟩
  have ko := ht1.cell ho (Nat.le_refl _) hne
  have kz := ht1.frozen ho hz (Nat.le_refl _) hne
  go_wp2
  go_ret
  exact ⟨w1, rfl, rfl, hR1, ht1⟩

set_option maxHeartbeats 1000000 in
theorem rdMore_any (w : World) (p : Nat) (st : Bool) (b : List UInt8) (q : Nat) (a : Option Addr) (cap : Nat) (h : RdAt w p st b q a cap) :
    Calls Tryd.prog 53 #[.pointer (some ⟨p, 0, none⟩)] w (fun e w' => e = .returned (.bool (decide (q < b.length))) ∧ RdAt w' p st b q a cap ∧ Below w.heap.size w w') := by
  have k0 := h.c0
  have k1 := h.c1
  go_enter Tryd.func53, Tryd.ntmps53
  go_wp2_with fail
  go_quiet (fail)
  go_wp2
  go_ret
  exact ⟨by simp, h.later (below_drawn (Below.refl _ _) _), below_drawn (Below.refl _ _) _⟩
end Go.Proofs.YtecmhpncgdjgjaaDoor
