/-
  step of the statements, walked: one call on a reader and on a cursor at the same place. Conditions: the two, and their bytes, lie apart. (Printed by gen_step.py.)
-/
import Derived.Test.YtecmhpncgdjgjaaDoorSkipRef
import Derived.Test.YtecmhpncgdjgjaaDoorSkip2
import Derived.Test.YtecmhpncgdjgjaaDoorAt
namespace Go.Proofs.YtecmhpncgdjgjaaDoor
open Go.RowKit
set_option linter.unusedVariables false
set_option linter.unusedSimpArgs false

theorem RdAt.apart {w w' : World} {p p' : Nat} {st : Bool} {b : List UInt8} {q : Nat} {a : Option Addr} {cap : Nat} (h : RdAt w p st b q a cap) (ht : Turn w.heap.size p' w w') (hne : p ≠ p') (hg : b ≠ [] → ∀ g, a = some ⟨g, 0, none⟩ → g ≠ p') : RdAt w' p st b q a cap := by
  have hp := ht.block p h.lt hne
  refine ⟨(World.cell?_of_block (w := w) hp).trans h.c0, (World.cell?_of_block (w := w) hp).trans h.c1, (World.cell?_of_block (w := w) hp).trans h.c2, (World.frozen?_of_block (w := w) hp).trans h.fz, h.hq, h.hb, h.hc, h.hm, ?_⟩
  rcases h.hby with h1 | ⟨g, h1, h2, h3⟩
  · exact .inl h1
  · by_cases hb0 : b = []
    · exact .inl hb0
    · exact .inr ⟨g, h1, h2, fun k hk => (World.cell?_of_block (w := w) (ht.block g (cell_lt (h3 k hk)) (hg hb0 g h1))).trans (h3 k hk)⟩
theorem CrAt.apart {w w' : World} {p p' : Nat} {st : Bool} {b : List UInt8} {q : Nat} {a : Option Addr} {cap : Nat} (h : CrAt w p st b q a cap) (ht : Turn w.heap.size p' w w') (hne : p ≠ p') (hg : b ≠ [] → ∀ g off, a = some ⟨g, off, none⟩ → g ≠ p') : CrAt w' p st b q a cap := by
  have hp := ht.block p h.lt hne
  refine ⟨(World.cell?_of_block (w := w) hp).trans h.c0, (World.cell?_of_block (w := w) hp).trans h.c1, (World.cell?_of_block (w := w) hp).trans h.c2, (World.cell?_of_block (w := w) hp).trans h.c3, (World.frozen?_of_block (w := w) hp).trans h.fz, h.hq, h.hb, h.hc, h.hm, ?_⟩
  rcases h.hby with h1 | ⟨g, off, h1, h2, h3⟩
  · exact .inl h1
  · by_cases hb0 : b = []
    · exact .inl hb0
    · exact .inr ⟨g, off, h1, h2, fun k hk => (World.cell?_of_block (w := w) (ht.block g (cell_lt (h3 k hk)) (hg hb0 g off h1))).trans (h3 k hk)⟩
/-- Two blocks alone may have changed. -/
structure Turn2 (B p p2 : Nat) (w w' : World) : Prop where
  os : w'.os = w.os
  tape : w'.tape = w.tape
  output : w'.output = w.output
  size : w.heap.size ≤ w'.heap.size
  block : ∀ k, k < B → k ≠ p → k ≠ p2 → w'.heap[k]? = w.heap[k]?
theorem Turn.two {B p p2 : Nat} {w w' : World} (h : Turn B p w w') : Turn2 B p p2 w w' := ⟨h.os, h.tape, h.output, h.size, fun k hk h1 _ => h.block k hk h1⟩
theorem Turn.two' {B p p2 : Nat} {w w' : World} (h : Turn B p2 w w') : Turn2 B p p2 w w' := ⟨h.os, h.tape, h.output, h.size, fun k hk _ h2 => h.block k hk h2⟩
theorem Turn2.trans {B p p2 : Nat} {a b c : World} (h : Turn2 B p p2 a b) (k : Turn2 B p p2 b c) : Turn2 B p p2 a c :=
  ⟨k.os.trans h.os, k.tape.trans h.tape, k.output.trans h.output, Nat.le_trans h.size k.size, fun i hi h1 h2 => (k.block i hi h1 h2).trans (h.block i hi h1 h2)⟩
theorem Turn2.mono {B B' p p2 : Nat} {w w' : World} (h : Turn2 B p p2 w w') (hB : B' ≤ B) : Turn2 B' p p2 w w' := ⟨h.os, h.tape, h.output, h.size, fun k hk => h.block k (by omega)⟩

/-- What step leaves. -/
def StepOut (w : World) (p pc : Nat) (st : Bool) (b : List UInt8) (a : Option Addr) (cap : Nat) (ac : Option Addr) (capc : Nat) (e : Ending) (w' : World) : Prop :=
  e = .returned (.bool true) ∧ ∃ q', RdAt w' p st b q' a cap ∧ CrAt w' pc st b q' ac capc ∧ Turn2 w.heap.size p pc w w'

set_option maxHeartbeats 16000000 in
set_option maxRecDepth 100000 in
theorem step_any (w : World) (p pc : Nat) (st : Bool) (b : List UInt8) (q : Nat) (a : Option Addr) (cap : Nat) (ac : Option Addr) (capc : Nat) (hR : RdAt w p st b q a cap) (hC : CrAt w pc st b q ac capc) (hne : p ≠ pc)
    (hga : b ≠ [] → ∀ g, a = some ⟨g, 0, none⟩ → g ≠ pc) (hgc : b ≠ [] → ∀ g off, ac = some ⟨g, off, none⟩ → g ≠ p) (k A B C : Int) :
    Calls Tryd.prog 52 #[.pointer (some ⟨p, 0, none⟩), .pointer (some ⟨pc, 0, none⟩), .agg #[.int .i64 k, .int .i64 A, .int .i64 B, .int .i64 C]] w (StepOut w p pc st b a cap ac capc) := by
  have HGA := Lib.hid hga
  have HGC := Lib.hid hgc
  have hpl := hR.lt
  have hpcl := hC.lt
  have HR0 := Lib.hid (hR.later (alloc_below w (.cells #[.int .i64 k, .int .i64 A, .int .i64 B, .int .i64 C] 73)))
  have HC0 := Lib.hid (hC.later (alloc_below w (.cells #[.int .i64 k, .int .i64 A, .int .i64 B, .int .i64 C] 73)))
  have HT0 := Lib.hid ((Turn.of (p := p) (alloc_below w (.cells #[.int .i64 k, .int .i64 A, .int .i64 B, .int .i64 C] 73))).two (p2 := pc))
  have HBK0 := Lib.hid (alloc_at w (.cells #[.int .i64 k, .int .i64 A, .int .i64 B, .int .i64 C] 73))
  have hs0 : w.heap.size < (w.alloc (.cells #[.int .i64 k, .int .i64 A, .int .i64 B, .int .i64 C] 73)).heap.size := by simp
  obtain ⟨w0, hw0⟩ : ∃ w0, w.alloc (.cells #[.int .i64 k, .int .i64 A, .int .i64 B, .int .i64 C] 73) = w0 := ⟨_, rfl⟩
  have HW0 := Lib.hid hw0
  rw [hw0] at HR0 HC0 HT0 HBK0 hs0
  clear hR hC hga hgc hw0
  go_enter Tryd.func52, Tryd.ntmps52
  by_cases k2 : k = 2
  · subst k2
    obtain ⟨⟨x, er, q1⟩, hv⟩ : ∃ r, vRd st b q = r := ⟨_, rfl⟩
    go_wp2_with fail
    rw [HW0.out]
    refine (rdVarint_any w0 p st b q a cap HR0.out).mono ?_
    rintro e xA ⟨rfl, hR1, ht1⟩
    try simp only at hR1
    rw [hv] at hR1
    rw [hv]
    have hC1 := HC0.out.apart ht1 (Ne.symm hne) HGC.out
    have hs1 := ht1.size
    have hbk1 := (ht1.block w.heap.size (by omega) (by omega)).trans HBK0.out
    have HRA := Lib.hid hR1
    have HCA := Lib.hid hC1
    have HTA := Lib.hid (HT0.out.trans ((ht1.two (p2 := pc)).mono (by omega)))
    have HBKA := Lib.hid hbk1
    have hX := Lib.cell_of_heap hbk1
    clear hR1 hC1 ht1 hbk1
    go_wp2_with fail
    refine (crVarint_any xA pc st b q ac capc HCA.out).mono ?_
    rintro e xB ⟨rfl, hC2, ht2⟩
    try simp only at hC2
    rw [hv] at hC2
    rw [hv]
    have hR2 := HRA.out.apart ht2 hne HGA.out
    have hs2 := ht2.size
    have hbk2 := (ht2.block w.heap.size (by omega) (by omega)).trans HBKA.out
    have HRB := Lib.hid hR2
    have HCB := Lib.hid hC2
    have HTB := Lib.hid (HTA.out.trans ((ht2.two' (p := p)).mono (by omega)))
    have HBKB := Lib.hid hbk2
    have hX := Lib.cell_of_heap hbk2
    clear hR2 hC2 ht2 hbk2
    have hqq : ((q1 : Int) == (q1 : Int)) = true := by simp
    go_wp2_with fail
    refine (rdAt_any _ p st b q1 a cap HRB.out).mono ?_
    rintro e _ ⟨rfl, rfl⟩
    go_wp2_with fail
    refine (rdMore_any _ p st b q1 a cap HRB.out).mono ?_
    rintro e xE ⟨rfl, hRE, hbE⟩
    have hsE := hbE.size
    have HRE := Lib.hid hRE
    have HCE := Lib.hid (HCB.out.later hbE)
    have HTE := Lib.hid (HTB.out.trans ((Turn.of (p := p) hbE).two (p2 := pc) |>.mono (by omega)))
    have k1 := HCE.out.c1
    have k2 := HCE.out.c2
    clear hRE hbE
    cases hd : decide (q1 < b.length)
    · have hdi : decide ((q1 : Int) < (b.length : Int)) = false := by simpa using hd
      go_wp2_with fail
      go_quiet (fail)
      have hdn : Below xE.heap.size xE (xE.drewN nq) := below_drawn (Below.refl _ _) nq
      have HRF := Lib.hid (HRE.out.later hdn)
      have HCF := Lib.hid (HCE.out.later hdn)
      have HTF := Lib.hid (HTE.out.trans ((Turn.of (p := p) hdn).two (p2 := pc) |>.mono (by omega)))
      clear hdn
      go_wp2_with fail
      go_ret
      exact ⟨by simp, q1, HRF.out, HCF.out, HTF.out⟩
    · have hdi : decide ((q1 : Int) < (b.length : Int)) = true := by simpa using hd
      go_wp2_with fail
      go_quiet (fail)
      have hdn : Below xE.heap.size xE (xE.drewN nq) := below_drawn (Below.refl _ _) nq
      have HRF := Lib.hid (HRE.out.later hdn)
      have HCF := Lib.hid (HCE.out.later hdn)
      have HTF := Lib.hid (HTE.out.trans ((Turn.of (p := p) hdn).two (p2 := pc) |>.mono (by omega)))
      clear hdn
      go_wp2_with fail
      go_ret
      exact ⟨by simp, q1, HRF.out, HCF.out, HTF.out⟩
  by_cases k3 : k = 3
  · subst k3
    by_cases a4 : A = 4
    · subst a4
      obtain ⟨⟨x, er, q1⟩, hv⟩ : ∃ r, fRd 4 b q = r := ⟨_, rfl⟩
      go_wp2_with fail
      rw [HW0.out]
      refine (rdFixed_any 4 (.inl rfl) w0 p st b q a cap HR0.out).mono ?_
      rintro e xA ⟨rfl, hR1, ht1⟩
      try simp only at hR1
      rw [hv] at hR1
      rw [hv]
      have hC1 := HC0.out.apart ht1 (Ne.symm hne) HGC.out
      have hs1 := ht1.size
      have hbk1 := (ht1.block w.heap.size (by omega) (by omega)).trans HBK0.out
      have HRA := Lib.hid hR1
      have HCA := Lib.hid hC1
      have HTA := Lib.hid (HT0.out.trans ((ht1.two (p2 := pc)).mono (by omega)))
      have HBKA := Lib.hid hbk1
      have hX := Lib.cell_of_heap hbk1
      clear hR1 hC1 ht1 hbk1
      go_wp2_with fail
      refine (crFixed_any 4 (.inl rfl) xA pc st b q ac capc HCA.out).mono ?_
      rintro e xB ⟨rfl, hC2, ht2⟩
      try simp only at hC2
      rw [hv] at hC2
      rw [hv]
      have hR2 := HRA.out.apart ht2 hne HGA.out
      have hs2 := ht2.size
      have hbk2 := (ht2.block w.heap.size (by omega) (by omega)).trans HBKA.out
      have HRB := Lib.hid hR2
      have HCB := Lib.hid hC2
      have HTB := Lib.hid (HTA.out.trans ((ht2.two' (p := p)).mono (by omega)))
      have HBKB := Lib.hid hbk2
      have hX := Lib.cell_of_heap hbk2
      clear hR2 hC2 ht2 hbk2
      have hqq : ((q1 : Int) == (q1 : Int)) = true := by simp
      go_wp2_with fail
      refine (rdAt_any _ p st b q1 a cap HRB.out).mono ?_
      rintro e _ ⟨rfl, rfl⟩
      go_wp2_with fail
      refine (rdMore_any _ p st b q1 a cap HRB.out).mono ?_
      rintro e xE ⟨rfl, hRE, hbE⟩
      have hsE := hbE.size
      have HRE := Lib.hid hRE
      have HCE := Lib.hid (HCB.out.later hbE)
      have HTE := Lib.hid (HTB.out.trans ((Turn.of (p := p) hbE).two (p2 := pc) |>.mono (by omega)))
      have k1 := HCE.out.c1
      have k2 := HCE.out.c2
      clear hRE hbE
      cases hd : decide (q1 < b.length)
      · have hdi : decide ((q1 : Int) < (b.length : Int)) = false := by simpa using hd
        go_wp2_with fail
        go_quiet (fail)
        have hdn : Below xE.heap.size xE (xE.drewN nq) := below_drawn (Below.refl _ _) nq
        have HRF := Lib.hid (HRE.out.later hdn)
        have HCF := Lib.hid (HCE.out.later hdn)
        have HTF := Lib.hid (HTE.out.trans ((Turn.of (p := p) hdn).two (p2 := pc) |>.mono (by omega)))
        clear hdn
        go_wp2_with fail
        go_ret
        exact ⟨by simp, q1, HRF.out, HCF.out, HTF.out⟩
      · have hdi : decide ((q1 : Int) < (b.length : Int)) = true := by simpa using hd
        go_wp2_with fail
        go_quiet (fail)
        have hdn : Below xE.heap.size xE (xE.drewN nq) := below_drawn (Below.refl _ _) nq
        have HRF := Lib.hid (HRE.out.later hdn)
        have HCF := Lib.hid (HCE.out.later hdn)
        have HTF := Lib.hid (HTE.out.trans ((Turn.of (p := p) hdn).two (p2 := pc) |>.mono (by omega)))
        clear hdn
        go_wp2_with fail
        go_ret
        exact ⟨by simp, q1, HRF.out, HCF.out, HTF.out⟩
    by_cases a8 : A = 8
    · subst a8
      obtain ⟨⟨x, er, q1⟩, hv⟩ : ∃ r, fRd 8 b q = r := ⟨_, rfl⟩
      go_wp2_with fail
      rw [HW0.out]
      refine (rdFixed_any 8 (.inr rfl) w0 p st b q a cap HR0.out).mono ?_
      rintro e xA ⟨rfl, hR1, ht1⟩
      try simp only at hR1
      rw [hv] at hR1
      rw [hv]
      have hC1 := HC0.out.apart ht1 (Ne.symm hne) HGC.out
      have hs1 := ht1.size
      have hbk1 := (ht1.block w.heap.size (by omega) (by omega)).trans HBK0.out
      have HRA := Lib.hid hR1
      have HCA := Lib.hid hC1
      have HTA := Lib.hid (HT0.out.trans ((ht1.two (p2 := pc)).mono (by omega)))
      have HBKA := Lib.hid hbk1
      have hX := Lib.cell_of_heap hbk1
      clear hR1 hC1 ht1 hbk1
      go_wp2_with fail
      refine (crFixed_any 8 (.inr rfl) xA pc st b q ac capc HCA.out).mono ?_
      rintro e xB ⟨rfl, hC2, ht2⟩
      try simp only at hC2
      rw [hv] at hC2
      rw [hv]
      have hR2 := HRA.out.apart ht2 hne HGA.out
      have hs2 := ht2.size
      have hbk2 := (ht2.block w.heap.size (by omega) (by omega)).trans HBKA.out
      have HRB := Lib.hid hR2
      have HCB := Lib.hid hC2
      have HTB := Lib.hid (HTA.out.trans ((ht2.two' (p := p)).mono (by omega)))
      have HBKB := Lib.hid hbk2
      have hX := Lib.cell_of_heap hbk2
      clear hR2 hC2 ht2 hbk2
      have hqq : ((q1 : Int) == (q1 : Int)) = true := by simp
      go_wp2_with fail
      refine (rdAt_any _ p st b q1 a cap HRB.out).mono ?_
      rintro e _ ⟨rfl, rfl⟩
      go_wp2_with fail
      refine (rdMore_any _ p st b q1 a cap HRB.out).mono ?_
      rintro e xE ⟨rfl, hRE, hbE⟩
      have hsE := hbE.size
      have HRE := Lib.hid hRE
      have HCE := Lib.hid (HCB.out.later hbE)
      have HTE := Lib.hid (HTB.out.trans ((Turn.of (p := p) hbE).two (p2 := pc) |>.mono (by omega)))
      have k1 := HCE.out.c1
      have k2 := HCE.out.c2
      clear hRE hbE
      cases hd : decide (q1 < b.length)
      · have hdi : decide ((q1 : Int) < (b.length : Int)) = false := by simpa using hd
        go_wp2_with fail
        go_quiet (fail)
        have hdn : Below xE.heap.size xE (xE.drewN nq) := below_drawn (Below.refl _ _) nq
        have HRF := Lib.hid (HRE.out.later hdn)
        have HCF := Lib.hid (HCE.out.later hdn)
        have HTF := Lib.hid (HTE.out.trans ((Turn.of (p := p) hdn).two (p2 := pc) |>.mono (by omega)))
        clear hdn
        go_wp2_with fail
        go_ret
        exact ⟨by simp, q1, HRF.out, HCF.out, HTF.out⟩
      · have hdi : decide ((q1 : Int) < (b.length : Int)) = true := by simpa using hd
        go_wp2_with fail
        go_quiet (fail)
        have hdn : Below xE.heap.size xE (xE.drewN nq) := below_drawn (Below.refl _ _) nq
        have HRF := Lib.hid (HRE.out.later hdn)
        have HCF := Lib.hid (HCE.out.later hdn)
        have HTF := Lib.hid (HTE.out.trans ((Turn.of (p := p) hdn).two (p2 := pc) |>.mono (by omega)))
        clear hdn
        go_wp2_with fail
        go_ret
        exact ⟨by simp, q1, HRF.out, HCF.out, HTF.out⟩
    have hA4 : (A == 4 : Bool) = false := by simpa using a4
    have hA8 : (A == 8 : Bool) = false := by simpa using a8
    go_wp2_with fail
    rw [HW0.out]
    refine (rdFixed_bad A a4 a8 w0 p).mono ?_
    rintro e _ ⟨rfl, rfl⟩
    have hX := Lib.cell_of_heap HBK0.out
    have hqq : ((q : Int) == (q : Int)) = true := by simp
    go_wp2_with fail
    refine (rdAt_any _ p st b q a cap HR0.out).mono ?_
    rintro e _ ⟨rfl, rfl⟩
    go_wp2_with fail
    refine (rdMore_any _ p st b q a cap HR0.out).mono ?_
    rintro e xE ⟨rfl, hRE, hbE⟩
    have hsE := hbE.size
    have HRE := Lib.hid hRE
    have HCE := Lib.hid (HC0.out.later hbE)
    have HTE := Lib.hid (HT0.out.trans ((Turn.of (p := p) hbE).two (p2 := pc) |>.mono (by omega)))
    have k1 := HCE.out.c1
    have k2 := HCE.out.c2
    clear hRE hbE
    cases hd : decide (q < b.length)
    · have hdi : decide ((q : Int) < (b.length : Int)) = false := by simpa using hd
      go_wp2_with fail
      go_quiet (fail)
      have hdn : Below xE.heap.size xE (xE.drewN nq) := below_drawn (Below.refl _ _) nq
      have HRF := Lib.hid (HRE.out.later hdn)
      have HCF := Lib.hid (HCE.out.later hdn)
      have HTF := Lib.hid (HTE.out.trans ((Turn.of (p := p) hdn).two (p2 := pc) |>.mono (by omega)))
      clear hdn
      go_wp2_with fail
      go_ret
      exact ⟨by simp, q, HRF.out, HCF.out, HTF.out⟩
    · have hdi : decide ((q : Int) < (b.length : Int)) = true := by simpa using hd
      go_wp2_with fail
      go_quiet (fail)
      have hdn : Below xE.heap.size xE (xE.drewN nq) := below_drawn (Below.refl _ _) nq
      have HRF := Lib.hid (HRE.out.later hdn)
      have HCF := Lib.hid (HCE.out.later hdn)
      have HTF := Lib.hid (HTE.out.trans ((Turn.of (p := p) hdn).two (p2 := pc) |>.mono (by omega)))
      clear hdn
      go_wp2_with fail
      go_ret
      exact ⟨by simp, q, HRF.out, HCF.out, HTF.out⟩
  by_cases k4 : k = 4
  · subst k4
    obtain ⟨⟨x, er, q1⟩, hv⟩ : ∃ r, tRd st b q = r := ⟨_, rfl⟩
    go_wp2_with fail
    rw [HW0.out]
    refine (rdText_any w0 p st b q a cap HR0.out).mono ?_
    rintro e xA ⟨rfl, hR1, ht1⟩
    try simp only at hR1
    rw [hv] at hR1
    rw [hv]
    have hC1 := HC0.out.apart ht1 (Ne.symm hne) HGC.out
    have hs1 := ht1.size
    have hbk1 := (ht1.block w.heap.size (by omega) (by omega)).trans HBK0.out
    have HRA := Lib.hid hR1
    have HCA := Lib.hid hC1
    have HTA := Lib.hid (HT0.out.trans ((ht1.two (p2 := pc)).mono (by omega)))
    have HBKA := Lib.hid hbk1
    have hX := Lib.cell_of_heap hbk1
    clear hR1 hC1 ht1 hbk1
    go_wp2_with fail
    refine (crText_any xA pc st b q ac capc HCA.out).mono ?_
    rintro e xB ⟨rfl, hC2, ht2⟩
    try simp only at hC2
    rw [hv] at hC2
    rw [hv]
    have hR2 := HRA.out.apart ht2 hne HGA.out
    have hs2 := ht2.size
    have hbk2 := (ht2.block w.heap.size (by omega) (by omega)).trans HBKA.out
    have HRB := Lib.hid hR2
    have HCB := Lib.hid hC2
    have HTB := Lib.hid (HTA.out.trans ((ht2.two' (p := p)).mono (by omega)))
    have HBKB := Lib.hid hbk2
    have hX := Lib.cell_of_heap hbk2
    clear hR2 hC2 ht2 hbk2
    have hqq : ((q1 : Int) == (q1 : Int)) = true := by simp
    go_wp2_with fail
    refine (rdAt_any _ p st b q1 a cap HRB.out).mono ?_
    rintro e _ ⟨rfl, rfl⟩
    go_wp2_with fail
    refine (rdMore_any _ p st b q1 a cap HRB.out).mono ?_
    rintro e xE ⟨rfl, hRE, hbE⟩
    have hsE := hbE.size
    have HRE := Lib.hid hRE
    have HCE := Lib.hid (HCB.out.later hbE)
    have HTE := Lib.hid (HTB.out.trans ((Turn.of (p := p) hbE).two (p2 := pc) |>.mono (by omega)))
    have k1 := HCE.out.c1
    have k2 := HCE.out.c2
    clear hRE hbE
    cases hd : decide (q1 < b.length)
    · have hdi : decide ((q1 : Int) < (b.length : Int)) = false := by simpa using hd
      go_wp2_with fail
      go_quiet (fail)
      have hdn : Below xE.heap.size xE (xE.drewN nq) := below_drawn (Below.refl _ _) nq
      have HRF := Lib.hid (HRE.out.later hdn)
      have HCF := Lib.hid (HCE.out.later hdn)
      have HTF := Lib.hid (HTE.out.trans ((Turn.of (p := p) hdn).two (p2 := pc) |>.mono (by omega)))
      clear hdn
      go_wp2_with fail
      go_ret
      exact ⟨by simp, q1, HRF.out, HCF.out, HTF.out⟩
    · have hdi : decide ((q1 : Int) < (b.length : Int)) = true := by simpa using hd
      go_wp2_with fail
      go_quiet (fail)
      have hdn : Below xE.heap.size xE (xE.drewN nq) := below_drawn (Below.refl _ _) nq
      have HRF := Lib.hid (HRE.out.later hdn)
      have HCF := Lib.hid (HCE.out.later hdn)
      have HTF := Lib.hid (HTE.out.trans ((Turn.of (p := p) hdn).two (p2 := pc) |>.mono (by omega)))
      clear hdn
      go_wp2_with fail
      go_ret
      exact ⟨by simp, q1, HRF.out, HCF.out, HTF.out⟩
  by_cases k5 : k = 5
  · subst k5
    obtain ⟨⟨x, y, er, q1⟩, hv⟩ : ∃ r, gRd st b q = r := ⟨_, rfl⟩
    go_wp2_with fail
    rw [HW0.out]
    refine (rdTag_any w0 p st b q a cap HR0.out).mono ?_
    rintro e xA ⟨rfl, hR1, ht1⟩
    try simp only at hR1
    rw [hv] at hR1
    rw [hv]
    have hC1 := HC0.out.apart ht1 (Ne.symm hne) HGC.out
    have hs1 := ht1.size
    have hbk1 := (ht1.block w.heap.size (by omega) (by omega)).trans HBK0.out
    have HRA := Lib.hid hR1
    have HCA := Lib.hid hC1
    have HTA := Lib.hid (HT0.out.trans ((ht1.two (p2 := pc)).mono (by omega)))
    have HBKA := Lib.hid hbk1
    have hX := Lib.cell_of_heap hbk1
    clear hR1 hC1 ht1 hbk1
    go_wp2_with fail
    refine (crTag_any xA pc st b q ac capc HCA.out).mono ?_
    rintro e xB ⟨rfl, hC2, ht2⟩
    try simp only at hC2
    rw [hv] at hC2
    rw [hv]
    have hR2 := HRA.out.apart ht2 hne HGA.out
    have hs2 := ht2.size
    have hbk2 := (ht2.block w.heap.size (by omega) (by omega)).trans HBKA.out
    have HRB := Lib.hid hR2
    have HCB := Lib.hid hC2
    have HTB := Lib.hid (HTA.out.trans ((ht2.two' (p := p)).mono (by omega)))
    have HBKB := Lib.hid hbk2
    have hX := Lib.cell_of_heap hbk2
    clear hR2 hC2 ht2 hbk2
    have hqq : ((q1 : Int) == (q1 : Int)) = true := by simp
    go_wp2_with fail
    refine (rdAt_any _ p st b q1 a cap HRB.out).mono ?_
    rintro e _ ⟨rfl, rfl⟩
    go_wp2_with fail
    refine (rdMore_any _ p st b q1 a cap HRB.out).mono ?_
    rintro e xE ⟨rfl, hRE, hbE⟩
    have hsE := hbE.size
    have HRE := Lib.hid hRE
    have HCE := Lib.hid (HCB.out.later hbE)
    have HTE := Lib.hid (HTB.out.trans ((Turn.of (p := p) hbE).two (p2 := pc) |>.mono (by omega)))
    have k1 := HCE.out.c1
    have k2 := HCE.out.c2
    clear hRE hbE
    cases hd : decide (q1 < b.length)
    · have hdi : decide ((q1 : Int) < (b.length : Int)) = false := by simpa using hd
      go_wp2_with fail
      go_quiet (fail)
      have hdn : Below xE.heap.size xE (xE.drewN nq) := below_drawn (Below.refl _ _) nq
      have HRF := Lib.hid (HRE.out.later hdn)
      have HCF := Lib.hid (HCE.out.later hdn)
      have HTF := Lib.hid (HTE.out.trans ((Turn.of (p := p) hdn).two (p2 := pc) |>.mono (by omega)))
      clear hdn
      go_wp2_with fail
      go_ret
      exact ⟨by simp, q1, HRF.out, HCF.out, HTF.out⟩
    · have hdi : decide ((q1 : Int) < (b.length : Int)) = true := by simpa using hd
      go_wp2_with fail
      go_quiet (fail)
      have hdn : Below xE.heap.size xE (xE.drewN nq) := below_drawn (Below.refl _ _) nq
      have HRF := Lib.hid (HRE.out.later hdn)
      have HCF := Lib.hid (HCE.out.later hdn)
      have HTF := Lib.hid (HTE.out.trans ((Turn.of (p := p) hdn).two (p2 := pc) |>.mono (by omega)))
      clear hdn
      go_wp2_with fail
      go_ret
      exact ⟨by simp, q1, HRF.out, HCF.out, HTF.out⟩
  by_cases k6 : k = 6
  · subst k6
    obtain ⟨⟨er, q1⟩, hv⟩ : ∃ r, skipR st b A B C q = r := ⟨_, rfl⟩
    go_wp2_with fail
    rw [HW0.out]
    refine (skip_any w0 p st b q a cap HR0.out A B C).mono ?_
    rintro e xA ⟨rfl, hR1, ht1⟩
    try simp only at hR1
    rw [hv] at hR1
    rw [hv]
    have hC1 := HC0.out.apart ht1 (Ne.symm hne) HGC.out
    have hs1 := ht1.size
    have hbk1 := (ht1.block w.heap.size (by omega) (by omega)).trans HBK0.out
    have HRA := Lib.hid hR1
    have HCA := Lib.hid hC1
    have HTA := Lib.hid (HT0.out.trans ((ht1.two (p2 := pc)).mono (by omega)))
    have HBKA := Lib.hid hbk1
    have hX := Lib.cell_of_heap hbk1
    clear hR1 hC1 ht1 hbk1
    go_wp2_with fail
    refine (crSkip_any xA pc st b q ac capc HCA.out A B C).mono ?_
    rintro e xB ⟨rfl, hC2, ht2⟩
    try simp only at hC2
    rw [hv] at hC2
    rw [hv]
    have hR2 := HRA.out.apart ht2 hne HGA.out
    have hs2 := ht2.size
    have hbk2 := (ht2.block w.heap.size (by omega) (by omega)).trans HBKA.out
    have HRB := Lib.hid hR2
    have HCB := Lib.hid hC2
    have HTB := Lib.hid (HTA.out.trans ((ht2.two' (p := p)).mono (by omega)))
    have HBKB := Lib.hid hbk2
    have hX := Lib.cell_of_heap hbk2
    clear hR2 hC2 ht2 hbk2
    have hqq : ((q1 : Int) == (q1 : Int)) = true := by simp
    go_wp2_with fail
    refine (rdAt_any _ p st b q1 a cap HRB.out).mono ?_
    rintro e _ ⟨rfl, rfl⟩
    go_wp2_with fail
    refine (rdMore_any _ p st b q1 a cap HRB.out).mono ?_
    rintro e xE ⟨rfl, hRE, hbE⟩
    have hsE := hbE.size
    have HRE := Lib.hid hRE
    have HCE := Lib.hid (HCB.out.later hbE)
    have HTE := Lib.hid (HTB.out.trans ((Turn.of (p := p) hbE).two (p2 := pc) |>.mono (by omega)))
    have k1 := HCE.out.c1
    have k2 := HCE.out.c2
    clear hRE hbE
    cases hd : decide (q1 < b.length)
    · have hdi : decide ((q1 : Int) < (b.length : Int)) = false := by simpa using hd
      go_wp2_with fail
      go_quiet (fail)
      have hdn : Below xE.heap.size xE (xE.drewN nq) := below_drawn (Below.refl _ _) nq
      have HRF := Lib.hid (HRE.out.later hdn)
      have HCF := Lib.hid (HCE.out.later hdn)
      have HTF := Lib.hid (HTE.out.trans ((Turn.of (p := p) hdn).two (p2 := pc) |>.mono (by omega)))
      clear hdn
      go_wp2_with fail
      go_ret
      exact ⟨by simp, q1, HRF.out, HCF.out, HTF.out⟩
    · have hdi : decide ((q1 : Int) < (b.length : Int)) = true := by simpa using hd
      go_wp2_with fail
      go_quiet (fail)
      have hdn : Below xE.heap.size xE (xE.drewN nq) := below_drawn (Below.refl _ _) nq
      have HRF := Lib.hid (HRE.out.later hdn)
      have HCF := Lib.hid (HCE.out.later hdn)
      have HTF := Lib.hid (HTE.out.trans ((Turn.of (p := p) hdn).two (p2 := pc) |>.mono (by omega)))
      clear hdn
      go_wp2_with fail
      go_ret
      exact ⟨by simp, q1, HRF.out, HCF.out, HTF.out⟩
  by_cases k7 : k = 7
  · subst k7
    obtain ⟨⟨x, y, er, q1⟩, hv⟩ : ∃ r, gRd st b q = r := ⟨_, rfl⟩
    go_wp2_with fail
    rw [HW0.out]
    refine (rdTag_any w0 p st b q a cap HR0.out).mono ?_
    rintro e xA ⟨rfl, hR1, ht1⟩
    try simp only at hR1
    rw [hv] at hR1
    rw [hv]
    have hC1 := HC0.out.apart ht1 (Ne.symm hne) HGC.out
    have hs1 := ht1.size
    have hbk1 := (ht1.block w.heap.size (by omega) (by omega)).trans HBK0.out
    have HRA := Lib.hid hR1
    have HCA := Lib.hid hC1
    have HTA := Lib.hid (HT0.out.trans ((ht1.two (p2 := pc)).mono (by omega)))
    have HBKA := Lib.hid hbk1
    have hX := Lib.cell_of_heap hbk1
    clear hR1 hC1 ht1 hbk1
    go_wp2_with fail
    refine (crTag_any xA pc st b q ac capc HCA.out).mono ?_
    rintro e xB ⟨rfl, hC2, ht2⟩
    try simp only at hC2
    rw [hv] at hC2
    rw [hv]
    have hR2 := HRA.out.apart ht2 hne HGA.out
    have hs2 := ht2.size
    have hbk2 := (ht2.block w.heap.size (by omega) (by omega)).trans HBKA.out
    have HRB := Lib.hid hR2
    have HCB := Lib.hid hC2
    have HTB := Lib.hid (HTA.out.trans ((ht2.two' (p := p)).mono (by omega)))
    have HBKB := Lib.hid hbk2
    have hX := Lib.cell_of_heap hbk2
    clear hR2 hC2 ht2 hbk2
    cases her : (er == 0 : Bool)
    · have hqq : ((q1 : Int) == (q1 : Int)) = true := by simp
      go_wp2_with fail
      refine (rdAt_any _ p st b q1 a cap HRB.out).mono ?_
      rintro e _ ⟨rfl, rfl⟩
      go_wp2_with fail
      refine (rdMore_any _ p st b q1 a cap HRB.out).mono ?_
      rintro e xE ⟨rfl, hRE, hbE⟩
      have hsE := hbE.size
      have HRE := Lib.hid hRE
      have HCE := Lib.hid (HCB.out.later hbE)
      have HTE := Lib.hid (HTB.out.trans ((Turn.of (p := p) hbE).two (p2 := pc) |>.mono (by omega)))
      have k1 := HCE.out.c1
      have k2 := HCE.out.c2
      clear hRE hbE
      cases hd : decide (q1 < b.length)
      · have hdi : decide ((q1 : Int) < (b.length : Int)) = false := by simpa using hd
        go_wp2_with fail
        go_quiet (fail)
        have hdn : Below xE.heap.size xE (xE.drewN nq) := below_drawn (Below.refl _ _) nq
        have HRF := Lib.hid (HRE.out.later hdn)
        have HCF := Lib.hid (HCE.out.later hdn)
        have HTF := Lib.hid (HTE.out.trans ((Turn.of (p := p) hdn).two (p2 := pc) |>.mono (by omega)))
        clear hdn
        go_wp2_with fail
        go_ret
        exact ⟨by simp, q1, HRF.out, HCF.out, HTF.out⟩
      · have hdi : decide ((q1 : Int) < (b.length : Int)) = true := by simpa using hd
        go_wp2_with fail
        go_quiet (fail)
        have hdn : Below xE.heap.size xE (xE.drewN nq) := below_drawn (Below.refl _ _) nq
        have HRF := Lib.hid (HRE.out.later hdn)
        have HCF := Lib.hid (HCE.out.later hdn)
        have HTF := Lib.hid (HTE.out.trans ((Turn.of (p := p) hdn).two (p2 := pc) |>.mono (by omega)))
        clear hdn
        go_wp2_with fail
        go_ret
        exact ⟨by simp, q1, HRF.out, HCF.out, HTF.out⟩
    · obtain rfl : er = 0 := by simpa using her
      obtain ⟨⟨er2, q2⟩, hv2⟩ : ∃ r, skipR st b x y C q1 = r := ⟨_, rfl⟩
      go_wp2_with fail
      refine (skip_any xB p st b q1 a cap HRB.out x y C).mono ?_
      rintro e yA ⟨rfl, hR1, ht1⟩
      try simp only at hR1
      rw [hv2] at hR1
      rw [hv2]
      have hC1 := HCB.out.apart ht1 (Ne.symm hne) HGC.out
      have hs1 := ht1.size
      have hbk1 := (ht1.block w.heap.size (by omega) (by omega)).trans HBKB.out
      have HRA2 := Lib.hid hR1
      have HCA2 := Lib.hid hC1
      have HTA2 := Lib.hid (HTB.out.trans ((ht1.two (p2 := pc)).mono (by omega)))
      have HBKA2 := Lib.hid hbk1
      have hX := Lib.cell_of_heap hbk1
      clear hR1 hC1 ht1 hbk1
      go_wp2_with fail
      refine (crSkip_any yA pc st b q1 ac capc HCA2.out x y C).mono ?_
      rintro e yB ⟨rfl, hC2, ht2⟩
      try simp only at hC2
      rw [hv2] at hC2
      rw [hv2]
      have hR2 := HRA2.out.apart ht2 hne HGA.out
      have hs2 := ht2.size
      have hbk2 := (ht2.block w.heap.size (by omega) (by omega)).trans HBKA2.out
      have HRB2 := Lib.hid hR2
      have HCB2 := Lib.hid hC2
      have HTB2 := Lib.hid (HTA2.out.trans ((ht2.two' (p := p)).mono (by omega)))
      have HBKB2 := Lib.hid hbk2
      have hX := Lib.cell_of_heap hbk2
      clear hR2 hC2 ht2 hbk2
      have hqq : ((q2 : Int) == (q2 : Int)) = true := by simp
      go_wp2_with fail
      refine (rdAt_any _ p st b q2 a cap HRB2.out).mono ?_
      rintro e _ ⟨rfl, rfl⟩
      go_wp2_with fail
      refine (rdMore_any _ p st b q2 a cap HRB2.out).mono ?_
      rintro e xE ⟨rfl, hRE, hbE⟩
      have hsE := hbE.size
      have HRE := Lib.hid hRE
      have HCE := Lib.hid (HCB2.out.later hbE)
      have HTE := Lib.hid (HTB2.out.trans ((Turn.of (p := p) hbE).two (p2 := pc) |>.mono (by omega)))
      have k1 := HCE.out.c1
      have k2 := HCE.out.c2
      clear hRE hbE
      cases hd : decide (q2 < b.length)
      · have hdi : decide ((q2 : Int) < (b.length : Int)) = false := by simpa using hd
        go_wp2_with fail
        go_quiet (fail)
        have hdn : Below xE.heap.size xE (xE.drewN nq) := below_drawn (Below.refl _ _) nq
        have HRF := Lib.hid (HRE.out.later hdn)
        have HCF := Lib.hid (HCE.out.later hdn)
        have HTF := Lib.hid (HTE.out.trans ((Turn.of (p := p) hdn).two (p2 := pc) |>.mono (by omega)))
        clear hdn
        go_wp2_with fail
        go_ret
        exact ⟨by simp, q2, HRF.out, HCF.out, HTF.out⟩
      · have hdi : decide ((q2 : Int) < (b.length : Int)) = true := by simpa using hd
        go_wp2_with fail
        go_quiet (fail)
        have hdn : Below xE.heap.size xE (xE.drewN nq) := below_drawn (Below.refl _ _) nq
        have HRF := Lib.hid (HRE.out.later hdn)
        have HCF := Lib.hid (HCE.out.later hdn)
        have HTF := Lib.hid (HTE.out.trans ((Turn.of (p := p) hdn).two (p2 := pc) |>.mono (by omega)))
        clear hdn
        go_wp2_with fail
        go_ret
        exact ⟨by simp, q2, HRF.out, HCF.out, HTF.out⟩
  have b2 : (k == 2 : Bool) = false := by simpa using k2
  have b3 : (k == 3 : Bool) = false := by simpa using k3
  have b4 : (k == 4 : Bool) = false := by simpa using k4
  have b5 : (k == 5 : Bool) = false := by simpa using k5
  have b6 : (k == 6 : Bool) = false := by simpa using k6
  have b7 : (k == 7 : Bool) = false := by simpa using k7
  go_wp2_with fail
  rw [HW0.out]
  have hX := Lib.cell_of_heap HBK0.out
  have hqq : ((q : Int) == (q : Int)) = true := by simp
  refine (rdAt_any _ p st b q a cap HR0.out).mono ?_
  rintro e _ ⟨rfl, rfl⟩
  go_wp2_with fail
  refine (rdMore_any _ p st b q a cap HR0.out).mono ?_
  rintro e xE ⟨rfl, hRE, hbE⟩
  have hsE := hbE.size
  have HRE := Lib.hid hRE
  have HCE := Lib.hid (HC0.out.later hbE)
  have HTE := Lib.hid (HT0.out.trans ((Turn.of (p := p) hbE).two (p2 := pc) |>.mono (by omega)))
  have k1 := HCE.out.c1
  have k2 := HCE.out.c2
  clear hRE hbE
  cases hd : decide (q < b.length)
  · have hdi : decide ((q : Int) < (b.length : Int)) = false := by simpa using hd
    go_wp2_with fail
    go_quiet (fail)
    have hdn : Below xE.heap.size xE (xE.drewN nq) := below_drawn (Below.refl _ _) nq
    have HRF := Lib.hid (HRE.out.later hdn)
    have HCF := Lib.hid (HCE.out.later hdn)
    have HTF := Lib.hid (HTE.out.trans ((Turn.of (p := p) hdn).two (p2 := pc) |>.mono (by omega)))
    clear hdn
    go_wp2_with fail
    go_ret
    exact ⟨by simp, q, HRF.out, HCF.out, HTF.out⟩
  · have hdi : decide ((q : Int) < (b.length : Int)) = true := by simpa using hd
    go_wp2_with fail
    go_quiet (fail)
    have hdn : Below xE.heap.size xE (xE.drewN nq) := below_drawn (Below.refl _ _) nq
    have HRF := Lib.hid (HRE.out.later hdn)
    have HCF := Lib.hid (HCE.out.later hdn)
    have HTF := Lib.hid (HTE.out.trans ((Turn.of (p := p) hdn).two (p2 := pc) |>.mono (by omega)))
    clear hdn
    go_wp2_with fail
    go_ret
    exact ⟨by simp, q, HRF.out, HCF.out, HTF.out⟩
end Go.Proofs.YtecmhpncgdjgjaaDoor
