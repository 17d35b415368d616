/-
  Three readers and three cursors that lie apart, in one world. Conditions: none.
-/
import Derived.Test.YtecmhpncgdjgjaaDoorStep
namespace Go.Proofs.YtecmhpncgdjgjaaDoor
open Go.RowKit
set_option linter.unusedVariables false
set_option linter.unusedSimpArgs false

set_option maxHeartbeats 2000000 in
set_option maxRecDepth 100000 in
theorem crOpen2_any (w : World) (st : Bool) (b : List UInt8) (a : Option Addr) (cap : Nat) (h : BytesAt (fun _ => True) w (.slice a b.length cap) b) (hb : b.length ≤ 1048576) :
    Calls Tryd.prog 51 #[.slice a b.length cap, .bool st] w (fun e w' => e = .returned (.pointer (some ⟨w.heap.size, 0, none⟩)) ∧ CrAt w' w.heap.size st b 0 a cap ∧ Below w.heap.size w w' ∧ w.heap.size < w'.heap.size) := by
  obtain ⟨a', cap', e, h1, h2, h3⟩ := h
  cases e
  have H3 := Lib.hid h3
  clear h3
  go_enter Tryd.func51, Tryd.ntmps51
  go_wp2_with fail
  go_ret
  have hX := Lib.cell_of_heap (alloc_at w (.cells #[.slice a b.length cap, .int .i64 0, .int .i64 b.length, .bool st] 102))
  refine ⟨rfl, ⟨hX 0, hX 1, hX 2, hX 3, frozen_of_row _ w.heap.size 1 _ _ (alloc_at w _), Nat.zero_le _, hb, h1, h2, ?_⟩, alloc_below _ _, by simp⟩
  rcases H3.out with h4 | ⟨g, off, e, _, hc⟩
  · exact .inl h4
  · by_cases hb0 : b = []
    · exact .inl hb0
    · have hg := cell_lt (hc 0 (List.length_pos_iff.2 hb0))
      exact .inr ⟨g, off, e, by omega, fun k hk => (World.cell?_of_block (w := w) ((alloc_below w _).block g hg)).trans (hc k hk)⟩

/-- One reader and one cursor, where they lie. -/
structure Pair where
  p : Nat
  pc : Nat
  st : Bool
  b : List UInt8
  a : Option Addr
  cap : Nat
  ac : Option Addr
  capc : Nat
/-- They lie apart. -/
structure Apart (F : Nat → Pair) (n : Nat) : Prop where
  pp : ∀ i j, i < n → j < n → i ≠ j → (F i).p ≠ (F j).p
  cc : ∀ i j, i < n → j < n → i ≠ j → (F i).pc ≠ (F j).pc
  pc : ∀ i j, i < n → j < n → (F i).p ≠ (F j).pc
  ra : ∀ i j, i < n → j < n → (F i).b ≠ [] → ∀ g, (F i).a = some ⟨g, 0, none⟩ → g ≠ (F j).pc ∧ (i ≠ j → g ≠ (F j).p)
  ca : ∀ i j, i < n → j < n → (F i).b ≠ [] → ∀ g off, (F i).ac = some ⟨g, off, none⟩ → g ≠ (F j).p ∧ (i ≠ j → g ≠ (F j).pc)
/-- All are in their places. -/
def AllAt (w : World) (F : Nat → Pair) (n : Nat) (q : Nat → Nat) : Prop :=
  ∀ i, i < n → RdAt w (F i).p (F i).st (F i).b (q i) (F i).a (F i).cap ∧ CrAt w (F i).pc (F i).st (F i).b (q i) (F i).ac (F i).capc

theorem RdAt.apart2 {w w' : World} {p p1 p2 : Nat} {st : Bool} {b : List UInt8} {q : Nat} {a : Option Addr} {cap : Nat} (h : RdAt w p st b q a cap) (ht : Turn2 w.heap.size p1 p2 w w') (h1 : p ≠ p1) (h2 : p ≠ p2) (hg : b ≠ [] → ∀ g, a = some ⟨g, 0, none⟩ → g ≠ p1 ∧ g ≠ p2) : RdAt w' p st b q a cap := by
  have hp := ht.block p h.lt h1 h2
  refine ⟨(World.cell?_of_block (w := w) hp).trans h.c0, (World.cell?_of_block (w := w) hp).trans h.c1, (World.cell?_of_block (w := w) hp).trans h.c2, (World.frozen?_of_block (w := w) hp).trans h.fz, h.hq, h.hb, h.hc, h.hm, ?_⟩
  rcases h.hby with h0 | ⟨g, e1, e2, e3⟩
  · exact .inl h0
  · by_cases hb0 : b = []
    · exact .inl hb0
    · exact .inr ⟨g, e1, e2, fun k hk => (World.cell?_of_block (w := w) (ht.block g (cell_lt (e3 k hk)) (hg hb0 g e1).1 (hg hb0 g e1).2)).trans (e3 k hk)⟩
theorem CrAt.apart2 {w w' : World} {p p1 p2 : Nat} {st : Bool} {b : List UInt8} {q : Nat} {a : Option Addr} {cap : Nat} (h : CrAt w p st b q a cap) (ht : Turn2 w.heap.size p1 p2 w w') (h1 : p ≠ p1) (h2 : p ≠ p2) (hg : b ≠ [] → ∀ g off, a = some ⟨g, off, none⟩ → g ≠ p1 ∧ g ≠ p2) : CrAt w' p st b q a cap := by
  have hp := ht.block p h.lt h1 h2
  refine ⟨(World.cell?_of_block (w := w) hp).trans h.c0, (World.cell?_of_block (w := w) hp).trans h.c1, (World.cell?_of_block (w := w) hp).trans h.c2, (World.cell?_of_block (w := w) hp).trans h.c3, (World.frozen?_of_block (w := w) hp).trans h.fz, h.hq, h.hb, h.hc, h.hm, ?_⟩
  rcases h.hby with h0 | ⟨g, off, e1, e2, e3⟩
  · exact .inl h0
  · by_cases hb0 : b = []
    · exact .inl hb0
    · exact .inr ⟨g, off, e1, e2, fun k hk => (World.cell?_of_block (w := w) (ht.block g (cell_lt (e3 k hk)) (hg hb0 g off e1).1 (hg hb0 g off e1).2)).trans (e3 k hk)⟩

/-- One of them takes a step; the others stay. -/
theorem AllAt.step {w w' : World} {F : Nat → Pair} {n : Nat} {q : Nat → Nat} (h : AllAt w F n q) (hF : Apart F n) {k : Nat} (hk : k < n) {q' : Nat} (hR : RdAt w' (F k).p (F k).st (F k).b q' (F k).a (F k).cap) (hC : CrAt w' (F k).pc (F k).st (F k).b q' (F k).ac (F k).capc)
    (ht : Turn2 w.heap.size (F k).p (F k).pc w w') : AllAt w' F n (fun i => if i = k then q' else q i) := by
  intro i hi
  by_cases hik : i = k
  · subst hik
    simp only [if_true]
    exact ⟨hR, hC⟩
  · simp only [if_neg hik]
    refine ⟨(h i hi).1.apart2 ht (hF.pp i k hi hk hik) (hF.pc i k hi hk) (fun hb g e => ⟨(hF.ra i k hi hk hb g e).2 hik, (hF.ra i k hi hk hb g e).1⟩), (h i hi).2.apart2 ht (Ne.symm (hF.pc k i hk hi)) (hF.cc i k hi hk hik) (fun hb g off e => ⟨(hF.ca i k hi hk hb g off e).1, (hF.ca i k hi hk hb g off e).2 hik⟩)⟩
theorem AllAt.later {w w' : World} {F : Nat → Pair} {n : Nat} {q : Nat → Nat} (h : AllAt w F n q) (hb : Below w.heap.size w w') : AllAt w' F n q := fun i hi => ⟨(h i hi).1.later hb, (h i hi).2.later hb⟩
theorem step_of {w : World} {F : Nat → Pair} {n : Nat} {q : Nat → Nat} (h : AllAt w F n q) (hF : Apart F n) {k : Nat} (hk : k < n) (kd A B C : Int) :
    Calls Tryd.prog 52 #[.pointer (some ⟨(F k).p, 0, none⟩), .pointer (some ⟨(F k).pc, 0, none⟩), .agg #[.int .i64 kd, .int .i64 A, .int .i64 B, .int .i64 C]] w
      (fun e w' => e = .returned (.bool true) ∧ (∃ q2, AllAt w' F n q2) ∧ Turn2 w.heap.size (F k).p (F k).pc w w') := by
  refine (step_any w (F k).p (F k).pc (F k).st (F k).b (q k) (F k).a (F k).cap (F k).ac (F k).capc (h k hk).1 (h k hk).2 (hF.pc k k hk hk) (fun hb g e => (hF.ra k k hk hk hb g e).1) (fun hb g off e => (hF.ca k k hk hk hb g off e).1) kd A B C).mono ?_
  rintro e w' ⟨rfl, q', h1, h2, h3⟩
  exact ⟨rfl, ⟨_, h.step hF hk h1 h2 h3⟩, h3⟩

def three (P0 P1 P2 : Pair) : Nat → Pair
  | 0 => P0
  | 1 => P1
  | _ => P2
theorem apart3 {P0 P1 P2 : Pair} {s l0 h0 l1 h1 l2 h2 : Nat} (a0 : l0 ≤ P0.p ∧ P0.p < h0) (a1 : l1 ≤ P1.p ∧ P1.p < h1) (a2 : l2 ≤ P2.p ∧ P2.p < h2)
    (g0 : P0.b ≠ [] → ∀ g, P0.a = some ⟨g, 0, none⟩ → l0 ≤ g ∧ g < h0) (g1 : P1.b ≠ [] → ∀ g, P1.a = some ⟨g, 0, none⟩ → l1 ≤ g ∧ g < h1) (g2 : P2.b ≠ [] → ∀ g, P2.a = some ⟨g, 0, none⟩ → l2 ≤ g ∧ g < h2)
    (k0 : P0.b ≠ [] → ∀ g off, P0.ac = some ⟨g, off, none⟩ → g < s) (k1 : P1.b ≠ [] → ∀ g off, P1.ac = some ⟨g, off, none⟩ → g < s) (k2 : P2.b ≠ [] → ∀ g off, P2.ac = some ⟨g, off, none⟩ → g < s)
    (hs : s ≤ l0) (h01 : h0 ≤ l1) (h12 : h1 ≤ l2) (c0 : h2 ≤ P0.pc) (c1 : P0.pc < P1.pc) (c2 : P1.pc < P2.pc) : Apart (three P0 P1 P2) 3 := by
  have hc : ∀ i, i < 3 → i = 0 ∨ i = 1 ∨ i = 2 := fun i hi => by omega
  refine ⟨fun i j hi hj hne => ?_, fun i j hi hj hne => ?_, fun i j hi hj => ?_, fun i j hi hj hb g e => ?_, fun i j hi hj hb g off e => ?_⟩
  · rcases hc i hi with rfl | rfl | rfl <;> rcases hc j hj with rfl | rfl | rfl <;> simp only [three] <;> omega
  · rcases hc i hi with rfl | rfl | rfl <;> rcases hc j hj with rfl | rfl | rfl <;> simp only [three] <;> omega
  · rcases hc i hi with rfl | rfl | rfl <;> rcases hc j hj with rfl | rfl | rfl <;> simp only [three] <;> omega
  · rcases hc i hi with rfl | rfl | rfl
    · have := g0 hb g e
      rcases hc j hj with rfl | rfl | rfl <;> simp only [three] <;> omega
    · have := g1 hb g e
      rcases hc j hj with rfl | rfl | rfl <;> simp only [three] <;> omega
    · have := g2 hb g e
      rcases hc j hj with rfl | rfl | rfl <;> simp only [three] <;> omega
  · rcases hc i hi with rfl | rfl | rfl
    · have := k0 hb g off e
      rcases hc j hj with rfl | rfl | rfl <;> simp only [three] <;> omega
    · have := k1 hb g off e
      rcases hc j hj with rfl | rfl | rfl <;> simp only [three] <;> omega
    · have := k2 hb g off e
      rcases hc j hj with rfl | rfl | rfl <;> simp only [three] <;> omega
theorem Turn2.cell {B p p2 : Nat} {w w' : World} (h : Turn2 B p p2 w w') {b o : Nat} {v : Value} (hc : w.cell? ⟨b, o, none⟩ = some v) (hB : w.heap.size ≤ B) (h1 : b ≠ p) (h2 : b ≠ p2) : w'.cell? ⟨b, o, none⟩ = some v :=
  (World.cell?_of_block (w := w) (h.block b (by have := cell_lt hc; omega) h1 h2)).trans hc
theorem Turn2.below {B B' p p2 : Nat} {w w' : World} (h : Turn2 B p p2 w w') (h1 : B' ≤ p) (h2 : B' ≤ p2) (hB : B' ≤ B) : Below B' w w' :=
  ⟨h.os, h.tape, h.output, h.size, fun k hk => h.block k (by omega) (by omega) (by omega)⟩

/-- A row of ops among the arguments. -/
def IsOps (w : World) (a : Option Addr) (len cap : Nat) : Prop :=
  len ≤ cap ∧ cap ≤ 9223372036854775807 ∧ ∀ r, r < len → ∃ g off k A B C, a = some ⟨g, off, none⟩ ∧ w.cell? ⟨g, off + r * 4, none⟩ = some (.int .i64 k) ∧ w.cell? ⟨g, off + r * 4 + 1, none⟩ = some (.int .i64 A) ∧ w.cell? ⟨g, off + r * 4 + 2, none⟩ = some (.int .i64 B) ∧ w.cell? ⟨g, off + r * 4 + 3, none⟩ = some (.int .i64 C)
end Go.Proofs.YtecmhpncgdjgjaaDoor
