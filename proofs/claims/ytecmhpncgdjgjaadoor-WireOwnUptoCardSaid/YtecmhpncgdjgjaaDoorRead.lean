/-
  Read of package wire, walked; bytes in memory. Conditions: none.
-/
import Derived.Test.YtecmhpncgdjgjaaDoorRdr
import Derived.Test.YtecmhpncgdjgjaaDoorJoin
namespace Go.Proofs.YtecmhpncgdjgjaaDoor
open Go.RowKit
set_option linter.unusedVariables false
set_option linter.unusedSimpArgs false

/-- A slice value reads as the bytes b; their block is among P. -/
def BytesAt (P : Nat → Prop) (w : World) (v : Value) (b : List UInt8) : Prop :=
  ∃ a cap, v = .slice a b.length cap ∧ b.length ≤ cap ∧ cap ≤ 9223372036854775807 ∧ (b = [] ∨ ∃ g off, a = some ⟨g, off, none⟩ ∧ P g ∧ ∀ k (hk : k < b.length), w.cell? ⟨g, off + k, none⟩ = some (.int .u8 ((b[k]'hk).toNat : Int)))

theorem BytesAt.held {P : Nat → Prop} {w w' : World} {v : Value} {b : List UInt8} (h : BytesAt P w v b) (hk : ∀ k, P k → k < w.heap.size → w'.heap[k]? = w.heap[k]?) : BytesAt P w' v b := by
  obtain ⟨a, cap, rfl, h1, h2, h3⟩ := h
  refine ⟨a, cap, rfl, h1, h2, ?_⟩
  rcases h3 with h3 | ⟨g, off, e, hP, hc⟩
  · exact .inl h3
  · exact .inr ⟨g, off, e, hP, fun k hl => (World.cell?_of_block (w := w) (hk g hP (cell_lt (hc k hl)))).trans (hc k hl)⟩
theorem BytesAt.later {P : Nat → Prop} {w w' : World} {v : Value} {b : List UInt8} (h : BytesAt P w v b) (hb : Below w.heap.size w w') : BytesAt P w' v b := h.held fun k _ hk => hb.block k hk
theorem BytesAt.mono {P Q : Nat → Prop} {w : World} {v : Value} {b : List UInt8} (h : BytesAt P w v b) (hq : ∀ k, P k → Q k) : BytesAt Q w v b := by
  obtain ⟨a, cap, rfl, h1, h2, h3⟩ := h
  exact ⟨a, cap, rfl, h1, h2, h3.imp id fun ⟨g, off, e, hP, hc⟩ => ⟨g, off, e, hq g hP, hc⟩⟩
theorem byteCells_get (b : List UInt8) (k : Nat) : (Lib.byteCells b)[k]? = (b[k]?).map fun c => Value.int .u8 (c.toNat : Int) := by simp [Lib.byteCells]
/-- A row of bytes of the call's own reads as them. -/
theorem OwnB.reads {w : World} {B : Nat} {v : Value} {b : List UInt8} (h : OwnB w B v b) : BytesAt (fun k => B ≤ k) w v b := by
  unfold OwnB at h
  rcases h.2 with ⟨rfl, h0⟩ | ⟨g, cap, cur, rfl, hbg, hg, hnc, hcm, rest⟩
  · have : b = [] := List.eq_nil_of_length_eq_zero h0
    subst this
    exact ⟨none, 0, rfl, by simp, by omega, .inl rfl⟩
  · refine ⟨_, cap, rfl, hnc, by unfold maxLen at hcm; omega, .inr ⟨g, 0, rfl, hbg, fun k hk => ?_⟩⟩
    rw [h.cellAt _ (by omega), byteCells_get, Nat.zero_add, List.getElem?_eq_getElem hk]
    rfl

theorem OwnB.zero {w : World} {B n cap : Nat} {a : Option Addr} {b : List UInt8} (h : OwnB w B (.slice a n cap) b) : b = [] ∨ ∃ g, a = some ⟨g, 0, none⟩ ∧ B ≤ g ∧ g < w.heap.size ∧ ∀ k (hk : k < b.length), w.cell? ⟨g, k, none⟩ = some (.int .u8 ((b[k]'hk).toNat : Int)) := by
  unfold OwnB at h
  rcases h.2 with ⟨e, h0⟩ | ⟨g, cap2, cur, e, hbg, hg, hnc, hcm, rest⟩
  · exact .inl (List.eq_nil_of_length_eq_zero h0)
  · injection e with e1 e2 e3
    subst e1 e2 e3
    refine .inr ⟨g, rfl, hbg, (Array.getElem?_eq_some_iff.1 hg).1, fun k hk => ?_⟩
    rw [h.cellAt _ (by omega), byteCells_get, List.getElem?_eq_getElem hk]
    rfl
theorem new_at (w : World) (o : Obj) : (w.alloc o).heap[w.heap.size]? = some o := by
  show (w.heap.push _)[w.heap.size]? = _
  exact Array.getElem?_push_size
theorem new_below (w : World) (o : Obj) : Below w.heap.size w (w.alloc o) := (Below.refl _ w).alloc (Nat.le_refl _) o

/-- What Read leaves. -/
def ReadOut (w : World) (st : Bool) (b : List UInt8) (e : Ending) (w' : World) : Prop :=
  (1048576 < b.length → e = .returned (.tuple #[.pointer none, .int .i64 2]) ∧ Below w.heap.size w w') ∧
  (b.length ≤ 1048576 → ∃ p a cap, e = .returned (.tuple #[.pointer (some ⟨p, 0, none⟩), .int .i64 0]) ∧ w.heap.size ≤ p ∧ (∀ g, a = some ⟨g, 0, none⟩ → w.heap.size ≤ g) ∧ RdAt w' p st b 0 a cap ∧ Below w.heap.size w w')

set_option maxHeartbeats 2000000 in
set_option maxRecDepth 100000 in
theorem wRead_any (w : World) (st : Bool) (b : List UInt8) (v : Value) (h : BytesAt (fun _ => True) w v b) : Calls Tryd.prog 49 #[v, .bool st] w (ReadOut w st b) := by
  obtain ⟨i0, hi, hz0, hz1, hz2⟩ := info_parts infoB
  obtain ⟨a, cap, rfl, h1, h2, h3⟩ := h
  by_cases hbig : 1048576 < b.length
  · go_enter Tryd.func49, Tryd.ntmps49
    go_wp2_with fail
    go_ret2
    exact ⟨fun _ => ⟨rfl, Below.refl _ _⟩, fun e => by omega⟩
  · have hle : b.length ≤ 1048576 := by omega
    rcases h3 with rfl | ⟨g, off, rfl, _, hc⟩
    · cases a with
      | none =>
        go_enter Tryd.func49, Tryd.ntmps49
        go_wp2_with fail
        go_ret2
        refine ⟨fun e => absurd e (by simp), fun _ => ⟨w.heap.size, none, 0, rfl, Nat.le_refl _, fun g e => (by cases e), ?_, (Below.refl _ _).alloc (Nat.le_refl _) _⟩⟩
        have hX := Lib.cell_of_heap (new_at w (.cells #[.slice none 0 0, .int .i64 0, .bool st] 97))
        exact ⟨hX 0, hX 1, hX 2, frozen_of_row _ w.heap.size 1 _ _ (new_at w _), by simp, by simp, by simp, by omega, .inl rfl⟩
      | some ad =>
        go_enter Tryd.func49, Tryd.ntmps49
        go_wp2_with (at_builtin; refine wpList_append_own_at _ rfl _ _ 24 rfl w.heap.size 5 i0 (.int .u8 0) 1 1 Tryd.underlying24 hi hz0 hz1 hz2 rfl (by decide) _ _ _ rfl (World.ownsRow_nil w w.heap.size 5 1) ad 0 cap [] rfl rfl ?c1 ?c2 ?c3 ?c4 ?c5 ?_)
        case c1 => intro j u hu; simp at hu
        case c2 => intro u hu; simp at hu
        case c3 => unfold maxLen; omega
        case c4 => omega
        case c5 => omega
        intro v' w2 hown' hgrow hnil hat
        have hv' := hnil
        subst hv'
        have hbl : Below w.heap.size w w2 := (Below.refl _ _).grown hgrow (Nat.le_refl _) (fun k e => by cases e)
        clear hown' hgrow hat
        go_wp2
        go_ret2
        refine ⟨fun e => absurd e (by simp), fun _ => ⟨w2.heap.size, none, 0, rfl, hbl.size, fun g e => (by cases e), ?_, hbl.alloc hbl.size _⟩⟩
        have hX := Lib.cell_of_heap (new_at w2 (.cells #[.slice none 0 0, .int .i64 0, .bool st] 97))
        exact ⟨hX 0, hX 1, hX 2, frozen_of_row _ w2.heap.size 1 _ _ (new_at w2 _), by simp, by simp, by simp, by omega, .inl rfl⟩
    · go_enter Tryd.func49, Tryd.ntmps49
      go_wp2_with (at_builtin; refine wpList_append_own_at _ rfl _ _ 24 rfl w.heap.size 5 i0 (.int .u8 0) 1 1 Tryd.underlying24 hi hz0 hz1 hz2 rfl (by decide) _ _ _ rfl (World.ownsRow_nil w w.heap.size 5 1) ⟨g, off, none⟩ b.length cap (Lib.byteCells b) rfl (by simp [Lib.byteCells]) ?c1 ?c2 ?c3 ?c4 ?c5 ?_)
      case c1 =>
        intro j u hu
        have hj : j < b.length := by
          rcases Nat.lt_or_ge j b.length with h | h
          · exact h
          · rw [byteCells_get, List.getElem?_eq_none h] at hu; cases hu
        rw [byteCells_get, List.getElem?_eq_getElem hj] at hu
        have e1 : (⟨g, off, none⟩ : Addr).add j = ⟨g, off + j, none⟩ := by unfold Addr.add; split <;> simp_all
        rw [e1, hc j hj]
        exact hu
      case c2 =>
        intro u hu
        simp only [Lib.byteCells, List.mem_map] at hu
        obtain ⟨c, _, rfl⟩ := hu
        rfl
      case c3 => unfold maxLen; omega
      case c4 => omega
      case c5 => omega
      intro v' w2 hown' hgrow _ hat
      have hY : OwnB w2 w.heap.size v' b := by unfold OwnB; simpa using hown'
      have hbl : Below w.heap.size w w2 := (Below.refl _ _).grown hgrow (Nat.le_refl _) (fun k e => by cases e)
      obtain ⟨a2, cap2, rfl, hc2, hcm2⟩ := own_slice hY
      have HY := Lib.hid hY
      clear hown' hgrow hat hY
      go_wp2
      go_ret2
      refine ⟨fun e => absurd e hbig, fun _ => ⟨w2.heap.size, a2, cap2, rfl, hbl.size, ?_, ?_, hbl.alloc hbl.size _⟩⟩
      · intro g2 e
        subst e
        exact (World.ownsRow.lt HY.out g2 rfl).1
      · have hX := Lib.cell_of_heap (new_at w2 (.cells #[.slice a2 b.length cap2, .int .i64 0, .bool st] 97))
        refine ⟨hX 0, hX 1, hX 2, frozen_of_row _ w2.heap.size 1 _ _ (new_at w2 _), Nat.zero_le _, hle, hc2, hcm2, ?_⟩
        rcases HY.out.zero with h3 | ⟨g3, rfl, hg3, hgl, h5⟩
        · exact .inl h3
        · exact .inr ⟨g3, rfl, by omega, fun k hk => (World.cell?_of_block (w := w2) ((new_below _ _).block g3 hgl)).trans (h5 k hk)⟩
end Go.Proofs.YtecmhpncgdjgjaaDoor
