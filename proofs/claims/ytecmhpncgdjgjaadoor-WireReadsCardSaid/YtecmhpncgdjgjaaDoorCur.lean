/-
  A cursor of the reference in memory; its Varint and Fixed, walked. Conditions: at most 1048576 bytes, as Split sees to.
-/
import Derived.Test.YtecmhpncgdjgjaaDoorCurPlain
import Derived.Test.YtecmhpncgdjgjaaDoorRdr2
namespace Go.Proofs.YtecmhpncgdjgjaaDoor
open Go.RowKit
set_option linter.unusedVariables false
set_option linter.unusedSimpArgs false

/-- A cursor at block p: over the bytes b, at q. -/
structure CrAt (w : World) (p : Nat) (st : Bool) (b : List UInt8) (q : Nat) (a : Option Addr) (cap : Nat) : Prop where
  c0 : w.cell? ⟨p, 0, none⟩ = some (.slice a b.length cap)
  c1 : w.cell? ⟨p, 1, none⟩ = some (.int .i64 q)
  c2 : w.cell? ⟨p, 2, none⟩ = some (.int .i64 b.length)
  c3 : w.cell? ⟨p, 3, none⟩ = some (.bool st)
  fz : w.frozen? ⟨p, 1, none⟩ = false
  hq : q ≤ b.length
  hb : b.length ≤ 1048576
  hc : b.length ≤ cap
  hm : cap ≤ 9223372036854775807
  hby : b = [] ∨ ∃ g off, a = some ⟨g, off, none⟩ ∧ g ≠ p ∧ ∀ k (hk : k < b.length), w.cell? ⟨g, off + k, none⟩ = some (.int .u8 ((b[k]'hk).toNat : Int))

theorem CrAt.lt {w : World} {p : Nat} {st : Bool} {b : List UInt8} {q : Nat} {a : Option Addr} {cap : Nat} (h : CrAt w p st b q a cap) : p < w.heap.size := cell_lt h.c0
theorem CrAt.stay {w0 w w' : World} {p : Nat} {st : Bool} {b : List UInt8} {q0 q : Nat} {a : Option Addr} {cap : Nat} (h0 : CrAt w0 p st b q0 a cap) (h : CrAt w p st b q a cap) (hB : Below w0.heap.size w w') : CrAt w' p st b q a cap := by
  have hp := hB.block p h0.lt
  refine ⟨(World.cell?_of_block (w := w) hp).trans h.c0, (World.cell?_of_block (w := w) hp).trans h.c1, (World.cell?_of_block (w := w) hp).trans h.c2, (World.cell?_of_block (w := w) hp).trans h.c3, (World.frozen?_of_block (w := w) hp).trans h.fz, h.hq, h.hb, h.hc, h.hm, ?_⟩
  rcases h.hby with h1 | ⟨g, off, rfl, h2, h3⟩
  · exact .inl h1
  · rcases h0.hby with h4 | ⟨g', off', e, _, hc⟩
    · exact .inl h4
    · by_cases hb : b = []
      · exact .inl hb
      · cases e
        exact .inr ⟨g, off, rfl, h2, fun k hk => (World.cell?_of_block (w := w) (hB.block g (cell_lt (hc 0 (List.length_pos_iff.2 hb))))).trans (h3 k hk)⟩
theorem CrAt.later {w w' : World} {p : Nat} {st : Bool} {b : List UInt8} {q : Nat} {a : Option Addr} {cap : Nat} (h : CrAt w p st b q a cap) (hb : Below w.heap.size w w') : CrAt w' p st b q a cap := h.stay h hb
theorem CrAt.set {w : World} {p : Nat} {st : Bool} {b : List UInt8} {q : Nat} {a : Option Addr} {cap : Nat} (h : CrAt w p st b q a cap) (q' : Nat) (hq : q' ≤ b.length) : CrAt (w.setCell ⟨p, 1, none⟩ (.int .i64 q')) p st b q' a cap := by
  refine ⟨(World.cell?_setCell_other _ _ _ _ (by simp)).trans h.c0, World.cell?_setCell_same _ _ _ h.c1, (World.cell?_setCell_other _ _ _ _ (by simp)).trans h.c2, (World.cell?_setCell_other _ _ _ _ (by simp)).trans h.c3, (World.frozen?_setCell _ _ _ _).trans h.fz, hq, h.hb, h.hc, h.hm, ?_⟩
  rcases h.hby with h0 | ⟨g, off, h1, h2, h3⟩
  · exact .inl h0
  · exact .inr ⟨g, off, h1, h2, fun k hk => (World.cell?_setCell_other _ _ _ _ (by simp [Ne.symm h2])).trans (h3 k hk)⟩
theorem CrAt.byte {w : World} {p : Nat} {st : Bool} {b : List UInt8} {q : Nat} {a : Option Addr} {cap : Nat} (h : CrAt w p st b q a cap) (k : Nat) (hk : k < b.length) : ∃ g off, a = some ⟨g, off, none⟩ ∧ w.cell? ⟨g, off + k, none⟩ = some (.int .u8 ((b[k]'hk).toNat : Int)) := by
  rcases h.hby with h0 | ⟨g, off, h1, h2, h3⟩
  · subst h0; simp at hk
  · exact ⟨g, off, h1, h3 k hk⟩

/-- What a cursor's method leaves: an answer, and the cursor at q'. -/
def Crs (w : World) (p : Nat) (st : Bool) (b : List UInt8) (q' : Nat) (a : Option Addr) (cap : Nat) (v : Value) (e : Ending) (w' : World) : Prop :=
  e = .returned v ∧ CrAt w' p st b q' a cap ∧ Turn w.heap.size p w w'

theorem vRd_crv (st : Bool) (b : List UInt8) (q : Nat) : vRd st b q = if (crv st (b.drop q)).2.1 = 0 then (s64 (crv st (b.drop q)).1, 0, q + (crv st (b.drop q)).2.2) else (0, (crv st (b.drop q)).2.1, q) := by
  unfold vRd
  rw [rdv_crv]

theorem s64_step128 (u c : Nat) : wrap64 (128 * s64 u + (c : Int)) = s64 (c + 128 * u) := by unfold s64 wrap64; omega
theorem s64_wrap128 (u c : Nat) (hc : c < 128) : wrap64 (wrap64 (128 * s64 u) + (c : Int)) = s64 (c + 128 * u) := by unfold s64 wrap64; omega
theorem s64_wrap256 (u c : Nat) (hc : c < 256) : wrap64 (wrap64 (256 * s64 u) + (c : Int)) = s64 (c + 256 * u) := by unfold s64 wrap64; omega

theorem lead_byte (m : Nat) : ∀ (l : List UInt8) (i : Nat), i < lead m l → 128 ≤ (l.getD i 0).toNat := by
  induction m with
  | zero => intro l i h; simp [lead] at h
  | succ m ih =>
    intro l i h
    cases l with
    | nil => simp [lead] at h
    | cons c cs =>
      rw [lead] at h
      split at h
      · cases i with
        | zero => simpa
        | succ i => simpa using ih cs i (by omega)
      · omega
theorem lead_next (m : Nat) : ∀ (l : List UInt8) (i : Nat), i ≤ lead m l → (lead m l = i ↔ l.length ≤ i ∨ m ≤ i ∨ (l.getD i 0).toNat < 128) := by
  induction m with
  | zero => intro l i h; simp [lead] at h ⊢; omega
  | succ m ih =>
    intro l i h
    cases l with
    | nil => simp [lead] at h ⊢; omega
    | cons c cs =>
      by_cases hc : 128 ≤ c.toNat
      · have h1 : lead (m + 1) (c :: cs) = lead m cs + 1 := by rw [lead, if_pos hc]
        rw [h1] at h ⊢
        cases i with
        | zero => simp; omega
        | succ i =>
          have := ih cs i (by omega)
          simp only [List.length_cons, Nat.add_right_cancel_iff, Nat.add_le_add_iff_right, List.getD_cons_succ]
          exact this
      · have h1 : lead (m + 1) (c :: cs) = 0 := by rw [lead, if_neg hc]
        rw [h1] at h ⊢
        obtain rfl : i = 0 := by omega
        simp
        omega
end Go.Proofs.YtecmhpncgdjgjaaDoor
