/-
  Records that were lent, with a mark behind each list; back of the statements, walked. Conditions: none.
-/
import Derived.Test.YtecmhpncgdjgjaaDoorMany
import Derived.Deep.RegionHeld3
namespace Go.Proofs.YtecmhpncgdjgjaaDoor
open Go.RowKit
set_option linter.unusedVariables false
set_option linter.unusedSimpArgs false

/-- A list of records with one place more, and a mark in it; the lists in it too. -/
inductive LentR (P : Nat → Prop) (w : World) : Value → List Rec → Prop
  | mk (g : Nat) (l : List Rec) (us : Nat → Value) (hP : P g) (hc : l.length + 1 ≤ 9223372036854775807)
      (hr : ∀ k (hk : k < l.length), RecAt w g (k * 5) (l[k]'hk) (us k)) (hi : ∀ k (hk : k < l.length), LentR P w (us k) (l[k]'hk).inner) (hm : w.cell? ⟨g, l.length * 5, none⟩ = some (.int .i64 91)) :
      LentR P w (.slice (some ⟨g, 0, none⟩) l.length (l.length + 1)) l
theorem LentR.held {P : Nat → Prop} {w w' : World} {v : Value} {l : List Rec} (h : LentR P w v l) (hk : Held P w w') : LentR P w' v l := by
  induction h with
  | mk g l us hP hc hr hi hm ih =>
    have hg := hk g hP (cell_lt hm)
    exact .mk g l us hP hc (fun k h => (hr k h).held hg) ih ((World.cell?_of_block (w := w) hg).trans hm)
theorem LentR.reads {P : Nat → Prop} {w : World} {v : Value} {l : List Rec} (h : LentR P w v l) : ReadsR P w v l := by
  induction h with
  | mk g l us hP hc hr hi hm ih => exact .some g 0 (l.length + 1) l us hP (by omega) (by omega) (fun k hk => by rw [Nat.zero_add]; exact hr k hk) ih
theorem LentR.mono {P Q : Nat → Prop} {w : World} {v : Value} {l : List Rec} (h : LentR P w v l) (hq : ∀ b, P b → Q b) : LentR Q w v l := by
  induction h with
  | mk g l us hP hc hr hi hm ih => exact .mk g l us (hq g hP) hc hr ih hm
/-- In whatever blocks. -/
def Lent (w : World) (v : Value) (l : List Rec) : Prop := LentR (fun _ => True) w v l
theorem Lent.later {w w' : World} {v : Value} {l : List Rec} (h : Lent w v l) (hb : Below w.heap.size w w') : Lent w' v l := LentR.held h fun b _ hlt => hb.block b hlt
theorem Lent.form {w : World} {v : Value} {l : List Rec} (h : Lent w v l) : ∃ g, v = .slice (some ⟨g, 0, none⟩) l.length (l.length + 1) ∧ l.length + 1 ≤ 9223372036854775807 ∧ w.cell? ⟨g, l.length * 5, none⟩ = some (.int .i64 91) ∧
    ∀ k (hk : k < l.length), ∃ u, RecAt w g (k * 5) (l[k]'hk) u ∧ Lent w u (l[k]'hk).inner := by
  cases h with
  | mk g l us hP hc hr hi hm => exact ⟨g, rfl, hc, hm, fun k hk => ⟨us k, hr k hk, hi k hk⟩⟩

theorem keep_ten {X W x1 : World} {g o b p : Nat} {v0 v1 v2 v3 v4 u0 u1 u2 u3 u4 : Value} (hS : ((W.cell? ⟨g, o, none⟩ = some v0 ∧ W.cell? ⟨g, o + 1, none⟩ = some v1 ∧ W.cell? ⟨g, o + 2, none⟩ = some v2 ∧ W.cell? ⟨g, o + 3, none⟩ = some v3 ∧ W.cell? ⟨g, o + 4, none⟩ = some v4) ∧ (W.cell? ⟨b, p, none⟩ = some u0 ∧ W.cell? ⟨b, p + 1, none⟩ = some u1 ∧ W.cell? ⟨b, p + 2, none⟩ = some u2 ∧ W.cell? ⟨b, p + 3, none⟩ = some u3 ∧ W.cell? ⟨b, p + 4, none⟩ = some u4)) ∧ Below X.heap.size X W)
    (hb : Below W.heap.size W x1) : ((x1.cell? ⟨g, o, none⟩ = some v0 ∧ x1.cell? ⟨g, o + 1, none⟩ = some v1 ∧ x1.cell? ⟨g, o + 2, none⟩ = some v2 ∧ x1.cell? ⟨g, o + 3, none⟩ = some v3 ∧ x1.cell? ⟨g, o + 4, none⟩ = some v4) ∧ (x1.cell? ⟨b, p, none⟩ = some u0 ∧ x1.cell? ⟨b, p + 1, none⟩ = some u1 ∧ x1.cell? ⟨b, p + 2, none⟩ = some u2 ∧ x1.cell? ⟨b, p + 3, none⟩ = some u3 ∧ x1.cell? ⟨b, p + 4, none⟩ = some u4)) ∧ Below X.heap.size X x1 := by
  obtain ⟨⟨⟨a0, a1, a2, a3, a4⟩, b0, b1, b2, b3, b4⟩, hX⟩ := hS
  exact ⟨⟨⟨(hb.cell (cell_lt a0)).trans a0, (hb.cell (cell_lt a1)).trans a1, (hb.cell (cell_lt a2)).trans a2, (hb.cell (cell_lt a3)).trans a3, (hb.cell (cell_lt a4)).trans a4⟩, (hb.cell (cell_lt b0)).trans b0, (hb.cell (cell_lt b1)).trans b1, (hb.cell (cell_lt b2)).trans b2, (hb.cell (cell_lt b3)).trans b3, (hb.cell (cell_lt b4)).trans b4⟩, hX.trans (hb.mono hX.size)⟩

set_option maxHeartbeats 8000000 in
set_option maxRecDepth 100000 in
theorem lback_any (N : Nat) : ∀ (l : List Rec), SizeOf.sizeOf l ≤ N → ∀ (v u : Value) (w : World), Lent w v l → Reads w u l → Calls Tryd.prog 31 #[v, u] w (Says w (.bool true)) := by
  induction N with
  | zero => intro l hl; cases l <;> simp at hl
  | succ N ih =>
    intro l hl v u w hv hu
    have IH := Lib.hid ih
    have HV := Lib.hid hv
    have HU := Lib.hid hu
    obtain ⟨g, rfl, hc1, hmk, hv0⟩ := hv.form
    obtain ⟨a, cap, rfl, h1, h2, hu0⟩ := hu.form
    obtain ⟨n, hn⟩ : ∃ n, l.length = n := ⟨_, rfl⟩
    have HNL := Lib.hid hn
    have HV0 := Lib.hid hv0
    rw [hn] at hc1 hmk h1 ⊢
    clear ih hv hu hv0 hu0 hn
    go_enter Tryd.func31, Tryd.ntmps31
    go_wp2_with fail
    go_loopw [5] (fun v5 wr => ∃ (k : Nat), v5 = .int .i64 k ∧ k ≤ n ∧ Below w.heap.size w wr) (fun v5 _ => n - (intOf v5).toNat)
    case atStart => exact ⟨0, rfl, Nat.zero_le _, Below.refl _ _⟩
    case round =>
      obtain ⟨k, rfl, hk, hbw⟩ := hrel
      have hsz := hbw.size
      by_cases hlt : k < n
      · have hlt2 : k < l.length := by rw [HNL.out]; exact hlt
        obtain ⟨ui, hrec0, hin0⟩ := HV0.out k hlt2
        have hrec := hrec0.held (hbw.block g (cell_lt hrec0.c0))
        have hin := hin0.later hbw
        obtain ⟨b, off, ui2, rfl, hrec2, hin2⟩ := Reads.at (HU.out.later hbw) k hlt2
        have hins := inner_size k hlt2
        obtain ⟨r, hr⟩ : ∃ r, l[k]'hlt2 = r := ⟨_, rfl⟩
        rw [hr] at hrec hin hrec2 hin2 hins
        obtain ⟨nn, kd, x, t, i⟩ := r
        obtain ⟨c0, c1, c2, c3, c4, _, _, _, _⟩ := hrec
        obtain ⟨d0, d1, d2, d3, d4, _, _, _, _⟩ := hrec2
        simp only [Rec.number, Rec.kind, Rec.num, Rec.text, Rec.inner] at c0 c1 c2 c3 c4 d0 d1 d2 d3 d4 hin hin2 hins
        have hdb : Below wr.heap.size wr wr.drew := (Below.refl _ _).drew
        have HCALL := Lib.hid (IH.out i (by omega) ui ui2 wr.drew (hin.later hdb) (hin2.later hdb))
        obtain ⟨gi, rfl, hgi1, _, _⟩ := hin.form
        obtain ⟨ai, capi, rfl, hci1, hci2, hi0⟩ := hin2.form
        obtain ⟨T, hT⟩ : ∃ T : ByteArray, (⟨t.toArray⟩ : ByteArray) = T := ⟨_, rfl⟩
        rw [hT] at c3 d3
        have hbg := cell_lt c0
        have hbb := cell_lt d0
        have HS0 := Lib.hid (show ((wr.drew.cell? ⟨g, k * 5, none⟩ = some (.int .i64 nn) ∧ wr.drew.cell? ⟨g, k * 5 + 1, none⟩ = some (.int .i64 kd) ∧ wr.drew.cell? ⟨g, k * 5 + 2, none⟩ = some (.int .i64 x) ∧ wr.drew.cell? ⟨g, k * 5 + 3, none⟩ = some (.string T) ∧ wr.drew.cell? ⟨g, k * 5 + 4, none⟩ = some (.slice (some ⟨gi, 0, none⟩) i.length (i.length + 1))) ∧ (wr.drew.cell? ⟨b, off + k * 5, none⟩ = some (.int .i64 nn) ∧ wr.drew.cell? ⟨b, off + k * 5 + 1, none⟩ = some (.int .i64 kd) ∧ wr.drew.cell? ⟨b, off + k * 5 + 2, none⟩ = some (.int .i64 x) ∧ wr.drew.cell? ⟨b, off + k * 5 + 3, none⟩ = some (.string T) ∧ wr.drew.cell? ⟨b, off + k * 5 + 4, none⟩ = some (.slice ai i.length capi))) ∧ Below wr.heap.size wr wr.drew from keep_ten ⟨⟨⟨c0, c1, c2, c3, c4⟩, d0, d1, d2, d3, d4⟩, Below.refl _ _⟩ hdb)
        have HBW := Lib.hid hbw
        clear hi0 hr hin hin2 hins hdb hT hrec0 hin0 hbw
        go_wp2_with fail
        go_region_held3 (fun w' => ((w'.cell? ⟨g, k * 5, none⟩ = some (.int .i64 nn) ∧ w'.cell? ⟨g, k * 5 + 1, none⟩ = some (.int .i64 kd) ∧ w'.cell? ⟨g, k * 5 + 2, none⟩ = some (.int .i64 x) ∧ w'.cell? ⟨g, k * 5 + 3, none⟩ = some (.string T) ∧ w'.cell? ⟨g, k * 5 + 4, none⟩ = some (.slice (some ⟨gi, 0, none⟩) i.length (i.length + 1))) ∧ (w'.cell? ⟨b, off + k * 5, none⟩ = some (.int .i64 nn) ∧ w'.cell? ⟨b, off + k * 5 + 1, none⟩ = some (.int .i64 kd) ∧ w'.cell? ⟨b, off + k * 5 + 2, none⟩ = some (.int .i64 x) ∧ w'.cell? ⟨b, off + k * 5 + 3, none⟩ = some (.string T) ∧ w'.cell? ⟨b, off + k * 5 + 4, none⟩ = some (.slice ai i.length capi))) ∧ Below wr.heap.size wr w')
          (first | exact keep_ten (by assumption) (by assumption) | exact HS0.out)
          (first | (go_at_call 31; refine HCALL.out.mono ?_; rintro e x1 ⟨rfl, hx1⟩))
        have hS1 : Below wr.heap.size wr x1 := (by assumption : _ ∧ Below wr.heap.size wr x1).2
        have HBX := Lib.hid (HBW.out.trans (hS1.mono hsz))
        clear hS1 hx1
        go_wp2_with fail
        go_roundw
        case rel => exact ⟨k + 1, by simp, by omega, HBX.out⟩
        case measure => simp [intOf] <;> omega
      · have hge : n ≤ k := by omega
        go_wp2_with fail
        go_ret
        exact ⟨rfl, hbw⟩
end Go.Proofs.YtecmhpncgdjgjaaDoor
