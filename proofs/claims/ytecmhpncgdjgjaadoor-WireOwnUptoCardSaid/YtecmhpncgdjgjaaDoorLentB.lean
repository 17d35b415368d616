/-
  lent of the statements, walked: records lent, a mark behind each list. Conditions: lists of no more than 1048576 records.
-/
import Derived.Test.YtecmhpncgdjgjaaDoorLent
import Derived.Test.YtecmhpncgdjgjaaDoorLentA
namespace Go.Proofs.YtecmhpncgdjgjaaDoor
open Go.RowKit
set_option linter.unusedVariables false
set_option linter.unusedSimpArgs false

/-- What lent leaves. -/
def LentOut (w : World) (l : List Rec) (e : Ending) (w' : World) : Prop :=
  ∃ v, e = .returned v ∧ LentR (fun k => w.heap.size ≤ k) w' v l ∧ Below w.heap.size w w'

theorem five_other (wr : World) (g o : Nat) (a b c d e : Value) (k : Nat) (hk : k ≠ g) : (((((wr.setCell ⟨g, o, none⟩ a).setCell ⟨g, o + 1, none⟩ b).setCell ⟨g, o + 2, none⟩ c).setCell ⟨g, o + 3, none⟩ d).setCell ⟨g, o + 4, none⟩ e).heap[k]? = wr.heap[k]? := by
  rw [Below.heap_setCell _ _ _ _ (by exact hk), Below.heap_setCell _ _ _ _ (by exact hk), Below.heap_setCell _ _ _ _ (by exact hk), Below.heap_setCell _ _ _ _ (by exact hk), Below.heap_setCell _ _ _ _ (by exact hk)]
theorem five_below (wr : World) (g o : Nat) (a b c d e : Value) : Below g wr (((((wr.setCell ⟨g, o, none⟩ a).setCell ⟨g, o + 1, none⟩ b).setCell ⟨g, o + 2, none⟩ c).setCell ⟨g, o + 3, none⟩ d).setCell ⟨g, o + 4, none⟩ e) :=
  (((((Below.refl g wr).setCell (p := ⟨g, o, none⟩) (Nat.le_refl _) a).setCell (p := ⟨g, o + 1, none⟩) (Nat.le_refl _) b).setCell (p := ⟨g, o + 2, none⟩) (Nat.le_refl _) c).setCell (p := ⟨g, o + 3, none⟩) (Nat.le_refl _) d).setCell (p := ⟨g, o + 4, none⟩) (Nat.le_refl _) e
/-- A list lent, as the call's own row holds it. -/
theorem lent_done {P : Nat → Prop} {w : World} {g : Nat} {A : List (Rec × Value)} {l : List Rec} {u : Value} {Z : List Value} (h : w.heap[g]? = some (.cells (rcells (A ++ [(.mk 91 0 0 [] [], u)]) ++ Z).toArray 53 (0, 0))) (hm : A.map (·.1) = l) (hl : l.length + 1 ≤ 9223372036854775807) (hP : P g)
    (hall : ∀ x ∈ A, RecOk x.1 ∧ LentR P w x.2 x.1.inner) : LentR P w (.slice (some ⟨g, 0, none⟩) l.length (l.length + 1)) l := by
  have hlen : l.length = A.length := by rw [← hm, List.length_map]
  have hx := Lib.cell_of_heap h
  have hat : ∀ k (hk : k < A.length + 1) j, j < 5 → w.cell? ⟨g, k * 5 + j, none⟩ = (five ((A ++ [(Rec.mk 91 0 0 [] [], u)])[k]'(by simpa using hk)))[j]? := fun k hk j hj => by
    have h9 : k < (A ++ [(Rec.mk 91 0 0 [] [], u)]).length := by simpa using hk
    have h8 : (rcells (A ++ [(Rec.mk 91 0 0 [] [], u)])).length = (A.length + 1) * 5 := by rw [rcells_len]; simp
    rw [hx, List.getElem?_toArray, List.getElem?_append_left (by rw [h8]; omega)]
    exact rcells_at _ k h9 j hj
  have hA : ∀ k (hk : k < l.length), ∃ x ∈ A, x.1 = l[k]'hk ∧ ∀ j, j < 5 → w.cell? ⟨g, k * 5 + j, none⟩ = (five x)[j]? := fun k hk => by
    have hk2 : k < A.length := by omega
    refine ⟨A[k]'hk2, List.getElem_mem hk2, ?_, fun j hj => ?_⟩
    · subst hm; rw [List.getElem_map]
    · rw [hat k (by omega) j hj, List.getElem_append_left hk2]
  refine .mk g l (fun k => ((A[k]?).getD (Rec.mk 0 0 0 [] [], .bool false)).2) hP hl (fun k hk => ?_) (fun k hk => ?_) ?_
  · have hk2 : k < A.length := by omega
    have hk3 : A[k]? = some (A[k]'hk2) := List.getElem?_eq_getElem hk2
    have hc : ∀ j, j < 5 → w.cell? ⟨g, k * 5 + j, none⟩ = (five (A[k]'hk2))[j]? := fun j hj => by rw [hat k (by omega) j hj, List.getElem_append_left hk2]
    have he : (A[k]'hk2).1 = l[k]'hk := by subst hm; rw [List.getElem_map]
    have ho := (hall _ (List.getElem_mem hk2)).1
    simp only [hk3, Option.getD_some]
    rw [← he]
    exact ⟨hc 0 (by omega), hc 1 (by omega), hc 2 (by omega), hc 3 (by omega), hc 4 (by omega), ho.n0, ho.n1, ho.n2, ho.n3⟩
  · have hk2 : k < A.length := by omega
    have hk3 : A[k]? = some (A[k]'hk2) := List.getElem?_eq_getElem hk2
    have he : (A[k]'hk2).1 = l[k]'hk := by subst hm; rw [List.getElem_map]
    simp only [hk3, Option.getD_some]
    rw [← he]
    exact (hall _ (List.getElem_mem hk2)).2
  · have h9 := hat A.length (by omega) 0 (by omega)
    rw [List.getElem_append_right (by omega)] at h9
    rw [hlen]
    simpa [five, Rec.number] using h9

set_option maxHeartbeats 2000000 in
set_option maxRecDepth 100000 in
theorem lent_any (N : Nat) : ∀ (l : List Rec), SizeOf.sizeOf l ≤ N → lensL 1048576 l → ∀ (v : Value) (w : World), Reads w v l → Calls Tryd.prog 28 #[v] w (LentOut w l) := by
  induction N with
  | zero => intro l hl; cases l <;> simp at hl
  | succ N ih =>
    intro l hl hlen v w hv
    have IH := Lib.hid ih
    have HV := Lib.hid hv
    obtain ⟨i0, hi, hz0, hz1, hz2⟩ := infoRecP
    obtain ⟨a, cap, rfl, h1, h2, hv0⟩ := hv.form
    have HLN := Lib.hid hlen
    have hll := hlen.1
    obtain ⟨n, hn⟩ : ∃ n, l.length = n := ⟨_, rfl⟩
    have HNL := Lib.hid hn
    rw [hn] at h1 hll ⊢
    clear ih hv hv0 hlen hn
    obtain ⟨M, hM⟩ : ∃ M, n + 1 = M := ⟨_, rfl⟩
    have hMi : (n : Int) + 1 = (M : Int) := by omega
    go_enter Tryd.func28, Tryd.ntmps28
    go_wp2_with (refine wpList_make_full w rfl _ _ 36 rfl w.heap.size 53 i0 (.agg #[.int .i64 0, .int .i64 0, .int .i64 0, .string ⟨#[]⟩, .slice none 0 0]) 5 Tryd.underlying36 hi hz0 hz1 .i64 .i64 M M M rfl rfl rfl rfl (by rw [hz2]; omega) (by unfold maxLen; omega) (Nat.le_refl _) ?_)
    intro w1 hmake hgm
    have hbel : Below w.heap.size w w1 := (Below.refl _ _).grown hgm (Nat.le_refl _) (fun k e => by cases e)
    have hrow : ∃ Z : List Value, Z.length = M * 5 ∧ w1.heap[w.heap.size]? = some (.cells Z.toArray 53 (0, 0)) := by
      rcases hmake.2 with ⟨e, _⟩ | ⟨g, cap2, cur, e, hbg, hg, hnc, hcm, hcs, _⟩
      · cases e
      · injection e with e1 e2 e3
        injection e1 with e4
        injection e4 with e5
        subst e5 e3
        exact ⟨cur.toList, by rw [Array.length_toList, hcs], by rw [hg]⟩
    obtain ⟨Z, hZ, hzrow⟩ := hrow
    have HZ := Lib.hid hzrow
    have HBE := Lib.hid hbel
    have HZL := Lib.hid hZ
    clear hmake hgm hbel hzrow hZ
    go_wp2_with fail
    go_loopw [4] (fun v4 wr => ∃ (k : Nat) (A : List (Rec × Value)) (Z : List Value), v4 = .int .i64 k ∧ k ≤ n ∧ A.length = k ∧ Z.length = (n - k + 1) * 5 ∧ wr.heap[w.heap.size]? = some (.cells (rcells A ++ Z).toArray 53 (0, 0)) ∧ A.map (·.1) = l.take k ∧ (∀ x ∈ A, RecOk x.1 ∧ LentR (fun k => w.heap.size ≤ k ∧ k ≠ w.heap.size) wr x.2 x.1.inner) ∧ Below w.heap.size w wr) (fun v4 _ => n - (intOf v4).toNat)
    case atStart => exact ⟨0, [], Z, rfl, Nat.zero_le _, rfl, by rw [HZL.out]; omega, HZ.out, rfl, fun x hx => by simp at hx, HBE.out⟩
    case round =>
      obtain ⟨k, A, Z, rfl, hk, hA, hZ, hrow, hmap, hall, hbw⟩ := hrel
      obtain ⟨z0, z1, z2, z3, z4, Z', rfl, hZ'⟩ := five_parts hZ
      have hcells := five_cells hrow
      rw [hA] at hcells
      obtain ⟨y0, y1, y2, y3, y4⟩ := hcells
      have hfz : ∀ j, wr.frozen? ⟨w.heap.size, j, none⟩ = false := fun j => frozen_of_row wr w.heap.size j _ _ hrow
      have hgl : w.heap.size < wr.heap.size := (Array.getElem?_eq_some_iff.1 hrow).1
      have HA := Lib.hid hA
      have HROW := Lib.hid hrow
      have HMAP := Lib.hid hmap
      have HALLX := Lib.hid hall
      have HBW := Lib.hid hbw
      have HZ2 := Lib.hid hZ'
      have hsz := hbw.size
      clear hrow hmap hall hZ hZ' hA
      by_cases hlt : k < n
      · have hlt2 : k < l.length := by rw [HNL.out]; exact hlt
        obtain ⟨b, off, ui, rfl, hrec0, hin⟩ := Reads.at HV.out k hlt2
        have hbl0 : b < w.heap.size := cell_lt hrec0.c0
        have hrec := hrec0.held (hbw.block b hbl0)
        have hbne : b ≠ w.heap.size := by omega
        have hbne2 : w.heap.size ≠ b := by omega
        clear hrec0
        have hins := inner_size k hlt2
        have HLI := Lib.hid (lensS_get HLN.out.2 k hlt2)
        have HNX := Lib.hid (fun u => take_map (u := u) hlt2 HMAP.out rfl)
        obtain ⟨r, hr⟩ : ∃ r, l[k]'hlt2 = r := ⟨_, rfl⟩
        rw [hr] at hrec hin hins HLI HNX
        have HOK := Lib.hid (show RecOk r from ⟨hrec.n0, hrec.n1, hrec.n2, hrec.n3⟩)
        obtain ⟨nn, kd, x, t, i⟩ := r
        obtain ⟨c0, c1, c2, c3, c4, _, _, _, _⟩ := hrec
        simp only [Rec.number, Rec.kind, Rec.num, Rec.text, Rec.inner] at c0 c1 c2 c3 c4 hin hins HLI
        obtain ⟨ai, capi, rfl, hci1, hci2, hi0⟩ := hin.form
        have HIN := Lib.hid hin
        have HST := Lib.hid (store_five (w := wr) (g := w.heap.size) (A := A) (z := [z0, z1, z2, z3, z4]) (Z := Z') rfl (y := (.mk nn kd x t i, .slice ai i.length capi)) HROW.out)
        rw [HA.out] at HST
        simp only [Rec.number, Rec.kind, Rec.num, Rec.text, Rec.inner] at HST
        obtain ⟨W, hW⟩ : ∃ W, (((((wr.setCell ⟨w.heap.size, k * 5, none⟩ (.int .i64 nn)).setCell ⟨w.heap.size, k * 5 + 1, none⟩ (.int .i64 kd)).setCell ⟨w.heap.size, k * 5 + 2, none⟩ (.int .i64 x)).setCell ⟨w.heap.size, k * 5 + 3, none⟩ (.string ⟨t.toArray⟩)).setCell ⟨w.heap.size, k * 5 + 4, none⟩ (.slice ai i.length capi)) = W := ⟨_, rfl⟩
        have HBE2 := Lib.hid (five_below wr w.heap.size (k * 5) (.int .i64 nn) (.int .i64 kd) (.int .i64 x) (.string ⟨t.toArray⟩) (.slice ai i.length capi))
        have HOT := Lib.hid (five_other wr w.heap.size (k * 5) (.int .i64 nn) (.int .i64 kd) (.int .i64 x) (.string ⟨t.toArray⟩) (.slice ai i.length capi))
        rw [hW] at HST HBE2 HOT
        have HW := Lib.hid hW
        have HINW := Lib.hid (HIN.out.later (HBW.out.trans HBE2.out))
        have HWS := Lib.hid (show w.heap.size < W.heap.size from Nat.lt_of_lt_of_le hgl HBE2.out.size)
        have HGL := Lib.hid hgl
        clear hi0 hr hin hbw hW hgl
        go_wp2_with fail
        rw [HW.out]
        refine (IH.out i (by omega) HLI.out _ W HINW.out).mono ?_
        rintro e w2 ⟨v, rfl, hv2, hb2⟩
        have hrow2 := (hb2.block w.heap.size HWS.out).trans HST.out
        have hfz2 : w2.frozen? ⟨w.heap.size, k * 5 + 4, none⟩ = false := frozen_of_row w2 w.heap.size _ _ _ hrow2
        have hc2 := five_cells (A := A) (Z := Z') (by rw [hrow2, rcells_snoc]; rfl)
        rw [HA.out] at hc2
        obtain ⟨_, _, _, _, hc24⟩ := hc2
        obtain ⟨g2, rfl, _, _, _⟩ := Lent.form (LentR.mono hv2 (fun _ _ => trivial) : Lent w2 v i)
        have HV2 := Lib.hid hv2
        have HB2 := Lib.hid hb2
        have HROW2 := Lib.hid hrow2
        clear hv2 hb2 hrow2 y0 y1 y2 y3 y4 c0 c1 c2 c3 c4 hfz
        go_wp2_with fail
        go_roundw
        case measure => simp [intOf] <;> omega
        case rel =>
          have h1 := store_inner (u' := .slice (some ⟨g2, 0, none⟩) i.length (i.length + 1)) HROW2.out
          rw [HA.out] at h1
          have hot : ∀ b, b ≠ w.heap.size → b < wr.heap.size → (w2.setCell ⟨w.heap.size, k * 5 + 4, none⟩ (.slice (some ⟨g2, 0, none⟩) i.length (i.length + 1))).heap[b]? = wr.heap[b]? := fun b hb hlt => by
            rw [Below.heap_setCell _ _ _ _ (by exact hb), HB2.out.block b (Nat.lt_of_lt_of_le hlt HBE2.out.size)]
            exact HOT.out b hb
          refine ⟨k + 1, A ++ [(.mk nn kd x t i, .slice (some ⟨g2, 0, none⟩) i.length (i.length + 1))], Z', by simp, by omega, by simp [HA.out], by rw [HZ2.out]; omega, h1, HNX.out _, fun y hy => ?_, ?_⟩
          · rcases List.mem_append.1 hy with hy | hy
            · exact ⟨(HALLX.out y hy).1, (HALLX.out y hy).2.held fun b hb hlt => hot b hb.2 hlt⟩
            · rw [List.mem_singleton] at hy
              subst hy
              refine ⟨HOK.out, (LentR.mono HV2.out (fun b (hb : W.heap.size ≤ b) => ?_)).held (fun b hb hlt => Below.heap_setCell _ _ _ _ (by exact hb.2))⟩
              have := HWS.out
              omega
          · exact ((HBW.out.trans HBE2.out).trans (HB2.out.mono (Nat.le_of_lt HWS.out))).setCell (p := ⟨w.heap.size, k * 5 + 4, none⟩) (Nat.le_refl _) _
      · have hkn : k = n := by omega
        subst hkn
        have HST := Lib.hid (store_five (w := wr) (g := w.heap.size) (A := A) (z := [z0, z1, z2, z3, z4]) (Z := Z') rfl (y := (.mk 91 0 0 [] [], .slice none 0 0)) HROW.out)
        rw [HA.out] at HST
        simp only [Rec.number, Rec.kind, Rec.num, Rec.text, Rec.inner] at HST
        have HBE2 := Lib.hid (five_below wr w.heap.size (k * 5) (.int .i64 91) (.int .i64 0) (.int .i64 0) (.string ⟨#[]⟩) (.slice none 0 0))
        have HOT := Lib.hid (five_other wr w.heap.size (k * 5) (.int .i64 91) (.int .i64 0) (.int .i64 0) (.string ⟨#[]⟩) (.slice none 0 0))
        clear hbw
        go_wp2_with fail
        go_ret
        have hlen := HNL.out
        have h9 := lent_done (P := fun b => w.heap.size ≤ b) HST.out (by rw [HMAP.out, ← hlen, List.take_length]) (by omega) (Nat.le_refl _) (fun y hy => ⟨(HALLX.out y hy).1, ((HALLX.out y hy).2.held fun b hb hlt => HOT.out b hb.2).mono fun b hb => hb.1⟩)
        rw [hlen, hM] at h9
        exact ⟨_, rfl, h9, HBW.out.trans HBE2.out⟩
end Go.Proofs.YtecmhpncgdjgjaaDoor
