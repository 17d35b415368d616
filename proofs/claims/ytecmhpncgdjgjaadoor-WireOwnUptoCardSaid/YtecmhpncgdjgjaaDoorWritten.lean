/-
  Twin and lent of the statements, walked again: where what they make lies; records written over where they lie. Conditions: as there.
  written of the statements, walked: bytes and records of the call's own are asked of, written over, and asked of again. Conditions: no more than 1048576 records in a list.
-/
import Derived.Test.YtecmhpncgdjgjaaDoorTwin
import Derived.Test.YtecmhpncgdjgjaaDoorLentB
import Derived.Test.YtecmhpncgdjgjaaDoorSplit
import Derived.Test.YtecmhpncgdjgjaaDoorSameRecs
import Derived.Test.YtecmhpncgdjgjaaDoorJoinAll
import Derived.Test.YtecmhpncgdjgjaaDoorTwins
namespace Go.Proofs.YtecmhpncgdjgjaaDoor
open Go.RowKit
set_option linter.unusedVariables false
set_option linter.unusedSimpArgs false

/-- Bytes of the caller's own, in a block that is told. -/
def NewsX (w : World) (l : List UInt8) (e : Ending) (w' : World) : Prop :=
  ∃ g, e = .returned (.slice (some ⟨g, 0, none⟩) l.length l.length) ∧ OwnB w' w.heap.size (.slice (some ⟨g, 0, none⟩) l.length l.length) l ∧ Below w.heap.size w w'
/-- Records lent, in a block that is told. -/
def LentXOut (w : World) (l : List Rec) (e : Ending) (w' : World) : Prop :=
  ∃ (g : Nat) (A : List (Rec × Value)) (Z : List Value), e = .returned (.slice (some ⟨g, 0, none⟩) l.length (l.length + 1)) ∧ w.heap.size ≤ g ∧ w'.heap[g]? = some (.cells (rcells (A ++ [(.mk 91 0 0 [] [], .slice none 0 0)]) ++ Z).toArray 53 (0, 0)) ∧ Z.length = 0 ∧
    A.map (·.1) = l ∧ (∀ x ∈ A, RecOk x.1 ∧ LentR (fun k => w.heap.size ≤ k ∧ k ≠ g) w' x.2 x.1.inner) ∧ Below w.heap.size w w'

set_option maxHeartbeats 2000000 in
set_option maxRecDepth 100000 in
theorem twinX_any (w : World) (b : List UInt8) (v : Value) (h : BytesAt (fun _ => True) w v b) (hb : b.length ≤ 140737488355000) : Calls Tryd.prog 37 #[v] w (NewsX w b) := by
  have HH := Lib.hid h
  obtain ⟨a, cap, rfl, h1, h2, h3⟩ := h
  obtain ⟨i0, hi, hz0, hz1, hz2⟩ := info_parts infoB
  obtain ⟨N, hN⟩ : ∃ N, b.length = N := ⟨_, rfl⟩
  have hsz1 : (Tryd.prog.info? 5).map (·.size) = some 1 := by rw [hi]; simp [hz1]
  clear h3
  rw [hN] at h1 hb ⊢
  go_enter Tryd.func37, Tryd.ntmps37
  go_wp2_with (refine wpList_make_full w rfl _ _ 24 rfl w.heap.size 5 i0 (.int .u8 0) 1 Tryd.underlying24 hi hz0 hz1 .i64 .i64 N N N rfl rfl rfl rfl (by rw [hz2]; omega) (by unfold maxLen; omega) (Nat.le_refl _) ?_)
  intro w1 hmake hgm
  have hbel : Below w.heap.size w w1 := (Below.refl _ _).grown hgm (Nat.le_refl _) (fun k e => by cases e)
  have hrow : ∃ Z : List Value, Z.length = N ∧ w1.heap[w.heap.size]? = some (.cells Z.toArray 5 (0, 0)) := by
    rcases hmake.2 with ⟨e, _⟩ | ⟨g, cap2, cur, e, hbg, hg, hnc, hcm, hcs, _⟩
    · cases e
    · injection e with e1 e2 e3
      injection e1 with e4
      injection e4 with e5
      subst e5 e3
      exact ⟨cur.toList, by rw [Array.length_toList, hcs]; omega, by rw [hg]⟩
  obtain ⟨Z, hZ, hzrow⟩ := hrow
  have HZ := Lib.hid hzrow
  have HBE := Lib.hid hbel
  have hbl : (Lib.byteCells b).length = N := by rw [Lib.byteCells_length, hN]
  clear hmake hgm hbel hzrow
  rw [hN] at HH
  go_wp2_with (refine wpList_copy_splice rfl _ _ 24 24 rfl 5 Tryd.underlying24 hsz1 _ _ N N N cap rfl rfl w.heap.size 0 Z 5 HZ.out (Lib.byteCells b) (by rw [hbl]; exact (Nat.min_self _).symm) (fun h0 => ⟨rfl, bytes_cells (HH.out.later HBE.out) h0⟩) (by omega) (byteCells_ones b) w.heap.size w HBE.out (Nat.le_refl _) ?_)
  intro w2 hrow2 hbel2
  have hsp : splice Z 0 (Lib.byteCells b) = Lib.byteCells b := by
    unfold splice
    simp
    rw [hbl]
    omega
  rw [hsp] at hrow2
  have HO := Lib.hid (show OwnB w2 w.heap.size (.slice (some ⟨w.heap.size, 0, none⟩) N N) b by
    have := OwnB.of_row (Nat.le_refl _) hrow2.out (by omega)
    rw [hN] at this
    exact this)
  have HBE2 := Lib.hid hbel2
  clear hrow2 hbel2 hsp
  go_wp2_with fail
  go_ret
  refine ⟨w.heap.size, ?_, ?_, HBE2.out⟩
  · rw [hN]; rfl
  · rw [hN]; exact HO.out

set_option maxHeartbeats 2000000 in
set_option maxRecDepth 100000 in
theorem lentX_any (l : List Rec) (hlen : lensL 1048576 l) (v : Value) (w : World) (hv : Reads w v l) : Calls Tryd.prog 28 #[v] w (LentXOut w l) := by
    have IH := Lib.hid (lent_any (SizeOf.sizeOf l))
    have HV := Lib.hid hv
    obtain ⟨i0, hi, hz0, hz1, hz2⟩ := infoRecP
    obtain ⟨a, cap, rfl, h1, h2, hv0⟩ := hv.form
    have HLN := Lib.hid hlen
    have hll := hlen.1
    obtain ⟨n, hn⟩ : ∃ n, l.length = n := ⟨_, rfl⟩
    have HNL := Lib.hid hn
    rw [hn] at h1 hll ⊢
    clear hv hv0 hlen hn
    obtain ⟨M, hM⟩ : ∃ M, n + 1 = M := ⟨_, rfl⟩
    have hMi : (n : Int) + 1 = (M : Int) := by omega
    go_enter Tryd.func28, Tryd.ntmps28
    go_wp2_with (refine wpList_make_full w rfl _ _ 36 rfl w.heap.size 53 i0 (.agg #[.int .i64 0, .int .i64 0, .int .i64 0, .string ⟨#[]⟩, .slice none 0 0]) 5 Tryd.underlying36 hi hz0 hz1 .i64 .i64 M M M rfl rfl rfl rfl (by rw [hz2]; omega) (by unfold maxLen; omega) (Nat.le_refl _) ?_)
    intro w1 hmake hgm
    have hbel : Below w.heap.size w w1 := (Below.refl _ _).grown hgm (Nat.le_refl _) (fun k e => by cases e)
    have hrow : ∃ Z : List Value, Z.length = M * 5 ∧ w1.heap[w.heap.size]? = some (.cells Z.toArray 53 (0, 0)) := by
      rcases hmake.2 with ⟨e, _⟩ | ⟨g, cap2, cur, e, hbg, hg, hnc, hcm, hcs, _⟩
      · cases e
      · injection e with e1 e2 e3
        injection e1 with e4
        injection e4 with e5
        subst e5 e3
        exact ⟨cur.toList, by rw [Array.length_toList, hcs], by rw [hg]⟩
    obtain ⟨Z, hZ, hzrow⟩ := hrow
    have HZ := Lib.hid hzrow
    have HBE := Lib.hid hbel
    have HZL := Lib.hid hZ
    clear hmake hgm hbel hzrow hZ
    go_wp2_with fail
    go_loopw [4] (fun v4 wr => ∃ (k : Nat) (A : List (Rec × Value)) (Z : List Value), v4 = .int .i64 k ∧ k ≤ n ∧ A.length = k ∧ Z.length = (n - k + 1) * 5 ∧ wr.heap[w.heap.size]? = some (.cells (rcells A ++ Z).toArray 53 (0, 0)) ∧ A.map (·.1) = l.take k ∧ (∀ x ∈ A, RecOk x.1 ∧ LentR (fun k => w.heap.size ≤ k ∧ k ≠ w.heap.size) wr x.2 x.1.inner) ∧ Below w.heap.size w wr) (fun v4 _ => n - (intOf v4).toNat)
    case atStart => exact ⟨0, [], Z, rfl, Nat.zero_le _, rfl, by rw [HZL.out]; omega, HZ.out, rfl, fun x hx => by simp at hx, HBE.out⟩
    case round =>
      obtain ⟨k, A, Z, rfl, hk, hA, hZ, hrow, hmap, hall, hbw⟩ := hrel
      obtain ⟨z0, z1, z2, z3, z4, Z', rfl, hZ'⟩ := five_parts hZ
      have hcells := five_cells hrow
      rw [hA] at hcells
      obtain ⟨y0, y1, y2, y3, y4⟩ := hcells
      have hfz : ∀ j, wr.frozen? ⟨w.heap.size, j, none⟩ = false := fun j => frozen_of_row wr w.heap.size j _ _ hrow
      have hgl : w.heap.size < wr.heap.size := (Array.getElem?_eq_some_iff.1 hrow).1
      have HA := Lib.hid hA
      have HROW := Lib.hid hrow
      have HMAP := Lib.hid hmap
      have HALLX := Lib.hid hall
      have HBW := Lib.hid hbw
      have HZ2 := Lib.hid hZ'
      have hsz := hbw.size
      clear hrow hmap hall hZ hZ' hA
      by_cases hlt : k < n
      · have hlt2 : k < l.length := by rw [HNL.out]; exact hlt
        obtain ⟨b, off, ui, rfl, hrec0, hin⟩ := Reads.at HV.out k hlt2
        have hbl0 : b < w.heap.size := cell_lt hrec0.c0
        have hrec := hrec0.held (hbw.block b hbl0)
        have hbne : b ≠ w.heap.size := by omega
        have hbne2 : w.heap.size ≠ b := by omega
        clear hrec0
        have hins := inner_size k hlt2
        have HLI := Lib.hid (lensS_get HLN.out.2 k hlt2)
        have HNX := Lib.hid (fun u => take_map (u := u) hlt2 HMAP.out rfl)
        obtain ⟨r, hr⟩ : ∃ r, l[k]'hlt2 = r := ⟨_, rfl⟩
        rw [hr] at hrec hin hins HLI HNX
        have HOK := Lib.hid (show RecOk r from ⟨hrec.n0, hrec.n1, hrec.n2, hrec.n3⟩)
        obtain ⟨nn, kd, x, t, i⟩ := r
        obtain ⟨c0, c1, c2, c3, c4, _, _, _, _⟩ := hrec
        simp only [Rec.number, Rec.kind, Rec.num, Rec.text, Rec.inner] at c0 c1 c2 c3 c4 hin hins HLI
        obtain ⟨ai, capi, rfl, hci1, hci2, hi0⟩ := hin.form
        have HIN := Lib.hid hin
        have HST := Lib.hid (store_five (w := wr) (g := w.heap.size) (A := A) (z := [z0, z1, z2, z3, z4]) (Z := Z') rfl (y := (.mk nn kd x t i, .slice ai i.length capi)) HROW.out)
        rw [HA.out] at HST
        simp only [Rec.number, Rec.kind, Rec.num, Rec.text, Rec.inner] at HST
        obtain ⟨W, hW⟩ : ∃ W, (((((wr.setCell ⟨w.heap.size, k * 5, none⟩ (.int .i64 nn)).setCell ⟨w.heap.size, k * 5 + 1, none⟩ (.int .i64 kd)).setCell ⟨w.heap.size, k * 5 + 2, none⟩ (.int .i64 x)).setCell ⟨w.heap.size, k * 5 + 3, none⟩ (.string ⟨t.toArray⟩)).setCell ⟨w.heap.size, k * 5 + 4, none⟩ (.slice ai i.length capi)) = W := ⟨_, rfl⟩
        have HBE2 := Lib.hid (five_below wr w.heap.size (k * 5) (.int .i64 nn) (.int .i64 kd) (.int .i64 x) (.string ⟨t.toArray⟩) (.slice ai i.length capi))
        have HOT := Lib.hid (five_other wr w.heap.size (k * 5) (.int .i64 nn) (.int .i64 kd) (.int .i64 x) (.string ⟨t.toArray⟩) (.slice ai i.length capi))
        rw [hW] at HST HBE2 HOT
        have HW := Lib.hid hW
        have HINW := Lib.hid (HIN.out.later (HBW.out.trans HBE2.out))
        have HWS := Lib.hid (show w.heap.size < W.heap.size from Nat.lt_of_lt_of_le hgl HBE2.out.size)
        have HGL := Lib.hid hgl
        clear hi0 hr hin hbw hW hgl
        go_wp2_with fail
        rw [HW.out]
        refine (IH.out i (by omega) HLI.out _ W HINW.out).mono ?_
        rintro e w2 ⟨v, rfl, hv2, hb2⟩
        have hrow2 := (hb2.block w.heap.size HWS.out).trans HST.out
        have hfz2 : w2.frozen? ⟨w.heap.size, k * 5 + 4, none⟩ = false := frozen_of_row w2 w.heap.size _ _ _ hrow2
        have hc2 := five_cells (A := A) (Z := Z') (by rw [hrow2, rcells_snoc]; rfl)
        rw [HA.out] at hc2
        obtain ⟨_, _, _, _, hc24⟩ := hc2
        obtain ⟨g2, rfl, _, _, _⟩ := Lent.form (LentR.mono hv2 (fun _ _ => trivial) : Lent w2 v i)
        have HV2 := Lib.hid hv2
        have HB2 := Lib.hid hb2
        have HROW2 := Lib.hid hrow2
        clear hv2 hb2 hrow2 y0 y1 y2 y3 y4 c0 c1 c2 c3 c4 hfz
        go_wp2_with fail
        go_roundw
        case measure => simp [intOf] <;> omega
        case rel =>
          have h1 := store_inner (u' := .slice (some ⟨g2, 0, none⟩) i.length (i.length + 1)) HROW2.out
          rw [HA.out] at h1
          have hot : ∀ b, b ≠ w.heap.size → b < wr.heap.size → (w2.setCell ⟨w.heap.size, k * 5 + 4, none⟩ (.slice (some ⟨g2, 0, none⟩) i.length (i.length + 1))).heap[b]? = wr.heap[b]? := fun b hb hlt => by
            rw [Below.heap_setCell _ _ _ _ (by exact hb), HB2.out.block b (Nat.lt_of_lt_of_le hlt HBE2.out.size)]
            exact HOT.out b hb
          refine ⟨k + 1, A ++ [(.mk nn kd x t i, .slice (some ⟨g2, 0, none⟩) i.length (i.length + 1))], Z', by simp, by omega, by simp [HA.out], by rw [HZ2.out]; omega, h1, HNX.out _, fun y hy => ?_, ?_⟩
          · rcases List.mem_append.1 hy with hy | hy
            · exact ⟨(HALLX.out y hy).1, (HALLX.out y hy).2.held fun b hb hlt => hot b hb.2 hlt⟩
            · rw [List.mem_singleton] at hy
              subst hy
              refine ⟨HOK.out, (LentR.mono HV2.out (fun b (hb : W.heap.size ≤ b) => ?_)).held (fun b hb hlt => Below.heap_setCell _ _ _ _ (by exact hb.2))⟩
              have := HWS.out
              omega
          · exact ((HBW.out.trans HBE2.out).trans (HB2.out.mono (Nat.le_of_lt HWS.out))).setCell (p := ⟨w.heap.size, k * 5 + 4, none⟩) (Nat.le_refl _) _
      · have hkn : k = n := by omega
        subst hkn
        have HST := Lib.hid (store_five (w := wr) (g := w.heap.size) (A := A) (z := [z0, z1, z2, z3, z4]) (Z := Z') rfl (y := (.mk 91 0 0 [] [], .slice none 0 0)) HROW.out)
        rw [HA.out] at HST
        simp only [Rec.number, Rec.kind, Rec.num, Rec.text, Rec.inner] at HST
        have HBE2 := Lib.hid (five_below wr w.heap.size (k * 5) (.int .i64 91) (.int .i64 0) (.int .i64 0) (.string ⟨#[]⟩) (.slice none 0 0))
        have HOT := Lib.hid (five_other wr w.heap.size (k * 5) (.int .i64 91) (.int .i64 0) (.int .i64 0) (.string ⟨#[]⟩) (.slice none 0 0))
        clear hbw
        go_wp2_with fail
        go_ret
        have hlen := HNL.out
        refine ⟨w.heap.size, A, _, ?_, Nat.le_refl _, HST.out, by have := HZ2.out; omega, by rw [HMAP.out, ← hlen, List.take_length], fun y hy => ⟨(HALLX.out y hy).1, (HALLX.out y hy).2.held fun b hb hlt => HOT.out b hb.2⟩, HBW.out.trans HBE2.out⟩
        rw [hlen, hM]
        rfl
end Go.Proofs.YtecmhpncgdjgjaaDoor

namespace Go.Proofs.YtecmhpncgdjgjaaDoor
open Go.RowKit
set_option linter.unusedVariables false
set_option linter.unusedSimpArgs false

theorem reads_of_row {w : World} {g cap : Nat} {A : List (Rec × Value)} {Z : List Value} (h : w.heap[g]? = some (.cells (rcells A ++ Z).toArray 53 (0, 0))) (hok : ∀ x ∈ A, RecOk x.1 ∧ Reads w x.2 x.1.inner) (hc : A.length ≤ cap) (hm : cap ≤ 9223372036854775807) :
    Reads w (.slice (some ⟨g, 0, none⟩) A.length cap) (A.map (·.1)) := by
  have hx := Lib.cell_of_heap h
  have hlen : (A.map (·.1)).length = A.length := List.length_map _
  have hat : ∀ k (hk : k < A.length) j, j < 5 → w.cell? ⟨g, 0 + k * 5 + j, none⟩ = (five (A[k]'hk))[j]? := fun k hk j hj => by
    rw [Nat.zero_add, hx, List.getElem?_toArray, List.getElem?_append_left (by rw [rcells_len]; omega)]
    exact rcells_at _ k hk j hj
  have hX : Reads w (.slice (some ⟨g, 0, none⟩) (A.map (·.1)).length cap) (A.map (·.1)) := by
    refine ReadsR.some (P := fun _ => True) g 0 cap (A.map (·.1)) (fun k => ((A[k]?).getD (Rec.mk 0 0 0 [] [], .bool false)).2) trivial (by rw [hlen]; exact hc) hm (fun k hk => ?_) (fun k hk => ?_)
    · have hk' : k < A.length := by rwa [hlen] at hk
      have ho := (hok _ (List.getElem_mem hk')).1
      rw [List.getElem_map, List.getElem?_eq_getElem hk']
      exact ⟨hat k hk' 0 (by omega), hat k hk' 1 (by omega), hat k hk' 2 (by omega), hat k hk' 3 (by omega), hat k hk' 4 (by omega), ho.n0, ho.n1, ho.n2, ho.n3⟩
    · have hk' : k < A.length := by rwa [hlen] at hk
      rw [List.getElem_map, List.getElem?_eq_getElem hk']
      exact (hok _ (List.getElem_mem hk')).2
  rw [hlen] at hX
  exact hX

theorem row_set (A : List (Rec × Value)) (k : Nat) (hk : k < A.length) (j : Nat) (hj : j < 5) (v : Value) (y : Rec × Value) (hy : (five (A[k]'hk)).set j v = five y) (Z : List Value) : (rcells A ++ Z).set (k * 5 + j) v = rcells (A.set k y) ++ Z := by
  have h1 : A = A.take k ++ (A[k]'hk) :: A.drop (k + 1) := by rw [← List.drop_eq_getElem_cons hk, List.take_append_drop]
  have h2 : A.set k y = A.take k ++ y :: A.drop (k + 1) := by
    rw [List.set_eq_take_append_cons_drop, if_pos hk]
  have hl : (A.take k).length = k := by rw [List.length_take]; omega
  have h3 : rcells A ++ Z = rcells (A.take k) ++ (five (A[k]'hk) ++ (rcells (A.drop (k + 1)) ++ Z)) := by
    have h5 : rcells A = rcells (A.take k) ++ (five (A[k]'hk) ++ rcells (A.drop (k + 1))) := (congrArg rcells h1).trans (by rw [rcells_append]; rfl)
    rw [h5]
    simp only [List.append_assoc]
  have h4 := rcells_set (A.take k) (five (A[k]'hk)) (rcells (A.drop (k + 1)) ++ Z) rfl j hj v
  rw [hl] at h4
  rw [h3, h4, h2, hy]
  simp [rcells]

theorem lens_of {M : Nat} {l : List Rec} (hl : l.length ≤ M) (h : ∀ r ∈ l, lensL M r.inner) : lensL M l := by
  refine ⟨hl, ?_⟩
  clear hl
  induction l with
  | nil => trivial
  | cons r rs ih =>
    obtain ⟨n, k, x, t, i⟩ := r
    exact ⟨h _ (List.mem_cons_self ..), ih fun r hr => h r (List.mem_cons_of_mem _ hr)⟩
theorem lens_inner {M : Nat} {l : List Rec} (h : lensL M l) : ∀ r ∈ l, lensL M r.inner := fun r hr => by
  obtain ⟨k, hk, rfl⟩ := List.getElem_of_mem hr
  exact lensS_get h.2 k hk

theorem xor3 : ∀ n : Fin 256, bits BinOp.xor IntKind.u8 (n.val : Int) 3 = ((UInt8.ofNat n.val ^^^ 3).toNat : Int) := by decide +kernel
theorem xor_three (c : UInt8) : bits BinOp.xor IntKind.u8 (c.toNat : Int) 3 = ((c ^^^ 3).toNat : Int) := by
  have h := xor3 ⟨c.toNat, c.toNat_lt⟩
  simpa using h

def bumpR (r : Rec) : Rec := .mk r.number r.kind (wrap64 (r.num + 1)) r.text r.inner
def fiveN (r : Rec) : Rec := .mk 5 r.kind r.num r.text r.inner
theorem row_store {w : World} {g : Nat} {A : List (Rec × Value)} {Z : List Value} (h : w.heap[g]? = some (.cells (rcells A ++ Z).toArray 53 (0, 0))) (k : Nat) (hk : k < A.length) (j : Nat) (hj : j < 5) (v : Value) (y : Rec × Value) (hy : (five (A[k]'hk)).set j v = five y) :
    (w.setCell ⟨g, k * 5 + j, none⟩ v).heap[g]? = some (.cells (rcells (A.set k y) ++ Z).toArray 53 (0, 0)) := by
  rw [heap_setCell_same w g (k * 5 + j) _ 53 v h, List.setIfInBounds_toArray, row_set A k hk j hj v y hy Z]
theorem row_get {w : World} {g : Nat} {A : List (Rec × Value)} {Z : List Value} (h : w.heap[g]? = some (.cells (rcells A ++ Z).toArray 53 (0, 0))) (k : Nat) (hk : k < A.length) (j : Nat) (hj : j < 5) : w.cell? ⟨g, k * 5 + j, none⟩ = (five (A[k]'hk))[j]? := by
  rw [Lib.cell_of_heap h, List.getElem?_toArray, List.getElem?_append_left (by rw [rcells_len]; omega)]
  exact rcells_at _ k hk j hj

set_option maxHeartbeats 8000000 in
set_option maxRecDepth 100000 in
theorem written_any (B gb g : Nat) (b : List UInt8) (l : List Rec) (A : List (Rec × Value)) (w : World) (hB : B ≤ w.heap.size) (hb : w.ownsRow B 5 1 (.slice (some ⟨gb, 0, none⟩) b.length b.length) b.length (Lib.byteCells b)) (hbl : b.length ≤ 1048576)
    (hg : w.heap[g]? = some (.cells (rcells (A ++ [(.mk 91 0 0 [] [], .slice none 0 0)])).toArray 53 (0, 0))) (hA : A.map (·.1) = l) (hall : ∀ x ∈ A, RecOk x.1 ∧ ReadsR (fun k => k ≠ g ∧ k ≠ gb) w x.2 x.1.inner) (hBg : B ≤ g) (hlen : lensL 1048576 l) :
    Calls Tryd.prog 47 #[.slice (some ⟨gb, 0, none⟩) b.length b.length, .slice (some ⟨g, 0, none⟩) l.length (l.length + 1)] w fun e w' => e = .returned (.bool true) ∧ Below B w w' := by
  have hgl : g < w.heap.size := (Array.getElem?_eq_some_iff.1 hg).1
  have hgb : gb ≠ g := fun e => by
    obtain ⟨c, fz, h⟩ := tw_kind hb gb rfl
    subst e
    rw [hg] at h
    injection h with h1
    injection h1 with _ h2
    exact absurd h2 (by decide)
  have hgbB : B ≤ gb := (hb.lt gb rfl).1
  obtain ⟨N, hN⟩ : ∃ N, b.length = N := ⟨_, rfl⟩
  rw [hN] at hb hbl ⊢
  have HB0 := Lib.hid hb
  have HG := Lib.hid hg
  have HAL := Lib.hid hall
  have HA := Lib.hid hA
  have HLN := Lib.hid hlen
  have HN := Lib.hid hN
  obtain ⟨n, hn⟩ : ∃ n, l.length = n := ⟨_, rfl⟩
  have HNL := Lib.hid hn
  have hnl : n ≤ 1048576 := by rw [← hn]; exact hlen.1
  obtain ⟨i0, hi0, hz0, hz1, hz2⟩ := info_parts infoB
  rw [hn]
  clear hb hg hall hA hlen hN hn
  go_enter Tryd.func47, Tryd.ntmps47
  go_wp2_with fail
  go_loopw [5] (fun v5 wr => ∃ (k : Nat) (c : List UInt8), v5 = .int .i64 k ∧ k ≤ 2 ∧ c.length = N ∧ wr.ownsRow B 5 1 (.slice (some ⟨gb, 0, none⟩) N N) N (Lib.byteCells c) ∧ (∀ j, j < w.heap.size → j ≠ gb → wr.heap[j]? = w.heap[j]?) ∧ Below B w wr) (fun v5 _ => 2 - (intOf v5).toNat)
  case atStart => exact ⟨0, b, rfl, by omega, HN.out, HB0.out, fun _ _ _ => rfl, Below.refl _ _⟩
  case round =>
    obtain ⟨k, c, rfl, hk, hcl, hown, hoth, hbw⟩ := hrel
    have HCL := Lib.hid hcl
    have HOW := Lib.hid hown
    have HOT := Lib.hid hoth
    have HBW := Lib.hid hbw
    have hsz := hbw.size
    clear hcl hown hoth hbw
    by_cases hlt : k < 2
    · have hkd : decide ((k : Int) < 2) = true := by simp; omega
      have HBA := Lib.hid (show BytesAt (fun _ => True) wr (.slice (some ⟨gb, 0, none⟩) N N) c from by
        have h := OwnB.reads (w := wr) (B := B) (b := c) (v := .slice (some ⟨gb, 0, none⟩) N N) (by unfold OwnB; rw [HCL.out]; exact HOW.out)
        exact h.mono fun _ _ => trivial)
      go_wp2_with fail
      refine (wSplit_any wr _ c _ HBA.out).mono ?_
      rintro e w1 ⟨v1, rfl, _, _, hb1⟩
      have HO1 := Lib.hid (ownsRow_later HOW.out hb1)
      have HB1 := Lib.hid (HBW.out.trans (hb1.mono (by omega)))
      have HT1 := Lib.hid (show ∀ j, j < w.heap.size → j ≠ gb → w1.heap[j]? = w.heap[j]? from fun j hj hne => (hb1.block j (by omega)).trans (HOT.out j hj hne))
      have hs1 : w.heap.size ≤ w1.heap.size := by have := hb1.size; omega
      clear hb1
      by_cases hN0 : 0 < N
      · have hh : N / 2 < N := by omega
        have hhc : N / 2 < c.length := by rw [HCL.out]; exact hh
        have hcell : w1.cell? ⟨gb, N / 2, none⟩ = some (.int .u8 ((c[N / 2]'hhc).toNat : Int)) := by
          rw [HO1.out.cellAt _ (by omega)]; simp [Lib.byteCells, hhc]
        have hfz : w1.frozen? ⟨gb, N / 2, none⟩ = false := HO1.out.frozenAt _
        obtain ⟨y, hy⟩ : ∃ y, c[N / 2]'hhc = y := ⟨_, rfl⟩
        rw [hy] at hcell
        obtain ⟨h2, hh2⟩ : ∃ h2, N / 2 = h2 := ⟨_, rfl⟩
        have hdiv : (N : Int) / 2 = (h2 : Int) := by omega
        rw [hh2] at hcell hfz hh
        have hxor := xor_three y
        have HHB := Lib.hid hh2
        have hN0' : (0 : Int) < (N : Int) := by omega
        clear hy hhc hh2
        go_wp2_with fail
        rw [show y.toNat ^^^ 3 = (y ^^^ 3).toNat by simp]
        obtain ⟨w2, hw2⟩ : ∃ w2, w1.setCell ⟨gb, h2, none⟩ (.int .u8 ((y ^^^ 3).toNat : Int)) = w2 := ⟨_, rfl⟩
        have hsto := (HO1.out.stored h2 (.int .u8 ((y ^^^ 3).toNat : Int)))
        rw [hw2] at hsto ⊢
        obtain ⟨c2, hc2⟩ : ∃ c2, c.set h2 (y ^^^ 3) = c2 := ⟨_, rfl⟩
        have HC2 := Lib.hid (show c2.length = N by rw [← hc2, List.length_set, HCL.out])
        have HO2 := Lib.hid (show w2.ownsRow B 5 1 (.slice (some ⟨gb, 0, none⟩) N N) N (Lib.byteCells c2) from by
          have h := hsto.1
          rw [show (Lib.byteCells c).set h2 (.int .u8 ((y ^^^ 3).toNat : Int)) = Lib.byteCells c2 by rw [← hc2]; simp only [Lib.byteCells]; rw [List.map_set]] at h
          exact h)
        have HT2 := Lib.hid (show ∀ j, j < w.heap.size → j ≠ gb → w2.heap[j]? = w.heap[j]? from fun j hj hne => (hsto.2.block j (by omega) (fun e => hne (by injection e))).trans (HT1.out j hj hne))
        have HB2 := Lib.hid (HB1.out.grown hsto.2 (by omega) (fun j hj => by injection hj with h; omega))
        have hs2 : w.heap.size ≤ w2.heap.size := by have := hsto.2.size; omega
        clear hsto hc2 hw2 hcell hfz hxor
        have HBA2 := Lib.hid (show BytesAt (fun _ => True) w2 (.slice (some ⟨gb, 0, none⟩) N N) c2 from by
          have h := OwnB.reads (w := w2) (B := B) (b := c2) (v := .slice (some ⟨gb, 0, none⟩) N N) (by unfold OwnB; rw [HC2.out]; exact HO2.out)
          exact h.mono fun _ _ => trivial)
        obtain ⟨R, hR⟩ : ∃ R, splitOf ((k : Int) == 1) c2 = R := ⟨_, rfl⟩
        have HSP := Lib.hid (fun (W : World) (v : Value) (h : BytesAt (fun _ => True) W v c2) => hR ▸ wSplit_any W ((k : Int) == 1) c2 v h)
        clear hR
        obtain ⟨rl, re, rp⟩ := R
        refine (HSP.out w2 _ HBA2.out).mono ?_
        rintro e w3 ⟨v3, rfl, hr3, _, hb3⟩
        simp only at hr3
        have HO3 := Lib.hid (ownsRow_later HO2.out hb3)
        have HR3 := Lib.hid (hr3.mono (fun _ _ => trivial) : Reads w3 v3 rl)
        have HB3 := Lib.hid hb3
        have hs3 := hb3.size
        clear hr3 hb3
        go_wp2_with (at_builtin; refine wpList_append_own_at _ rfl _ _ 24 rfl w3.heap.size 5 i0 (.int .u8 0) 1 1 Tryd.underlying24 hi0 hz0 hz1 hz2 rfl (by decide) _ _ _ rfl (World.ownsRow_lit w3 #[] 0 (Nat.le_refl _) (by unfold maxLen; omega) rfl) ⟨gb, 0, none⟩ N N (Lib.byteCells c2) rfl ?d0 ?d1 ?d2 ?d3 ?d4 ?d5 ?_)
        case d0 => rw [Lib.byteCells_length, HC2.out, Nat.mul_one]
        case d1 => exact (HO3.out.alloc _).cells rfl
        case d2 => exact byteCells_ones c2
        case d3 => unfold maxLen; omega
        case d4 => omega
        case d5 => first | exact Nat.le_refl _ | simp | omega
        intro v4 w4 hown4 hgrow _ hat
        have HBA4 := Lib.hid (show BytesAt (fun _ => True) w4 v4 c2 from by
          have h : w4.ownsRow w3.heap.size 5 1 v4 N (Lib.byteCells c2) := by simpa using hown4
          have h := OwnB.reads (w := w4) (B := w3.heap.size) (b := c2) (v := v4) (by unfold OwnB; rw [HC2.out]; exact h)
          exact h.mono fun _ _ => trivial)
        have hb4 : Below w3.heap.size w3 w4 := (new_below w3 (.cells #[] 5)).grown hgrow (by simp) (fun j hj => by injection hj with h; have h2 : w3.heap.size = j := h; omega)
        have HR4 := Lib.hid (show Reads w4 v3 rl from Reads.later HR3.out hb4)
        have HB4 := Lib.hid (HB3.out.trans (hb4.mono hs3))
        clear hown4 hgrow hat hb4
        go_wp2_with fail
        refine (HSP.out w4 _ HBA4.out).mono ?_
        rintro e w5 ⟨v5, rfl, hr5, _, hb5⟩
        simp only at hr5
        have HR5 := Lib.hid (show Reads w5 v3 rl from Reads.later HR4.out hb5)
        have HQ5 := Lib.hid (hr5.mono (fun _ _ => trivial) : Reads w5 v5 rl)
        have HB5 := Lib.hid (HB4.out.trans (hb5.mono HB4.out.size))
        have hne1 : ((rp : Int) != (rp : Int)) = false := by simp
        have hne2 : (re != re) = false := by simp
        clear hr5 hb5
        go_wp2_with fail
        refine (sameRecs_any _ rl (Nat.le_refl _) rl v3 v5 w5 HR5.out HQ5.out).mono ?_
        rintro e w6 ⟨rfl, hb6⟩
        rw [sameL_refl]
        have HB6 := Lib.hid (HB5.out.trans (hb6.mono HB5.out.size))
        clear hb6
        go_wp2_with fail
        go_roundw
        case measure => simp [intOf] <;> omega
        case rel => exact ⟨k + 1, c2, by simp, by omega, HC2.out, ownsRow_later HO2.out HB6.out, fun j hj hne => (HB6.out.block j (by omega)).trans (HT2.out j hj hne), HB2.out.trans (HB6.out.mono (by omega))⟩
      · obtain ⟨c2, hc2⟩ : ∃ c2, c = c2 := ⟨_, rfl⟩
        have hN0' : decide ((0 : Int) < (N : Int)) = false := by simp; omega
        go_wp2_with fail
        rw [hc2] at HCL HO1
        obtain ⟨w2, hw2⟩ : ∃ w2, w1 = w2 := ⟨_, rfl⟩
        rw [hw2] at HO1 HT1 HB1 hs1 ⊢
        have HC2 := HCL
        have HO2 := HO1
        have HT2 := HT1
        have HB2 := HB1
        have hs2 := hs1
        clear hc2 hw2 HCL HO1 HT1 HB1 hs1
        have HBA2 := Lib.hid (show BytesAt (fun _ => True) w2 (.slice (some ⟨gb, 0, none⟩) N N) c2 from by
          have h := OwnB.reads (w := w2) (B := B) (b := c2) (v := .slice (some ⟨gb, 0, none⟩) N N) (by unfold OwnB; rw [HC2.out]; exact HO2.out)
          exact h.mono fun _ _ => trivial)
        obtain ⟨R, hR⟩ : ∃ R, splitOf ((k : Int) == 1) c2 = R := ⟨_, rfl⟩
        have HSP := Lib.hid (fun (W : World) (v : Value) (h : BytesAt (fun _ => True) W v c2) => hR ▸ wSplit_any W ((k : Int) == 1) c2 v h)
        clear hR
        obtain ⟨rl, re, rp⟩ := R
        refine (HSP.out w2 _ HBA2.out).mono ?_
        rintro e w3 ⟨v3, rfl, hr3, _, hb3⟩
        simp only at hr3
        have HO3 := Lib.hid (ownsRow_later HO2.out hb3)
        have HR3 := Lib.hid (hr3.mono (fun _ _ => trivial) : Reads w3 v3 rl)
        have HB3 := Lib.hid hb3
        have hs3 := hb3.size
        clear hr3 hb3
        go_wp2_with (at_builtin; refine wpList_append_own_at _ rfl _ _ 24 rfl w3.heap.size 5 i0 (.int .u8 0) 1 1 Tryd.underlying24 hi0 hz0 hz1 hz2 rfl (by decide) _ _ _ rfl (World.ownsRow_lit w3 #[] 0 (Nat.le_refl _) (by unfold maxLen; omega) rfl) ⟨gb, 0, none⟩ N N (Lib.byteCells c2) rfl ?d0 ?d1 ?d2 ?d3 ?d4 ?d5 ?_)
        case d0 => rw [Lib.byteCells_length, HC2.out, Nat.mul_one]
        case d1 => exact (HO3.out.alloc _).cells rfl
        case d2 => exact byteCells_ones c2
        case d3 => unfold maxLen; omega
        case d4 => omega
        case d5 => first | exact Nat.le_refl _ | simp | omega
        intro v4 w4 hown4 hgrow _ hat
        have HBA4 := Lib.hid (show BytesAt (fun _ => True) w4 v4 c2 from by
          have h : w4.ownsRow w3.heap.size 5 1 v4 N (Lib.byteCells c2) := by simpa using hown4
          have h := OwnB.reads (w := w4) (B := w3.heap.size) (b := c2) (v := v4) (by unfold OwnB; rw [HC2.out]; exact h)
          exact h.mono fun _ _ => trivial)
        have hb4 : Below w3.heap.size w3 w4 := (new_below w3 (.cells #[] 5)).grown hgrow (by simp) (fun j hj => by injection hj with h; have h2 : w3.heap.size = j := h; omega)
        have HR4 := Lib.hid (show Reads w4 v3 rl from Reads.later HR3.out hb4)
        have HB4 := Lib.hid (HB3.out.trans (hb4.mono hs3))
        clear hown4 hgrow hat hb4
        go_wp2_with fail
        refine (HSP.out w4 _ HBA4.out).mono ?_
        rintro e w5 ⟨v5, rfl, hr5, _, hb5⟩
        simp only at hr5
        have HR5 := Lib.hid (show Reads w5 v3 rl from Reads.later HR4.out hb5)
        have HQ5 := Lib.hid (hr5.mono (fun _ _ => trivial) : Reads w5 v5 rl)
        have HB5 := Lib.hid (HB4.out.trans (hb5.mono HB4.out.size))
        have hne1 : ((rp : Int) != (rp : Int)) = false := by simp
        have hne2 : (re != re) = false := by simp
        clear hr5 hb5
        go_wp2_with fail
        refine (sameRecs_any _ rl (Nat.le_refl _) rl v3 v5 w5 HR5.out HQ5.out).mono ?_
        rintro e w6 ⟨rfl, hb6⟩
        rw [sameL_refl]
        have HB6 := Lib.hid (HB5.out.trans (hb6.mono HB5.out.size))
        clear hb6
        go_wp2_with fail
        go_roundw
        case measure => simp [intOf] <;> omega
        case rel => exact ⟨k + 1, c2, by simp, by omega, HC2.out, ownsRow_later HO2.out HB6.out, fun j hj hne => (HB6.out.block j (by omega)).trans (HT2.out j hj hne), HB2.out.trans (HB6.out.mono (by omega))⟩
    · obtain rfl : k = 2 := by omega
      rw [show ((2 : Nat) : Int) = 2 from rfl]
      have HGX0 := Lib.hid (show wr.heap[g]? = some (.cells (rcells A ++ five (.mk 91 0 0 [] [], .slice none 0 0)).toArray 53 (0, 0)) from by
        rw [HOT.out g hgl (fun e => hgb e.symm), HG.out, rcells_append]; simp [rcells])
      have HAX0 := Lib.hid (show ∀ x ∈ A, RecOk x.1 ∧ ReadsR (fun k => k ≠ g) wr x.2 x.1.inner from fun x hx => ⟨(HAL.out x hx).1, ((HAL.out x hx).2.held (fun j hj hlt => HOT.out j hlt hj.2)).mono fun j hj => hj.1⟩)
      have hAn : A.length = n := by rw [← HNL.out, ← HA.out, List.length_map]
      have HAN := Lib.hid hAn
      have HREC0 := Lib.hid (show Reads wr (.slice (some ⟨g, 0, none⟩) n (n + 1)) l from by
        have h := reads_of_row HGX0.out (fun x hx => ⟨(HAX0.out x hx).1, (HAX0.out x hx).2.mono fun _ _ => trivial⟩) (show A.length ≤ n + 1 by omega) (by omega)
        rw [hAn, HA.out] at h
        exact h)
      clear hAn
      go_wp2_with fail
      refine (wJoin_any l _ wr HREC0.out).mono ?_
      rintro e w1 ⟨v1, rfl, _, hb1⟩
      have HG1 := Lib.hid (show w1.heap[g]? = some (.cells (rcells A ++ five (.mk 91 0 0 [] [], .slice none 0 0)).toArray 53 (0, 0)) from (hb1.block g (by omega)).trans HGX0.out)
      have HA1 := Lib.hid (show ∀ x ∈ A, RecOk x.1 ∧ ReadsR (fun k => k ≠ g) w1 x.2 x.1.inner from fun x hx => ⟨(HAX0.out x hx).1, (HAX0.out x hx).2.held (fun j hj hlt => hb1.block j hlt)⟩)
      have HB1 := Lib.hid (HBW.out.trans (hb1.mono (by omega)))
      have hs1 : w.heap.size ≤ w1.heap.size := by have := hb1.size; omega
      clear hb1
      by_cases hn0 : 0 < n
      · obtain ⟨m, hm⟩ : ∃ m, n = m + 1 := ⟨n - 1, by omega⟩
        have hA0 : 0 < A.length := by rw [HAN.out]; exact hn0
        obtain ⟨y0, hy0⟩ : ∃ y, A[0]'hA0 = y := ⟨_, rfl⟩
        have HY0 := Lib.hid hy0
        obtain ⟨A1, hA1⟩ : ∃ A1, A.set 0 (bumpR y0.1, y0.2) = A1 := ⟨_, rfl⟩
        have hA1m : m < A1.length := by rw [← hA1, List.length_set, HAN.out]; omega
        obtain ⟨y1, hy1⟩ : ∃ y, A1[m]'hA1m = y := ⟨_, rfl⟩
        obtain ⟨x0, hx0⟩ : ∃ x, y0.1.num = x := ⟨_, rfl⟩
        have k0 : w1.cell? ⟨g, 2, none⟩ = some (.int .i64 x0) := by
          have h := row_get HG1.out 0 hA0 2 (by omega)
          rw [hy0] at h
          rw [← hx0]
          simpa [five] using h
        have f0 : w1.frozen? ⟨g, 2, none⟩ = false := frozen_of_row w1 g 2 _ _ HG1.out
        have HS1 := Lib.hid (show (w1.setCell ⟨g, 2, none⟩ (.int .i64 (wrap64 (x0 + 1)))).heap[g]? = some (.cells (rcells A1 ++ five (.mk 91 0 0 [] [], .slice none 0 0)).toArray 53 (0, 0)) from by
          have h := row_store HG1.out 0 hA0 2 (by omega) (.int .i64 (wrap64 (x0 + 1))) (bumpR y0.1, y0.2) (by rw [hy0, ← hx0]; rfl)
          rw [hA1] at h
          simpa using h)
        have k1 : (w1.setCell ⟨g, 2, none⟩ (.int .i64 (wrap64 (x0 + 1)))).cell? ⟨g, m * 5, none⟩ = some (.int .i64 y1.1.number) := by
          have h := row_get HS1.out m hA1m 0 (by omega)
          rw [hy1] at h
          simpa [five] using h
        have f1 : (w1.setCell ⟨g, 2, none⟩ (.int .i64 (wrap64 (x0 + 1)))).frozen? ⟨g, m * 5, none⟩ = false := frozen_of_row _ g _ _ _ HS1.out
        have HS2 := Lib.hid (show ((w1.setCell ⟨g, 2, none⟩ (.int .i64 (wrap64 (x0 + 1)))).setCell ⟨g, m * 5, none⟩ (.int .i64 5)).heap[g]? = some (.cells (rcells (A1.set m (fiveN y1.1, y1.2)) ++ five (.mk 91 0 0 [] [], .slice none 0 0)).toArray 53 (0, 0)) from by
          have h := row_store HS1.out m hA1m 0 (by omega) (.int .i64 5) (fiveN y1.1, y1.2) (by rw [hy1]; rfl)
          simpa using h)
        have hn0' : (0 : Int) < (n : Int) := by omega
        have hm1 : (n : Int) - 1 = (m : Int) := by omega
        have hmn : (m : Int) < (n : Int) := by omega
        have HA1E := Lib.hid hA1
        have HY1 := Lib.hid hy1
        have HMM := Lib.hid hm
        clear hy0 hA1 hy1 hx0 hm
        go_wp2_with fail
        obtain ⟨w2, hw2⟩ : ∃ w2, (w1.setCell ⟨g, 2, none⟩ (.int .i64 (wrap64 (x0 + 1)))).setCell ⟨g, m * 5, none⟩ (.int .i64 5) = w2 := ⟨_, rfl⟩
        have hot2 : ∀ j, j ≠ g → w2.heap[j]? = w1.heap[j]? := fun j hj => by
          rw [← hw2, Below.heap_setCell _ _ _ _ (by exact hj), Below.heap_setCell _ _ _ _ (by exact hj)]
        have HB2 := Lib.hid (show Below B w w2 from by
          rw [← hw2]; exact (HB1.out.setCell (p := ⟨g, 2, none⟩) hBg _).setCell (p := ⟨g, m * 5, none⟩) hBg _)
        have hs2 : w.heap.size ≤ w2.heap.size := HB2.out.size
        rw [hw2] at HS2 ⊢
        clear hw2 k0 f0 k1 f1
        obtain ⟨A2, hA2⟩ : ∃ A2, A1.set m (fiveN y1.1, y1.2) = A2 := ⟨_, rfl⟩
        rw [hA2] at HS2
        have hm0 : y0 ∈ A := by rw [← HY0.out]; exact List.getElem_mem _
        have hIN1 : ∀ x ∈ A1, ∃ y ∈ A, x.1.inner = y.1.inner ∧ x.2 = y.2 ∧ RecOk x.1 := fun x hx => by
          rw [← HA1E.out] at hx
          rcases List.mem_or_eq_of_mem_set hx with h | h
          · exact ⟨x, h, rfl, rfl, (HA1.out x h).1⟩
          · subst h
            have h0 := (HA1.out y0 hm0).1
            exact ⟨y0, hm0, rfl, rfl, ⟨h0.n0, h0.n1, is64_wrap _, h0.n3⟩⟩
        have hIN2 : ∀ x ∈ A2, ∃ y ∈ A, x.1.inner = y.1.inner ∧ x.2 = y.2 ∧ RecOk x.1 := fun x hx => by
          rw [← hA2] at hx
          rcases List.mem_or_eq_of_mem_set hx with h | h
          · exact hIN1 x h
          · subst h
            obtain ⟨y, hy, e1, e2, h0⟩ := hIN1 y1 (by rw [← HY1.out]; exact List.getElem_mem _)
            exact ⟨y, hy, e1, e2, ⟨⟨by show _ ≤ (5 : Int); omega, by show (5 : Int) < _; omega⟩, h0.n1, h0.n2, h0.n3⟩⟩
        have HIX := Lib.hid (show ∀ x ∈ A2, ∃ y ∈ A, x.1.inner = y.1.inner from fun x hx => by obtain ⟨y, hy, e1, _⟩ := hIN2 x hx; exact ⟨y, hy, e1⟩)
        have hA2n : A2.length = n := by rw [← hA2, List.length_set, ← HA1E.out, List.length_set]; exact HAN.out
        have HAX := Lib.hid (show ∀ x ∈ A2, RecOk x.1 ∧ ReadsR (fun k => k ≠ g) w2 x.2 x.1.inner from fun x hx => by
          obtain ⟨y, hy, e1, e2, h0⟩ := hIN2 x hx
          refine ⟨h0, ?_⟩
          rw [e1, e2]
          exact (HA1.out y hy).2.held fun j hj hlt => hot2 j hj)
        obtain ⟨l2, hl2⟩ : ∃ l2, A2.map (·.1) = l2 := ⟨_, rfl⟩
        have HL2 := Lib.hid hl2
        have HGX := HS2
        clear hA2 hl2 hot2 hIN1 hIN2 hm0 HS2 HB1 hs1
        have HREC := Lib.hid (show Reads w2 (.slice (some ⟨g, 0, none⟩) n (n + 1)) l2 from by
          have h := reads_of_row HGX.out (fun x hx => ⟨(HAX.out x hx).1, (HAX.out x hx).2.mono fun _ _ => trivial⟩) (show A2.length ≤ n + 1 by rw [hA2n]; omega) (by omega)
          rw [hA2n, HL2.out] at h
          exact h)
        have HLN2 := Lib.hid (show lensL 1048576 l2 from by
          refine lens_of (by rw [← HL2.out, List.length_map, hA2n]; exact hnl) fun r hr => ?_
          rw [← HL2.out] at hr
          obtain ⟨x, hx, rfl⟩ := List.mem_map.1 hr
          obtain ⟨y, hy, he⟩ := HIX.out x hx
          rw [he]
          exact lens_inner HLN.out _ (by rw [← HA.out]; exact List.mem_map.2 ⟨y, hy, rfl⟩))
        refine (wJoin_any l2 _ w2 HREC.out).mono ?_
        rintro e w3 ⟨v3, rfl, ho3, hb3⟩
        have HREC3 := Lib.hid (show Reads w3 (.slice (some ⟨g, 0, none⟩) n (n + 1)) l2 from Reads.later HREC.out hb3)
        have HO3 := Lib.hid (ho3.reads.mono fun _ _ => trivial : BytesAt (fun _ => True) w3 v3 (joinOf l2).1)
        have HB3 := Lib.hid hb3
        clear ho3 hb3
        go_wp2_with fail
        refine (lent_any _ l2 (Nat.le_refl _) HLN2.out _ w3 HREC3.out).mono ?_
        rintro e w4 ⟨v4, rfl, hl4, hb4⟩
        have HL4 := Lib.hid (show Reads w4 v4 l2 from (hl4.reads.mono fun _ _ => trivial))
        have HO4 := Lib.hid (HO3.out.later hb4)
        have HB4 := Lib.hid (HB3.out.trans (hb4.mono HB3.out.size))
        clear hl4 hb4
        go_wp2_with fail
        refine (wJoin_any l2 _ w4 HL4.out).mono ?_
        rintro e w5 ⟨v5, rfl, ho5, hb5⟩
        have HO5 := Lib.hid (HO4.out.later hb5)
        have HP5 := Lib.hid (ho5.reads.mono fun _ _ => trivial : BytesAt (fun _ => True) w5 v5 (joinOf l2).1)
        have HB5 := Lib.hid (HB4.out.trans (hb5.mono HB4.out.size))
        have heq : ((joinOf l2).2 == (joinOf l2).2) = true := by simp
        clear ho5 hb5
        go_wp2_with fail
        refine (same_any _ _ _ _ v3 v5 w5 HO5.out HP5.out).mono ?_
        rintro e w6 ⟨rfl, hb6⟩
        have HB6 := Lib.hid (HB5.out.trans (hb6.mono HB5.out.size))
        clear hb6
        go_wp2_with fail
        go_ret
        exact ⟨by simp, HB2.out.trans (HB6.out.mono (by omega))⟩
      · have hnd : decide ((0 : Int) < (n : Int)) = false := by simp; omega
        go_wp2_with fail
        obtain ⟨w2, hw2⟩ : ∃ w2, w1 = w2 := ⟨_, rfl⟩
        rw [hw2] at HG1 HA1 HB1 hs1 ⊢
        clear hw2
        obtain ⟨A2, hA2⟩ : ∃ A2, A = A2 := ⟨_, rfl⟩
        have HIX := Lib.hid (show ∀ x ∈ A2, ∃ y ∈ A, x.1.inner = y.1.inner from fun x hx => ⟨x, by rw [hA2]; exact hx, rfl⟩)
        have hA2n : A2.length = n := by rw [← hA2]; exact HAN.out
        rw [hA2] at HG1 HA1
        obtain ⟨l2, hl2⟩ : ∃ l2, A2.map (·.1) = l2 := ⟨_, rfl⟩
        have HL2 := Lib.hid hl2
        have HGX := HG1
        have HAX := HA1
        have HB2 := HB1
        have hs2 := hs1
        clear hA2 hl2 HG1 HA1 HB1 hs1
        have HREC := Lib.hid (show Reads w2 (.slice (some ⟨g, 0, none⟩) n (n + 1)) l2 from by
          have h := reads_of_row HGX.out (fun x hx => ⟨(HAX.out x hx).1, (HAX.out x hx).2.mono fun _ _ => trivial⟩) (show A2.length ≤ n + 1 by rw [hA2n]; omega) (by omega)
          rw [hA2n, HL2.out] at h
          exact h)
        have HLN2 := Lib.hid (show lensL 1048576 l2 from by
          refine lens_of (by rw [← HL2.out, List.length_map, hA2n]; exact hnl) fun r hr => ?_
          rw [← HL2.out] at hr
          obtain ⟨x, hx, rfl⟩ := List.mem_map.1 hr
          obtain ⟨y, hy, he⟩ := HIX.out x hx
          rw [he]
          exact lens_inner HLN.out _ (by rw [← HA.out]; exact List.mem_map.2 ⟨y, hy, rfl⟩))
        refine (wJoin_any l2 _ w2 HREC.out).mono ?_
        rintro e w3 ⟨v3, rfl, ho3, hb3⟩
        have HREC3 := Lib.hid (show Reads w3 (.slice (some ⟨g, 0, none⟩) n (n + 1)) l2 from Reads.later HREC.out hb3)
        have HO3 := Lib.hid (ho3.reads.mono fun _ _ => trivial : BytesAt (fun _ => True) w3 v3 (joinOf l2).1)
        have HB3 := Lib.hid hb3
        clear ho3 hb3
        go_wp2_with fail
        refine (lent_any _ l2 (Nat.le_refl _) HLN2.out _ w3 HREC3.out).mono ?_
        rintro e w4 ⟨v4, rfl, hl4, hb4⟩
        have HL4 := Lib.hid (show Reads w4 v4 l2 from (hl4.reads.mono fun _ _ => trivial))
        have HO4 := Lib.hid (HO3.out.later hb4)
        have HB4 := Lib.hid (HB3.out.trans (hb4.mono HB3.out.size))
        clear hl4 hb4
        go_wp2_with fail
        refine (wJoin_any l2 _ w4 HL4.out).mono ?_
        rintro e w5 ⟨v5, rfl, ho5, hb5⟩
        have HO5 := Lib.hid (HO4.out.later hb5)
        have HP5 := Lib.hid (ho5.reads.mono fun _ _ => trivial : BytesAt (fun _ => True) w5 v5 (joinOf l2).1)
        have HB5 := Lib.hid (HB4.out.trans (hb5.mono HB4.out.size))
        have heq : ((joinOf l2).2 == (joinOf l2).2) = true := by simp
        clear ho5 hb5
        go_wp2_with fail
        refine (same_any _ _ _ _ v3 v5 w5 HO5.out HP5.out).mono ?_
        rintro e w6 ⟨rfl, hb6⟩
        have HB6 := Lib.hid (HB5.out.trans (hb6.mono HB5.out.size))
        clear hb6
        go_wp2_with fail
        go_ret
        exact ⟨by simp, HB2.out.trans (HB6.out.mono (by omega))⟩
end Go.Proofs.YtecmhpncgdjgjaaDoor
