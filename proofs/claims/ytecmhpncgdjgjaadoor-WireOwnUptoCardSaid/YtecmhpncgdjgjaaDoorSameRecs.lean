/-
  SameRecords of the statements, walked. Conditions: none. (Printed by gen_samerecs.py.)
-/
import Derived.Test.YtecmhpncgdjgjaaDoorRead
import Derived.Test.YtecmhpncgdjgjaaDoorSamePlain
import Derived.Test.YtecmhpncgdjgjaaDoorRight
namespace Go.Proofs.YtecmhpncgdjgjaaDoor
open Go.RowKit
set_option linter.unusedVariables false
set_option linter.unusedSimpArgs false

theorem sameL_head {x y : List Rec} {k : Nat} (hx : k < x.length) (hy : k < y.length) (h : sameL (x.drop k) (y.drop k) = sameL x y) (h2 : sameR (x[k]'hx) (y[k]'hy) = false) : sameL x y = false := by
  rw [← h, sameL_drop k hx hy, h2]; rfl
theorem sameL_next {x y : List Rec} {k : Nat} (hx : k < x.length) (hy : k < y.length) (h : sameL (x.drop k) (y.drop k) = sameL x y) (h2 : sameR (x[k]'hx) (y[k]'hy) = true) : sameL (x.drop (k + 1)) (y.drop (k + 1)) = sameL x y := by
  rw [← h, sameL_drop k hx hy, h2]; rfl

set_option maxHeartbeats 8000000 in
set_option maxRecDepth 100000 in
theorem sameRecs_any (N : Nat) : ∀ (x : List Rec), SizeOf.sizeOf x ≤ N → ∀ (y : List Rec) (v u : Value) (w : World), Reads w v x → Reads w u y → Calls Tryd.prog 38 #[v, u] w (Says w (.bool (sameL x y))) := by
  induction N with
  | zero => intro x hl; cases x <;> simp at hl
  | succ N ih =>
    intro x hl y v u w hv hu
    have IH := Lib.hid ih
    have HV := Lib.hid hv
    have HU := Lib.hid hu
    obtain ⟨a, cap, rfl, h1, h2, hv0⟩ := hv.form
    obtain ⟨a', cap', rfl, h3, h4, hu0⟩ := hu.form
    clear ih hv hu hv0 hu0
    by_cases hxy : x.length = y.length
    · have hle : ((x.length : Int) != (y.length : Int)) = false := by simp [hxy]
      have HXY := Lib.hid hxy
      clear hxy
      go_enter Tryd.func38, Tryd.ntmps38
      go_wp2_with fail
      go_loopw [5] (fun vi wr => ∃ k : Nat, vi = .int .i64 k ∧ k ≤ x.length ∧ Below w.heap.size w wr ∧ sameL (x.drop k) (y.drop k) = sameL x y) (fun vi _ => x.length - (intOf vi).toNat)
      case atStart => exact ⟨0, rfl, Nat.zero_le _, Below.refl _ _, rfl⟩
      case round =>
        obtain ⟨k, rfl, hk, hbw, heq⟩ := hrel
        have hsz := hbw.size
        by_cases hlt : k < x.length
        · have hlt2 : k < y.length := by have := HXY.out; omega
          obtain ⟨b, off, ui, rfl, hrec, hin⟩ := Reads.at (HV.out.later hbw) k hlt
          obtain ⟨b', off', ui', rfl, hrec', hin'⟩ := Reads.at (HU.out.later hbw) k hlt2
          have hins := inner_size k hlt
          have HHD := Lib.hid (sameL_head hlt hlt2 heq)
          have HNX := Lib.hid (sameL_next hlt hlt2 heq)
          obtain ⟨r, hr⟩ : ∃ r, x[k]'hlt = r := ⟨_, rfl⟩
          obtain ⟨r', hr'⟩ : ∃ r, y[k]'hlt2 = r := ⟨_, rfl⟩
          have hbl := cell_lt hrec.c0
          have hbl' := cell_lt hrec'.c0
          rw [hr] at hrec hin hins
          rw [hr'] at hrec' hin'
          rw [hr, hr'] at HHD HNX
          clear hr hr' heq
          obtain ⟨ai, capi, rfl, hci1, hci2, hi0⟩ := hin.form
          obtain ⟨ai', capi', rfl, hci1', hci2', hi0'⟩ := hin'.form
          clear hi0 hi0'
          obtain ⟨n, kd, q, t, i⟩ := r
          obtain ⟨n', kd', q', t', i'⟩ := r'
          obtain ⟨c0, c1, c2, c3, c4, n0, n1, n2, n3⟩ := hrec
          obtain ⟨d0, d1, d2, d3, d4, m0, m1, m2, m3⟩ := hrec'
          simp only [Rec.number, Rec.kind, Rec.num, Rec.text, Rec.inner] at c0 c1 c2 c3 c4 d0 d1 d2 d3 d4 hci1 hci1' hin hin' hins n0 n1 n2 n3 m0 m1 m2 m3
          obtain ⟨T, hT⟩ : ∃ T : ByteArray, (⟨t.toArray⟩ : ByteArray) = T := ⟨_, rfl⟩
          obtain ⟨T', hT'⟩ : ∃ T : ByteArray, (⟨t'.toArray⟩ : ByteArray) = T := ⟨_, rfl⟩
          have hTT : T.toList = T'.toList ↔ t = t' := by
            rw [← hT, ← hT', ByteArray.toList_eq, ByteArray.toList_eq]
          rw [hT] at c3
          rw [hT'] at d3
          have HIN := Lib.hid hin
          have HIN' := Lib.hid hin'
          have HTT := Lib.hid hTT
          have HBW := Lib.hid hbw
          clear hT hT' hTT hin hin' n0 n1 n2 n3 m0 m1 m2 m3
          have hbx : Below w.heap.size w ((wr.alloc (.cells #[.int .i64 n, .int .i64 kd, .int .i64 q, .string T, .slice ai i.length capi] 53)).alloc (.cells #[.int .i64 n', .int .i64 kd', .int .i64 q', .string T', .slice ai' i'.length capi'] 53)) := (hbw.alloc hsz _).alloc (by simp; omega) _
          have HBX := Lib.hid hbx
          clear hbx
          cases e0 : (n != n' : Bool)
          · cases e1 : (kd != kd' : Bool)
            · cases e2 : (q != q' : Bool)
              · by_cases e3 : T.toList = T'.toList
                · have HE := Lib.hid (show n = n' ∧ kd = kd' ∧ q = q' ∧ t = t' from ⟨by simpa using e0, by simpa using e1, by simpa using e2, HTT.out.1 e3⟩)
                  go_wp2_with fail
                  refine (IH.out i (by omega) i' _ _ _ (HIN.out.later (((Below.refl _ _).alloc (Nat.le_refl _) _).alloc (by simp) _)) (HIN'.out.later (((Below.refl _ _).alloc (Nat.le_refl _) _).alloc (by simp) _))).mono ?_
                  rintro e w2 ⟨rfl, hb2⟩
                  have hb3 := HBX.out.trans (hb2.mono (by simp; omega))
                  cases es : sameL i i'
                  · have HF := Lib.hid (HHD.out (by rw [sameR, es]; simp))
                    go_wp2_with fail
                    go_ret
                    exact ⟨by rw [HF.out]; rfl, hb3⟩
                  · have HF := Lib.hid (HNX.out (by rw [sameR, es]; obtain ⟨rfl, rfl, rfl, rfl⟩ := HE.out; simp))
                    go_wp2
                    go_roundw
                    case rel => exact ⟨k + 1, by simp, by omega, hb3, HF.out⟩
                    case measure => simp [intOf]; omega
                · have HF := Lib.hid (HHD.out (by
                    have h5 : ¬ t = t' := fun e => e3 (HTT.out.2 e)
                    rw [sameR]; simp [h5]))
                  go_wp2_with fail
                  go_ret
                  exact ⟨by rw [HF.out]; rfl, HBX.out⟩
              · have HF := Lib.hid (HHD.out (by
                  have h5 : ¬ q = q' := by simpa using e2
                  rw [sameR]; simp [h5]))
                go_wp2_with fail
                go_ret
                exact ⟨by rw [HF.out]; rfl, HBX.out⟩
            · have HF := Lib.hid (HHD.out (by
                have h5 : ¬ kd = kd' := by simpa using e1
                rw [sameR]; simp [h5]))
              go_wp2_with fail
              go_ret
              exact ⟨by rw [HF.out]; rfl, HBX.out⟩
          · have HF := Lib.hid (HHD.out (by
              have h5 : ¬ n = n' := by simpa using e0
              rw [sameR]; simp [h5]))
            go_wp2_with fail
            go_ret
            exact ⟨by rw [HF.out]; rfl, HBX.out⟩
        · have HN := Lib.hid (show sameL x y = true by
            rw [← heq, List.drop_eq_nil_of_le (by omega), List.drop_eq_nil_of_le (by have := HXY.out; omega), sameL])
          clear heq
          go_wp2_with fail
          go_ret
          exact ⟨by rw [HN.out]; rfl, hbw⟩
    · have hle : ((x.length : Int) != (y.length : Int)) = true := by simp; omega
      have HN := Lib.hid (sameL_len hxy)
      go_enter Tryd.func38, Tryd.ntmps38
      go_wp2_with fail
      go_ret
      exact ⟨by rw [HN.out]; rfl, Below.refl _ _⟩
end Go.Proofs.YtecmhpncgdjgjaaDoor
