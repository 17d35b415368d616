/-
  wrong of the reference, walked. Conditions: none.
-/
import Derived.Test.YtecmhpncgdjgjaaDoorMany
namespace Go.Proofs.YtecmhpncgdjgjaaDoor
open Go.RowKit
set_option linter.unusedVariables false
set_option linter.unusedSimpArgs false

theorem fits_sides {n k x : Int} {t : List UInt8} {i : List Rec} (h : fitsV (.mk n k x t i) = true) :
    ((k = 0 ∨ k = 1) → t = [] ∧ i = []) ∧ (k = 2 → x = 0 ∧ i = []) ∧ (k = 3 → x = 0 ∧ t = []) ∧ (k = 5 → t = [] ∧ i = [] ∧ 0 ≤ x ∧ x < 4294967296) := by
  replace h : (if k = 0 ∨ k = 1 then t.isEmpty && (i.length : Int) == 0 else if k = 2 then x == 0 && (i.length : Int) == 0 else if k = 3 then x == 0 && t.isEmpty else (t.isEmpty && (i.length : Int) == 0) && (decide (0 ≤ x) && decide (x < 4294967296))) = true := h
  refine ⟨fun hk => ?_, fun hk => ?_, fun hk => ?_, fun hk => ?_⟩
  · rw [if_pos hk] at h; simpa using h
  · rw [if_neg (by omega), if_pos hk] at h; simpa using h
  · rw [if_neg (by omega), if_neg (by omega), if_pos hk] at h; simpa using h
  · rw [if_neg (by omega), if_neg (by omega), if_neg (by omega)] at h
    simp at h
    exact ⟨h.1.1, h.1.2, h.2.1, h.2.2⟩
theorem fits_off {n k x : Int} {t : List UInt8} {i : List Rec} (h : ¬ (((k = 0 ∨ k = 1) → t = [] ∧ i = []) ∧ (k = 2 → x = 0 ∧ i = []) ∧ (k = 3 → x = 0 ∧ t = []) ∧ (k = 5 → t = [] ∧ i = [] ∧ 0 ≤ x ∧ x < 4294967296))) : fitsV (.mk n k x t i) = false := by
  cases e : fitsV (.mk n k x t i)
  · rfl
  · exact absurd (fits_sides e) h
theorem right_one {n k x : Int} {t : List UInt8} {i : List Rec} (h1 : ¬ (n < 1 ∨ 536870911 < n)) (h2 : ¬ (k < 0 ∨ 6 ≤ k ∨ k = 4)) (h3 : fitsV (.mk n k x t i) = false) : rightR (.mk n k x t i) = 1 := by
  rw [rightR, if_neg h1, if_neg h2, if_pos h3]
theorem right_zero {n k x : Int} {t : List UInt8} {i : List Rec} (h1 : ¬ (n < 1 ∨ 536870911 < n)) (h2 : ¬ (k < 0 ∨ 6 ≤ k ∨ k = 4)) (h3 : fitsV (.mk n k x t i) = true) (h4 : k ≠ 3) : rightR (.mk n k x t i) = 0 := by
  rw [rightR, if_neg h1, if_neg h2, if_neg (by simp [h3]), if_neg h4]
theorem wrong_head {l : List Rec} {k : Nat} (hk : k < l.length) (h : rightL (l.drop k) = rightL l) (h2 : rightR (l[k]'hk) ≠ 0) : rightL l = rightR (l[k]'hk) := by
  rw [← h, rightL_take k hk, if_neg h2]
theorem wrong_next {l : List Rec} {k : Nat} (hk : k < l.length) (h : rightL (l.drop k) = rightL l) (h2 : rightR (l[k]'hk) = 0) : rightL (l.drop (k + 1)) = rightL l := by
  rw [← h, rightL_take k hk, if_pos h2]

set_option maxHeartbeats 8000000 in
set_option maxRecDepth 100000 in
theorem wrong_any (N : Nat) : ∀ (l : List Rec), SizeOf.sizeOf l ≤ N → ∀ (v : Value) (w : World), Reads w v l → Calls Tryd.prog 66 #[v] w (Says w (.int .i64 (rightL l))) := by
  induction N with
  | zero => intro l hl; cases l <;> simp at hl
  | succ N ih =>
    intro l hl v w hv
    have IH := Lib.hid ih
    have HV := Lib.hid hv
    obtain ⟨a, cap, rfl, h1, h2, hv0⟩ := hv.form
    clear ih hv hv0
    go_enter Tryd.func66, Tryd.ntmps66
    go_wp2_with fail
    go_loopw [3] (fun v3 wr => ∃ (k : Nat), v3 = .int .i64 k ∧ k ≤ l.length ∧ rightL (l.drop k) = rightL l ∧ Below w.heap.size w wr) (fun v3 _ => l.length - (intOf v3).toNat)
    case atStart => exact ⟨0, rfl, Nat.zero_le _, rfl, Below.refl _ _⟩
    case round =>
      obtain ⟨k, rfl, hk, heq, hbw⟩ := hrel
      have hsz := hbw.size
      by_cases hlt : k < l.length
      · obtain ⟨b, off, ui, rfl, hrec, hin⟩ := Reads.at (HV.out.later hbw) k hlt
        have hins := inner_size k hlt
        have HHD := Lib.hid (wrong_head hlt heq)
        have HNX := Lib.hid (wrong_next hlt heq)
        obtain ⟨r, hr⟩ : ∃ r, l[k]'hlt = r := ⟨_, rfl⟩
        have hbl := cell_lt hrec.c0
        rw [hr] at hin hins hrec HHD HNX
        obtain ⟨n, kd, x, t, i⟩ := r
        obtain ⟨c0, c1, c2, c3, c4, n0, n1, n2, n3⟩ := hrec
        simp only [Rec.number, Rec.kind, Rec.num, Rec.text, Rec.inner] at c0 c1 c2 c3 c4 hin hins n0 n1 n2 n3
        have HCALL := Lib.hid (fun W (hW : Below wr.heap.size wr W) => IH.out i (by omega) ui W (hin.later hW))
        obtain ⟨ai, capi, rfl, hci1, hci2, hi0⟩ := hin.form
        obtain ⟨T, hT⟩ : ∃ T : ByteArray, (⟨t.toArray⟩ : ByteArray) = T := ⟨_, rfl⟩
        have hTT : T.toList = [] ↔ t = [] := by rw [← hT, ByteArray.toList_eq]
        rw [hT] at c3
        have HTT := Lib.hid hTT
        obtain ⟨il, hil⟩ : ∃ il, i.length = il := ⟨_, rfl⟩
        have HIL := Lib.hid hil
        rw [hil] at c4 hci1 HCALL
        have HBX := Lib.hid (hbw.alloc hsz (.cells #[.int .i64 n, .int .i64 kd, .int .i64 x, .string T, .slice ai il capi] 53))
        have HBA := Lib.hid (new_below wr (.cells #[.int .i64 n, .int .i64 kd, .int .i64 x, .string T, .slice ai il capi] 53))
        clear hi0 hr hin heq hil hTT hT n0 n1 n2 n3 hbw
        by_cases hn1 : n < 1
        · have HE := Lib.hid (show rightR (.mk n kd x t i) = 24 by rw [rightR, if_pos (.inl hn1)])
          have HF := Lib.hid (HHD.out (by rw [HE.out]; decide))
          go_wp2_with fail
          go_ret
          rw [HF.out, HE.out]
          exact ⟨rfl, HBX.out⟩
        by_cases hn2 : 536870911 < n
        · have HE := Lib.hid (show rightR (.mk n kd x t i) = 24 by rw [rightR, if_pos (.inr hn2)])
          have HF := Lib.hid (HHD.out (by rw [HE.out]; decide))
          go_wp2_with fail
          go_ret
          rw [HF.out, HE.out]
          exact ⟨rfl, HBX.out⟩
        have hnn : ¬ (n < 1 ∨ 536870911 < n) := by omega
        by_cases hk1 : kd < 0
        · have HE := Lib.hid (show rightR (.mk n kd x t i) = 23 by rw [rightR, if_neg hnn, if_pos (.inl hk1)])
          have HF := Lib.hid (HHD.out (by rw [HE.out]; decide))
          go_wp2_with fail
          go_ret
          rw [HF.out, HE.out]
          exact ⟨rfl, HBX.out⟩
        by_cases hk2 : 5 < kd
        · have HE := Lib.hid (show rightR (.mk n kd x t i) = 23 by rw [rightR, if_neg hnn, if_pos (.inr (.inl (by omega)))])
          have HF := Lib.hid (HHD.out (by rw [HE.out]; decide))
          go_wp2_with fail
          go_ret
          rw [HF.out, HE.out]
          exact ⟨rfl, HBX.out⟩
        by_cases hk4 : kd = 4
        · subst hk4
          have HE := Lib.hid (show rightR (.mk n 4 x t i) = 23 by rw [rightR, if_neg hnn, if_pos (.inr (.inr rfl))])
          have HF := Lib.hid (HHD.out (by rw [HE.out]; decide))
          go_wp2_with fail
          go_ret
          rw [HF.out, HE.out]
          exact ⟨rfl, HBX.out⟩
        have HNN := Lib.hid hnn
        clear hnn
        have hkc : kd = 0 ∨ kd = 1 ∨ kd = 2 ∨ kd = 3 ∨ kd = 5 := by omega
        clear hk1 hk2 hk4
        have hl1 : 1 ≤ n := by omega
        have hl2 : n ≤ 536870911 := by omega
        clear hn1 hn2
        rcases hkc with rfl | rfl | rfl | rfl | rfl
        · have HKK := Lib.hid (show ¬ ((0 : Int) < 0 ∨ (6 : Int) ≤ 0 ∨ (0 : Int) = 4) by omega)
          by_cases ht : T.toList = []
          · have ht2 := HTT.out.1 ht
            by_cases hl : 0 < il
            · have HE := Lib.hid (right_one (n := n) (x := x) (t := t) (i := i) HNN.out HKK.out (fits_off (fun h => by have := (h.1 (.inl rfl)).2; rw [this] at HIL; have := HIL.out; simp at this; omega)))
              have HF := Lib.hid (HHD.out (by rw [HE.out]; decide))
              go_wp2_with fail
              go_ret
              rw [HF.out, HE.out]
              exact ⟨rfl, HBX.out⟩
            · have hi2 : i = [] := List.eq_nil_of_length_eq_zero (by rw [HIL.out]; omega)
              have HE := Lib.hid (show rightR (.mk n 0 x t i) = 0 by rw [ht2, hi2]; exact right_zero HNN.out HKK.out (by simp [fitsV, Rec.kind, Rec.num, Rec.text, Rec.inner]) (by omega))
              have HI := Lib.hid (show rightL i = 0 by rw [hi2]; rfl)
              obtain rfl : il = 0 := by omega
              clear hl ht2 hi2
              by_cases hx : x = 0
              · subst hx
                have HN := Lib.hid (HNX.out HE.out)
                go_wp2_with fail
                refine (HCALL.out _ HBA.out).mono ?_
                rintro e w1 ⟨rfl, hb1⟩
                rw [HI.out]
                have HB1 := Lib.hid (HBX.out.trans (hb1.mono (by simp; omega)))
                clear hb1
                go_wp2_with fail
                go_roundw
                case rel => exact ⟨k + 1, by simp, by omega, HN.out, HB1.out⟩
                case measure => simp [intOf] <;> omega
              · have HN := Lib.hid (HNX.out HE.out)
                go_wp2_with fail
                refine (HCALL.out _ HBA.out).mono ?_
                rintro e w1 ⟨rfl, hb1⟩
                rw [HI.out]
                have HB1 := Lib.hid (HBX.out.trans (hb1.mono (by simp; omega)))
                clear hb1
                go_wp2_with fail
                go_roundw
                case rel => exact ⟨k + 1, by simp, by omega, HN.out, HB1.out⟩
                case measure => simp [intOf] <;> omega
          · have HE := Lib.hid (right_one (n := n) (x := x) (t := t) (i := i) HNN.out HKK.out (fits_off (fun h => ht (HTT.out.2 (h.1 (.inl rfl)).1))))
            have HF := Lib.hid (HHD.out (by rw [HE.out]; decide))
            go_wp2_with fail
            go_ret
            rw [HF.out, HE.out]
            exact ⟨rfl, HBX.out⟩
        · have HKK := Lib.hid (show ¬ ((1 : Int) < 0 ∨ (6 : Int) ≤ 1 ∨ (1 : Int) = 4) by omega)
          by_cases ht : T.toList = []
          · have ht2 := HTT.out.1 ht
            by_cases hl : 0 < il
            · have HE := Lib.hid (right_one (n := n) (x := x) (t := t) (i := i) HNN.out HKK.out (fits_off (fun h => by have := (h.1 (.inr rfl)).2; rw [this] at HIL; have := HIL.out; simp at this; omega)))
              have HF := Lib.hid (HHD.out (by rw [HE.out]; decide))
              go_wp2_with fail
              go_ret
              rw [HF.out, HE.out]
              exact ⟨rfl, HBX.out⟩
            · have hi2 : i = [] := List.eq_nil_of_length_eq_zero (by rw [HIL.out]; omega)
              have HE := Lib.hid (show rightR (.mk n 1 x t i) = 0 by rw [ht2, hi2]; exact right_zero HNN.out HKK.out (by simp [fitsV, Rec.kind, Rec.num, Rec.text, Rec.inner]) (by omega))
              have HI := Lib.hid (show rightL i = 0 by rw [hi2]; rfl)
              obtain rfl : il = 0 := by omega
              clear hl ht2 hi2
              by_cases hx : x = 0
              · subst hx
                have HN := Lib.hid (HNX.out HE.out)
                go_wp2_with fail
                refine (HCALL.out _ HBA.out).mono ?_
                rintro e w1 ⟨rfl, hb1⟩
                rw [HI.out]
                have HB1 := Lib.hid (HBX.out.trans (hb1.mono (by simp; omega)))
                clear hb1
                go_wp2_with fail
                go_roundw
                case rel => exact ⟨k + 1, by simp, by omega, HN.out, HB1.out⟩
                case measure => simp [intOf] <;> omega
              · have HN := Lib.hid (HNX.out HE.out)
                go_wp2_with fail
                refine (HCALL.out _ HBA.out).mono ?_
                rintro e w1 ⟨rfl, hb1⟩
                rw [HI.out]
                have HB1 := Lib.hid (HBX.out.trans (hb1.mono (by simp; omega)))
                clear hb1
                go_wp2_with fail
                go_roundw
                case rel => exact ⟨k + 1, by simp, by omega, HN.out, HB1.out⟩
                case measure => simp [intOf] <;> omega
          · have HE := Lib.hid (right_one (n := n) (x := x) (t := t) (i := i) HNN.out HKK.out (fits_off (fun h => ht (HTT.out.2 (h.1 (.inr rfl)).1))))
            have HF := Lib.hid (HHD.out (by rw [HE.out]; decide))
            go_wp2_with fail
            go_ret
            rw [HF.out, HE.out]
            exact ⟨rfl, HBX.out⟩
        · have HKK := Lib.hid (show ¬ ((2 : Int) < 0 ∨ (6 : Int) ≤ 2 ∨ (2 : Int) = 4) by omega)
          by_cases hl : 0 < il
          · have HE := Lib.hid (right_one (n := n) (x := x) (t := t) (i := i) HNN.out HKK.out (fits_off (fun h => by have := (h.2.1 rfl).2; rw [this] at HIL; have := HIL.out; simp at this; omega)))
            have HF := Lib.hid (HHD.out (by rw [HE.out]; decide))
            go_wp2_with fail
            go_ret
            rw [HF.out, HE.out]
            exact ⟨rfl, HBX.out⟩
          · have hi2 : i = [] := List.eq_nil_of_length_eq_zero (by rw [HIL.out]; omega)
            by_cases hx : x = 0
            · subst hx
              have HE := Lib.hid (show rightR (.mk n 2 0 t i) = 0 by rw [hi2]; exact right_zero HNN.out HKK.out (by simp [fitsV, Rec.kind, Rec.num, Rec.text, Rec.inner]) (by omega))
              have HI := Lib.hid (show rightL i = 0 by rw [hi2]; rfl)
              obtain rfl : il = 0 := by omega
              clear hl hi2
              have HN := Lib.hid (HNX.out HE.out)
              go_wp2_with fail
              refine (HCALL.out _ HBA.out).mono ?_
              rintro e w1 ⟨rfl, hb1⟩
              rw [HI.out]
              have HB1 := Lib.hid (HBX.out.trans (hb1.mono (by simp; omega)))
              clear hb1
              go_wp2_with fail
              go_roundw
              case rel => exact ⟨k + 1, by simp, by omega, HN.out, HB1.out⟩
              case measure => simp [intOf] <;> omega
            · have HE := Lib.hid (right_one (n := n) (x := x) (t := t) (i := i) HNN.out HKK.out (fits_off (fun h => hx (h.2.1 rfl).1)))
              clear hi2
              obtain rfl : il = 0 := by omega
              have HF := Lib.hid (HHD.out (by rw [HE.out]; decide))
              go_wp2_with fail
              go_ret
              rw [HF.out, HE.out]
              exact ⟨rfl, HBX.out⟩
        · have HKK := Lib.hid (show ¬ ((3 : Int) < 0 ∨ (6 : Int) ≤ 3 ∨ (3 : Int) = 4) by omega)
          by_cases ht : T.toList = []
          · have ht2 := HTT.out.1 ht
            by_cases hx : x = 0
            · subst hx
              have HE := Lib.hid (show rightR (.mk n 3 0 t i) = rightL i by rw [ht2, rightR, if_neg HNN.out, if_neg HKK.out, if_neg (by simp [fitsV, Rec.kind, Rec.num, Rec.text, Rec.inner]), if_pos rfl])
              obtain ⟨z, hz⟩ : ∃ z, rightL i = z := ⟨_, rfl⟩
              rw [hz] at HE HCALL
              clear hz ht2
              cases hzz : (z != 0 : Bool)
              · obtain rfl : z = 0 := by simpa using hzz
                have HN := Lib.hid (HNX.out HE.out)
                go_wp2_with fail
                refine (HCALL.out _ HBA.out).mono ?_
                rintro e w1 ⟨rfl, hb1⟩
                have HB1 := Lib.hid (HBX.out.trans (hb1.mono (by simp; omega)))
                clear hb1
                go_wp2_with fail
                go_roundw
                case rel => exact ⟨k + 1, by simp, by omega, HN.out, HB1.out⟩
                case measure => simp [intOf] <;> omega
              · have HF := Lib.hid (HHD.out (by rw [HE.out]; simpa using hzz))
                go_wp2_with fail
                refine (HCALL.out _ HBA.out).mono ?_
                rintro e w1 ⟨rfl, hb1⟩
                have HB1 := Lib.hid (HBX.out.trans (hb1.mono (by simp; omega)))
                clear hb1
                go_wp2_with fail
                go_ret
                rw [HF.out, HE.out]
                exact ⟨rfl, HB1.out⟩
            · have HE := Lib.hid (right_one (n := n) (x := x) (t := t) (i := i) HNN.out HKK.out (fits_off (fun h => hx (h.2.2.1 rfl).1)))
              clear ht2
              have HF := Lib.hid (HHD.out (by rw [HE.out]; decide))
              go_wp2_with fail
              go_ret
              rw [HF.out, HE.out]
              exact ⟨rfl, HBX.out⟩
          · have HE := Lib.hid (right_one (n := n) (x := x) (t := t) (i := i) HNN.out HKK.out (fits_off (fun h => ht (HTT.out.2 (h.2.2.1 rfl).2))))
            have HF := Lib.hid (HHD.out (by rw [HE.out]; decide))
            go_wp2_with fail
            go_ret
            rw [HF.out, HE.out]
            exact ⟨rfl, HBX.out⟩
        · have HKK := Lib.hid (show ¬ ((5 : Int) < 0 ∨ (6 : Int) ≤ 5 ∨ (5 : Int) = 4) by omega)
          by_cases ht : T.toList = []
          · have ht2 := HTT.out.1 ht
            by_cases hl : 0 < il
            · have HE := Lib.hid (right_one (n := n) (x := x) (t := t) (i := i) HNN.out HKK.out (fits_off (fun h => by have := (h.2.2.2 rfl).2.1; rw [this] at HIL; have := HIL.out; simp at this; omega)))
              have HF := Lib.hid (HHD.out (by rw [HE.out]; decide))
              go_wp2_with fail
              go_ret
              rw [HF.out, HE.out]
              exact ⟨rfl, HBX.out⟩
            · have hi2 : i = [] := List.eq_nil_of_length_eq_zero (by rw [HIL.out]; omega)
              obtain rfl : il = 0 := by omega
              by_cases hx0 : x < 0
              · have HE := Lib.hid (right_one (n := n) (x := x) (t := t) (i := i) HNN.out HKK.out (fits_off (fun h => by have := (h.2.2.2 rfl).2.2; omega)))
                have hxn : (x != 0 : Bool) = true := by simp; omega
                clear hl ht2 hi2
                have HF := Lib.hid (HHD.out (by rw [HE.out]; decide))
                go_wp2_with fail
                go_ret
                rw [HF.out, HE.out]
                exact ⟨rfl, HBX.out⟩
              · by_cases hx4 : 4294967295 < x
                · have HE := Lib.hid (right_one (n := n) (x := x) (t := t) (i := i) HNN.out HKK.out (fits_off (fun h => by have := (h.2.2.2 rfl).2.2; omega)))
                  have hxn : (x != 0 : Bool) = true := by simp; omega
                  clear hl ht2 hi2
                  have HF := Lib.hid (HHD.out (by rw [HE.out]; decide))
                  go_wp2_with fail
                  go_ret
                  rw [HF.out, HE.out]
                  exact ⟨rfl, HBX.out⟩
                · have HE := Lib.hid (show rightR (.mk n 5 x t i) = 0 by rw [ht2, hi2]; exact right_zero HNN.out HKK.out (by simp [fitsV, Rec.kind, Rec.num, Rec.text, Rec.inner, show 0 ≤ x by omega, show x < 4294967296 by omega]) (by omega))
                  have HI := Lib.hid (show rightL i = 0 by rw [hi2]; rfl)
                  have hx01 : 0 ≤ x := by omega
                  have hx02 : x ≤ 4294967295 := by omega
                  clear hl ht2 hi2 hx0 hx4
                  by_cases hx : x = 0
                  · subst hx
                    have HN := Lib.hid (HNX.out HE.out)
                    go_wp2_with fail
                    refine (HCALL.out _ HBA.out).mono ?_
                    rintro e w1 ⟨rfl, hb1⟩
                    rw [HI.out]
                    have HB1 := Lib.hid (HBX.out.trans (hb1.mono (by simp; omega)))
                    clear hb1
                    go_wp2_with fail
                    go_roundw
                    case rel => exact ⟨k + 1, by simp, by omega, HN.out, HB1.out⟩
                    case measure => simp [intOf] <;> omega
                  · have HN := Lib.hid (HNX.out HE.out)
                    go_wp2_with fail
                    refine (HCALL.out _ HBA.out).mono ?_
                    rintro e w1 ⟨rfl, hb1⟩
                    rw [HI.out]
                    have HB1 := Lib.hid (HBX.out.trans (hb1.mono (by simp; omega)))
                    clear hb1
                    go_wp2_with fail
                    go_roundw
                    case rel => exact ⟨k + 1, by simp, by omega, HN.out, HB1.out⟩
                    case measure => simp [intOf] <;> omega
          · have HE := Lib.hid (right_one (n := n) (x := x) (t := t) (i := i) HNN.out HKK.out (fits_off (fun h => ht (HTT.out.2 (h.2.2.2 rfl).1))))
            have HF := Lib.hid (HHD.out (by rw [HE.out]; decide))
            go_wp2_with fail
            go_ret
            rw [HF.out, HE.out]
            exact ⟨rfl, HBX.out⟩
      · have HE := Lib.hid (show rightL l = 0 by rw [← heq, List.drop_eq_nil_of_le (by omega)]; rfl)
        have hge : l.length ≤ k := by omega
        clear heq
        go_wp2_with fail
        go_ret
        rw [HE.out]
        exact ⟨rfl, hbw⟩
end Go.Proofs.YtecmhpncgdjgjaaDoor
