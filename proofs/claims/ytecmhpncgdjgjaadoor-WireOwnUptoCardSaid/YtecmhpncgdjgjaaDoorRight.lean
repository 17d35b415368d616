/-
  right of package wire, walked. Conditions: none. (Printed by gen_right.py.)
-/
import Derived.Test.YtecmhpncgdjgjaaDoorRec
namespace Go.Proofs.YtecmhpncgdjgjaaDoor
open Go.RowKit
set_option linter.unusedVariables false

theorem kinds_block {w w' : World} (hb : Below (w.heap.size + 1) (w.alloc kindsB) w') : w'.heap[w.heap.size]? = some kindsB := by
  rw [hb.block _ (by omega)]
  show (w.heap.push _)[w.heap.size]? = _
  exact Array.getElem?_push_size

theorem Reads.at {w : World} {a : Option Addr} {n cap : Nat} {l : List Rec} (h : Reads w (.slice a n cap) l) (k : Nat) (hk : k < l.length) :
    ∃ (b off : Nat) (u : Value), a = some ⟨b, off, none⟩ ∧ RecAt w b (off + k * 5) (l[k]'hk) u ∧ Reads w u (l[k]'hk).inner := by
  obtain ⟨a2, cap2, he, h1, h2, h3⟩ := h.form
  injection he with e1 e2 e3
  rcases h3 with rfl | ⟨b, off, us, h4, h5, h6⟩
  · simp at hk
  · exact ⟨b, off, us k, e1.trans h4, h5 k hk, h6 k hk⟩

theorem fn_nil (f : Nat) (W : World) : (binOp BinOp.eql 113 (Value.func (Fn.func f) #[] #[]) Value.nilFunc).run Tryd.prog W = .ok (.bool false) W := by kernel_rfl
theorem nil_nil (W : World) : (binOp BinOp.eql 113 Value.nilFunc Value.nilFunc).run Tryd.prog W = .ok (.bool true) W := by kernel_rfl

/-- A record's box, in whatever world comes of it. -/
theorem box_block {w w' : World} {o : Obj} (hb : Below (w.alloc o).drew.heap.size (w.alloc o).drew w') : w'.heap[w.heap.size]? = some o := by
  rw [hb.block _ (by show w.heap.size < (w.heap.push o).size; simp)]
  show (w.heap.push _)[w.heap.size]? = _
  exact Array.getElem?_push_size

theorem rightR_24 {n k x : Int} {t : List UInt8} {i : List Rec} (h : n < 1 ∨ 536870911 < n) : rightR (.mk n k x t i) = 24 := by rw [rightR, if_pos h]
theorem rightR_23 {n k x : Int} {t : List UInt8} {i : List Rec} (h0 : ¬ (n < 1 ∨ 536870911 < n)) (h : k < 0 ∨ 6 ≤ k ∨ k = 4) : rightR (.mk n k x t i) = 23 := by rw [rightR, if_neg h0, if_pos h]
theorem rightR_1 {n k x : Int} {t : List UInt8} {i : List Rec} (h0 : ¬ (n < 1 ∨ 536870911 < n)) (h : ¬ (k < 0 ∨ 6 ≤ k ∨ k = 4)) (hf : fitsV (.mk n k x t i) = false) : rightR (.mk n k x t i) = 1 := by rw [rightR, if_neg h0, if_neg h, if_pos hf]
theorem rightR_0 {n k x : Int} {t : List UInt8} {i : List Rec} (h0 : ¬ (n < 1 ∨ 536870911 < n)) (h : ¬ (k < 0 ∨ 6 ≤ k ∨ k = 4)) (hf : fitsV (.mk n k x t i) = true) (h3 : k ≠ 3) : rightR (.mk n k x t i) = 0 := by rw [rightR, if_neg h0, if_neg h, if_neg (by simp [hf]), if_neg h3]
theorem rightR_3 {n x : Int} {t : List UInt8} {i : List Rec} (h0 : ¬ (n < 1 ∨ 536870911 < n)) (hf : fitsV (.mk n 3 x t i) = true) : rightR (.mk n 3 x t i) = rightL i := by rw [rightR, if_neg h0, if_neg (by omega), if_neg (by simp [hf]), if_pos rfl]

theorem text_empty (t : List UInt8) : (⟨t.toArray⟩ : ByteArray).toList.isEmpty = t.isEmpty := by rw [ByteArray.toList_eq]

set_option maxHeartbeats 8000000 in
set_option maxRecDepth 100000 in
theorem right_any (n : Nat) : ∀ (l : List Rec), SizeOf.sizeOf l ≤ n → ∀ (v : Value) (w : World), Reads w v l → Calls Tryd.prog 63 #[v] w (Says w (.int .i64 (rightL l))) := by
  induction n with
  | zero => intro l hl; cases l <;> simp at hl
  | succ n ih =>
    intro l hl v w h
    have h0 := h
    obtain ⟨a, cap, rfl, hlc, hcm, hr⟩ := h0.form
    have H := Lib.hid h
    have IH := Lib.hid ih
    clear h h0 ih hr
    go_enter Tryd.func63, Tryd.ntmps63
    go_wp2_with fail
    refine (kinds_any w).mono ?_
    rintro e w1 ⟨rfl, rfl⟩
    go_wp2
    go_loopw [10] (fun vi wr => ∃ k : Nat, vi = .int .i64 k ∧ k ≤ l.length ∧ Below (w.heap.size + 1) (w.alloc kindsB) wr ∧ rightL (l.drop k) = rightL l) (fun vi _ => l.length - (intOf vi).toNat)
    case atStart => exact ⟨0, rfl, Nat.zero_le _, Below.refl _ _, rfl⟩
    case round =>
      obtain ⟨k, rfl, hk, hbw, hrt⟩ := hrel
      have hb0 : Below w.heap.size w wr := ((Below.refl _ w).alloc (Nat.le_refl _) _).trans (hbw.mono (by omega))
      by_cases hlt : k < l.length
      · have hsz := hbw.size
        rw [World.size_alloc] at hsz
        have hRd := H.out.later hb0
        obtain ⟨b, off, u, rfl, hrec, hin⟩ := hRd.at k hlt
        have hbl := cell_lt hrec.c0
        obtain ⟨a2, cap2, rfl, hl2, hc2, _⟩ := hin.form
        have hstep := rightL_take k hlt
        rw [hrt] at hstep
        obtain ⟨r, hR⟩ : ∃ r, l[k]'hlt = r := ⟨_, rfl⟩
        have hins := inner_size k hlt
        rw [hR] at hrec hin hstep hins
        obtain ⟨nr, kd, x, t, i⟩ := r
        obtain ⟨c0, c1, c2, c3, c4, n0, n1, n2, n3⟩ := hrec
        simp only [Rec.number, Rec.kind, Rec.num, Rec.text, Rec.inner] at c0 c1 c2 c3 c4 n0 n1 n2 n3 hin hins
        have HK := Lib.hid (Lib.cell_of_heap (kinds_block hbw))
        have hwl : w.heap.size < wr.heap.size := by omega
        have HIN := Lib.hid hin
        have HST := Lib.hid hstep
        have hbx : Below (w.heap.size + 1) (w.alloc kindsB) (wr.alloc (.cells #[.int .i64 nr, .int .i64 kd, .int .i64 x, .string ⟨t.toArray⟩, .slice a2 i.length cap2] 53)) := hbw.alloc hsz _
        have HBX := Lib.hid hbx
        have hb0x := hb0.alloc (by omega) (.cells #[.int .i64 nr, .int .i64 kd, .int .i64 x, .string ⟨t.toArray⟩, .slice a2 i.length cap2] 53)
        have HB0X := Lib.hid hb0x
        clear hin hstep hrt hR hRd hbx hb0x
        by_cases hn1 : nr < 1
        · have HV := Lib.hid (HST.out.trans (by rw [rightR_24 (.inl hn1)]; rfl) : rightL l = 24)
          go_wp2_with fail
          go_ret
          exact ⟨say_int HV.out.symm, HB0X.out⟩
        by_cases hn2 : 536870911 < nr
        · have HV := Lib.hid (HST.out.trans (by rw [rightR_24 (.inr hn2)]; rfl) : rightL l = 24)
          go_wp2_with fail
          go_ret
          exact ⟨say_int HV.out.symm, HB0X.out⟩
        have HN := Lib.hid (show ¬ (nr < 1 ∨ 536870911 < nr) by omega)
        by_cases hk1 : kd < 0
        · have HV := Lib.hid (HST.out.trans (by rw [rightR_23 HN.out (.inl hk1)]; rfl) : rightL l = 23)
          go_wp2_with fail
          go_ret
          exact ⟨say_int HV.out.symm, HB0X.out⟩
        by_cases hk2 : 6 ≤ kd
        · have HV := Lib.hid (HST.out.trans (by rw [rightR_23 HN.out (.inr (.inl hk2))]; rfl) : rightL l = 23)
          go_wp2_with fail
          go_ret
          exact ⟨say_int HV.out.symm, HB0X.out⟩
        have hkc : kd = 0 ∨ kd = 1 ∨ kd = 2 ∨ kd = 3 ∨ kd = 4 ∨ kd = 5 := by omega
        clear hk1 hk2
        rcases hkc with rfl | rfl | rfl | rfl | rfl | rfl
        · obtain ⟨f, hf⟩ : ∃ f : Bool, ((⟨t.toArray⟩ : ByteArray).toList.isEmpty && ((i.length : Nat) : Int) == 0) = f := ⟨_, rfl⟩
          have hK : wr.cell? ⟨w.heap.size, 0, none⟩ = some (.func (.func 87) #[] #[]) := HK.out 0
          have hq0 := fn_nil 87
          have HFV := Lib.hid (show fitsV (.mk nr 0 x t i) = f by rw [← hf]; (try simp only [text_empty]); rfl)
          have HF := Lib.hid hf
          clear hf
          cases f
          · have HV := Lib.hid (HST.out.trans (by rw [rightR_1 HN.out (by omega) HFV.out]; rfl) : rightL l = 1)
            go_wp2_with fail
            go_region_law (first | (refine step_call rfl 87 #[.agg #[.int .i64 nr, .int .i64 0, .int .i64 x, .string ⟨t.toArray⟩, .slice a2 i.length cap2]] (by kernel_rfl) (fits0_any nr 0 x ⟨t.toArray⟩ a2 i.length cap2 _) ?_; rintro e w2 ⟨rfl, hb2⟩; refine ⟨_, rfl, ?_⟩; rw [HF.out]))
            all_goals
              have hb3 := HB0X.out.trans ((Below.refl _ _).drew.trans (hb2.mono (by simp; omega)))
              go_wp2
              go_ret
              exact ⟨say_int HV.out.symm, hb3⟩
          · have HV := Lib.hid (HST.out.trans (by rw [rightR_0 HN.out (by omega) HFV.out (by omega)]; rfl) : rightL l = rightL (l.drop (k + 1)))
            go_wp2_with fail
            go_region_law (first | (refine step_call rfl 87 #[.agg #[.int .i64 nr, .int .i64 0, .int .i64 x, .string ⟨t.toArray⟩, .slice a2 i.length cap2]] (by kernel_rfl) (fits0_any nr 0 x ⟨t.toArray⟩ a2 i.length cap2 _) ?_; rintro e w2 ⟨rfl, hb2⟩; refine ⟨_, rfl, ?_⟩; rw [HF.out]))
            all_goals
              have hb3 := HBX.out.trans ((Below.refl _ _).drew.trans (hb2.mono (by simp; omega)))
              have hX := Lib.cell_of_heap (box_block hb2)
              go_wp2
              go_roundw
              case rel => exact ⟨k + 1, by go_num, by omega, hb3, HV.out.symm⟩
              case measure => simp [intOf]; omega
        · obtain ⟨f, hf⟩ : ∃ f : Bool, ((⟨t.toArray⟩ : ByteArray).toList.isEmpty && ((i.length : Nat) : Int) == 0) = f := ⟨_, rfl⟩
          have hK : wr.cell? ⟨w.heap.size, 3, none⟩ = some (.func (.func 90) #[] #[]) := HK.out 3
          have hq0 := fn_nil 90
          have HFV := Lib.hid (show fitsV (.mk nr 1 x t i) = f by rw [← hf]; (try simp only [text_empty]); rfl)
          have HF := Lib.hid hf
          clear hf
          cases f
          · have HV := Lib.hid (HST.out.trans (by rw [rightR_1 HN.out (by omega) HFV.out]; rfl) : rightL l = 1)
            go_wp2_with fail
            go_region_law (first | (refine step_call rfl 90 #[.agg #[.int .i64 nr, .int .i64 1, .int .i64 x, .string ⟨t.toArray⟩, .slice a2 i.length cap2]] (by kernel_rfl) (fits1_any nr 1 x ⟨t.toArray⟩ a2 i.length cap2 _) ?_; rintro e w2 ⟨rfl, hb2⟩; refine ⟨_, rfl, ?_⟩; rw [HF.out]))
            all_goals
              have hb3 := HB0X.out.trans ((Below.refl _ _).drew.trans (hb2.mono (by simp; omega)))
              go_wp2
              go_ret
              exact ⟨say_int HV.out.symm, hb3⟩
          · have HV := Lib.hid (HST.out.trans (by rw [rightR_0 HN.out (by omega) HFV.out (by omega)]; rfl) : rightL l = rightL (l.drop (k + 1)))
            go_wp2_with fail
            go_region_law (first | (refine step_call rfl 90 #[.agg #[.int .i64 nr, .int .i64 1, .int .i64 x, .string ⟨t.toArray⟩, .slice a2 i.length cap2]] (by kernel_rfl) (fits1_any nr 1 x ⟨t.toArray⟩ a2 i.length cap2 _) ?_; rintro e w2 ⟨rfl, hb2⟩; refine ⟨_, rfl, ?_⟩; rw [HF.out]))
            all_goals
              have hb3 := HBX.out.trans ((Below.refl _ _).drew.trans (hb2.mono (by simp; omega)))
              have hX := Lib.cell_of_heap (box_block hb2)
              go_wp2
              go_roundw
              case rel => exact ⟨k + 1, by go_num, by omega, hb3, HV.out.symm⟩
              case measure => simp [intOf]; omega
        · obtain ⟨f, hf⟩ : ∃ f : Bool, (x == 0 && ((i.length : Nat) : Int) == 0) = f := ⟨_, rfl⟩
          have hK : wr.cell? ⟨w.heap.size, 6, none⟩ = some (.func (.func 93) #[] #[]) := HK.out 6
          have hq0 := fn_nil 93
          have HFV := Lib.hid (show fitsV (.mk nr 2 x t i) = f by rw [← hf]; (try simp only [text_empty]); rfl)
          have HF := Lib.hid hf
          clear hf
          cases f
          · have HV := Lib.hid (HST.out.trans (by rw [rightR_1 HN.out (by omega) HFV.out]; rfl) : rightL l = 1)
            go_wp2_with fail
            go_region_law (first | (refine step_call rfl 93 #[.agg #[.int .i64 nr, .int .i64 2, .int .i64 x, .string ⟨t.toArray⟩, .slice a2 i.length cap2]] (by kernel_rfl) (fits2_any nr 2 x ⟨t.toArray⟩ a2 i.length cap2 _) ?_; rintro e w2 ⟨rfl, hb2⟩; refine ⟨_, rfl, ?_⟩; rw [HF.out]))
            all_goals
              have hb3 := HB0X.out.trans ((Below.refl _ _).drew.trans (hb2.mono (by simp; omega)))
              go_wp2
              go_ret
              exact ⟨say_int HV.out.symm, hb3⟩
          · have HV := Lib.hid (HST.out.trans (by rw [rightR_0 HN.out (by omega) HFV.out (by omega)]; rfl) : rightL l = rightL (l.drop (k + 1)))
            go_wp2_with fail
            go_region_law (first | (refine step_call rfl 93 #[.agg #[.int .i64 nr, .int .i64 2, .int .i64 x, .string ⟨t.toArray⟩, .slice a2 i.length cap2]] (by kernel_rfl) (fits2_any nr 2 x ⟨t.toArray⟩ a2 i.length cap2 _) ?_; rintro e w2 ⟨rfl, hb2⟩; refine ⟨_, rfl, ?_⟩; rw [HF.out]))
            all_goals
              have hb3 := HBX.out.trans ((Below.refl _ _).drew.trans (hb2.mono (by simp; omega)))
              have hX := Lib.cell_of_heap (box_block hb2)
              go_wp2
              go_roundw
              case rel => exact ⟨k + 1, by go_num, by omega, hb3, HV.out.symm⟩
              case measure => simp [intOf]; omega
        · obtain ⟨f, hf⟩ : ∃ f : Bool, (x == 0 && (⟨t.toArray⟩ : ByteArray).toList.isEmpty) = f := ⟨_, rfl⟩
          have hK : wr.cell? ⟨w.heap.size, 9, none⟩ = some (.func (.func 96) #[] #[]) := HK.out 9
          have hq0 := fn_nil 96
          have HFV := Lib.hid (show fitsV (.mk nr 3 x t i) = f by rw [← hf]; (try simp only [text_empty]); rfl)
          have HF := Lib.hid hf
          clear hf
          cases f
          · have HV := Lib.hid (HST.out.trans (by rw [rightR_1 HN.out (by omega) HFV.out]; rfl) : rightL l = 1)
            go_wp2_with fail
            go_region_law (first | (refine step_call rfl 96 #[.agg #[.int .i64 nr, .int .i64 3, .int .i64 x, .string ⟨t.toArray⟩, .slice a2 i.length cap2]] (by kernel_rfl) (fits3_any nr 3 x ⟨t.toArray⟩ a2 i.length cap2 _) ?_; rintro e w2 ⟨rfl, hb2⟩; refine ⟨_, rfl, ?_⟩; rw [HF.out]))
            all_goals
              have hb3 := HB0X.out.trans ((Below.refl _ _).drew.trans (hb2.mono (by simp; omega)))
              go_wp2
              go_ret
              exact ⟨say_int HV.out.symm, hb3⟩
          · have HV := Lib.hid (HST.out.trans (by rw [rightR_3 HN.out HFV.out]) : rightL l = if rightL i = 0 then rightL (l.drop (k + 1)) else rightL i)
            obtain ⟨q, hq⟩ : ∃ q, rightL i = q := ⟨_, rfl⟩
            have HQ := Lib.hid hq
            clear hq
            cases hq1 : (q != 0 : Bool)
            · go_wp2_with fail
              go_region_law (first | (refine step_call rfl 96 #[.agg #[.int .i64 nr, .int .i64 3, .int .i64 x, .string ⟨t.toArray⟩, .slice a2 i.length cap2]] (by kernel_rfl) (fits3_any nr 3 x ⟨t.toArray⟩ a2 i.length cap2 _) ?_; rintro e w2 ⟨rfl, hb2⟩; refine ⟨_, rfl, ?_⟩; rw [HF.out]))
              all_goals
                have hb3 := HBX.out.trans ((Below.refl _ _).drew.trans (hb2.mono (by simp; omega)))
                have hX := Lib.cell_of_heap (box_block hb2)
                have hin2 := Lib.hid ((HIN.out.later ((Below.refl _ _).alloc (Nat.le_refl _) _)).later ((Below.refl _ _).drew.trans (hb2.mono (by simp))))
                go_wp2_with fail
                refine (IH.out i (by omega) _ _ hin2.out).mono ?_
                rw [HQ.out]
                rintro e w3 ⟨rfl, hb4⟩
                go_wp2
                go_roundw
                case rel => exact ⟨k + 1, by go_num, by omega, hb3.trans (hb4.mono (by have := hb3.size; rw [World.size_alloc] at this; omega)), by rw [HV.out, HQ.out, if_pos (by simpa using hq1)]⟩
                case measure => simp [intOf]; omega
            · go_wp2_with fail
              go_region_law (first | (refine step_call rfl 96 #[.agg #[.int .i64 nr, .int .i64 3, .int .i64 x, .string ⟨t.toArray⟩, .slice a2 i.length cap2]] (by kernel_rfl) (fits3_any nr 3 x ⟨t.toArray⟩ a2 i.length cap2 _) ?_; rintro e w2 ⟨rfl, hb2⟩; refine ⟨_, rfl, ?_⟩; rw [HF.out]))
              all_goals
                have hb3 := HB0X.out.trans ((Below.refl _ _).drew.trans (hb2.mono (by simp; omega)))
                have hX := Lib.cell_of_heap (box_block hb2)
                have hin2 := Lib.hid ((HIN.out.later ((Below.refl _ _).alloc (Nat.le_refl _) _)).later ((Below.refl _ _).drew.trans (hb2.mono (by simp))))
                go_wp2_with fail
                refine (IH.out i (by omega) _ _ hin2.out).mono ?_
                rw [HQ.out]
                rintro e w3 ⟨rfl, hb4⟩
                go_wp2
                go_ret
                exact ⟨say_int (by rw [HV.out, HQ.out, if_neg (by simpa using hq1)]), hb3.trans (hb4.mono (by have := hb3.size; omega))⟩
        · have HV := Lib.hid (HST.out.trans (by rw [rightR_23 HN.out (.inr (.inr rfl))]; rfl) : rightL l = 23)
          have hK : wr.cell? ⟨w.heap.size, 12, none⟩ = some .nilFunc := HK.out 12
          have hq0 := nil_nil
          go_wp2_with fail
          go_ret
          exact ⟨say_int HV.out.symm, HB0X.out⟩
        · obtain ⟨f, hf⟩ : ∃ f : Bool, (((⟨t.toArray⟩ : ByteArray).toList.isEmpty && ((i.length : Nat) : Int) == 0) && (decide (0 ≤ x) && decide (x < 4294967296))) = f := ⟨_, rfl⟩
          have hK : wr.cell? ⟨w.heap.size, 15, none⟩ = some (.func (.func 97) #[] #[]) := HK.out 15
          have hq0 := fn_nil 97
          have HFV := Lib.hid (show fitsV (.mk nr 5 x t i) = f by rw [← hf]; (try simp only [text_empty]); rfl)
          have HF := Lib.hid hf
          clear hf
          cases f
          · have HV := Lib.hid (HST.out.trans (by rw [rightR_1 HN.out (by omega) HFV.out]; rfl) : rightL l = 1)
            go_wp2_with fail
            go_region_law (first | (refine step_call rfl 97 #[.agg #[.int .i64 nr, .int .i64 5, .int .i64 x, .string ⟨t.toArray⟩, .slice a2 i.length cap2]] (by kernel_rfl) (fits5_any nr 5 x ⟨t.toArray⟩ a2 i.length cap2 _) ?_; rintro e w2 ⟨rfl, hb2⟩; refine ⟨_, rfl, ?_⟩; rw [HF.out]))
            all_goals
              have hb3 := HB0X.out.trans ((Below.refl _ _).drew.trans (hb2.mono (by simp; omega)))
              go_wp2
              go_ret
              exact ⟨say_int HV.out.symm, hb3⟩
          · have HV := Lib.hid (HST.out.trans (by rw [rightR_0 HN.out (by omega) HFV.out (by omega)]; rfl) : rightL l = rightL (l.drop (k + 1)))
            go_wp2_with fail
            go_region_law (first | (refine step_call rfl 97 #[.agg #[.int .i64 nr, .int .i64 5, .int .i64 x, .string ⟨t.toArray⟩, .slice a2 i.length cap2]] (by kernel_rfl) (fits5_any nr 5 x ⟨t.toArray⟩ a2 i.length cap2 _) ?_; rintro e w2 ⟨rfl, hb2⟩; refine ⟨_, rfl, ?_⟩; rw [HF.out]))
            all_goals
              have hb3 := HBX.out.trans ((Below.refl _ _).drew.trans (hb2.mono (by simp; omega)))
              have hX := Lib.cell_of_heap (box_block hb2)
              go_wp2
              go_roundw
              case rel => exact ⟨k + 1, by go_num, by omega, hb3, HV.out.symm⟩
              case measure => simp [intOf]; omega
      · have HV := Lib.hid (show rightL l = 0 by rw [← hrt, List.drop_eq_nil_of_le (by omega)]; rfl)
        clear hrt
        go_wp2
        go_ret
        exact ⟨say_int HV.out.symm, hb0⟩
end Go.Proofs.YtecmhpncgdjgjaaDoor
