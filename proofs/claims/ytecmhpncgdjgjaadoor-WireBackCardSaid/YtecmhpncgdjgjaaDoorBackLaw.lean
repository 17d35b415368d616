/-
  The statement WireBack of package sigillaw2, walked. Conditions: the rows of characters lie as they are laid; lists that a process can hold.
-/
import Derived.Test.YtecmhpncgdjgjaaDoorTames
import Derived.Test.YtecmhpncgdjgjaaDoorLaid
namespace Go.Proofs.YtecmhpncgdjgjaaDoor
open Go.RowKit
set_option linter.unusedVariables false
set_option linter.unusedSimpArgs false

set_option maxHeartbeats 16000000 in
set_option maxRecDepth 100000 in
theorem back_walk (l : List Rec) (hlen : lensL 2199023255552 l) (hwd : wideL l) (v : Value) (w : World) (hv : Reads w v l) (hr : RowsAt w) : Calls Tryd.prog 6 #[v] w fun e w' => e = .returned (.bool true) ∧ Below w.heap.size w w' := by
  have HV := Lib.hid hv
  have HT := Lib.hid (tame_right (m := 60) hwd (by omega) hlen)
  have HTAME := Lib.hid (tames_any l hlen hwd v)
  obtain ⟨a, cap, rfl, h1, h2, hv0⟩ := hv.form
  obtain ⟨want, hwant⟩ : ∃ y, tameS 60 l = y := ⟨_, rfl⟩
  rw [hwant] at HT HTAME
  clear hv hv0 hwant hlen hwd
  go_enter Tryd.func6, Tryd.ntmps6
  go_wp2_with fail
  refine (known_any w hr).mono ?_
  rintro e w1 ⟨rfl, hb1⟩
  have HB1 := Lib.hid hb1
  have HV1 := Lib.hid (HV.out.later hb1)
  have hs1 := hb1.size
  clear hb1
  go_wp2_with fail
  refine (HTAME.out w1 HV1.out).mono ?_
  rintro e w2 ⟨v2, rfl, hr2, hb2⟩
  have HR2 := Lib.hid (show Reads w2 v2 want from hr2.mono fun _ _ => trivial)
  have HB2 := Lib.hid (HB1.out.trans (hb2.mono hs1))
  have hs2 := hb2.size
  clear hr2 hb2
  obtain ⟨a2, c2, rfl, h21, h22, h23⟩ := HR2.out.form
  clear h23
  go_wp2_with fail
  refine (twinRecs_any _ want (Nat.le_refl _) HT.out.2.2.2 _ w2 HR2.out).mono ?_
  rintro e w3 ⟨v3, rfl, hr3, hb3⟩
  have HR3 := Lib.hid (show Reads w3 v3 want from hr3.mono fun _ _ => trivial)
  have HR23 := Lib.hid (HR2.out.later hb3)
  have HB3 := Lib.hid (HB2.out.trans (hb3.mono (by omega)))
  have hs3 := hb3.size
  clear hr3 hb3
  go_wp2_with fail
  refine (wJoin_any want v3 w3 HR3.out).mono ?_
  rintro e w4 ⟨v4, rfl, ho4, hb4⟩
  have HR4 := Lib.hid (HR23.out.later hb4)
  have HB4 := Lib.hid (HB3.out.trans (hb4.mono (by omega)))
  have hs4 := hb4.size
  have HBY := Lib.hid (ho4.reads.mono fun _ _ => trivial : BytesAt (fun _ => True) w4 v4 (joinOf want).1)
  clear ho4 hb4
  have HGOOD := Lib.hid (join_good (l := want))
  have HLARGE := Lib.hid (join_large (l := want) HT.out.2.1 HT.out.1 (by have := HT.out.2.2.1; omega))
  obtain ⟨⟨jb, je⟩, hJ⟩ : ∃ r, joinOf want = r := ⟨_, rfl⟩
  rw [hJ] at HBY HGOOD HLARGE ⊢
  simp only at HBY HGOOD HLARGE ⊢
  clear hJ
  obtain ⟨a4, c4, rfl, h41, h42, h43⟩ := HBY.out
  clear h43
  cases hje : (je != 0 : Bool)
  · obtain rfl : je = 0 := by simpa using hje
    have HJL := Lib.hid (show (encL want).length ≤ 1048576 from (HGOOD.out rfl).2)
    obtain rfl : jb = encL want := by have := (HGOOD.out rfl).1; simpa using this
    go_wp2_with fail
    go_loopw [6] (fun vi wr => ∃ k : Nat, vi = .int .i64 k ∧ k ≤ 2 ∧ Below w4.heap.size w4 wr) (fun vi _ => 2 - (intOf vi).toNat)
    case atStart => exact ⟨0, rfl, by omega, Below.refl _ _⟩
    case round =>
      obtain ⟨k, rfl, hk, hbw⟩ := hrel
      have HBW := Lib.hid hbw
      have hsw := hbw.size
      clear hbw
      by_cases hk2 : k < 2
      · cases hkb : ((k : Int) == 0 : Bool)
        · go_wp2_with fail
          refine (twin_any wr (encL want) _ (HBY.out.later HBW.out) (by have := HJL.out; omega)).mono ?_
          rintro e x1 ⟨t1, rfl, ho1, hx1⟩
          have HT1 := Lib.hid (ho1.reads.mono fun _ _ => trivial : BytesAt (fun _ => True) x1 t1 (encL want))
          have HX1 := Lib.hid (HBW.out.trans (hx1.mono hsw))
          have hx1s := hx1.size
          clear ho1 hx1
          go_wp2_with fail
          refine (wSplit_any x1 false (encL want) _ HT1.out).mono ?_
          rintro e x2 ⟨v7, rfl, hr7, _, hx2⟩
          rw [splitOf_enc false want HT.out.1 HT.out.2.1 (by have := HT.out.2.2.1; omega) HJL.out] at hr7
          rw [splitOf_enc false want HT.out.1 HT.out.2.1 (by have := HT.out.2.2.1; omega) HJL.out]
          have HR7 := Lib.hid (show Reads x2 v7 want from hr7.mono fun _ _ => trivial)
          have HX2 := Lib.hid (HX1.out.trans (hx2.mono (by omega)))
          have HW2 := Lib.hid (HR4.out.later HX2.out)
          have hx2s := hx2.size
          clear hr7 hx2
          go_wp2_with fail
          refine (sameRecs_any _ want (Nat.le_refl _) want _ _ x2 HR7.out HW2.out).mono ?_
          rintro e x3 ⟨rfl, hx3⟩
          rw [sameL_refl]
          have HX3 := Lib.hid (HX2.out.trans (hx3.mono (by omega)))
          clear hx3
          go_wp2_with fail
          go_roundw
          case rel => exact ⟨k + 1, by simp, by omega, HX3.out⟩
          case measure => simp [intOf] <;> omega
        · go_wp2_with fail
          refine (twin_any wr (encL want) _ (HBY.out.later HBW.out) (by have := HJL.out; omega)).mono ?_
          rintro e x1 ⟨t1, rfl, ho1, hx1⟩
          have HT1 := Lib.hid (ho1.reads.mono fun _ _ => trivial : BytesAt (fun _ => True) x1 t1 (encL want))
          have HX1 := Lib.hid (HBW.out.trans (hx1.mono hsw))
          have hx1s := hx1.size
          clear ho1 hx1
          go_wp2_with fail
          refine (wSplit_any x1 true (encL want) _ HT1.out).mono ?_
          rintro e x2 ⟨v7, rfl, hr7, _, hx2⟩
          rw [splitOf_enc true want HT.out.1 HT.out.2.1 (by have := HT.out.2.2.1; omega) HJL.out] at hr7
          rw [splitOf_enc true want HT.out.1 HT.out.2.1 (by have := HT.out.2.2.1; omega) HJL.out]
          have HR7 := Lib.hid (show Reads x2 v7 want from hr7.mono fun _ _ => trivial)
          have HX2 := Lib.hid (HX1.out.trans (hx2.mono (by omega)))
          have HW2 := Lib.hid (HR4.out.later HX2.out)
          have hx2s := hx2.size
          clear hr7 hx2
          go_wp2_with fail
          refine (sameRecs_any _ want (Nat.le_refl _) want _ _ x2 HR7.out HW2.out).mono ?_
          rintro e x3 ⟨rfl, hx3⟩
          rw [sameL_refl]
          have HX3 := Lib.hid (HX2.out.trans (hx3.mono (by omega)))
          clear hx3
          go_wp2_with fail
          go_roundw
          case rel => exact ⟨k + 1, by simp, by omega, HX3.out⟩
          case measure => simp [intOf] <;> omega
      · go_wp2_with fail
        go_ret
        exact ⟨rfl, HB4.out.trans (HBW.out.mono (by omega))⟩
  · have hje2 : je ≠ 0 := by simpa using hje
    obtain ⟨hl1, hl2, hl3⟩ := HLARGE.out hje2
    have HL1 := Lib.hid hl1
    subst hl3
    have HLC := Lib.hid (large_any _ want (Nat.le_refl _) HT.out.2.1 60 (by omega) HT.out.2.2.1 _ w4 HR4.out)
    obtain ⟨y, hy⟩ : ∃ y, largeS 0 want = y := ⟨_, rfl⟩
    rw [hy] at HL1 HLC
    have hyl := HL1.out
    clear hl1 hy
    rcases hl2 with rfl | rfl
    · go_wp2_with fail
      refine HLC.out.mono ?_
      rintro e w5 ⟨rfl, hb5⟩
      have HB5 := Lib.hid (HB4.out.trans (hb5.mono (by omega)))
      clear hb5
      go_wp2_with fail
      go_ret
      refine ⟨?_, HB5.out⟩
      simp
      omega
    · go_wp2_with fail
      refine HLC.out.mono ?_
      rintro e w5 ⟨rfl, hb5⟩
      have HB5 := Lib.hid (HB4.out.trans (hb5.mono (by omega)))
      clear hb5
      go_wp2_with fail
      go_ret
      refine ⟨?_, HB5.out⟩
      simp
      omega
end Go.Proofs.YtecmhpncgdjgjaaDoor
