/-
  The statement WireFronts of package sigillaw2, walked. Conditions: the rows of characters lie as they are laid; lists that a process can hold.
-/
import Derived.Test.YtecmhpncgdjgjaaDoorTames
import Derived.Test.YtecmhpncgdjgjaaDoorFrontPlain
import Derived.Test.YtecmhpncgdjgjaaDoorLaid
namespace Go.Proofs.YtecmhpncgdjgjaaDoor
open Go.RowKit
set_option linter.unusedVariables false
set_option linter.unusedSimpArgs false

theorem Reads.take {w : World} {a : Option Addr} {cap n : Nat} {l : List Rec} (h : Reads w (.slice a n cap) l) (hn : n = l.length) (m : Nat) (hm : m ≤ l.length) : Reads w (.slice a m cap) (l.take m) := by
  cases h with
  | none a cap hc =>
    obtain rfl : m = 0 := by simpa using hm
    exact .none _ _ hc
  | some b off cap l us hP hl hc hr hi =>
    have hlen : (l.take m).length = m := by rw [List.length_take]; omega
    have hX : ReadsR (fun _ => True) w (.slice (Option.some ⟨b, off, Option.none⟩) (l.take m).length cap) (l.take m) := by
      refine .some b off cap _ us trivial (by omega) hc (fun k hk => ?_) (fun k hk => ?_)
      · rw [List.getElem_take]; exact hr k (by omega)
      · rw [List.getElem_take]; exact hi k (by omega)
    rw [hlen] at hX
    exact hX

theorem BytesAt.take {w : World} {a : Option Addr} {cap n : Nat} {b : List UInt8} (h : BytesAt (fun _ => True) w (.slice a n cap) b) (m : Nat) (hm : m ≤ b.length) : BytesAt (fun _ => True) w (.slice a m cap) (b.take m) := by
  obtain ⟨a', cap', e, h1, h2, h3⟩ := h
  cases e
  have hlen : (b.take m).length = m := by rw [List.length_take]; omega
  refine ⟨a, cap, by rw [hlen], by omega, h2, ?_⟩
  rcases h3 with h3 | ⟨g, off, e, hP, hc⟩
  · left; rw [h3]; simp
  · right
    refine ⟨g, off, e, hP, fun k hk => ?_⟩
    rw [List.getElem_take]
    exact hc k (by omega)

set_option maxHeartbeats 16000000 in
set_option maxRecDepth 100000 in
theorem fronts_walk (l : List Rec) (hlen : lensL 2199023255552 l) (hwd : wideL l) (cut : Int) (v : Value) (w : World) (hv : Reads w v l) (hr : RowsAt w) : Calls Tryd.prog 10 #[v, .int .i64 cut] w fun e w' => e = .returned (.bool true) ∧ Below w.heap.size w w' := by
  have HV := Lib.hid hv
  have HT := Lib.hid (tame_right (m := 60) hwd (by omega) hlen)
  have HTAME := Lib.hid (tames_any l hlen hwd v)
  obtain ⟨a, cap, rfl, h1, h2, hv0⟩ := hv.form
  obtain ⟨want, hwant⟩ : ∃ y, tameS 60 l = y := ⟨_, rfl⟩
  rw [hwant] at HT HTAME
  clear hv hv0 hwant hlen hwd
  go_enter Tryd.func10, Tryd.ntmps10
  go_wp2_with fail
  refine (known_any w hr).mono ?_
  rintro e w1 ⟨rfl, hb1⟩
  have HB1 := Lib.hid hb1
  have HV1 := Lib.hid (HV.out.later hb1)
  have hs1 := hb1.size
  clear hb1
  go_wp2_with fail
  refine (HTAME.out w1 HV1.out).mono ?_
  rintro e w2 ⟨v2, rfl, hr2, hb2⟩
  have HR2 := Lib.hid (show Reads w2 v2 want from hr2.mono fun _ _ => trivial)
  have HB2 := Lib.hid (HB1.out.trans (hb2.mono hs1))
  have hs2 := hb2.size
  clear hr2 hb2
  obtain ⟨a2, c2, rfl, h21, h22, h23⟩ := HR2.out.form
  clear h23
  go_wp2_with fail
  refine (twinRecs_any _ want (Nat.le_refl _) HT.out.2.2.2 _ w2 HR2.out).mono ?_
  rintro e w3 ⟨v3, rfl, hr3, hb3⟩
  have HR3 := Lib.hid (show Reads w3 v3 want from hr3.mono fun _ _ => trivial)
  have HR23 := Lib.hid (HR2.out.later hb3)
  have HB3 := Lib.hid (HB2.out.trans (hb3.mono (by omega)))
  have hs3 := hb3.size
  clear hr3 hb3
  go_wp2_with fail
  refine (wJoin_any want v3 w3 HR3.out).mono ?_
  rintro e w4 ⟨v4, rfl, ho4, hb4⟩
  have HR4 := Lib.hid (HR23.out.later hb4)
  have HB4 := Lib.hid (HB3.out.trans (hb4.mono (by omega)))
  have hs4 := hb4.size
  have HBY := Lib.hid (ho4.reads.mono fun _ _ => trivial : BytesAt (fun _ => True) w4 v4 (joinOf want).1)
  clear ho4 hb4
  have HGOOD := Lib.hid (join_good (l := want))
  have HLARGE := Lib.hid (join_large (l := want) HT.out.2.1 HT.out.1 (by have := HT.out.2.2.1; omega))
  obtain ⟨⟨jb, je⟩, hJ⟩ : ∃ r, joinOf want = r := ⟨_, rfl⟩
  rw [hJ] at HBY HGOOD HLARGE ⊢
  simp only at HBY HGOOD HLARGE ⊢
  clear hJ
  cases hje : (je != 0 : Bool)
  · obtain rfl : je = 0 := by simpa using hje
    have hjl := (HGOOD.out rfl).2
    obtain rfl : jb = encL want := by have := (HGOOD.out rfl).1; simpa using this
    have HF := Lib.hid (splitOf_front true want HT.out.1 HT.out.2.1 (by have := HT.out.2.2.1; omega) hjl)
    obtain ⟨a4, c4, rfl, h41, h42, h43⟩ := HBY.out
    obtain ⟨f, hf⟩ : ∃ f, (encL want).length = f := ⟨_, rfl⟩
    have HFL := Lib.hid hf
    rw [hf] at hjl h41 HBY HF ⊢
    have hnb := withinV_le (v := cut) (lo := 0) (hi := (f : Int)) (by omega)
    obtain ⟨n, hn⟩ : ∃ n : Nat, withinV cut 0 f = (n : Int) := ⟨(withinV cut 0 f).toNat, by omega⟩
    rw [hn] at hnb
    have hnf : n ≤ f := by omega
    have HN := Lib.hid hn
    have HFN := Lib.hid (HF.out n hnf)
    clear h43 hf hn hnb
    go_wp2_with fail
    refine (within_any cut 0 f (by omega) (by omega) (by omega) w4).mono ?_
    rintro e _ ⟨rfl, rfl⟩
    rw [HN.out]
    have HTK := Lib.hid (BytesAt.take HBY.out n (by rw [HFL.out]; exact hnf))
    go_wp2_with fail
    have hBn : ((encL want).take n).length = n := by rw [List.length_take, HFL.out]; omega
    obtain ⟨Bn, hBe⟩ : ∃ y, (encL want).take n = y := ⟨_, rfl⟩
    rw [hBe] at hBn HTK HFN
    have HBN := Lib.hid hBn
    clear hBe hBn
    refine (twin_any w4 Bn _ HTK.out (by rw [HBN.out]; omega)).mono ?_
    rintro e w5 ⟨v5, rfl, ho5, hb5⟩
    have HT5 := Lib.hid (ho5.reads.mono fun _ _ => trivial : BytesAt (fun _ => True) w5 v5 Bn)
    have HR5 := Lib.hid (HR4.out.later hb5)
    have HB5 := Lib.hid (HB4.out.trans (hb5.mono (by omega)))
    have hs5 := hb5.size
    clear ho5 hb5
    go_wp2_with fail
    refine (wSplit_any w5 true Bn _ HT5.out).mono ?_
    rintro e w6 ⟨v6, rfl, hr6, hn6, hb6⟩
    have HR6 := Lib.hid (HR5.out.later hb6)
    have HB6 := Lib.hid (HB5.out.trans (hb6.mono (by omega)))
    have hs6 := hb6.size
    clear hb6
    rcases HFN.out with ⟨q, hq1, hq2, hq3⟩ | ⟨m, hm1, hm2, hm3⟩
    · rw [hq1] at hr6 hn6 ⊢
      obtain rfl := hn6 (by simp)
      clear hr6 hn6 hq1
      go_wp2_with fail
      go_ret
      refine ⟨?_, HB6.out⟩
      simp <;> omega
    · rw [hm2] at hr6 ⊢
      have HM := Lib.hid (show Reads w6 v6 (want.take m) from hr6.mono fun _ _ => trivial)
      have HTW := Lib.hid (Reads.take HR6.out rfl m hm1)
      have hml : (want.take m).length = m := by rw [List.length_take]; omega
      obtain ⟨a6, c6, rfl, h61, h62, h63⟩ := HM.out.form
      rw [hml] at h61 HM ⊢
      clear hr6 hn6 hm2 h63 hml
      obtain ⟨W, hW⟩ : ∃ W, want.length = W := ⟨_, rfl⟩
      have HWL := Lib.hid hW
      rw [hW] at hm1 hm3 h21 ⊢
      clear hW
      by_cases hnf2 : n < f
      · clear hm3
        go_wp2_with fail
        refine (sameRecs_any _ (want.take m) (Nat.le_refl _) (want.take m) _ _ w6 HM.out HTW.out).mono ?_
        rintro e w7 ⟨rfl, hb7⟩
        rw [sameL_refl]
        have HB7 := Lib.hid (HB6.out.trans (hb7.mono (by omega)))
        clear hb7
        go_wp2_with fail
        go_ret
        refine ⟨?_, HB7.out⟩
        simp <;> omega
      · obtain rfl : m = W := hm3 (by omega)
        clear hm3
        go_wp2_with fail
        refine (sameRecs_any _ (want.take m) (Nat.le_refl _) (want.take m) _ _ w6 HM.out HTW.out).mono ?_
        rintro e w7 ⟨rfl, hb7⟩
        rw [sameL_refl]
        have HB7 := Lib.hid (HB6.out.trans (hb7.mono (by omega)))
        clear hb7
        go_wp2_with fail
        go_ret
        refine ⟨?_, HB7.out⟩
        simp <;> omega
  · have hje2 : je ≠ 0 := by simpa using hje
    obtain ⟨hl1, hl2, hl3⟩ := HLARGE.out hje2
    subst hl3
    clear hl1
    rcases hl2 with rfl | rfl
    · go_wp2_with fail
      go_ret
      exact ⟨rfl, HB4.out⟩
    · go_wp2_with fail
      go_ret
      exact ⟨rfl, HB4.out⟩
end Go.Proofs.YtecmhpncgdjgjaaDoor
