/-
  The statement WireLonger of package sigillaw2, walked. Conditions: the rows of characters lie as they are laid.
-/
import Derived.Test.YtecmhpncgdjgjaaDoorLongerPlain
import Derived.Test.YtecmhpncgdjgjaaDoorLaid
namespace Go.Proofs.YtecmhpncgdjgjaaDoor
open Go.RowKit
set_option linter.unusedVariables false
set_option linter.unusedSimpArgs false

theorem longer_lit (w : World) (n v : Int) (hn : Is64 n) (hv : Is64 v) (cs : Array Value) (h : cs = #[.int .i64 n, .int .i64 0, .int .i64 v, .string ⟨#[]⟩, .slice none 0 0]) :
    Reads (w.alloc (.cells cs 53)) (.slice (some ⟨w.heap.size, 0, none⟩) 1 1) [.mk n 0 v [] []] := by
  subst h
  refine lit_recs w [.mk n 0 v [] []] _ (fun _ => .slice none 0 0) (by simp) (fun k hk => ?_) (fun k hk => ?_)
  · have h : k = 0 := by simp at hk; omega
    subst h
    exact ⟨rfl, rfl, rfl, rfl, rfl, ⟨hn, by simp [Is64, Rec.kind], hv, by simp [Rec.text]⟩⟩
  · have h : k = 0 := by simp at hk; omega
    subst h
    exact .none _ _ (by omega)

set_option maxHeartbeats 8000000 in
set_option maxRecDepth 100000 in
theorem longer_walk (number v more most : Int) (_ : Is64 number) (hv : Is64 v) (_ : Is64 more) (_ : Is64 most) (w : World) (hr : RowsAt w) : Calls Tryd.prog 8 #[.int .i64 number, .int .i64 v, .int .i64 more, .int .i64 most] w fun e w' => e = .returned (.bool true) ∧ Below w.heap.size w w' := by
  have HROWS := Lib.hid hr
  have hNb := withinV_le (v := number) (lo := 1) (hi := 536870911) (by omega)
  have hMb := withinV_le (v := more) (lo := 0) (hi := 9) (by omega)
  have hKb := withinV_le (v := most) (lo := 0) (hi := 9) (by omega)
  obtain ⟨N, hN⟩ : ∃ N, withinV number 1 536870911 = N := ⟨_, rfl⟩
  obtain ⟨M, hM⟩ : ∃ M : Nat, withinV more 0 9 = (M : Int) := ⟨(withinV more 0 9).toNat, by omega⟩
  obtain ⟨K, hK⟩ : ∃ K : Nat, withinV most 0 9 = (K : Int) := ⟨(withinV most 0 9).toNat, by omega⟩
  rw [hN] at hNb
  rw [hM] at hMb
  rw [hK] at hKb
  obtain ⟨hN1, hN2⟩ := hNb
  have hM2 : M ≤ 9 := by omega
  have hK2 : K ≤ 9 := by omega
  obtain ⟨T, hT⟩ : ∃ T, vb (u64 (N * 8 + 0)) = T := ⟨_, rfl⟩
  obtain ⟨X, hX⟩ : ∃ X, vb (u64 v) = X := ⟨_, rfl⟩
  have hTe : Enc 0 T := hT ▸ vb_enc64 _ (u64_lt _)
  have hXe : Enc 0 X := hX ▸ vb_enc64 _ (u64_lt _)
  have hTl : T.length ≤ 5 := by
    have h := (vb_len 5 (u64 (N * 8 + 0)) (by unfold u64; omega)).2 (by omega)
    rwa [hT] at h
  have hTl1 := hTe.le.1
  have hXl1 := hXe.le.1
  have hXl := hXe.le.2
  have hA := long_enc M T hTe
  have hB := long_enc K X hXe
  obtain ⟨A, hAe⟩ : ∃ A, longV M T = A := ⟨_, rfl⟩
  obtain ⟨B, hBe⟩ : ∃ B, longV K X = B := ⟨_, rfl⟩
  rw [hAe] at hA
  rw [hBe] at hB
  obtain ⟨ha1, ha2, ha3, ha4, ha5⟩ := hA
  obtain ⟨hb1, hb2, hb3, hb4, hb5⟩ := hB
  have hAl := ha1.le
  have hBl := hb1.le
  have HS := Lib.hid (fun st => longer_split st N v T X A B hN1 hN2 hv hT hX ha1 ha2 ha4 ha5 hb1 hb2 hb4 hb5)
  have HSL := Lib.hid (show splitOf false (A ++ B) = ([.mk N 0 v [] []], 0, 0) by rw [HS.out]; simp)
  have HN := Lib.hid hN
  have HM := Lib.hid hM
  have HK := Lib.hid hK
  have HTG := Lib.hid (show tagOf N 0 = (T, 0) by unfold tagOf; rw [if_neg (by omega), if_neg (by omega), hT])
  have HXX := Lib.hid hX
  have HAE := Lib.hid hAe
  have HBE := Lib.hid hBe
  have HV := Lib.hid hv
  have HNI := Lib.hid (show Is64 N from ⟨by omega, by omega⟩)
  obtain ⟨hA1, hA2⟩ := hAl
  obtain ⟨hB1, hB2⟩ := hBl
  obtain ⟨nT, hnT⟩ : ∃ n, T.length = n := ⟨_, rfl⟩
  obtain ⟨nX, hnX⟩ : ∃ n, X.length = n := ⟨_, rfl⟩
  obtain ⟨nA, hnA⟩ : ∃ n, A.length = n := ⟨_, rfl⟩
  obtain ⟨nB, hnB⟩ : ∃ n, B.length = n := ⟨_, rfl⟩
  rw [hnT] at hTl hTl1 ha3
  rw [hnX] at hXl hXl1 hb3
  rw [hnA] at hA1 hA2 ha3
  rw [hnB] at hB1 hB2 hb3
  have HNT := Lib.hid hnT
  have HNX := Lib.hid hnX
  have HNA := Lib.hid hnA
  have HNB := Lib.hid hnB
  clear hr hN hM hMb hK hKb hT hX hTe hXe hAe hBe ha1 ha2 ha4 ha5 hb1 hb2 hb4 hb5 hv hnT hnX hnA hnB
  go_enter Tryd.func8, Tryd.ntmps8
  go_wp2_with fail
  refine (within_any number 1 536870911 (by decide) (by decide) (by decide) w).mono ?_
  rintro e _ ⟨rfl, rfl⟩
  rw [HN.out]
  go_wp2_with fail
  refine (wTag_any N 0 w).mono ?_
  rintro e w1 ⟨v1, rfl, ho1, hb1⟩
  rw [HTG.out] at ho1
  rw [HTG.out]
  have HO1 := Lib.hid ho1
  have HB1 := Lib.hid hb1
  have hs1 := hb1.size
  clear ho1 hb1
  go_wp2_with fail
  refine (wVarint_any v w1).mono ?_
  rintro e w2 ⟨v2, rfl, ho2, hb2⟩
  rw [HXX.out] at ho2
  have HO2 := Lib.hid ho2
  have HB2 := Lib.hid (HB1.out.trans (hb2.mono hs1))
  have HBS2 := Lib.hid hb2
  have hs2 := hb2.size
  have HT2 := Lib.hid ((HO1.out.reads.mono fun _ _ => trivial : BytesAt (fun _ => True) w1 v1 T).later hb2)
  have HX2 := Lib.hid (ho2.reads.mono fun _ _ => trivial : BytesAt (fun _ => True) w2 v2 X)
  clear ho2 hb2
  obtain ⟨aT, cT, rfl, hcT1, hcT2, hz1⟩ := HT2.out
  obtain ⟨aX, cX, rfl, hcX1, hcX2, hz2⟩ := HX2.out
  clear hz1 hz2
  rw [HNT.out] at hcT1 HT2 ⊢
  rw [HNX.out] at hcX1 HX2 ⊢
  go_wp2_with fail
  refine (known_any w2 (HROWS.out.later HB2.out)).mono ?_
  rintro e w3 ⟨rfl, hb3⟩
  have hs3 := hb3.size
  have HB3 := Lib.hid (HB2.out.trans (hb3.mono (by omega)))
  have HT3 := Lib.hid (HT2.out.later hb3)
  have HX3 := Lib.hid (HX2.out.later hb3)
  clear hb3
  go_wp2_with fail
  refine (within_any more 0 9 (by decide) (by decide) (by decide) w3).mono ?_
  rintro e _ ⟨rfl, rfl⟩
  rw [HM.out]
  go_wp2_with fail
  refine (long_any w3 T M _ HT3.out (by rw [HNT.out]; exact hTl1) (by rw [HNT.out]; omega) (by omega)).mono ?_
  rintro e w4 ⟨v4, rfl, ho4, hb4⟩
  rw [HAE.out] at ho4
  have hs4 := hb4.size
  have HB4 := Lib.hid (HB3.out.trans (hb4.mono (by omega)))
  have HA4 := Lib.hid (ho4.reads.mono fun _ _ => trivial : BytesAt (fun _ => True) w4 v4 A)
  have HX4 := Lib.hid (HX3.out.later hb4)
  clear ho4 hb4
  obtain ⟨aA, cA, rfl, hcA1, hcA2, hz1⟩ := HA4.out
  clear hz1
  rw [HNA.out] at hcA1 HA4 ⊢
  go_wp2_with fail
  refine (within_any most 0 9 (by decide) (by decide) (by decide) w4).mono ?_
  rintro e _ ⟨rfl, rfl⟩
  rw [HK.out]
  go_wp2_with fail
  refine (long_any w4 X K _ HX4.out (by rw [HNX.out]; exact hXl1) (by rw [HNX.out]; omega) (by omega)).mono ?_
  rintro e w5 ⟨v5, rfl, ho5, hb5⟩
  rw [HBE.out] at ho5
  have hs5 := hb5.size
  have HB5 := Lib.hid (HB4.out.trans (hb5.mono (by omega)))
  have HBB5 := Lib.hid (ho5.reads.mono fun _ _ => trivial : BytesAt (fun _ => True) w5 v5 B)
  have HA5 := Lib.hid (HA4.out.later hb5)
  clear ho5 hb5
  obtain ⟨aB, cB, rfl, hcB1, hcB2, hz1⟩ := HBB5.out
  clear hz1
  rw [HNB.out] at hcB1 HBB5 ⊢
  go_wp2_with fail
  refine (twin_any w5 A _ HA5.out (by rw [HNA.out]; omega)).mono ?_
  rintro e w6 ⟨v6, rfl, ho6, hb6⟩
  have hs6 := hb6.size
  have HB6 := Lib.hid (HB5.out.trans (hb6.mono (by omega)))
  have HBB6 := Lib.hid (HBB5.out.later hb6)
  have HO6 := Lib.hid ho6
  have HBL := Lib.hid (show (Lib.byteCells B).length = nB by rw [Lib.byteCells_length, HNB.out])
  clear ho6 hb6
  obtain ⟨i0, hi, hz0, hz1, hz2⟩ := info_parts infoB
  obtain ⟨gB, oB, rfl, HGB⟩ : ∃ g off, aB = some ⟨g, off, none⟩ ∧ Hid (∀ j u, (Lib.byteCells B)[j]? = some u → w6.cell? ((⟨g, off, none⟩ : Addr).add j) = some u) := by
    obtain ⟨ad, e1, e2⟩ := bytes_cells HBB6.out (by rw [HBL.out]; omega)
    subst e1
    obtain ⟨g, off, e3, _⟩ := HBB6.out.byte 0 (by rw [HNB.out]; omega)
    injection e3 with e3
    subst e3
    exact ⟨g, off, rfl, e2⟩
  go_wp2_with (at_builtin; refine wpList_append_own_at _ rfl _ _ 24 rfl w5.heap.size 5 i0 (.int .u8 0) 1 1 Tryd.underlying24 hi hz0 hz1 hz2 rfl (by decide) _ _ _ rfl HO6.out ⟨gB, oB, none⟩ nB cB (Lib.byteCells B) rfl (by rw [HBL.out]; omega) HGB.out (byteCells_ones B) ?c3 ?c4 ?c5 ?_)
  case c3 => rw [HNA.out]; unfold maxLen; omega
  case c4 => rw [HNA.out]; omega
  case c5 => omega
  intro v7 w7 hown' hgrow _ hat
  have HO7 := Lib.hid (show OwnB w7 w5.heap.size v7 (A ++ B) from OwnB.put hown' rfl (by rw [HNB.out]))
  have hb7 := (Below.refl w5.heap.size w6).grown hgrow (by omega) (own_base HO6.out)
  have hs7 := hb7.size
  have HB7 := Lib.hid (HB6.out.trans (hb7.mono (by omega)))
  have HR7 := Lib.hid (HO7.out.reads.mono fun _ _ => trivial : BytesAt (fun _ => True) w7 v7 (A ++ B))
  have HLAB := Lib.hid (show (A ++ B).length = nA + nB by rw [List.length_append, HNA.out, HNB.out])
  clear hown' hgrow hat hb7
  go_wp2_with fail
  refine (twin_any w7 (A ++ B) _ HR7.out (by rw [HLAB.out]; omega)).mono ?_
  rintro e w8 ⟨v8, rfl, ho8, hb8⟩
  have hs8 := hb8.size
  have HB8 := Lib.hid (HB7.out.trans (hb8.mono (by omega)))
  have HR8 := Lib.hid (HR7.out.later hb8)
  have HT8 := Lib.hid (ho8.reads.mono fun _ _ => trivial : BytesAt (fun _ => True) w8 v8 (A ++ B))
  clear ho8 hb8
  go_wp2_with fail
  refine (wSplit_any w8 false (A ++ B) _ HT8.out).mono ?_
  rintro e w9 ⟨v9, rfl, hr9, _, hb9⟩
  rw [HSL.out] at hr9
  rw [HSL.out]
  have hs9 := hb9.size
  have HB9 := Lib.hid (HB8.out.trans (hb9.mono (by omega)))
  have HR9 := Lib.hid (HR8.out.later hb9)
  have HL9 := Lib.hid (show Reads w9 v9 [.mk N 0 v [] []] from hr9.mono fun _ _ => trivial)
  clear hr9 hb9
  go_wp2_with fail
  refine (sameRecs_any _ [.mk N 0 v [] []] (Nat.le_refl _) [.mk N 0 v [] []] _ _ _ (HL9.out.later (alloc_below _ _)) (longer_lit w9 N v HNI.out HV.out _ rfl)).mono ?_
  rintro e w10 ⟨rfl, hb10⟩
  rw [sameL_refl]
  have hs10 : w9.heap.size ≤ w10.heap.size := by have := hb10.size; rw [World.size_alloc] at this; omega
  have hb10' := (alloc_below w9 (.cells #[.int .i64 N, .int .i64 0, .int .i64 v, .string ⟨#[]⟩, .slice none 0 0] 53)).trans (hb10.mono (by simp))
  have HB10 := Lib.hid (HB9.out.trans (hb10'.mono (by omega)))
  have HR10 := Lib.hid (HR9.out.later hb10')
  have HL10 := Lib.hid (HL9.out.later hb10')
  clear hb10 hb10'
  by_cases c1 : nT < nA
  · have HS1 := Lib.hid (show splitOf true (A ++ B) = ([], 22, 0) by rw [HS.out, if_pos ⟨rfl, by rw [HNT.out, HNA.out]; exact c1⟩])
    go_wp2_with fail
    refine (wSplit_any w10 true (A ++ B) _ HR10.out).mono ?_
    rintro e w11 ⟨v11, rfl, hr11, hn11, hb11⟩
    rw [HS1.out] at hr11 hn11
    rw [HS1.out]
    obtain rfl := hn11 (by simp)
    have HB11 := Lib.hid (HB10.out.trans (hb11.mono (by omega)))
    clear hr11 hb11
    go_wp2_with fail
    go_ret
    exact ⟨rfl, HB11.out⟩
  · by_cases c2 : nX < nB
    · have HS1 := Lib.hid (show splitOf true (A ++ B) = ([], 22, nA) by rw [HS.out, if_neg (by rintro ⟨_, h⟩; rw [HNT.out, HNA.out] at h; exact c1 h), if_pos ⟨rfl, by rw [HNX.out, HNB.out]; exact c2⟩, HNA.out])
      go_wp2_with fail
      refine (wSplit_any w10 true (A ++ B) _ HR10.out).mono ?_
      rintro e w11 ⟨v11, rfl, hr11, hn11, hb11⟩
      rw [HS1.out] at hr11 hn11
      rw [HS1.out]
      obtain rfl := hn11 (by simp)
      have HB11 := Lib.hid (HB10.out.trans (hb11.mono (by omega)))
      clear hr11 hb11 hn11
      go_wp2_with fail
      go_ret
      exact ⟨rfl, HB11.out⟩
    · have HS1 := Lib.hid (show splitOf true (A ++ B) = ([.mk N 0 v [] []], 0, 0) by rw [HS.out, if_neg (by rintro ⟨_, h⟩; rw [HNT.out, HNA.out] at h; exact c1 h), if_neg (by rintro ⟨_, h⟩; rw [HNX.out, HNB.out] at h; exact c2 h)])
      go_wp2_with fail
      refine (wSplit_any w10 true (A ++ B) _ HR10.out).mono ?_
      rintro e w11 ⟨v11, rfl, hr11, hn11, hb11⟩
      rw [HS1.out] at hr11 hn11
      rw [HS1.out]
      have HB11 := Lib.hid (HB10.out.trans (hb11.mono (by omega)))
      have hs11 := hb11.size
      have HL11 := Lib.hid (HL10.out.later hb11)
      have HM11 := Lib.hid (show Reads w11 v11 [.mk N 0 v [] []] from hr11.mono fun _ _ => trivial)
      clear hr11 hb11 hn11
      go_wp2_with fail
      refine (sameRecs_any _ [.mk N 0 v [] []] (Nat.le_refl _) [.mk N 0 v [] []] _ _ _ HM11.out HL11.out).mono ?_
      rintro e w12 ⟨rfl, hb12⟩
      rw [sameL_refl]
      have HB12 := Lib.hid (HB11.out.trans (hb12.mono (by omega)))
      clear hb12
      go_wp2_with fail
      go_ret
      exact ⟨rfl, HB12.out⟩
end Go.Proofs.YtecmhpncgdjgjaaDoor
