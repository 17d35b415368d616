/-
  The statement WireForms of package sigillaw2, walked; rows of bytes among the arguments. Conditions: the rows of characters lie as they are laid.
-/
import Derived.Test.YtecmhpncgdjgjaaDoorRoundD
import Derived.Test.YtecmhpncgdjgjaaDoorCopy
import Derived.Test.YtecmhpncgdjgjaaDoorSplitsLaw
namespace Go.Proofs.YtecmhpncgdjgjaaDoor
open Go.RowKit
set_option linter.unusedVariables false
set_option linter.unusedSimpArgs false

theorem lens_count_aux (N : Nat) : ∀ (l : List Rec), SizeOf.sizeOf l ≤ N → l.length ≤ countL l ∧ ∀ M, countL l ≤ M → lensS M l := by
  induction N with
  | zero => intro l h; cases l <;> simp at h
  | succ N ih =>
    intro l h
    cases l with
    | nil => exact ⟨Nat.le_refl _, fun _ _ => trivial⟩
    | cons r rs =>
      obtain ⟨n, k, x, t, i⟩ := r
      simp only [List.cons.sizeOf_spec, Rec.mk.sizeOf_spec] at h
      have h1 := ih rs (by omega)
      have h2 := ih i (by omega)
      rw [countL, countR, List.length_cons]
      refine ⟨by omega, fun M hM => ⟨⟨by omega, h2.2 M (by omega)⟩, h1.2 M (by omega)⟩⟩
theorem lens_count {l : List Rec} {M : Nat} (h : countL l ≤ M) : lensL M l := by
  have h1 := lens_count_aux _ l (Nat.le_refl _)
  exact ⟨by omega, h1.2 M h⟩
theorem splitOf_lens (st : Bool) (b : List UInt8) (h : (splitOf st b).2.1 = 0) : lensL 2199023255552 (splitOf st b).1 := by
  obtain ⟨h1, h2, h3, h4, h5, h6, h7⟩ := splitOf_back st b h
  have := count_le _ h2
  exact lens_count (by omega)
theorem splitOf_place (st : Bool) (b : List UInt8) : (splitOf st b).2.2 ≤ b.length := by
  unfold splitOf
  split
  · exact Nat.zero_le _
  · simp only
    split
    · exact Nat.zero_le _
    · exact (recsR_facts st b 63 (b.length + 1) 0 0 0 (Nat.zero_le _)).2.2.1

set_option maxHeartbeats 16000000 in
set_option maxRecDepth 100000 in
theorem forms_walk (a : Option Addr) (len cap : Nat) (w : World) (h : IsRows w a len cap) (hr : RowsAt w) : Calls Tryd.prog 7 #[.slice a len cap] w fun e w' => e = .returned (.bool true) ∧ Below w.heap.size w w' := by
  obtain ⟨hc1, hc2, hrows⟩ := h
  have HH := Lib.hid hrows
  clear hrows
  go_enter Tryd.func7, Tryd.ntmps7
  go_wp2_with fail
  refine (known_any w hr).mono ?_
  rintro e w1 ⟨rfl, hb1⟩
  go_wp2_with fail
  go_loopw [3] (fun vi wr => ∃ k : Nat, vi = .int .i64 k ∧ k ≤ len ∧ Below w.heap.size w wr) (fun vi _ => len - (intOf vi).toNat)
  case atStart => exact ⟨0, rfl, Nat.zero_le _, hb1⟩
  case round =>
    obtain ⟨k, rfl, hk, hbw⟩ := hrel
    by_cases hlt : k < len
    · obtain ⟨g, off, v, b, rfl, hc, hB, hbl⟩ := HH.out k hlt
      have kc := hbw.cell (p := ⟨g, off + k, none⟩) (cell_lt hc)
      rw [hc] at kc
      have HBV := Lib.hid (hB.later hbw)
      obtain ⟨av, capv, rfl, hcv1, hcv2, hv0⟩ := hB
      have HB := Lib.hid hbw
      have hs0 := hbw.size
      clear hc hv0 hbw
      have HP := Lib.hid (splitOf_place true b)
      have HQ := Lib.hid (splitOf_place false b)
      have HN := Lib.hid (splitOf_nil true b)
      have HNL := Lib.hid (splitOf_nil false b)
      have HJ := Lib.hid (splitOf_join false b)
      have HLE := Lib.hid (splitOf_back false b)
      have HTR := Lib.hid (splitOf_back true b)
      have HAG := Lib.hid (splitOf_again false true b)
      have HLO := Lib.hid (splitOf_loose b)
      have HLN := Lib.hid (splitOf_lens false b)
      have HST := Lib.hid (fun W v (hW : BytesAt (fun _ => True) W v b) => wSplit_any W true b v hW)
      have HLS := Lib.hid (fun W v (hW : BytesAt (fun _ => True) W v b) => wSplit_any W false b v hW)
      obtain ⟨⟨ls, es, ps⟩, hS⟩ : ∃ r, splitOf true b = r := ⟨_, rfl⟩
      obtain ⟨⟨ll, el, pl⟩, hL⟩ : ∃ r, splitOf false b = r := ⟨_, rfl⟩
      rw [hS] at HP HN HTR HLO HST
      rw [hL] at HQ HJ HLE HAG HLO HLN HLS HNL
      have hps := HP.out
      have hpl := HQ.out
      simp only at hps hpl
      have HSE := Lib.hid hS
      clear hS hL
      obtain ⟨n, hn⟩ : ∃ n, b.length = n := ⟨_, rfl⟩
      have HNB := Lib.hid hn
      rw [hn] at hbl hps hpl hcv1
      rw [hn] at HBV
      rw [hn] at kc
      clear hn
      go_wp2_with fail
      refine (twin_any wr b _ HBV.out (by rw [HNB.out]; exact hbl)).mono ?_
      rintro e x1 ⟨t1, rfl, ho1, hx1⟩
      have HT1 := Lib.hid (ho1.reads.mono fun _ _ => trivial : BytesAt (fun _ => True) x1 t1 b)
      have HBV1 := Lib.hid (HBV.out.later hx1)
      have hs1 := hx1.size
      have HX1 := Lib.hid hx1
      clear ho1 hx1
      go_wp2_with fail
      refine (HST.out x1 _ HT1.out).mono ?_
      rintro e x2 ⟨v5, rfl, hr5, hn5, hx2⟩
      simp only at hr5 hn5
      have HR5 := Lib.hid (show Reads x2 v5 ls from hr5.mono fun _ _ => trivial)
      have HN5 := Lib.hid hn5
      have HBV2 := Lib.hid (HBV1.out.later hx2)
      have hs2 := hx2.size
      have HX2 := Lib.hid (HX1.out.trans (hx2.mono (by omega)))
      clear hr5 hn5 hx2
      go_wp2_with fail
      refine (twin_any x2 b _ HBV2.out (by rw [HNB.out]; exact hbl)).mono ?_
      rintro e x3 ⟨t3, rfl, ho3, hx3⟩
      have HT3 := Lib.hid (ho3.reads.mono fun _ _ => trivial : BytesAt (fun _ => True) x3 t3 b)
      have HBV3 := Lib.hid (HBV2.out.later hx3)
      have HR53 := Lib.hid (HR5.out.later hx3)
      have hs3 := hx3.size
      have HX3 := Lib.hid (HX2.out.trans (hx3.mono (by omega)))
      clear ho3 hx3
      go_wp2_with fail
      refine (HLS.out x3 _ HT3.out).mono ?_
      rintro e x4 ⟨v8, rfl, hr8, hn8, hx4⟩
      simp only at hr8 hn8
      have HR8 := Lib.hid (show Reads x4 v8 ll from hr8.mono fun _ _ => trivial)
      have HN8 := Lib.hid hn8
      have HBV4 := Lib.hid (HBV3.out.later hx4)
      have HR54 := Lib.hid (HR53.out.later hx4)
      have hs4 := hx4.size
      have HX4 := Lib.hid (HX3.out.trans (hx4.mono (by omega)))
      clear hr8 hn8 hx4
      obtain ⟨a5, c5, rfl, h51, h52, h53⟩ := HR54.out.form
      obtain ⟨a8, c8, rfl, h81, h82, h83⟩ := HR8.out.form
      clear h53 h83
      cases hes : (es != 0 : Bool)
      · obtain rfl : es = 0 := by simpa using hes
        have hLL := HLO.out (by trivial)
        simp only [Prod.mk.injEq] at hLL
        obtain ⟨rfl, rfl, rfl⟩ := hLL
        have HSAME := Lib.hid (show decide (encL ll = b) = true by simpa using (HTR.out (by trivial)).2.2.2.2.2.2 trivial)
        go_wp2_with fail
        refine (sameRecs_any _ ll (Nat.le_refl _) ll _ _ x4 HR54.out HR8.out).mono ?_
        rintro e y ⟨rfl, hy⟩
        rw [sameL_refl]
        have HR8Y := Lib.hid (HR8.out.later hy)
        have HBVY := Lib.hid (HBV4.out.later hy)
        have hsy := hy.size
        have HXY := Lib.hid (HX4.out.trans (hy.mono (by omega)))
        clear hy
        go_wp2_with fail
        refine (twinRecs_any _ ll (Nat.le_refl _) (HLN.out (by trivial)) _ _ HR8Y.out).mono ?_
        rintro e x5 ⟨t5, rfl, hr6, hx5⟩
        have HT5 := Lib.hid (show Reads x5 t5 ll from hr6.mono fun _ _ => trivial)
        have HBV5 := Lib.hid (HBVY.out.later hx5)
        have HR85 := Lib.hid (HR8Y.out.later hx5)
        have hs5 := hx5.size
        have HX5 := Lib.hid (HXY.out.trans (hx5.mono (by omega)))
        clear hr6 hx5
        go_wp2_with fail
        refine (wJoin_any ll _ x5 HT5.out).mono ?_
        rintro e x6 ⟨v11, rfl, ho6, hx6⟩
        rw [HJ.out (by trivial)] at ho6
        rw [HJ.out (by trivial)]
        have HC6 := Lib.hid (ho6.reads.mono fun _ _ => trivial : BytesAt (fun _ => True) x6 v11 (encL ll))
        have HBV6 := Lib.hid (HBV5.out.later hx6)
        have HR86 := Lib.hid (HR85.out.later hx6)
        have hs6 := hx6.size
        have HX6 := Lib.hid (HX5.out.trans (hx6.mono (by omega)))
        clear ho6 hx6
        obtain ⟨a11, c11, rfl, hk1, hk2, hk3⟩ := HC6.out
        clear hk3
        obtain ⟨m, hm⟩ : ∃ m, (encL ll).length = m := ⟨_, rfl⟩
        have hmn : m ≤ n := by have := (HLE.out (by trivial)).2.2.2.2.1; rw [hm, HNB.out] at this; exact this
        rw [hm] at hk1 HC6 ⊢
        clear hm
        go_wp2_with fail
        refine (same_any _ _ (encL ll) b _ _ x6 HC6.out HBV6.out).mono ?_
        rintro e x7 ⟨rfl, hx7⟩
        rw [HSAME.out]
        have HC7 := Lib.hid (HC6.out.later hx7)
        have HR87 := Lib.hid (HR86.out.later hx7)
        have hs7 := hx7.size
        have HX7 := Lib.hid (HX6.out.trans (hx7.mono (by omega)))
        clear hx7
        go_wp2_with fail
        refine (wSplit_any x7 true (encL ll) _ HC7.out).mono ?_
        rintro e x8 ⟨v13, rfl, hr13, hn13, hx8⟩
        rw [HAG.out (by trivial)] at hr13
        rw [HAG.out (by trivial)]
        have HR13 := Lib.hid (show Reads x8 v13 ll from hr13.mono fun _ _ => trivial)
        have HR88 := Lib.hid (HR87.out.later hx8)
        have hs8 := hx8.size
        have HX8 := Lib.hid (HX7.out.trans (hx8.mono (by omega)))
        clear hr13 hn13 hx8
        go_wp2_with fail
        refine (sameRecs_any _ ll (Nat.le_refl _) ll _ _ x8 HR13.out HR88.out).mono ?_
        rintro e x9 ⟨rfl, hx9⟩
        rw [sameL_refl]
        have HX9 := Lib.hid (HX8.out.trans (hx9.mono (by omega)))
        clear hx9
        go_wp2_with fail
        go_roundw
        case rel => exact ⟨k + 1, by simp, by omega, HB.out.trans (HX9.out.mono hs0)⟩
        case measure => simp [intOf] <;> omega
      · have hes2 : (es == 0 : Bool) = false := by simpa using hes
        cases hel : (el != 0 : Bool)
        · obtain rfl : el = 0 := by simpa using hel
          have hls := HN.out (by simpa using hes)
          subst hls
          have HR8Y := HR8
          have HBVY := HBV4
          have HXY := HX4
          go_wp2_with fail
          refine (twinRecs_any _ ll (Nat.le_refl _) (HLN.out (by trivial)) _ _ HR8Y.out).mono ?_
          rintro e x5 ⟨t5, rfl, hr6, hx5⟩
          have HT5 := Lib.hid (show Reads x5 t5 ll from hr6.mono fun _ _ => trivial)
          have HBV5 := Lib.hid (HBVY.out.later hx5)
          have HR85 := Lib.hid (HR8Y.out.later hx5)
          have hs5 := hx5.size
          have HX5 := Lib.hid (HXY.out.trans (hx5.mono (by omega)))
          clear hr6 hx5
          go_wp2_with fail
          refine (wJoin_any ll _ x5 HT5.out).mono ?_
          rintro e x6 ⟨v11, rfl, ho6, hx6⟩
          rw [HJ.out (by trivial)] at ho6
          rw [HJ.out (by trivial)]
          have HC6 := Lib.hid (ho6.reads.mono fun _ _ => trivial : BytesAt (fun _ => True) x6 v11 (encL ll))
          have HBV6 := Lib.hid (HBV5.out.later hx6)
          have HR86 := Lib.hid (HR85.out.later hx6)
          have hs6 := hx6.size
          have HX6 := Lib.hid (HX5.out.trans (hx6.mono (by omega)))
          clear ho6 hx6
          obtain ⟨a11, c11, rfl, hk1, hk2, hk3⟩ := HC6.out
          clear hk3
          obtain ⟨m, hm⟩ : ∃ m, (encL ll).length = m := ⟨_, rfl⟩
          have hmn : m ≤ n := by have := (HLE.out (by trivial)).2.2.2.2.1; rw [hm, HNB.out] at this; exact this
          rw [hm] at hk1 HC6 ⊢
          clear hm
          go_wp2_with fail
          refine (wSplit_any x6 true (encL ll) _ HC6.out).mono ?_
          rintro e x8 ⟨v13, rfl, hr13, hn13, hx8⟩
          rw [HAG.out (by trivial)] at hr13
          rw [HAG.out (by trivial)]
          have HR13 := Lib.hid (show Reads x8 v13 ll from hr13.mono fun _ _ => trivial)
          have HR88 := Lib.hid (HR86.out.later hx8)
          have hs8 := hx8.size
          have HX8 := Lib.hid (HX6.out.trans (hx8.mono (by omega)))
          clear hr13 hn13 hx8
          go_wp2_with fail
          refine (sameRecs_any _ ll (Nat.le_refl _) ll _ _ x8 HR13.out HR88.out).mono ?_
          rintro e x9 ⟨rfl, hx9⟩
          rw [sameL_refl]
          have HX9 := Lib.hid (HX8.out.trans (hx9.mono (by omega)))
          clear hx9
          go_wp2_with fail
          go_roundw
          case rel => exact ⟨k + 1, by simp, by omega, HB.out.trans (HX9.out.mono hs0)⟩
          case measure => simp [intOf] <;> omega
        · have hel2 : (el == 0 : Bool) = false := by simpa using hel
          have hls := HN.out (by simpa using hes)
          subst hls
          obtain ⟨rfl⟩ : ll = [] := HNL.out (by simpa using hel)
          go_wp2_with fail
          go_roundw
          case rel => exact ⟨k + 1, by simp, by omega, HB.out.trans (HX4.out.mono hs0)⟩
          case measure => simp [intOf] <;> omega
    · go_wp2_with fail
      go_ret
      exact ⟨rfl, hbw⟩
end Go.Proofs.YtecmhpncgdjgjaaDoor
