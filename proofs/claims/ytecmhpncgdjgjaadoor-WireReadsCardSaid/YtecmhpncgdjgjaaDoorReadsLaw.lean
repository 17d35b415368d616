/-
  The statement WireReads of package sigillaw2, walked. Conditions: the rows of characters lie as they are laid; bytes that a process can hold.
-/
import Derived.Test.YtecmhpncgdjgjaaDoorFamily
import Derived.Test.YtecmhpncgdjgjaaDoorTwin
import Derived.Test.YtecmhpncgdjgjaaDoorBack
import Derived.Test.YtecmhpncgdjgjaaDoorLaid
import Derived.Deep.RegionHeld3
namespace Go.Proofs.YtecmhpncgdjgjaaDoor
open Go.RowKit
set_option linter.unusedVariables false
set_option linter.unusedSimpArgs false

theorem keep_two {X W x1 : World} {F : Nat → Pair} {K : Nat} {R i C j B o : Nat} {v u k A B' C' : Value} (hS : (W.cell? ⟨R, i, none⟩ = some v ∧ W.cell? ⟨C, j, none⟩ = some u ∧ W.cell? ⟨B, o, none⟩ = some k ∧ W.cell? ⟨B, o + 1, none⟩ = some A ∧ W.cell? ⟨B, o + 2, none⟩ = some B' ∧ W.cell? ⟨B, o + 3, none⟩ = some C') ∧ Turn2 X.heap.size (F K).p (F K).pc X W)
    (ht : Turn2 W.heap.size (F K).p (F K).pc W x1) (h1 : R ≠ (F K).p ∧ R ≠ (F K).pc) (h2 : C ≠ (F K).p ∧ C ≠ (F K).pc) (h3 : B ≠ (F K).p ∧ B ≠ (F K).pc) :
    (x1.cell? ⟨R, i, none⟩ = some v ∧ x1.cell? ⟨C, j, none⟩ = some u ∧ x1.cell? ⟨B, o, none⟩ = some k ∧ x1.cell? ⟨B, o + 1, none⟩ = some A ∧ x1.cell? ⟨B, o + 2, none⟩ = some B' ∧ x1.cell? ⟨B, o + 3, none⟩ = some C') ∧ Turn2 X.heap.size (F K).p (F K).pc X x1 :=
  ⟨⟨ht.cell hS.1.1 (Nat.le_refl _) h1.1 h1.2, ht.cell hS.1.2.1 (Nat.le_refl _) h2.1 h2.2, ht.cell hS.1.2.2.1 (Nat.le_refl _) h3.1 h3.2, ht.cell hS.1.2.2.2.1 (Nat.le_refl _) h3.1 h3.2, ht.cell hS.1.2.2.2.2.1 (Nat.le_refl _) h3.1 h3.2, ht.cell hS.1.2.2.2.2.2 (Nat.le_refl _) h3.1 h3.2⟩, hS.2.trans (ht.mono hS.2.size)⟩
theorem gap_of {w : World} {p : Nat} {st : Bool} {b : List UInt8} {q : Nat} {a : Option Addr} {cap : Nat} (h : RdAt w p st b q a cap) (hb : b ≠ []) {g : Nat} (hg : a = some ⟨g, 0, none⟩) : g < w.heap.size := by
  rcases h.hby with h0 | ⟨g', e, _, hc⟩
  · exact absurd h0 hb
  · rw [hg] at e
    cases e
    exact cell_lt (hc 0 (List.length_pos_iff.2 hb))
theorem arg_of {w : World} {b : List UInt8} {a : Option Addr} {n cap : Nat} (h : BytesAt (fun _ => True) w (.slice a n cap) b) (hb : b ≠ []) {g off : Nat} (hg : a = some ⟨g, off, none⟩) : g < w.heap.size := by
  obtain ⟨g', off', e, hc⟩ := h.byte 0 (List.length_pos_iff.2 hb)
  rw [hg] at e
  cases e
  exact cell_lt hc

set_option maxHeartbeats 16000000 in
set_option maxRecDepth 100000 in
theorem reads_walk (b c : List UInt8) (hb : b.length ≤ 140737488355000) (hc : c.length ≤ 140737488355000) (v u : Value) (a2 : Option Addr) (len2 cap2 : Nat) (a3 : Option Addr) (len3 cap3 : Nat) (zs : List Int) (w : World) (hv : BytesAt (fun _ => True) w v b) (hu : BytesAt (fun _ => True) w u c)
    (ho : IsOps w a2 len2 cap2) (ht : IsRow .i64 w a3 len3 cap3 zs) (hr : RowsAt w) : Calls Tryd.prog 13 #[v, u, .slice a2 len2 cap2, .slice a3 len3 cap3] w fun e w' => e = .returned (.bool true) ∧ Below w.heap.size w w' := by
  have HV := Lib.hid hv
  have HU := Lib.hid hu
  have HO := Lib.hid ho
  have HT := Lib.hid ht
  obtain ⟨av, capv, rfl, hv1, hv2, hv0⟩ := hv
  obtain ⟨au, capu, rfl, hu1, hu2, hu0⟩ := hu
  obtain ⟨ho1, ho2, ho0⟩ := ho
  obtain ⟨ht1, ht2⟩ := ht.cap
  clear hv0 hu0 ho0 ht
  obtain ⟨st3, hst3⟩ : ∃ st3 : Bool, ((b.length : Int) % 2 == 0) = st3 := ⟨_, rfl⟩
  go_enter Tryd.func13, Tryd.ntmps13
  go_wp2_with fail
  refine (known_any w hr).mono ?_
  rintro e w1 ⟨rfl, hb1⟩
  have HB1 := Lib.hid hb1
  have hs1 := hb1.size
  clear hb1
  go_wp2_with fail
  refine (hand_any w1 b _ (HV.out.later HB1.out) hb).mono ?_
  rintro e w2 ⟨rfl, hg2, hb2⟩
  have HG2 := Lib.hid hg2
  have HB2 := Lib.hid (HB1.out.trans (hb2.mono hs1))
  have hs2 := hb2.size
  have hgl2 : w1.heap.size < w2.heap.size := (Array.getElem?_eq_some_iff.1 hg2).1
  have HM2 := Lib.hid (hand_reads hg2 hb)
  clear hg2 hb2
  go_wp2_with fail
  refine (wRead_any w2 true b _ HM2.out).mono ?_
  rintro e w3 ⟨hbig3, hsm3⟩
  by_cases hbb : 1048576 < b.length
  · obtain ⟨rfl, hb3⟩ := hbig3 hbb
    have HB3 := Lib.hid (HB2.out.trans (hb3.mono (by omega)))
    have HM3 := Lib.hid (HM2.out.later hb3)
    have hs3 := hb3.size
    clear hbig3 hsm3 hb3
    go_wp2_with fail
    refine (wRead_any w3 false b _ HM3.out).mono ?_
    rintro e w4 ⟨hbig4, _⟩
    obtain ⟨rfl, hb4⟩ := hbig4 hbb
    have HB4 := Lib.hid (HB3.out.trans (hb4.mono (by omega)))
    have hs4 := hb4.size
    clear hbig4 hb4
    go_wp2_with fail
    refine (twin_any w4 c _ (HU.out.later HB4.out) hc).mono ?_
    rintro e w5 ⟨v5, rfl, ho5, hb5⟩
    have HT5 := Lib.hid (ho5.reads.mono fun _ _ => trivial : BytesAt (fun _ => True) w5 v5 c)
    have HB5 := Lib.hid (HB4.out.trans (hb5.mono (by omega)))
    have hs5 := hb5.size
    clear ho5 hb5
    go_wp2_with fail
    refine (wRead_any w5 st3 c _ HT5.out).mono ?_
    rintro e w6 ⟨hbig6, hsm6⟩
    by_cases hcb : 1048576 < c.length
    · obtain ⟨rfl, hb6⟩ := hbig6 hcb
      have HB6 := Lib.hid (HB5.out.trans (hb6.mono (by omega)))
      clear hbig6 hsm6 hb6
      go_wp2_with fail
      go_ret
      exact ⟨by simp <;> omega, HB6.out⟩
    · obtain ⟨p2, ap2, cp2, rfl, hp2, hap2, hR2, hb6⟩ := hsm6 (by omega)
      have HB6 := Lib.hid (HB5.out.trans (hb6.mono (by omega)))
      clear hbig6 hsm6 hap2 hR2 hb6
      go_wp2_with fail
      go_ret
      exact ⟨by simp <;> omega, HB6.out⟩
  · have hbl : b.length ≤ 1048576 := by omega
    obtain ⟨p0, ap0, cp0, rfl, hp0, hap0, hR0, hb3⟩ := hsm3 hbl
    have HR0 := Lib.hid hR0
    have HA0 := Lib.hid hap0
    have HB3 := Lib.hid (HB2.out.trans (hb3.mono (by omega)))
    have HM3 := Lib.hid (HM2.out.later hb3)
    have HG3 := Lib.hid ((hb3.block _ hgl2).trans HG2.out)
    have hs3 := hb3.size
    have hp0l := hR0.lt
    clear hbig3 hsm3 hap0 hR0 hb3 hbb
    go_wp2_with fail
    refine (wRead_any w3 false b _ HM3.out).mono ?_
    rintro e w4 ⟨_, hsm4⟩
    obtain ⟨p1, ap1, cp1, rfl, hp1, hap1, hR1, hb4⟩ := hsm4 hbl
    have HR1 := Lib.hid hR1
    have HA1 := Lib.hid hap1
    have HB4 := Lib.hid (HB3.out.trans (hb4.mono (by omega)))
    have HG4 := Lib.hid ((hb4.block _ (by omega)).trans HG3.out)
    have HB34 := Lib.hid hb4
    have hs4 := hb4.size
    have hp1l := hR1.lt
    clear hsm4 hap1 hR1 hb4
    go_wp2_with fail
    refine (twin_any w4 c _ (HU.out.later HB4.out) hc).mono ?_
    rintro e w5 ⟨v5, rfl, ho5, hb5⟩
    have HT5 := Lib.hid (ho5.reads.mono fun _ _ => trivial : BytesAt (fun _ => True) w5 v5 c)
    have HB5 := Lib.hid (HB4.out.trans (hb5.mono (by omega)))
    have HG5 := Lib.hid ((hb5.block _ (by omega)).trans HG4.out)
    have HB35 := Lib.hid (HB34.out.trans (hb5.mono (by omega)))
    have HB45 := Lib.hid hb5
    have hs5 := hb5.size
    clear ho5 hb5
    go_wp2_with fail
    refine (wRead_any w5 st3 c _ HT5.out).mono ?_
    rintro e w6 ⟨hbig6, hsm6⟩
    by_cases hcb : 1048576 < c.length
    · obtain ⟨rfl, hb6⟩ := hbig6 hcb
      have HB6 := Lib.hid (HB5.out.trans (hb6.mono (by omega)))
      clear hbig6 hsm6 hb6
      go_wp2_with fail
      go_ret
      exact ⟨by simp <;> omega, HB6.out⟩
    · have hcl : c.length ≤ 1048576 := by omega
      obtain ⟨p2, ap2, cp2, rfl, hp2, hap2, hR2, hb6⟩ := hsm6 hcl
      have HR2 := Lib.hid hR2
      have HA2 := Lib.hid hap2
      have HB6 := Lib.hid (HB5.out.trans (hb6.mono (by omega)))
      have HG6 := Lib.hid ((hb6.block _ (by omega)).trans HG5.out)
      have HB36 := Lib.hid (HB35.out.trans (hb6.mono (by omega)))
      have HB46 := Lib.hid (HB45.out.trans (hb6.mono (by omega)))
      have hs6 := hb6.size
      have hp2l := hR2.lt
      clear hbig6 hsm6 hap2 hR2 hb6 hcb
      go_wp2_with fail
      refine (back_any w6 w1.heap.size b _ HG6.out (HV.out.later HB6.out) hb).mono ?_
      rintro e w7 ⟨rfl, ht7⟩
      have hs7 := ht7.size
      have hg1 := hgl2
      have HB7 := Lib.hid (HB6.out.trans (ht7.below (B' := w.heap.size) (by omega) (by omega)))
      have HQ0 := Lib.hid ((HR0.out.later HB36.out).apart ht7 (by omega) (fun _ g e => by have := HA0.out g e; omega))
      have HQ1 := Lib.hid ((HR1.out.later HB46.out).apart ht7 (by omega) (fun _ g e => by have := HA1.out g e; omega))
      have HQ2 := Lib.hid (HR2.out.apart ht7 (by omega) (fun _ g e => by have := HA2.out g e; omega))
      have HX0 := Lib.hid (fun hb0 g hg => gap_of HR0.out hb0 (g := g) hg)
      have HX1 := Lib.hid (fun hb0 g hg => gap_of HR1.out hb0 (g := g) hg)
      have HX2 := Lib.hid (fun hb0 g hg => gap_of HR2.out hb0 (g := g) hg)
      clear ht7
      have hbR : Below w7.heap.size w7 (w7.alloc (.cells #[.pointer (some ⟨p0, 0, none⟩), .pointer (some ⟨p1, 0, none⟩), .pointer (some ⟨p2, 0, none⟩)] 64)) := alloc_below _ _
      have HBR := Lib.hid (HB7.out.trans (hbR.mono (by omega)))
      have HRR0 := Lib.hid (alloc_at w7 (.cells #[.pointer (some ⟨p0, 0, none⟩), .pointer (some ⟨p1, 0, none⟩), .pointer (some ⟨p2, 0, none⟩)] 64))
      clear hbR
      go_wp2_with fail
      refine (crOpen2_any _ true b av capv (HV.out.later HBR.out) hbl).mono ?_
      rintro e w8 ⟨rfl, hc0, hb8, hl8⟩
      simp only [World.size_alloc] at hc0 hb8 hl8 ⊢
      have HC8 := Lib.hid hc0
      have HBN8 := Lib.hid ((alloc_below w7 (.cells #[.pointer (some ⟨p0, 0, none⟩), .pointer (some ⟨p1, 0, none⟩), .pointer (some ⟨p2, 0, none⟩)] 64)).trans (hb8.mono (by omega)))
      have HB8 := Lib.hid (HB7.out.trans (HBN8.out.mono (by omega)))
      have HRR8 := Lib.hid ((hb8.block w7.heap.size (by omega)).trans HRR0.out)
      clear hc0 hb8
      go_wp2_with fail
      refine (crOpen2_any w8 false b av capv (HV.out.later HB8.out) hbl).mono ?_
      rintro e w9 ⟨rfl, hc1, hb9, hl9⟩
      have HC9 := Lib.hid hc1
      have HBN9 := Lib.hid hb9
      have HB9 := Lib.hid (HB8.out.trans (hb9.mono (by omega)))
      clear hc1 hb9
      go_wp2_with fail
      refine (crOpen2_any w9 st3 c au capu (HU.out.later HB9.out) hcl).mono ?_
      rintro e w10 ⟨rfl, hc2, hb10, hl10⟩
      have HC10 := Lib.hid hc2
      have HBN10 := Lib.hid hb10
      have HB10 := Lib.hid (HB9.out.trans (hb10.mono (by omega)))
      clear hc2 hb10
      have hbC : Below w10.heap.size w10 (w10.alloc (.cells #[.pointer (some ⟨w7.heap.size + 1, 0, none⟩), .pointer (some ⟨w8.heap.size, 0, none⟩), .pointer (some ⟨w9.heap.size, 0, none⟩)] 68)) := alloc_below _ _
      have HBC := Lib.hid (HB10.out.trans (hbC.mono (by omega)))
      obtain ⟨F, hF⟩ : ∃ F, three ⟨p0, w7.heap.size + 1, true, b, ap0, cp0, av, capv⟩ ⟨p1, w8.heap.size, false, b, ap1, cp1, av, capv⟩ ⟨p2, w9.heap.size, st3, c, ap2, cp2, au, capu⟩ = F := ⟨_, rfl⟩
      have HAP := Lib.hid (show Apart F 3 from hF ▸ apart3 (s := w.heap.size) (l0 := w2.heap.size) (h0 := w3.heap.size) (l1 := w3.heap.size) (h1 := w4.heap.size) (l2 := w5.heap.size) (h2 := w6.heap.size) ⟨hp0, hp0l⟩ ⟨hp1, hp1l⟩ ⟨hp2, hp2l⟩
        (fun hb0 g e => ⟨HA0.out g e, HX0.out hb0 g e⟩) (fun hb0 g e => ⟨HA1.out g e, HX1.out hb0 g e⟩) (fun hb0 g e => ⟨HA2.out g e, HX2.out hb0 g e⟩)
        (fun hb0 g off e => arg_of HV.out hb0 e) (fun hb0 g off e => arg_of HV.out hb0 e) (fun hb0 g off e => arg_of HU.out hb0 e) (by omega) (Nat.le_refl _) (by omega) (by show w6.heap.size ≤ w7.heap.size + 1; omega) (by show w7.heap.size + 1 < w8.heap.size; omega) (by show w8.heap.size < w9.heap.size; omega))
      have HNE := Lib.hid (show ∀ j, j < 3 → (w7.heap.size ≠ (F j).p ∧ w7.heap.size ≠ (F j).pc) ∧ (w10.heap.size ≠ (F j).p ∧ w10.heap.size ≠ (F j).pc) ∧ w.heap.size ≤ (F j).p ∧ w.heap.size ≤ (F j).pc from fun j hj => by
        have h3 : j = 0 ∨ j = 1 ∨ j = 2 := by omega
        subst hF
        rcases h3 with rfl | rfl | rfl <;> simp only [three] <;> omega)
      have HCL := Lib.hid (show ∀ j, j < 3 → (w10.alloc (.cells #[.pointer (some ⟨w7.heap.size + 1, 0, none⟩), .pointer (some ⟨w8.heap.size, 0, none⟩), .pointer (some ⟨w9.heap.size, 0, none⟩)] 68)).cell? ⟨w7.heap.size, j, none⟩ = some (.pointer (some ⟨(F j).p, 0, none⟩)) ∧ (w10.alloc (.cells #[.pointer (some ⟨w7.heap.size + 1, 0, none⟩), .pointer (some ⟨w8.heap.size, 0, none⟩), .pointer (some ⟨w9.heap.size, 0, none⟩)] 68)).cell? ⟨w10.heap.size, j, none⟩ = some (.pointer (some ⟨(F j).pc, 0, none⟩)) from fun j hj => by
        have hr1 := (hbC.block w7.heap.size (by omega)).trans ((HBN10.out.block w7.heap.size (by omega)).trans ((HBN9.out.block w7.heap.size (by omega)).trans HRR8.out))
        have hx1 := Lib.cell_of_heap hr1
        have hx2 := Lib.cell_of_heap (alloc_at w10 (.cells #[.pointer (some ⟨w7.heap.size + 1, 0, none⟩), .pointer (some ⟨w8.heap.size, 0, none⟩), .pointer (some ⟨w9.heap.size, 0, none⟩)] 68))
        have h3 : j = 0 ∨ j = 1 ∨ j = 2 := by omega
        subst hF
        rcases h3 with rfl | rfl | rfl <;> exact ⟨(hx1 _).trans rfl, (hx2 _).trans rfl⟩)
      have HALL := Lib.hid (show AllAt (w10.alloc (.cells #[.pointer (some ⟨w7.heap.size + 1, 0, none⟩), .pointer (some ⟨w8.heap.size, 0, none⟩), .pointer (some ⟨w9.heap.size, 0, none⟩)] 68)) F 3 (fun _ => 0) from fun j hj => by
        have h3 : j = 0 ∨ j = 1 ∨ j = 2 := by omega
        have hq := fun {p st b q a cap} (h : RdAt w7 p st b q a cap) => (((h.later HBN8.out).later HBN9.out).later HBN10.out).later hbC
        subst hF
        rcases h3 with rfl | rfl | rfl
        · exact ⟨hq HQ0.out, ((HC8.out.later HBN9.out).later HBN10.out).later hbC⟩
        · exact ⟨hq HQ1.out, (HC9.out.later HBN10.out).later hbC⟩
        · exact ⟨hq HQ2.out, HC10.out.later hbC⟩)
      clear hF hbC hp0 hp1 hp2 hp0l hp1l hp2l
      go_wp2_with fail
      go_loopw [18] (fun v18 wr => ∃ i : Nat, v18 = .int .i64 i ∧ i ≤ len2 ∧ (∃ qs, AllAt wr F 3 qs) ∧ (∀ j, j < 3 → wr.cell? ⟨w7.heap.size, j, none⟩ = some (.pointer (some ⟨(F j).p, 0, none⟩)) ∧ wr.cell? ⟨w10.heap.size, j, none⟩ = some (.pointer (some ⟨(F j).pc, 0, none⟩))) ∧ Below w.heap.size w wr) (fun v18 _ => len2 - (intOf v18).toNat)
      case atStart => exact ⟨0, rfl, Nat.zero_le _, ⟨_, HALL.out⟩, HCL.out, HBC.out⟩
      case round =>
        obtain ⟨i, rfl, hi, hall, hcl2, hbw⟩ := hrel
        have HALLW := Lib.hid hall
        have HCW := Lib.hid hcl2
        have HBW := Lib.hid hbw
        have hsw := hbw.size
        clear hall hcl2 hbw
        by_cases hlt : i < len2
        · obtain ⟨g, off, kd, A, B, C, rfl, o0, o1, o2, o3⟩ := HO.out.2.2 i hlt
          have hgw := cell_lt o0
          have k0 := (HBW.out.cell (p := ⟨g, off + i * 4, none⟩) (cell_lt o0)).trans o0
          have k1 := (HBW.out.cell (p := ⟨g, off + i * 4 + 1, none⟩) (cell_lt o1)).trans o1
          have k2 := (HBW.out.cell (p := ⟨g, off + i * 4 + 2, none⟩) (cell_lt o2)).trans o2
          have k3 := (HBW.out.cell (p := ⟨g, off + i * 4 + 3, none⟩) (cell_lt o3)).trans o3
          clear o0 o1 o2 o3
          by_cases h3 : len3 = 0
          · subst h3
            obtain ⟨K, hK⟩ : ∃ K : Nat, (i : Int) % 3 = (K : Int) := ⟨i % 3, by omega⟩
            have hK3 : K < 3 := by omega
            have hKt : Int.tmod (i : Int) 3 = (K : Int) := by rw [Int.tmod_eq_emod_of_nonneg (by omega)]; exact hK
            have hKz : (0 : Int) ≤ (K : Int) := by omega
            have hKy : (K : Int) < 3 := by omega
            have HSTEP := Lib.hid (show Calls Tryd.prog 52 #[.pointer (some ⟨(F K).p, 0, none⟩), .pointer (some ⟨(F K).pc, 0, none⟩), .agg #[.int .i64 kd, .int .i64 A, .int .i64 B, .int .i64 C]] wr.drew (fun e w' => e = .returned (.bool true) ∧ (∃ q2, AllAt w' F 3 q2) ∧ Turn2 wr.drew.heap.size (F K).p (F K).pc wr.drew w') from by
              obtain ⟨qs, hq⟩ := HALLW.out
              exact step_of (hq.later ((Below.refl _ _).drew)) HAP.out (hK3) kd A B C)
            have kr := (HCW.out K (hK3)).1
            have kc := (HCW.out K (hK3)).2
            have hdb : Below wr.heap.size wr wr.drew := (Below.refl _ _).drew
            have HS0 := Lib.hid (show (wr.drew.cell? ⟨w7.heap.size, K, none⟩ = some (.pointer (some ⟨(F K).p, 0, none⟩)) ∧ wr.drew.cell? ⟨w10.heap.size, K, none⟩ = some (.pointer (some ⟨(F K).pc, 0, none⟩)) ∧ wr.drew.cell? ⟨g, off + i * 4, none⟩ = some (.int .i64 kd) ∧ wr.drew.cell? ⟨g, off + i * 4 + 1, none⟩ = some (.int .i64 A) ∧ wr.drew.cell? ⟨g, off + i * 4 + 2, none⟩ = some (.int .i64 B) ∧ wr.drew.cell? ⟨g, off + i * 4 + 3, none⟩ = some (.int .i64 C)) ∧ Turn2 wr.heap.size (F K).p (F K).pc wr wr.drew from
              ⟨⟨(hdb.cell (cell_lt kr)).trans kr, (hdb.cell (cell_lt kc)).trans kc, (hdb.cell (cell_lt k0)).trans k0, (hdb.cell (cell_lt k1)).trans k1, (hdb.cell (cell_lt k2)).trans k2, (hdb.cell (cell_lt k3)).trans k3⟩, (Turn.of (p := (F K).p) hdb).two⟩)
            have hn1 := (HNE.out K (hK3)).1
            have hn2 := (HNE.out K (hK3)).2.1
            have hn3 : g ≠ (F K).p ∧ g ≠ (F K).pc := by
              have h9 := (HNE.out K (hK3)).2.2
              exact ⟨by omega, by omega⟩
            have HN1 := Lib.hid hn1
            have HN2 := Lib.hid hn2
            have HN3 := Lib.hid hn3
            clear hdb hn1 hn2 hn3
            go_wp2_with fail
            go_region_held3 (fun w' => (w'.cell? ⟨w7.heap.size, K, none⟩ = some (.pointer (some ⟨(F K).p, 0, none⟩)) ∧ w'.cell? ⟨w10.heap.size, K, none⟩ = some (.pointer (some ⟨(F K).pc, 0, none⟩)) ∧ w'.cell? ⟨g, off + i * 4, none⟩ = some (.int .i64 kd) ∧ w'.cell? ⟨g, off + i * 4 + 1, none⟩ = some (.int .i64 A) ∧ w'.cell? ⟨g, off + i * 4 + 2, none⟩ = some (.int .i64 B) ∧ w'.cell? ⟨g, off + i * 4 + 3, none⟩ = some (.int .i64 C)) ∧ Turn2 wr.heap.size (F K).p (F K).pc wr w')
              (first | exact keep_two (by assumption) (by assumption) HN1.out HN2.out HN3.out | exact HS0.out)
              (first | (go_at_call 52; refine HSTEP.out.mono ?_; rintro e x1 ⟨rfl, hx1, hx2⟩))
            all_goals
              have hS1 : Turn2 wr.heap.size (F K).p (F K).pc wr x1 := (by assumption : _ ∧ Turn2 wr.heap.size (F K).p (F K).pc wr x1).2
              have HAX := Lib.hid hx1
              have HCX := Lib.hid (fun j (hj : j < 3) => (⟨hS1.cell (HCW.out j hj).1 (Nat.le_refl _) HN1.out.1 HN1.out.2, hS1.cell (HCW.out j hj).2 (Nat.le_refl _) HN2.out.1 HN2.out.2⟩ : x1.cell? ⟨w7.heap.size, j, none⟩ = some (.pointer (some ⟨(F j).p, 0, none⟩)) ∧ x1.cell? ⟨w10.heap.size, j, none⟩ = some (.pointer (some ⟨(F j).pc, 0, none⟩))))
              have HBX := Lib.hid (HBW.out.trans (hS1.below (B' := w.heap.size) (HNE.out K (hK3)).2.2.1 (HNE.out K (hK3)).2.2.2 hsw))
              clear hS1 hx1 hx2
              go_wp2_with fail
              go_roundw
              case rel => exact ⟨i + 1, by simp, by omega, HAX.out, HCX.out, HBX.out⟩
              case measure => simp [intOf] <;> omega
          · have h30 : 0 < len3 := by omega
            obtain ⟨J, hJ⟩ : ∃ J : Nat, (i : Int) % (len3 : Int) = (J : Int) := ⟨i % len3, by omega⟩
            have hJ3 : J < len3 := by
              have := Nat.mod_lt i h30
              omega
            obtain ⟨g3, off3, rfl, t0, t64⟩ := HT.out.int J hJ3
            have kt := (HBW.out.cell (p := ⟨g3, off3 + J, none⟩) (cell_lt t0)).trans t0
            obtain ⟨tv, htv⟩ : ∃ tv, zs.getD J 0 = tv := ⟨_, rfl⟩
            rw [htv] at kt
            clear t0 t64 htv
            obtain ⟨m, hm⟩ : ∃ m, Int.tmod tv 3 = m := ⟨_, rfl⟩
            have hm3 : -3 < m ∧ m < 3 := by
              rw [← hm, Int.tmod_eq_emod]
              split <;> simp <;> omega
            by_cases hm0 : m < 0
            · have HSTEP := Lib.hid (show Calls Tryd.prog 52 #[.pointer (some ⟨(F 0).p, 0, none⟩), .pointer (some ⟨(F 0).pc, 0, none⟩), .agg #[.int .i64 kd, .int .i64 A, .int .i64 B, .int .i64 C]] wr.drew (fun e w' => e = .returned (.bool true) ∧ (∃ q2, AllAt w' F 3 q2) ∧ Turn2 wr.drew.heap.size (F 0).p (F 0).pc wr.drew w') from by
                obtain ⟨qs, hq⟩ := HALLW.out
                exact step_of (hq.later ((Below.refl _ _).drew)) HAP.out (Nat.zero_lt_succ 2) kd A B C)
              have kr := (HCW.out 0 (Nat.zero_lt_succ 2)).1
              have kc := (HCW.out 0 (Nat.zero_lt_succ 2)).2
              have hdb : Below wr.heap.size wr wr.drew := (Below.refl _ _).drew
              have HS0 := Lib.hid (show (wr.drew.cell? ⟨w7.heap.size, 0, none⟩ = some (.pointer (some ⟨(F 0).p, 0, none⟩)) ∧ wr.drew.cell? ⟨w10.heap.size, 0, none⟩ = some (.pointer (some ⟨(F 0).pc, 0, none⟩)) ∧ wr.drew.cell? ⟨g, off + i * 4, none⟩ = some (.int .i64 kd) ∧ wr.drew.cell? ⟨g, off + i * 4 + 1, none⟩ = some (.int .i64 A) ∧ wr.drew.cell? ⟨g, off + i * 4 + 2, none⟩ = some (.int .i64 B) ∧ wr.drew.cell? ⟨g, off + i * 4 + 3, none⟩ = some (.int .i64 C)) ∧ Turn2 wr.heap.size (F 0).p (F 0).pc wr wr.drew from
                ⟨⟨(hdb.cell (cell_lt kr)).trans kr, (hdb.cell (cell_lt kc)).trans kc, (hdb.cell (cell_lt k0)).trans k0, (hdb.cell (cell_lt k1)).trans k1, (hdb.cell (cell_lt k2)).trans k2, (hdb.cell (cell_lt k3)).trans k3⟩, (Turn.of (p := (F 0).p) hdb).two⟩)
              have hn1 := (HNE.out 0 (Nat.zero_lt_succ 2)).1
              have hn2 := (HNE.out 0 (Nat.zero_lt_succ 2)).2.1
              have hn3 : g ≠ (F 0).p ∧ g ≠ (F 0).pc := by
                have h9 := (HNE.out 0 (Nat.zero_lt_succ 2)).2.2
                exact ⟨by omega, by omega⟩
              have HN1 := Lib.hid hn1
              have HN2 := Lib.hid hn2
              have HN3 := Lib.hid hn3
              clear hdb hn1 hn2 hn3
              go_wp2_with fail
              go_region_held3 (fun w' => (w'.cell? ⟨w7.heap.size, 0, none⟩ = some (.pointer (some ⟨(F 0).p, 0, none⟩)) ∧ w'.cell? ⟨w10.heap.size, 0, none⟩ = some (.pointer (some ⟨(F 0).pc, 0, none⟩)) ∧ w'.cell? ⟨g, off + i * 4, none⟩ = some (.int .i64 kd) ∧ w'.cell? ⟨g, off + i * 4 + 1, none⟩ = some (.int .i64 A) ∧ w'.cell? ⟨g, off + i * 4 + 2, none⟩ = some (.int .i64 B) ∧ w'.cell? ⟨g, off + i * 4 + 3, none⟩ = some (.int .i64 C)) ∧ Turn2 wr.heap.size (F 0).p (F 0).pc wr w')
                (first | exact keep_two (by assumption) (by assumption) HN1.out HN2.out HN3.out | exact HS0.out)
                (first | (go_at_call 52; refine HSTEP.out.mono ?_; rintro e x1 ⟨rfl, hx1, hx2⟩))
              all_goals
                have hS1 : Turn2 wr.heap.size (F 0).p (F 0).pc wr x1 := (by assumption : _ ∧ Turn2 wr.heap.size (F 0).p (F 0).pc wr x1).2
                have HAX := Lib.hid hx1
                have HCX := Lib.hid (fun j (hj : j < 3) => (⟨hS1.cell (HCW.out j hj).1 (Nat.le_refl _) HN1.out.1 HN1.out.2, hS1.cell (HCW.out j hj).2 (Nat.le_refl _) HN2.out.1 HN2.out.2⟩ : x1.cell? ⟨w7.heap.size, j, none⟩ = some (.pointer (some ⟨(F j).p, 0, none⟩)) ∧ x1.cell? ⟨w10.heap.size, j, none⟩ = some (.pointer (some ⟨(F j).pc, 0, none⟩))))
                have HBX := Lib.hid (HBW.out.trans (hS1.below (B' := w.heap.size) (HNE.out 0 (Nat.zero_lt_succ 2)).2.2.1 (HNE.out 0 (Nat.zero_lt_succ 2)).2.2.2 hsw))
                clear hS1 hx1 hx2
                go_wp2_with fail
                go_roundw
                case rel => exact ⟨i + 1, by simp, by omega, HAX.out, HCX.out, HBX.out⟩
                case measure => simp [intOf] <;> omega
            · obtain ⟨K, rfl⟩ : ∃ K : Nat, m = (K : Int) := ⟨m.toNat, by omega⟩
              have hK3 : K < 3 := by omega
              have HSTEP := Lib.hid (show Calls Tryd.prog 52 #[.pointer (some ⟨(F K).p, 0, none⟩), .pointer (some ⟨(F K).pc, 0, none⟩), .agg #[.int .i64 kd, .int .i64 A, .int .i64 B, .int .i64 C]] wr.drew (fun e w' => e = .returned (.bool true) ∧ (∃ q2, AllAt w' F 3 q2) ∧ Turn2 wr.drew.heap.size (F K).p (F K).pc wr.drew w') from by
                obtain ⟨qs, hq⟩ := HALLW.out
                exact step_of (hq.later ((Below.refl _ _).drew)) HAP.out (hK3) kd A B C)
              have kr := (HCW.out K (hK3)).1
              have kc := (HCW.out K (hK3)).2
              have hdb : Below wr.heap.size wr wr.drew := (Below.refl _ _).drew
              have HS0 := Lib.hid (show (wr.drew.cell? ⟨w7.heap.size, K, none⟩ = some (.pointer (some ⟨(F K).p, 0, none⟩)) ∧ wr.drew.cell? ⟨w10.heap.size, K, none⟩ = some (.pointer (some ⟨(F K).pc, 0, none⟩)) ∧ wr.drew.cell? ⟨g, off + i * 4, none⟩ = some (.int .i64 kd) ∧ wr.drew.cell? ⟨g, off + i * 4 + 1, none⟩ = some (.int .i64 A) ∧ wr.drew.cell? ⟨g, off + i * 4 + 2, none⟩ = some (.int .i64 B) ∧ wr.drew.cell? ⟨g, off + i * 4 + 3, none⟩ = some (.int .i64 C)) ∧ Turn2 wr.heap.size (F K).p (F K).pc wr wr.drew from
                ⟨⟨(hdb.cell (cell_lt kr)).trans kr, (hdb.cell (cell_lt kc)).trans kc, (hdb.cell (cell_lt k0)).trans k0, (hdb.cell (cell_lt k1)).trans k1, (hdb.cell (cell_lt k2)).trans k2, (hdb.cell (cell_lt k3)).trans k3⟩, (Turn.of (p := (F K).p) hdb).two⟩)
              have hn1 := (HNE.out K (hK3)).1
              have hn2 := (HNE.out K (hK3)).2.1
              have hn3 : g ≠ (F K).p ∧ g ≠ (F K).pc := by
                have h9 := (HNE.out K (hK3)).2.2
                exact ⟨by omega, by omega⟩
              have HN1 := Lib.hid hn1
              have HN2 := Lib.hid hn2
              have HN3 := Lib.hid hn3
              clear hdb hn1 hn2 hn3
              go_wp2_with fail
              go_region_held3 (fun w' => (w'.cell? ⟨w7.heap.size, K, none⟩ = some (.pointer (some ⟨(F K).p, 0, none⟩)) ∧ w'.cell? ⟨w10.heap.size, K, none⟩ = some (.pointer (some ⟨(F K).pc, 0, none⟩)) ∧ w'.cell? ⟨g, off + i * 4, none⟩ = some (.int .i64 kd) ∧ w'.cell? ⟨g, off + i * 4 + 1, none⟩ = some (.int .i64 A) ∧ w'.cell? ⟨g, off + i * 4 + 2, none⟩ = some (.int .i64 B) ∧ w'.cell? ⟨g, off + i * 4 + 3, none⟩ = some (.int .i64 C)) ∧ Turn2 wr.heap.size (F K).p (F K).pc wr w')
                (first | exact keep_two (by assumption) (by assumption) HN1.out HN2.out HN3.out | exact HS0.out)
                (first | (go_at_call 52; refine HSTEP.out.mono ?_; rintro e x1 ⟨rfl, hx1, hx2⟩))
              all_goals
                have hS1 : Turn2 wr.heap.size (F K).p (F K).pc wr x1 := (by assumption : _ ∧ Turn2 wr.heap.size (F K).p (F K).pc wr x1).2
                have HAX := Lib.hid hx1
                have HCX := Lib.hid (fun j (hj : j < 3) => (⟨hS1.cell (HCW.out j hj).1 (Nat.le_refl _) HN1.out.1 HN1.out.2, hS1.cell (HCW.out j hj).2 (Nat.le_refl _) HN2.out.1 HN2.out.2⟩ : x1.cell? ⟨w7.heap.size, j, none⟩ = some (.pointer (some ⟨(F j).p, 0, none⟩)) ∧ x1.cell? ⟨w10.heap.size, j, none⟩ = some (.pointer (some ⟨(F j).pc, 0, none⟩))))
                have HBX := Lib.hid (HBW.out.trans (hS1.below (B' := w.heap.size) (HNE.out K (hK3)).2.2.1 (HNE.out K (hK3)).2.2.2 hsw))
                clear hS1 hx1 hx2
                go_wp2_with fail
                go_roundw
                case rel => exact ⟨i + 1, by simp, by omega, HAX.out, HCX.out, HBX.out⟩
                case measure => simp [intOf] <;> omega
        · go_wp2_with fail
          go_ret
          exact ⟨rfl, HBW.out⟩
end Go.Proofs.YtecmhpncgdjgjaaDoor
