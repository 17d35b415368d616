/-
  Fixed, Text and Tag of the reference's cursor, walked. Conditions: as for the cursor. (Printed by gen_cur3.py.)
-/
import Derived.Test.YtecmhpncgdjgjaaDoorCur2
import Derived.Laws.BytesArg
namespace Go.Proofs.YtecmhpncgdjgjaaDoor
open Go.RowKit
set_option linter.unusedVariables false
set_option linter.unusedSimpArgs false

theorem leB_step {l : List UInt8} {i : Nat} (hi : i < l.length) : leB (l.drop i) = (l[i]'hi).toNat + 256 * leB (l.drop (i + 1)) := by
  rw [List.drop_eq_getElem_cons hi, leB]

set_option maxHeartbeats 8000000 in
set_option maxRecDepth 100000 in
theorem crFixed_any (n : Nat) (hn : n = 4 ∨ n = 8) (w : World) (p : Nat) (st : Bool) (b : List UInt8) (q : Nat) (a : Option Addr) (cap : Nat) (h : CrAt w p st b q a cap) :
    Calls Tryd.prog 79 #[.pointer (some ⟨p, 0, none⟩), .int .i64 n] w (Crs w p st b (fRd n b q).2.2 a cap (.tuple #[.int .i64 (fRd n b q).1, .int .i64 (fRd n b q).2.1])) := by
  have k1 := h.c1
  have k2 := h.c2
  have hq := h.hq
  have hbl := h.hb
  have hn8 : n ≤ 8 := by omega
  have hn1 : 1 ≤ n := by omega
  clear hn
  by_cases hend : b.length < q + n
  · have hV := Lib.hid (show fRd n b q = (0, 20, q) from if_pos hend)
    have hlt : (b.length : Int) - (q : Int) < (n : Int) := by omega
    clear hend
    go_enter Tryd.func79, Tryd.ntmps79
    go_wp2_with fail
    go_quiet (fail)
    go_wp2
    go_ret2
    rw [hV.out]
    exact ⟨rfl, h.later (below_drawn (Below.refl _ _) _), .of (below_drawn (Below.refl _ _) _)⟩
  · have hV0 : fRd n b q = (s64 (leB ((b.drop q).take n)), 0, q + n) := if_neg hend
    have hqn : q + n ≤ b.length := by omega
    clear hend
    obtain ⟨T, hT⟩ : ∃ T, (b.drop q).take n = T := ⟨_, rfl⟩
    have hTl : T.length = n := by rw [← hT, List.length_take, List.length_drop]; omega
    have hTg : ∀ i (hi : i < n), (T[i]'(by omega)) = b[q + i]'(by omega) := by
      intro i hi
      subst hT
      rw [List.getElem_take, List.getElem_drop]
    have HTG := Lib.hid hTg
    have hV := Lib.hid (show fRd n b q = (s64 (leB T), 0, q + n) by rw [hV0, hT])
    have hge : (n : Int) ≤ (b.length : Int) - (q : Int) := by omega
    have HH := Lib.hid h
    clear hTg hT h hV0
    go_enter Tryd.func79, Tryd.ntmps79
    go_wp2_with fail
    go_quiet (fail)
    obtain ⟨wy, hwy⟩ : ∃ wy, w.drewN nq = wy := ⟨_, rfl⟩
    have hby : Below w.heap.size w wy := by rw [← hwy]; exact below_drawn (Below.refl _ _) _
    rw [hwy]
    clear hwy
    go_wp2_with fail
    go_loopw [6, 7] (fun v6 v7 wq => Below w.heap.size w wq ∧ ((∃ j : Nat, v7 = .int .i64 j ∧ j < n ∧ v6 = .int .i64 (s64 (leB (T.drop (j + 1))))) ∨ (v7 = .int .i64 (-1) ∧ v6 = .int .i64 (s64 (leB T))))) (fun _ v7 _ => (intOf v7 + 1).toNat)
    case atStart => exact ⟨hby, .inl ⟨n - 1, by congr 1; omega, by omega, by rw [List.drop_of_length_le (by omega)]; simp [leB, s64, wrap64]⟩⟩
    case round =>
      obtain ⟨hbq, hrel⟩ := hrel
      have hRq := HH.out.later hbq
      have k0 := hRq.c0
      have k1 := hRq.c1
      have kz := hRq.fz
      rcases hrel with ⟨j, rfl, hj, rfl⟩ | ⟨rfl, rfl⟩
      · obtain ⟨g, off, rfl, kb⟩ := hRq.byte (q + j) (by omega)
        have hst := leB_step (l := T) (i := j) (by omega)
        rw [HTG.out j hj] at hst
        obtain ⟨y, hy⟩ : ∃ y, (b[q + j]'(by omega)).toNat = y := ⟨_, rfl⟩
        have hy256 : y < 256 := by rw [← hy]; exact UInt8.toNat_lt _
        rw [hy] at hst kb
        have hs := s64_wrap256 (leB (T.drop (j + 1))) y hy256
        rw [← hst] at hs
        obtain ⟨V, hV1⟩ : ∃ V, s64 (leB (T.drop (j + 1))) = V := ⟨_, rfl⟩
        obtain ⟨V2, hV2⟩ : ∃ V2, s64 (leB (T.drop j)) = V2 := ⟨_, rfl⟩
        rw [hV1, hV2] at hs
        rw [hV1]
        have HV2 := Lib.hid hV2
        obtain ⟨mj, hmj⟩ : ∃ mj, q + j = mj := ⟨_, rfl⟩
        have hmji : (q : Int) + (j : Int) = (mj : Int) := by omega
        have hmjl : mj < b.length := by omega
        rw [hmj] at kb
        clear hst hy hV1 hV2 hmj
        go_wp2_with fail
        go_quiet (fail)
        go_wp2_with fail
        go_roundw
        case rel => exact ⟨below_drawn hbq _, by
          rcases j with _ | j
          · exact .inr ⟨by simp, by first | rw [hs, ← HV2.out, List.drop_zero] | rw [← HV2.out, List.drop_zero]⟩
          · exact .inl ⟨j, by simp, by omega, by first | rw [hs, ← HV2.out] | rw [HV2.out]⟩⟩
        case measure => simp [intOf] <;> omega
      · obtain ⟨qn, hqe⟩ : ∃ qn, q + n = qn := ⟨_, rfl⟩
        have HX := Lib.hid (hRq.set qn (by omega))
        have hqni : (q : Int) + (n : Int) = (qn : Int) := by omega
        have hqnb : qn ≤ 1048576 := by omega
        have HQE := Lib.hid hqe
        clear hqe
        go_wp2_with fail
        go_ret2
        rw [hV.out, HQE.out]
        exact ⟨rfl, HX.out, (Turn.of hbq).set 1 _⟩

theorem cr_text {w : World} {p : Nat} {st : Bool} {b : List UInt8} {q : Nat} {a : Option Addr} {cap : Nat} (h : CrAt w p st b q a cap) (g off n cap2 : Nat) (ha : a = some ⟨g, off, none⟩) (hn : q + n ≤ b.length) :
    (convert 24 9 (.slice (some ⟨g, off + q, none⟩) n cap2)).run Tryd.prog w = .ok (.string ⟨((b.drop q).take n).toArray⟩) w := by
  have hl : ((b.drop q).take n).length = n := by rw [List.length_take, List.length_drop]; omega
  have h1 := run_convert_bytes_arg (P := Tryd.prog) w 24 5 Tryd.underlying24 Tryd.underlying5 g (off + q) n cap2 (((b.drop q).take n).map fun c => (c.toNat : Int)) (by rw [List.length_map, hl]) (fun i hi => by
    obtain ⟨g', off', e, hc⟩ := h.byte (q + i) (by omega)
    rw [ha] at e
    cases e
    rw [Nat.add_assoc, hc]
    simp [List.getD, hi, List.getElem?_take, List.getElem?_drop, List.getElem?_eq_getElem (show q + i < b.length by omega)]) 9 Tryd.underlying9
  rw [h1]
  simp [strOfNums, List.map_map, Function.comp_def]
theorem cr_slice {w : World} {p : Nat} {st : Bool} {b : List UInt8} {q : Nat} {a : Option Addr} {cap : Nat} (h : CrAt w p st b q a cap) (g off n : Nat) (ha : a = some ⟨g, off, none⟩) (hn : q + n ≤ b.length) :
    ∃ S, (∀ W, (Instr.sliceAt 24 (.slice (some ⟨g, off, none⟩) b.length cap) (some (.int .i64 (q : Int))) (some (.int .i64 ((q + n : Nat) : Int))) none).run Tryd.prog W = .ok S W) ∧ ∀ k, (convert 24 9 S).run Tryd.prog (w.drewN k) = .ok (.string ⟨((b.drop q).take n).toArray⟩) (w.drewN k) := by
  have ht' : Tryd.prog.underlying 24 = some (.slice (Tryd.prog.elem 24)) := by simp [Program.elem, Tryd.underlying24]
  have he : Tryd.prog.elem 24 = 5 := by simp [Program.elem, Tryd.underlying24]
  obtain ⟨i0, hi, hz0, hz1, hz2⟩ := info_parts infoB
  have hz : ∀ W, (Go.sizeOf 5).run Tryd.prog W = .ok 1 W := fun W => by simp [go_sem, hi, hz1]
  have hc := h.hc
  refine ⟨sliced (some ⟨g, off, none⟩) q (q + n) cap 1, fun W => ?_, fun k => ?_⟩
  · rw [run_sliceAt_slice W 24 _ _ _ _ ht', run_slice_lh W 24 _ _ _ ht' .i64 .i64 _ _ (by omega) (by omega) (by omega), he, hz]
    simp only [Result.andThen, Int.toNat_natCast]
  · have hk := h.later (below_drawn (Below.refl _ _) k)
    by_cases h0 : cap = q
    · obtain rfl : n = 0 := by omega
      have h1 := run_convert_bytes_arg (P := Tryd.prog) (w.drewN k) 24 5 Tryd.underlying24 Tryd.underlying5 g off 0 0 [] rfl (fun i hi => by omega) 9 Tryd.underlying9
      simp only [sliced, h0, if_true, List.take_zero, Nat.add_zero, Nat.sub_self]
      rw [h1]
      simp [strOfNums]
    · have e1 : sliced (some ⟨g, off, none⟩) q (q + n) cap 1 = .slice (some ⟨g, off + q, none⟩) n (cap - q) := by
        by_cases h1 : q = 0
        · subst h1
          simp [sliced, Addr.add, h0]
        · simp [sliced, Addr.add, h0, h1]
      rw [e1]
      exact cr_text hk g off n _ ha hn

set_option maxHeartbeats 4000000 in
set_option maxRecDepth 100000 in
theorem crText_any (w : World) (p : Nat) (st : Bool) (b : List UInt8) (q : Nat) (a : Option Addr) (cap : Nat) (h : CrAt w p st b q a cap) :
    Calls Tryd.prog 81 #[.pointer (some ⟨p, 0, none⟩)] w (Crs w p st b (tRd st b q).2.2 a cap (.tuple #[.string ⟨(tRd st b q).1.toArray⟩, .int .i64 (tRd st b q).2.1])) := by
  have k1 := h.c1
  have hq := h.hq
  have hbl := h.hb
  have hc := crVarint_any w p st b q a cap h
  have hpl := vRd_place st b q hq
  have hT := Lib.hid (show tRd st b q = if (vRd st b q).2.1 = 0 then if (vRd st b q).1 < 0 ∨ (b.length : Int) - (vRd st b q).2.2 < (vRd st b q).1 then ([], 20, q) else ((b.drop (vRd st b q).2.2).take (vRd st b q).1.toNat, 0, (vRd st b q).2.2 + (vRd st b q).1.toNat) else ([], (vRd st b q).2.1, q) from rfl)
  have hbad := Lib.hid (show (vRd st b q).2.1 ≠ 0 → (vRd st b q).2.2 = q by unfold vRd; split <;> intro h <;> first | rfl | exact absurd rfl h)
  obtain ⟨⟨x, er, q1⟩, hv⟩ : ∃ r, vRd st b q = r := ⟨_, rfl⟩
  rw [hv] at hc hpl hT hbad
  simp only at hc hpl hT hbad
  have HC := Lib.hid hc
  obtain ⟨hp1, hp2, hp3⟩ := hpl
  have hp4 := Lib.hid hp3
  clear hp3
  clear hc hv
  have hw : IntKind.i64.wrap ((b.length : Int) - (q1 : Int)) = (b.length : Int) - (q1 : Int) := by rw [IntKind.wrap_i64]; omega
  cases her : (er != 0 : Bool)
  · have her0 : er = 0 := by simpa using her
    subst her0
    by_cases hx0 : x < 0
    · have hV := Lib.hid (hT.out.trans ((if_pos rfl).trans (if_pos (.inl hx0))))
      go_enter Tryd.func81, Tryd.ntmps81
      go_wp2_with fail
      refine HC.out.mono ?_
      rintro e w1 ⟨rfl, hR1, ht1⟩
      have k2 := hR1.c2
      have k0 := hR1.c0
      have k1 := hR1.c1
      have kz := hR1.fz
      have HX := Lib.hid (hR1.set q hq)
      go_wp2_with fail
      go_quiet (fail)
      go_wp2_with fail
      go_ret2
      rw [hV.out]
      exact ⟨rfl, HX.out.later (below_drawn (Below.refl _ _) _), (ht1.set 1 _).trans (.of (below_drawn (Below.refl _ _) _))⟩
    · by_cases hx1 : (b.length : Int) - q1 < x
      · have hV := Lib.hid (hT.out.trans ((if_pos rfl).trans (if_pos (.inr hx1))))
        go_enter Tryd.func81, Tryd.ntmps81
        go_wp2_with fail
        refine HC.out.mono ?_
        rintro e w1 ⟨rfl, hR1, ht1⟩
        have k2 := hR1.c2
        have k0 := hR1.c0
        have k1 := hR1.c1
        have kz := hR1.fz
        have HX := Lib.hid (hR1.set q hq)
        go_wp2_with fail
        go_quiet (fail)
        go_wp2_with fail
        go_ret2
        rw [hV.out]
        exact ⟨rfl, HX.out.later (below_drawn (Below.refl _ _) _), (ht1.set 1 _).trans (.of (below_drawn (Below.refl _ _) _))⟩
      · have hV := Lib.hid (hT.out.trans ((if_pos rfl).trans (if_neg (by omega))))
        obtain ⟨n, rfl⟩ : ∃ n : Nat, x = n := ⟨x.toNat, by omega⟩
        have hqn : q1 + n ≤ b.length := by omega
        have hx1' : (n : Int) ≤ (b.length : Int) - q1 := by omega
        go_enter Tryd.func81, Tryd.ntmps81
        go_wp2_with fail
        refine HC.out.mono ?_
        rintro e w1 ⟨rfl, hR1, ht1⟩
        have k2 := hR1.c2
        have k0 := hR1.c0
        have k1 := hR1.c1
        have kz := hR1.fz
        have HX := Lib.hid (hR1.set (q1 + n) hqn)
        go_wp2_with fail
        go_quiet (fail)
        obtain ⟨wy, hwy⟩ : ∃ wy, w1.drewN nq = wy := ⟨_, rfl⟩
        have hRy : CrAt wy p st b q1 a cap := by rw [← hwy]; exact hR1.later (below_drawn (Below.refl _ _) _)
        have hty : Turn w.heap.size p w wy := by rw [← hwy]; exact ht1.trans (.of (below_drawn (Below.refl _ _) _))
        rw [hwy]
        clear hwy k0 k1 k2 kz HX hR1 ht1
        have k2 := hRy.c2
        have k0 := hRy.c0
        have k1 := hRy.c1
        have kz := hRy.fz
        have HX := Lib.hid (hRy.set (q1 + n) hqn)
        obtain ⟨g, off, rfl, _⟩ := hRy.byte q (by have := hp4.out trivial; omega)
        obtain ⟨S, hsl, hcv⟩ := cr_slice hRy g off n rfl hqn
        have hcl := hRy.hc
        have hcm := hRy.hm
        obtain ⟨m, hm⟩ : ∃ m : Nat, q1 + n = m := ⟨_, rfl⟩
        have hmi : (q1 : Int) + (n : Int) = (m : Int) := by omega
        have hm1 : q1 ≤ m := by omega
        have hm2 : m ≤ b.length := by omega
        have hm3 : m ≤ cap := by omega
        have hm4 : m - q1 = n := by omega
        rw [hm] at hsl
        go_wp2_with fail
        go_quiet (fail)
        go_wp2_with fail
        go_ret2
        rw [hV.out]
        have hRz := (hRy.later (below_drawn (Below.refl _ _) nq)).set m hm2
        refine ⟨?_, ?_, (hty.trans (.of (below_drawn (Below.refl _ _) nq))).set 1 _⟩
        · simp
        · simpa [hm] using hRz
  · have hq1 := hbad.out (by simpa using her)
    subst hq1
    have hV := Lib.hid (hT.out.trans (if_neg (by simpa using her)))
    go_enter Tryd.func81, Tryd.ntmps81
    go_wp2_with fail
    refine HC.out.mono ?_
    rintro e w1 ⟨rfl, hR1, ht1⟩
    go_wp2_with fail
    go_ret2
    rw [hV.out]
    exact ⟨rfl, hR1, ht1⟩

set_option maxHeartbeats 4000000 in
set_option maxRecDepth 100000 in
theorem crTag_any (w : World) (p : Nat) (st : Bool) (b : List UInt8) (q : Nat) (a : Option Addr) (cap : Nat) (h : CrAt w p st b q a cap) :
    Calls Tryd.prog 82 #[.pointer (some ⟨p, 0, none⟩)] w (Crs w p st b (gRd st b q).2.2.2 a cap (.tuple #[.int .i64 (gRd st b q).1, .int .i64 (gRd st b q).2.1, .int .i64 (gRd st b q).2.2.1])) := by
  have k1 := h.c1
  have hq := h.hq
  have hbl := h.hb
  have hc := crVarint_any w p st b q a cap h
  have hT := Lib.hid (show gRd st b q = if (vRd st b q).2.1 = 0 then
    if u64 (vRd st b q).1 / 8 < 1 ∨ 536870911 < u64 (vRd st b q).1 / 8 then (0, 0, 24, q)
    else if 5 < u64 (vRd st b q).1 % 8 then (0, 0, 23, q)
    else (((u64 (vRd st b q).1 / 8 : Nat) : Int), ((u64 (vRd st b q).1 % 8 : Nat) : Int), 0, (vRd st b q).2.2)
  else (0, 0, (vRd st b q).2.1, q) from rfl)
  have hbad := Lib.hid (show (vRd st b q).2.1 ≠ 0 → (vRd st b q).2.2 = q by unfold vRd; split <;> intro h <;> first | rfl | exact absurd rfl h)
  obtain ⟨⟨x, er, q1⟩, hv⟩ : ∃ r, vRd st b q = r := ⟨_, rfl⟩
  rw [hv] at hc hT hbad
  simp only at hc hT hbad
  have HC := Lib.hid hc
  have HX64 := Lib.hid (show Is64 x by have := vRd_is64 st b q; rw [hv] at this; exact this)
  clear hc hv
  cases her : (er != 0 : Bool)
  · have her0 : er = 0 := by simpa using her
    subst her0
    have hlt := u64_lt x
    obtain ⟨u, hu⟩ : ∃ u, u64 x = u := ⟨_, rfl⟩
    have HHV := Lib.hid (fun W => hu ▸ halves_any x HX64.out W)
    rw [hu] at hlt hT
    obtain ⟨m, hm⟩ : ∃ m, u / 8 = m := ⟨_, rfl⟩
    obtain ⟨k, hk⟩ : ∃ k, u % 8 = k := ⟨_, rfl⟩
    obtain ⟨up, hup⟩ : ∃ up, u / 128 = up := ⟨_, rfl⟩
    obtain ⟨low, hlow⟩ : ∃ low, u % 128 = low := ⟨_, rfl⟩
    have hl128 : low < 128 := by omega
    have hupb : up < 144115188075855872 := by omega
    have hquo : (low : Int).tdiv 8 = ((low / 8 : Nat) : Int) := by rw [Int.tdiv_eq_ediv_of_nonneg (by omega)]; omega
    obtain ⟨lq, hlq⟩ : ∃ lq, low / 8 = lq := ⟨_, rfl⟩
    rw [hlq] at hquo
    have hnum : 16 * (up : Int) + (lq : Int) = (m : Int) := by omega
    have hrem : (low : Int).tmod 8 = (k : Int) := by rw [Int.tmod_eq_emod_of_nonneg (by omega)]; omega
    rw [hup, hlow] at HHV
    have hlqb : lq < 16 := by omega
    have hm2 : m ≤ 2305843009213693951 := by omega
    have hk2 : k ≤ 7 := by omega
    rw [hk] at hT
    rw [hm] at hT
    clear hm hk hu hup hlow hlq hlt
    by_cases hm0 : m < 1
    · have hV := Lib.hid (hT.out.trans ((if_pos rfl).trans (if_pos (.inl hm0))))
      go_enter Tryd.func82, Tryd.ntmps82
      go_wp2_with fail
      refine HC.out.mono ?_
      rintro e w1 ⟨rfl, hR1, ht1⟩
      have k1 := hR1.c1
      have kz := hR1.fz
      have HX := Lib.hid (hR1.set q hq)
      go_wp2_with fail
      refine (HHV.out w1).mono ?_
      rintro e _ ⟨rfl, rfl⟩
      go_wp2_with fail
      go_ret3
      rw [hV.out]
      exact ⟨rfl, HX.out, ht1.set 1 _⟩
    by_cases hm1 : 536870911 < m
    · have hV := Lib.hid (hT.out.trans ((if_pos rfl).trans (if_pos (.inr hm1))))
      go_enter Tryd.func82, Tryd.ntmps82
      go_wp2_with fail
      refine HC.out.mono ?_
      rintro e w1 ⟨rfl, hR1, ht1⟩
      have k1 := hR1.c1
      have kz := hR1.fz
      have HX := Lib.hid (hR1.set q hq)
      go_wp2_with fail
      refine (HHV.out w1).mono ?_
      rintro e _ ⟨rfl, rfl⟩
      go_wp2_with fail
      go_ret3
      rw [hV.out]
      exact ⟨rfl, HX.out, ht1.set 1 _⟩
    by_cases hk5 : 5 < k
    · have hV := Lib.hid (hT.out.trans ((if_pos rfl).trans ((if_neg (by omega)).trans (if_pos hk5))))
      go_enter Tryd.func82, Tryd.ntmps82
      go_wp2_with fail
      refine HC.out.mono ?_
      rintro e w1 ⟨rfl, hR1, ht1⟩
      have k1 := hR1.c1
      have kz := hR1.fz
      have HX := Lib.hid (hR1.set q hq)
      go_wp2_with fail
      refine (HHV.out w1).mono ?_
      rintro e _ ⟨rfl, rfl⟩
      go_wp2_with fail
      go_ret3
      rw [hV.out]
      exact ⟨rfl, HX.out, ht1.set 1 _⟩
    · have hV := Lib.hid (hT.out.trans ((if_pos rfl).trans ((if_neg (by omega)).trans (if_neg hk5))))
      go_enter Tryd.func82, Tryd.ntmps82
      go_wp2_with fail
      refine HC.out.mono ?_
      rintro e w1 ⟨rfl, hR1, ht1⟩
      go_wp2_with fail
      refine (HHV.out w1).mono ?_
      rintro e _ ⟨rfl, rfl⟩
      go_wp2_with fail
      go_ret3
      rw [hV.out]
      exact ⟨rfl, hR1, ht1⟩
  · have hq1 := hbad.out (by simpa using her)
    subst hq1
    have hV := Lib.hid (hT.out.trans (if_neg (by simpa using her)))
    go_enter Tryd.func82, Tryd.ntmps82
    go_wp2_with fail
    refine HC.out.mono ?_
    rintro e w1 ⟨rfl, hR1, ht1⟩
    go_wp2_with fail
    go_ret3
    rw [hV.out]
    exact ⟨rfl, hR1, ht1⟩
end Go.Proofs.YtecmhpncgdjgjaaDoor
