/-
  A reader of package wire: Fixed, Text and Tag, walked. Conditions: as for Varint.
-/
import Derived.Test.YtecmhpncgdjgjaaDoorRdr
import Derived.Laws.BytesArg
namespace Go.Proofs.YtecmhpncgdjgjaaDoor
open Go.RowKit
set_option linter.unusedVariables false
set_option linter.unusedSimpArgs false

theorem leB_lt (l : List UInt8) : leB l < 256 ^ l.length := by
  induction l with
  | nil => simp [leB]
  | cons c cs ih =>
    have := c.toNat_lt
    simp only [leB, List.length_cons, Nat.pow_succ]
    omega
theorem leB_snoc (l : List UInt8) (c : UInt8) : leB (l ++ [c]) = leB l + c.toNat * 256 ^ l.length := by
  induction l with
  | nil => simp [leB]
  | cons d l ih =>
    simp only [List.cons_append, leB, ih, List.length_cons, Nat.pow_succ, Nat.mul_add]
    rw [Nat.mul_comm (256 ^ l.length) 256, ← Nat.mul_assoc c.toNat 256, Nat.mul_comm c.toNat 256, Nat.mul_assoc 256 c.toNat]
    omega
theorem or_low8 (i u c : Nat) (hu : u < 256 ^ i) : u ||| c * 256 ^ i = u + c * 256 ^ i := by
  have e : (256 : Nat) ^ i = 2 ^ (8 * i) := by rw [show (256 : Nat) = 2 ^ 8 by rfl, ← Nat.pow_mul]
  rw [e] at hu ⊢
  rw [Nat.or_comm, Nat.mul_comm c, ← Nat.two_pow_add_eq_or_of_lt hu, Nat.add_comm]
theorem u64_s64 (u : Nat) (h : u < 18446744073709551616) : u64 (s64 u) = u := by unfold u64 s64 wrap64; omega
theorem s64_wrap (u : Nat) : IntKind.i64.wrap (u : Int) = s64 u := by unfold s64 wrap64; rw [IntKind.wrap_i64]
theorem or_step8 (u c i : Nat) (hi : i ≤ 7) (hu : u < 256 ^ i) (hc : c < 256) : bits BinOp.or IntKind.i64 (s64 u) (wrap64 ((c : Int) * 2 ^ (8 * i))) = s64 (u + c * 256 ^ i) := by
  have e0 : (2 : Nat) ^ (8 * i) = 256 ^ i := by rw [show (256 : Nat) = 2 ^ 8 by rfl, ← Nat.pow_mul]
  have e1 : ((c : Int) * 2 ^ (8 * i)) = ((c * 256 ^ i : Nat) : Int) := by rw [← e0]; simp
  have h1 : (256 : Nat) ^ (i + 1) ≤ 256 ^ 8 := Nat.pow_le_pow_right (by decide) (by omega)
  have h2 : (c + 1) * 256 ^ i ≤ 256 * 256 ^ i := Nat.mul_le_mul_right _ (by omega)
  rw [Nat.pow_succ] at h1
  rw [Nat.add_mul] at h2
  rw [e1]
  show IntKind.i64.wrap ((BitVec.ofInt 64 (s64 u) ||| BitVec.ofInt 64 (s64 (c * 256 ^ i))).toNat : Int) = _
  rw [BitVec.toNat_or, ofInt_toNat, ofInt_toNat, u64_s64 _ (by omega), u64_s64 _ (by omega), or_low8 i u c hu, s64_wrap]

set_option maxHeartbeats 4000000 in
set_option maxRecDepth 100000 in
theorem rdFixed_any (n : Nat) (hn : n = 4 ∨ n = 8) (w : World) (p : Nat) (st : Bool) (b : List UInt8) (q : Nat) (a : Option Addr) (cap : Nat) (h : RdAt w p st b q a cap) :
    Calls Tryd.prog 78 #[.pointer (some ⟨p, 0, none⟩), .int .i64 n] w (Rds w p st b (fRd n b q).2.2 a cap (.tuple #[.int .i64 (fRd n b q).1, .int .i64 (fRd n b q).2.1])) := by
  have k0 := h.c0
  have k1 := h.c1
  have hq := h.hq
  have hbl := h.hb
  by_cases hend : b.length < q + n
  · have hV := Lib.hid (show fRd n b q = (0, 20, q) from if_pos hend)
    have hlt : (b.length : Int) - (q : Int) < (n : Int) := by omega
    rcases hn with rfl | rfl
    · go_enter Tryd.func78, Tryd.ntmps78
      go_wp2_with fail
      go_quiet (fail)
      go_wp2
      go_ret2
      rw [hV.out]
      exact ⟨rfl, h.later (below_drawn (Below.refl _ _) _), .of (below_drawn (Below.refl _ _) _)⟩
    · go_enter Tryd.func78, Tryd.ntmps78
      go_wp2_with fail
      go_quiet (fail)
      go_wp2
      go_ret2
      rw [hV.out]
      exact ⟨rfl, h.later (below_drawn (Below.refl _ _) _), .of (below_drawn (Below.refl _ _) _)⟩
  · have hV := Lib.hid (show fRd n b q = (s64 (leB ((b.drop q).take n)), 0, q + n) from if_neg hend)
    have hge : (n : Int) ≤ (b.length : Int) - (q : Int) := by omega
    have hn4 : ((n : Int) != 4) = true → ((n : Int) != 8) = false := by simp; omega
    have hn8 : n ≤ 8 := by omega
    cases h4 : ((n : Int) != 4)
    · go_enter Tryd.func78, Tryd.ntmps78
      go_wp2_with fail
      go_quiet (fail)
      obtain ⟨wy, hwy⟩ : ∃ wy, w.drewN nq = wy := ⟨_, rfl⟩
      have hby : Below w.heap.size w wy := by rw [← hwy]; exact below_drawn (Below.refl _ _) _
      rw [hwy]
      clear hwy
      go_wp2_with fail
      go_loopw [6, 27] (fun v6 v27 wr => ∃ i : Nat, v6 = .int .i64 (s64 (leB ((b.drop q).take i))) ∧ v27 = .int .i64 i ∧ i ≤ n ∧ Below w.heap.size w wr) (fun _ v27 _ => n - (intOf v27).toNat)
      case atStart => exact ⟨0, by simp [leB, s64, wrap64], rfl, Nat.zero_le _, hby⟩
      case round =>
        obtain ⟨i, rfl, rfl, hi, hbw⟩ := hrel
        have hR := h.later hbw
        have k0 := hR.c0
        have k1 := hR.c1
        have kz := hR.fz
        by_cases hlt : i < n
        · obtain ⟨m, hm⟩ : ∃ m : Nat, q + i = m := ⟨_, rfl⟩
          have hmi : (q : Int) + (i : Int) = (m : Int) := by omega
          have hml : m < b.length := by omega
          obtain ⟨g, rfl, kb⟩ := hR.byte m hml
          obtain ⟨c, hc⟩ : ∃ c, (b[m]'hml).toNat = c := ⟨_, rfl⟩
          have hc2 : c < 256 := by rw [← hc]; exact UInt8.toNat_lt _
          rw [hc] at kb
          have hlen : ((b.drop q).take i).length = i := by rw [List.length_take, List.length_drop]; omega
          have hstep : leB ((b.drop q).take (i + 1)) = leB ((b.drop q).take i) + c * 256 ^ i := by
            rw [List.take_add_one, List.getElem?_drop, hm, List.getElem?_eq_getElem hml]
            show leB (_ ++ [b[m]'hml]) = _
            rw [leB_snoc, hlen, hc]
          have hlow := leB_lt ((b.drop q).take i)
          rw [hlen] at hlow
          have ho := or_step8 _ c i (by omega) hlow hc2
          rw [← hstep] at ho
          obtain ⟨x, hx⟩ : ∃ x, s64 (leB ((b.drop q).take i)) = x := ⟨_, rfl⟩
          obtain ⟨y, hy⟩ : ∃ y, s64 (leB ((b.drop q).take (i + 1))) = y := ⟨_, rfl⟩
          rw [hx, hy] at ho
          rw [hx]
          have HY := Lib.hid hy
          clear hc hlen hstep hlow hx hy hm
          go_wp2_with fail
          go_quiet (fail)
          go_wp2_with fail
          go_roundw
          case rel => exact ⟨i + 1, by rw [HY.out], by simp, by omega, below_drawn hbw _⟩
          case measure => simp [intOf]; omega
        · obtain rfl : i = n := by omega
          have HX := Lib.hid (hR.set (q + i) (by omega))
          go_wp2_with fail
          go_ret2
          rw [hV.out]
          exact ⟨rfl, HX.out, (Turn.of hbw).set 1 _⟩
    · have h8 := hn4 h4
      go_enter Tryd.func78, Tryd.ntmps78
      go_wp2_with fail
      go_quiet (fail)
      obtain ⟨wy, hwy⟩ : ∃ wy, w.drewN nq = wy := ⟨_, rfl⟩
      have hby : Below w.heap.size w wy := by rw [← hwy]; exact below_drawn (Below.refl _ _) _
      rw [hwy]
      clear hwy
      go_wp2_with fail
      go_loopw [6, 27] (fun v6 v27 wr => ∃ i : Nat, v6 = .int .i64 (s64 (leB ((b.drop q).take i))) ∧ v27 = .int .i64 i ∧ i ≤ n ∧ Below w.heap.size w wr) (fun _ v27 _ => n - (intOf v27).toNat)
      case atStart => exact ⟨0, by simp [leB, s64, wrap64], rfl, Nat.zero_le _, hby⟩
      case round =>
        obtain ⟨i, rfl, rfl, hi, hbw⟩ := hrel
        have hR := h.later hbw
        have k0 := hR.c0
        have k1 := hR.c1
        have kz := hR.fz
        by_cases hlt : i < n
        · obtain ⟨m, hm⟩ : ∃ m : Nat, q + i = m := ⟨_, rfl⟩
          have hmi : (q : Int) + (i : Int) = (m : Int) := by omega
          have hml : m < b.length := by omega
          obtain ⟨g, rfl, kb⟩ := hR.byte m hml
          obtain ⟨c, hc⟩ : ∃ c, (b[m]'hml).toNat = c := ⟨_, rfl⟩
          have hc2 : c < 256 := by rw [← hc]; exact UInt8.toNat_lt _
          rw [hc] at kb
          have hlen : ((b.drop q).take i).length = i := by rw [List.length_take, List.length_drop]; omega
          have hstep : leB ((b.drop q).take (i + 1)) = leB ((b.drop q).take i) + c * 256 ^ i := by
            rw [List.take_add_one, List.getElem?_drop, hm, List.getElem?_eq_getElem hml]
            show leB (_ ++ [b[m]'hml]) = _
            rw [leB_snoc, hlen, hc]
          have hlow := leB_lt ((b.drop q).take i)
          rw [hlen] at hlow
          have ho := or_step8 _ c i (by omega) hlow hc2
          rw [← hstep] at ho
          obtain ⟨x, hx⟩ : ∃ x, s64 (leB ((b.drop q).take i)) = x := ⟨_, rfl⟩
          obtain ⟨y, hy⟩ : ∃ y, s64 (leB ((b.drop q).take (i + 1))) = y := ⟨_, rfl⟩
          rw [hx, hy] at ho
          rw [hx]
          have HY := Lib.hid hy
          clear hc hlen hstep hlow hx hy hm
          go_wp2_with fail
          go_quiet (fail)
          go_wp2_with fail
          go_roundw
          case rel => exact ⟨i + 1, by rw [HY.out], by simp, by omega, below_drawn hbw _⟩
          case measure => simp [intOf]; omega
        · obtain rfl : i = n := by omega
          have HX := Lib.hid (hR.set (q + i) (by omega))
          go_wp2_with fail
          go_ret2
          rw [hV.out]
          exact ⟨rfl, HX.out, (Turn.of hbw).set 1 _⟩

theorem rd_text {w : World} {p : Nat} {st : Bool} {b : List UInt8} {q : Nat} {a : Option Addr} {cap : Nat} (h : RdAt w p st b q a cap) (g n cap2 : Nat) (ha : a = some ⟨g, 0, none⟩) (hn : q + n ≤ b.length) :
    (convert 24 9 (.slice (some ⟨g, q, none⟩) n cap2)).run Tryd.prog w = .ok (.string ⟨((b.drop q).take n).toArray⟩) w := by
  have hl : ((b.drop q).take n).length = n := by rw [List.length_take, List.length_drop]; omega
  have h1 := run_convert_bytes_arg (P := Tryd.prog) w 24 5 Tryd.underlying24 Tryd.underlying5 g q n cap2 (((b.drop q).take n).map fun c => (c.toNat : Int)) (by rw [List.length_map, hl]) (fun i hi => by
    obtain ⟨g', e, hc⟩ := h.byte (q + i) (by omega)
    rw [ha] at e
    cases e
    rw [hc]
    simp [List.getD, hi, List.getElem?_take, List.getElem?_drop, List.getElem?_eq_getElem (show q + i < b.length by omega)]) 9 Tryd.underlying9
  rw [h1]
  simp [strOfNums, List.map_map, Function.comp_def]

theorem rd_slice {w : World} {p : Nat} {st : Bool} {b : List UInt8} {q : Nat} {a : Option Addr} {cap : Nat} (h : RdAt w p st b q a cap) (g n : Nat) (ha : a = some ⟨g, 0, none⟩) (hn : q + n ≤ b.length) :
    ∃ S, (∀ W, (Instr.sliceAt 24 (.slice (some ⟨g, 0, none⟩) b.length cap) (some (.int .i64 (q : Int))) (some (.int .i64 ((q + n : Nat) : Int))) none).run Tryd.prog W = .ok S W) ∧ ∀ k, (convert 24 9 S).run Tryd.prog (w.drewN k) = .ok (.string ⟨((b.drop q).take n).toArray⟩) (w.drewN k) := by
  have ht' : Tryd.prog.underlying 24 = some (.slice (Tryd.prog.elem 24)) := by simp [Program.elem, Tryd.underlying24]
  have he : Tryd.prog.elem 24 = 5 := by simp [Program.elem, Tryd.underlying24]
  obtain ⟨i0, hi, hz0, hz1, hz2⟩ := info_parts infoB
  have hz : ∀ W, (Go.sizeOf 5).run Tryd.prog W = .ok 1 W := fun W => by simp [go_sem, hi, hz1]
  have hc := h.hc
  refine ⟨sliced (some ⟨g, 0, none⟩) q (q + n) cap 1, fun W => ?_, fun k => ?_⟩
  · rw [run_sliceAt_slice W 24 _ _ _ _ ht', run_slice_lh W 24 _ _ _ ht' .i64 .i64 _ _ (by omega) (by omega) (by omega), he, hz]
    simp only [Result.andThen, Int.toNat_natCast]
  · have hk := h.later (below_drawn (Below.refl _ _) k)
    by_cases h0 : cap = q
    · obtain rfl : n = 0 := by omega
      have h1 := run_convert_bytes_arg (P := Tryd.prog) (w.drewN k) 24 5 Tryd.underlying24 Tryd.underlying5 g 0 0 0 [] rfl (fun i hi => by omega) 9 Tryd.underlying9
      simp only [sliced, h0, if_true, List.take_zero, Nat.add_zero, Nat.sub_self]
      rw [h1]
      simp [strOfNums]
    · have e1 : sliced (some ⟨g, 0, none⟩) q (q + n) cap 1 = .slice (some ⟨g, q, none⟩) n (cap - q) := by
        by_cases h1 : q = 0
        · subst h1
          simp [sliced, Addr.add, h0]
        · simp [sliced, Addr.add, h0, h1]
      rw [e1]
      exact rd_text hk g n _ ha hn

set_option maxHeartbeats 4000000 in
set_option maxRecDepth 100000 in
theorem rdText_any (w : World) (p : Nat) (st : Bool) (b : List UInt8) (q : Nat) (a : Option Addr) (cap : Nat) (h : RdAt w p st b q a cap) :
    Calls Tryd.prog 80 #[.pointer (some ⟨p, 0, none⟩)] w (Rds w p st b (tRd st b q).2.2 a cap (.tuple #[.string ⟨(tRd st b q).1.toArray⟩, .int .i64 (tRd st b q).2.1])) := by
  have k1 := h.c1
  have hq := h.hq
  have hbl := h.hb
  have hc := rdVarint_any w p st b q a cap h
  have hpl := vRd_place st b q hq
  have hT := Lib.hid (show tRd st b q = if (vRd st b q).2.1 = 0 then if (vRd st b q).1 < 0 ∨ (b.length : Int) - (vRd st b q).2.2 < (vRd st b q).1 then ([], 20, q) else ((b.drop (vRd st b q).2.2).take (vRd st b q).1.toNat, 0, (vRd st b q).2.2 + (vRd st b q).1.toNat) else ([], (vRd st b q).2.1, q) from rfl)
  have hbad := Lib.hid (show (vRd st b q).2.1 ≠ 0 → (vRd st b q).2.2 = q by unfold vRd; split <;> intro h <;> first | rfl | exact absurd rfl h)
  obtain ⟨⟨x, er, q1⟩, hv⟩ : ∃ r, vRd st b q = r := ⟨_, rfl⟩
  rw [hv] at hc hpl hT hbad
  simp only at hc hpl hT hbad
  have HC := Lib.hid hc
  obtain ⟨hp1, hp2, hp3⟩ := hpl
  have hp4 := Lib.hid hp3
  clear hp3
  clear hc hv
  have hw : IntKind.i64.wrap ((b.length : Int) - (q1 : Int)) = (b.length : Int) - (q1 : Int) := by rw [IntKind.wrap_i64]; omega
  cases her : (er != 0 : Bool)
  · have her0 : er = 0 := by simpa using her
    subst her0
    by_cases hx0 : x < 0
    · have hV := Lib.hid (hT.out.trans ((if_pos rfl).trans (if_pos (.inl hx0))))
      go_enter Tryd.func80, Tryd.ntmps80
      go_wp2_with fail
      refine HC.out.mono ?_
      rintro e w1 ⟨rfl, hR1, ht1⟩
      have k0 := hR1.c0
      have k1 := hR1.c1
      have kz := hR1.fz
      have HX := Lib.hid (hR1.set q hq)
      go_wp2_with fail
      go_quiet (fail)
      go_wp2_with fail
      go_ret2
      rw [hV.out]
      exact ⟨rfl, HX.out.later (below_drawn (Below.refl _ _) _), (ht1.set 1 _).trans (.of (below_drawn (Below.refl _ _) _))⟩
    · by_cases hx1 : (b.length : Int) - q1 < x
      · have hV := Lib.hid (hT.out.trans ((if_pos rfl).trans (if_pos (.inr hx1))))
        go_enter Tryd.func80, Tryd.ntmps80
        go_wp2_with fail
        refine HC.out.mono ?_
        rintro e w1 ⟨rfl, hR1, ht1⟩
        have k0 := hR1.c0
        have k1 := hR1.c1
        have kz := hR1.fz
        have HX := Lib.hid (hR1.set q hq)
        go_wp2_with fail
        go_quiet (fail)
        go_wp2_with fail
        go_ret2
        rw [hV.out]
        exact ⟨rfl, HX.out.later (below_drawn (Below.refl _ _) _), (ht1.set 1 _).trans (.of (below_drawn (Below.refl _ _) _))⟩
      · have hV := Lib.hid (hT.out.trans ((if_pos rfl).trans (if_neg (by omega))))
        obtain ⟨n, rfl⟩ : ∃ n : Nat, x = n := ⟨x.toNat, by omega⟩
        have hqn : q1 + n ≤ b.length := by omega
        have hx1' : (n : Int) ≤ (b.length : Int) - q1 := by omega
        go_enter Tryd.func80, Tryd.ntmps80
        go_wp2_with fail
        refine HC.out.mono ?_
        rintro e w1 ⟨rfl, hR1, ht1⟩
        have k0 := hR1.c0
        have k1 := hR1.c1
        have kz := hR1.fz
        have HX := Lib.hid (hR1.set (q1 + n) hqn)
        go_wp2_with fail
        go_quiet (fail)
        obtain ⟨wy, hwy⟩ : ∃ wy, w1.drewN nq = wy := ⟨_, rfl⟩
        have hRy : RdAt wy p st b q1 a cap := by rw [← hwy]; exact hR1.later (below_drawn (Below.refl _ _) _)
        have hty : Turn w.heap.size p w wy := by rw [← hwy]; exact ht1.trans (.of (below_drawn (Below.refl _ _) _))
        rw [hwy]
        clear hwy k0 k1 kz HX hR1 ht1
        have k0 := hRy.c0
        have k1 := hRy.c1
        have kz := hRy.fz
        have HX := Lib.hid (hRy.set (q1 + n) hqn)
        obtain ⟨g, rfl, _⟩ := hRy.byte q (by have := hp4.out trivial; omega)
        obtain ⟨S, hsl, hcv⟩ := rd_slice hRy g n rfl hqn
        have hcl := hRy.hc
        have hcm := hRy.hm
        obtain ⟨m, hm⟩ : ∃ m : Nat, q1 + n = m := ⟨_, rfl⟩
        have hmi : (q1 : Int) + (n : Int) = (m : Int) := by omega
        have hm1 : q1 ≤ m := by omega
        have hm2 : m ≤ b.length := by omega
        have hm3 : m ≤ cap := by omega
        have hm4 : m - q1 = n := by omega
        rw [hm] at hsl
        go_wp2_with fail
        go_quiet (fail)
        go_wp2_with fail
        go_ret2
        rw [hV.out]
        have hRz := (hRy.later (below_drawn (Below.refl _ _) nq)).set m hm2
        refine ⟨?_, ?_, (hty.trans (.of (below_drawn (Below.refl _ _) nq))).set 1 _⟩
        · simp
        · simpa [hm] using hRz
  · have hq1 := hbad.out (by simpa using her)
    subst hq1
    have hV := Lib.hid (hT.out.trans (if_neg (by simpa using her)))
    go_enter Tryd.func80, Tryd.ntmps80
    go_wp2_with fail
    refine HC.out.mono ?_
    rintro e w1 ⟨rfl, hR1, ht1⟩
    go_wp2_with fail
    go_ret2
    rw [hV.out]
    exact ⟨rfl, hR1, ht1⟩
end Go.Proofs.YtecmhpncgdjgjaaDoor
