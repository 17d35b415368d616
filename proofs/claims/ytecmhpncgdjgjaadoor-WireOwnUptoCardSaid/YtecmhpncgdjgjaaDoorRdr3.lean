/-
  A reader of package wire: Tag, walked. Conditions: as for Varint.
-/
import Derived.Test.YtecmhpncgdjgjaaDoorRdr
namespace Go.Proofs.YtecmhpncgdjgjaaDoor
open Go.RowKit
set_option linter.unusedVariables false
set_option linter.unusedSimpArgs false

theorem and_seven (v : Int) : bits BinOp.and IntKind.i64 v 7 = ((u64 v % 8 : Nat) : Int) := by
  show IntKind.i64.wrap ((BitVec.ofInt 64 v &&& BitVec.ofInt 64 7).toNat : Int) = _
  have h1 : (BitVec.ofInt 64 7).toNat = 7 := by decide
  have h2 := u64_lt v
  rw [BitVec.toNat_and, h1, ofInt_toNat, show (7 : Nat) = 2 ^ 3 - 1 by rfl, Nat.and_two_pow_sub_one_eq_mod, IntKind.wrap_i64]
  omega

set_option maxHeartbeats 4000000 in
set_option maxRecDepth 100000 in
theorem rdTag_any (w : World) (p : Nat) (st : Bool) (b : List UInt8) (q : Nat) (a : Option Addr) (cap : Nat) (h : RdAt w p st b q a cap) :
    Calls Tryd.prog 55 #[.pointer (some ⟨p, 0, none⟩)] w (Rds w p st b (gRd st b q).2.2.2 a cap (.tuple #[.int .i64 (gRd st b q).1, .int .i64 (gRd st b q).2.1, .int .i64 (gRd st b q).2.2.1])) := by
  have k1 := h.c1
  have hq := h.hq
  have hbl := h.hb
  have hc := rdVarint_any w p st b q a cap h
  have hT := Lib.hid (show gRd st b q = if (vRd st b q).2.1 = 0 then
    if u64 (vRd st b q).1 / 8 < 1 ∨ 536870911 < u64 (vRd st b q).1 / 8 then (0, 0, 24, q)
    else if 5 < u64 (vRd st b q).1 % 8 then (0, 0, 23, q)
    else (((u64 (vRd st b q).1 / 8 : Nat) : Int), ((u64 (vRd st b q).1 % 8 : Nat) : Int), 0, (vRd st b q).2.2)
  else (0, 0, (vRd st b q).2.1, q) from rfl)
  have hbad := Lib.hid (show (vRd st b q).2.1 ≠ 0 → (vRd st b q).2.2 = q by unfold vRd; split <;> intro h <;> first | rfl | exact absurd rfl h)
  obtain ⟨⟨x, er, q1⟩, hv⟩ : ∃ r, vRd st b q = r := ⟨_, rfl⟩
  rw [hv] at hc hT hbad
  simp only at hc hT hbad
  have HC := Lib.hid hc
  clear hc hv
  cases her : (er != 0 : Bool)
  · have her0 : er = 0 := by simpa using her
    subst her0
    have hwr := wrap_u64 x
    have hlt := u64_lt x
    have hand := and_seven x
    obtain ⟨u, hu⟩ : ∃ u, u64 x = u := ⟨_, rfl⟩
    rw [hu] at hwr hlt hand hT
    obtain ⟨m, hm⟩ : ∃ m, u / 8 = m := ⟨_, rfl⟩
    obtain ⟨k, hk⟩ : ∃ k, u % 8 = k := ⟨_, rfl⟩
    have hdiv : (u : Int) / 8 = (m : Int) := by omega
    have hm2 : m ≤ 2305843009213693951 := by omega
    have hk2 : k ≤ 7 := by omega
    rw [hk] at hand hT
    rw [hm] at hT
    clear hm hk hu
    by_cases hm0 : m < 1
    · have hV := Lib.hid (hT.out.trans ((if_pos rfl).trans (if_pos (.inl hm0))))
      go_enter Tryd.func55, Tryd.ntmps55
      go_wp2_with fail
      refine HC.out.mono ?_
      rintro e w1 ⟨rfl, hR1, ht1⟩
      have k1 := hR1.c1
      have kz := hR1.fz
      have HX := Lib.hid (hR1.set q hq)
      go_wp2_with fail
      go_ret3
      rw [hV.out]
      exact ⟨rfl, HX.out, ht1.set 1 _⟩
    by_cases hm1 : 536870911 < m
    · have hV := Lib.hid (hT.out.trans ((if_pos rfl).trans (if_pos (.inr hm1))))
      go_enter Tryd.func55, Tryd.ntmps55
      go_wp2_with fail
      refine HC.out.mono ?_
      rintro e w1 ⟨rfl, hR1, ht1⟩
      have k1 := hR1.c1
      have kz := hR1.fz
      have HX := Lib.hid (hR1.set q hq)
      go_wp2_with fail
      go_ret3
      rw [hV.out]
      exact ⟨rfl, HX.out, ht1.set 1 _⟩
    by_cases hk5 : 5 < k
    · have hV := Lib.hid (hT.out.trans ((if_pos rfl).trans ((if_neg (by omega)).trans (if_pos hk5))))
      go_enter Tryd.func55, Tryd.ntmps55
      go_wp2_with fail
      refine HC.out.mono ?_
      rintro e w1 ⟨rfl, hR1, ht1⟩
      have k1 := hR1.c1
      have kz := hR1.fz
      have HX := Lib.hid (hR1.set q hq)
      go_wp2_with fail
      go_ret3
      rw [hV.out]
      exact ⟨rfl, HX.out, ht1.set 1 _⟩
    · have hV := Lib.hid (hT.out.trans ((if_pos rfl).trans ((if_neg (by omega)).trans (if_neg hk5))))
      go_enter Tryd.func55, Tryd.ntmps55
      go_wp2_with fail
      refine HC.out.mono ?_
      rintro e w1 ⟨rfl, hR1, ht1⟩
      go_wp2_with fail
      go_ret3
      rw [hV.out]
      exact ⟨rfl, hR1, ht1⟩
  · have hq1 := hbad.out (by simpa using her)
    subst hq1
    have hV := Lib.hid (hT.out.trans (if_neg (by simpa using her)))
    go_enter Tryd.func55, Tryd.ntmps55
    go_wp2_with fail
    refine HC.out.mono ?_
    rintro e w1 ⟨rfl, hR1, ht1⟩
    go_wp2_with fail
    go_ret3
    rw [hV.out]
    exact ⟨rfl, hR1, ht1⟩
end Go.Proofs.YtecmhpncgdjgjaaDoor
