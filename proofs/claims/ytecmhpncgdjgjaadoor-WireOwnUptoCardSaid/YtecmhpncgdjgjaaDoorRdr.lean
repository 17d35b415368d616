/-
  A reader of package wire in memory; its Varint, walked. Conditions: at most 1048576 bytes, as Read sees to.
-/
import Derived.Test.YtecmhpncgdjgjaaDoorReadPlain
import Derived.BigQuiet
import Derived.Laws.OwnMore
namespace Go.Proofs.YtecmhpncgdjgjaaDoor
open Go.RowKit
set_option linter.unusedVariables false
set_option linter.unusedSimpArgs false

/-- Of the blocks below B only p may have turned. -/
structure Turn (B p : Nat) (w w' : World) : Prop where
  os : w'.os = w.os
  tape : w'.tape = w.tape
  output : w'.output = w.output
  size : w.heap.size ≤ w'.heap.size
  block : ∀ k, k < B → k ≠ p → w'.heap[k]? = w.heap[k]?
theorem Turn.of {B p : Nat} {w w' : World} (h : Below B w w') : Turn B p w w' := ⟨h.os, h.tape, h.output, h.size, fun k hk _ => h.block k hk⟩
theorem Turn.refl (B p : Nat) (w : World) : Turn B p w w := .of (Below.refl _ _)
theorem Turn.trans {B p : Nat} {a b c : World} (h : Turn B p a b) (k : Turn B p b c) : Turn B p a c :=
  ⟨k.os.trans h.os, k.tape.trans h.tape, k.output.trans h.output, Nat.le_trans h.size k.size, fun i hi hn => (k.block i hi hn).trans (h.block i hi hn)⟩
theorem Turn.mono {B B' p : Nat} {w w' : World} (h : Turn B p w w') (hB : B' ≤ B) : Turn B' p w w' := ⟨h.os, h.tape, h.output, h.size, fun k hk => h.block k (by omega)⟩
theorem Turn.set {B p : Nat} {w w1 : World} (h : Turn B p w w1) (o : Nat) (u : Value) : Turn B p w (w1.setCell ⟨p, o, none⟩ u) :=
  ⟨h.os, h.tape, h.output, by rw [World.size_setCell]; exact h.size, fun k hk hn => (Below.heap_setCell w1 ⟨p, o, none⟩ u k hn).trans (h.block k hk hn)⟩
theorem Turn.below {B B' p : Nat} {w w' : World} (h : Turn B p w w') (hp : B' ≤ p) (hB : B' ≤ B) : Below B' w w' :=
  ⟨h.os, h.tape, h.output, h.size, fun k hk => h.block k (by omega) (by omega)⟩
theorem Turn.cell {B p : Nat} {w w' : World} (h : Turn B p w w') {b o : Nat} {v : Value} (hc : w.cell? ⟨b, o, none⟩ = some v) (hB : w.heap.size ≤ B) (hb : b ≠ p) : w'.cell? ⟨b, o, none⟩ = some v :=
  (World.cell?_of_block (w := w) (h.block b (by have := cell_lt hc; omega) hb)).trans hc

/-- A reader at block p: over the bytes b, at q. -/
structure RdAt (w : World) (p : Nat) (st : Bool) (b : List UInt8) (q : Nat) (a : Option Addr) (cap : Nat) : Prop where
  c0 : w.cell? ⟨p, 0, none⟩ = some (.slice a b.length cap)
  c1 : w.cell? ⟨p, 1, none⟩ = some (.int .i64 q)
  c2 : w.cell? ⟨p, 2, none⟩ = some (.bool st)
  fz : w.frozen? ⟨p, 1, none⟩ = false
  hq : q ≤ b.length
  hb : b.length ≤ 1048576
  hc : b.length ≤ cap
  hm : cap ≤ 9223372036854775807
  hby : b = [] ∨ ∃ g, a = some ⟨g, 0, none⟩ ∧ g ≠ p ∧ ∀ k (hk : k < b.length), w.cell? ⟨g, k, none⟩ = some (.int .u8 ((b[k]'hk).toNat : Int))

theorem RdAt.held {w w' : World} {p : Nat} {st : Bool} {b : List UInt8} {q : Nat} {a : Option Addr} {cap : Nat} (h : RdAt w p st b q a cap) (hp : w'.heap[p]? = w.heap[p]?) (hg : ∀ g, a = some ⟨g, 0, none⟩ → w'.heap[g]? = w.heap[g]?) : RdAt w' p st b q a cap := by
  refine ⟨(World.cell?_of_block (w := w) hp).trans h.c0, (World.cell?_of_block (w := w) hp).trans h.c1, (World.cell?_of_block (w := w) hp).trans h.c2, (World.frozen?_of_block (w := w) hp).trans h.fz, h.hq, h.hb, h.hc, h.hm, ?_⟩
  rcases h.hby with h0 | ⟨g, h1, h2, h3⟩
  · exact .inl h0
  · exact .inr ⟨g, h1, h2, fun k hk => (World.cell?_of_block (w := w) (hg g h1)).trans (h3 k hk)⟩
theorem RdAt.lt {w : World} {p : Nat} {st : Bool} {b : List UInt8} {q : Nat} {a : Option Addr} {cap : Nat} (h : RdAt w p st b q a cap) : p < w.heap.size := cell_lt h.c0
theorem RdAt.later {w w' : World} {p : Nat} {st : Bool} {b : List UInt8} {q : Nat} {a : Option Addr} {cap : Nat} (h : RdAt w p st b q a cap) (hb : Below w.heap.size w w') : RdAt w' p st b q a cap := by
  refine ⟨(World.cell?_of_block (w := w) (hb.block p h.lt)).trans h.c0, (World.cell?_of_block (w := w) (hb.block p h.lt)).trans h.c1, (World.cell?_of_block (w := w) (hb.block p h.lt)).trans h.c2, (World.frozen?_of_block (w := w) (hb.block p h.lt)).trans h.fz, h.hq, h.hb, h.hc, h.hm, ?_⟩
  rcases h.hby with h0 | ⟨g, h1, h2, h3⟩
  · exact .inl h0
  · exact .inr ⟨g, h1, h2, fun k hk => (World.cell?_of_block (w := w) (hb.block g (cell_lt (h3 k hk)))).trans (h3 k hk)⟩
theorem RdAt.set {w : World} {p : Nat} {st : Bool} {b : List UInt8} {q : Nat} {a : Option Addr} {cap : Nat} (h : RdAt w p st b q a cap) (q' : Nat) (hq : q' ≤ b.length) : RdAt (w.setCell ⟨p, 1, none⟩ (.int .i64 q')) p st b q' a cap := by
  refine ⟨(World.cell?_setCell_other _ _ _ _ (by simp)).trans h.c0, World.cell?_setCell_same _ _ _ h.c1, (World.cell?_setCell_other _ _ _ _ (by simp)).trans h.c2, (World.frozen?_setCell _ _ _ _).trans h.fz, hq, h.hb, h.hc, h.hm, ?_⟩
  rcases h.hby with h0 | ⟨g, h1, h2, h3⟩
  · exact .inl h0
  · exact .inr ⟨g, h1, h2, fun k hk => (World.cell?_setCell_other _ _ _ _ (by simp [Ne.symm h2])).trans (h3 k hk)⟩
theorem RdAt.byte {w : World} {p : Nat} {st : Bool} {b : List UInt8} {q : Nat} {a : Option Addr} {cap : Nat} (h : RdAt w p st b q a cap) (k : Nat) (hk : k < b.length) : ∃ g, a = some ⟨g, 0, none⟩ ∧ w.cell? ⟨g, k, none⟩ = some (.int .u8 ((b[k]'hk).toNat : Int)) := by
  rcases h.hby with h0 | ⟨g, h1, h2, h3⟩
  · subst h0; simp at hk
  · exact ⟨g, h1, h3 k hk⟩

/-- What a reader's method leaves: an answer, and the reader at q'. -/
def Rds (w : World) (p : Nat) (st : Bool) (b : List UInt8) (q' : Nat) (a : Option Addr) (cap : Nat) (v : Value) (e : Ending) (w' : World) : Prop :=
  e = .returned v ∧ RdAt w' p st b q' a cap ∧ Turn w.heap.size p w w'

theorem below_drawn {B : Nat} {a w : World} (h : Below B a w) (q : Nat) : Below B a (w.drewN q) := h.trans ⟨rfl, rfl, rfl, Nat.le_refl _, fun _ _ => rfl⟩
theorem and127 : ∀ n : Fin 256, bits BinOp.and IntKind.u8 (n.val : Int) 127 = ((n.val % 128 : Nat) : Int) := by decide +kernel
theorem pow7 (i : Nat) : (2 : Nat) ^ (7 * i) = 128 ^ i := by rw [show (128 : Nat) = 2 ^ 7 by rfl, ← Nat.pow_mul]

theorem or_step (u c i : Nat) (hu : u < 128 ^ i) (hc : c < 128) (h : u + c * 128 ^ i < 18446744073709551616) : bits BinOp.or IntKind.u64 (u : Int) (IntKind.u64.wrap ((c : Int) * 2 ^ (7 * i))) = ((u + c * 128 ^ i : Nat) : Int) := by
  have e1 : ((c : Int) * 2 ^ (7 * i)) = ((c * 128 ^ i : Nat) : Int) := by rw [← pow7]; simp
  rw [e1, wrap_u64, u64_nat _ (by omega)]
  show IntKind.u64.wrap ((BitVec.ofInt 64 (u : Int) ||| BitVec.ofInt 64 ((c * 128 ^ i : Nat) : Int)).toNat : Int) = _
  rw [BitVec.toNat_or, ofInt_toNat, ofInt_toNat, u64_nat _ (by omega), u64_nat _ (by omega), or_low i u c hu hc, wrap_u64, u64_nat _ h]
theorem step_lt (u c i : Nat) (hi : i ≤ 9) (hu : u < 128 ^ i) (hc : c < 128) (h9 : i = 9 → c ≤ 1) : u + c * 128 ^ i < 18446744073709551616 := by
  rcases Nat.lt_or_ge i 9 with h | h
  · have h1 : (128 : Nat) ^ (i + 1) ≤ 128 ^ 9 := Nat.pow_le_pow_right (by omega) (by omega)
    have h2 : (c + 1) * 128 ^ i ≤ 128 * 128 ^ i := Nat.mul_le_mul_right _ (by omega)
    rw [Nat.pow_succ] at h1
    rw [Nat.add_mul] at h2
    omega
  · obtain rfl : i = 9 := by omega
    have h2 : c * 128 ^ 9 ≤ 1 * 128 ^ 9 := Nat.mul_le_mul_right _ (h9 rfl)
    omega
theorem step_lt2 (u c i : Nat) (hu : u < 128 ^ i) (hc : c < 128) : u + c * 128 ^ i < 128 ^ (i + 1) := by
  have h2 : (c + 1) * 128 ^ i ≤ 128 * 128 ^ i := Nat.mul_le_mul_right _ (by omega)
  rw [Nat.pow_succ]
  rw [Nat.add_mul] at h2
  omega
theorem vRd_ok {st : Bool} {b : List UInt8} {q u n : Nat} (h : rdv st 0 0 (b.drop q) = (u, 0, n)) : vRd st b q = (s64 u, 0, q + n) := by unfold vRd; rw [h]; rfl
theorem vRd_bad {st : Bool} {b : List UInt8} {q : Nat} {e : Int} (h : rdv st 0 0 (b.drop q) = (0, e, 0)) (he : e ≠ 0) : vRd st b q = (0, e, q) := by unfold vRd; rw [h, if_neg he]

set_option maxHeartbeats 4000000 in
set_option maxRecDepth 100000 in
theorem rdVarint_any (w : World) (p : Nat) (st : Bool) (b : List UInt8) (q : Nat) (a : Option Addr) (cap : Nat) (h : RdAt w p st b q a cap) :
    Calls Tryd.prog 76 #[.pointer (some ⟨p, 0, none⟩)] w (Rds w p st b (vRd st b q).2.2 a cap (.tuple #[.int .i64 (vRd st b q).1, .int .i64 (vRd st b q).2.1])) := by
  go_enter Tryd.func76, Tryd.ntmps76
  go_wp2_with fail
  go_loopw [4, 5] (fun v4 v5 wr => ∃ (i u : Nat), v4 = .int .u64 u ∧ v5 = .int .i64 i ∧ i ≤ 9 ∧ u < 128 ^ i ∧ q + i ≤ b.length ∧ Below w.heap.size w wr ∧ rdv st 0 0 (b.drop q) = rdv st i u (b.drop (q + i))) (fun _ v5 _ => 10 - (intOf v5).toNat)
  case atStart => exact ⟨0, 0, rfl, rfl, by omega, by simp, by have := h.hq; omega, Below.refl _ _, rfl⟩
  case round =>
    obtain ⟨i, u, rfl, rfl, hi9, hu, hqi, hbw, heq⟩ := hrel
    have hR := h.later hbw
    have hbl := hR.hb
    have k0 := hR.c0
    have k1 := hR.c1
    obtain ⟨m, hm⟩ : ∃ m : Nat, q + i = m := ⟨_, rfl⟩
    have hmi : (q : Int) + (i : Int) = (m : Int) := by omega
    rw [hm] at hqi heq
    by_cases hend : m = b.length
    · have hE : ((m : Int) == (b.length : Int)) = true := by rw [hend]; simp
      go_wp2_with fail
      go_quiet (fail)
      have HV := Lib.hid (vRd_bad (heq.trans (by rw [hend, List.drop_length, rdv_nil])) (by omega))
      clear heq
      go_wp2
      go_ret2
      rw [HV.out]
      exact ⟨rfl, hR.later (below_drawn (Below.refl _ _) _), .of (below_drawn hbw _)⟩
    · have hlt : m < b.length := by omega
      have hE : ((m : Int) == (b.length : Int)) = false := by simp; omega
      obtain ⟨g, rfl, kb⟩ := hR.byte m hlt
      obtain ⟨c, hc⟩ : ∃ c, b[m]'hlt = c := ⟨_, rfl⟩
      have hdr : b.drop m = c :: b.drop (m + 1) := by rw [← hc]; exact List.drop_eq_getElem_cons hlt
      rw [hc] at kb
      rw [hdr] at heq
      obtain ⟨n, hn⟩ : ∃ n : Nat, c.toNat = n := ⟨_, rfl⟩
      have hn2 : n < 256 := by rw [← hn]; exact c.toNat_lt
      have HEQ := Lib.hid heq
      have HN := Lib.hid hn
      rw [hn] at kb
      clear hc hdr heq hn
      have k2 := hR.c2
      have kz := hR.fz
      go_wp2_with fail
      go_quiet (fail)
      obtain ⟨w1, hw1⟩ : ∃ w1, wr.drewN nq = w1 := ⟨_, rfl⟩
      have hR1 : RdAt w1 p st b q (some ⟨g, 0, none⟩) cap := by rw [← hw1]; exact hR.later (below_drawn (Below.refl _ _) _)
      have hb1 : Below w.heap.size w w1 := by rw [← hw1]; exact below_drawn hbw _
      have kb : w1.cell? ⟨g, m, none⟩ = some (.int .u8 n) := by rw [← hw1]; exact kb
      rw [hw1]
      clear hw1 k0 k1 k2 kz hR hbw
      have k0 := hR1.c0
      have k1 := hR1.c1
      have k2 := hR1.c2
      have kz := hR1.fz
      go_wp2_with fail
      go_quiet (fail)
      obtain ⟨wx, hwx⟩ : ∃ wx, w1.drewN nq = wx := ⟨_, rfl⟩
      have hRx : RdAt wx p st b q (some ⟨g, 0, none⟩) cap := by rw [← hwx]; exact hR1.later (below_drawn (Below.refl _ _) _)
      have hbx : Below w.heap.size w wx := by rw [← hwx]; exact below_drawn hb1 _
      rw [hwx]
      clear hwx k0 k1 k2 kz hR1 hb1 kb
      have k1 := hRx.c1
      have k2 := hRx.c2
      have kz := hRx.fz
      by_cases h9 : i = 9 ∧ 1 < n
      · have HV := Lib.hid (vRd_bad (HEQ.out.trans (rdv_over _ _ _ _ _ (by rw [HN.out]; exact h9))) (by omega))
        obtain ⟨rfl, h1⟩ := h9
        go_wp2
        go_ret2
        rw [HV.out]
        exact ⟨rfl, hRx, .of hbx⟩
      · obtain ⟨c7, hc7⟩ : ∃ c7, n % 128 = c7 := ⟨_, rfl⟩
        have ha7 : bits BinOp.and IntKind.u8 (n : Int) 127 = (c7 : Int) := by rw [← hc7]; exact and127 ⟨n, hn2⟩
        have hc9 : i = 9 → c7 ≤ 1 := by omega
        have hs1 := step_lt u c7 i hi9 hu (by omega) hc9
        have hc128 : c7 < 128 := by omega
        have ho := or_step u c7 i hu (by omega) hs1
        obtain ⟨u2, hu2⟩ : ∃ u2, u + c7 * 128 ^ i = u2 := ⟨_, rfl⟩
        rw [hu2] at ho hs1
        by_cases hbig : 127 < n
        · have hi8 : i ≤ 8 := by omega
          have HS := Lib.hid ((HEQ.out.trans (rdv_more _ _ _ _ _ (by rw [HN.out]; exact h9) (by rw [HN.out]; exact hbig))).trans (by rw [HN.out, hc7, hu2]))
          have HU := Lib.hid (hu2 ▸ step_lt2 u c7 i hu (by omega))
          have h91 : ((i : Int) == 9) = false := by simp; omega
          clear hu hu2 h9 hc7 hs1
          go_wp2_with fail
          go_roundw
          case rel => exact ⟨i + 1, u2, rfl, by simp, by omega, HU.out, by omega, hbx, by rw [show q + (i + 1) = m + 1 by omega]; exact HS.out⟩
          case measure => simp [intOf]; omega
        · have hnb : n ≤ 127 := by omega
          have hrd := HEQ.out
          by_cases hL : st = true ∧ 0 < i ∧ n = 0
          · have HV := Lib.hid (vRd_bad (HEQ.out.trans (rdv_longer _ _ _ _ _ (by rw [HN.out]; exact h9) (by rw [HN.out]; exact hbig) (by rw [HN.out]; exact hL))) (by omega))
            obtain ⟨rfl, hi0, rfl⟩ := hL
            clear hrd hu hu2 h9 hs1 hbig
            cases h91 : ((i : Int) == 9)
            · go_wp2_with fail
              go_ret2
              rw [HV.out]
              exact ⟨rfl, hRx, .of hbx⟩
            · go_wp2_with fail
              go_ret2
              rw [HV.out]
              exact ⟨rfl, hRx, .of hbx⟩
          · have HV := Lib.hid (vRd_ok ((HEQ.out.trans (rdv_done _ _ _ _ _ (by rw [HN.out]; exact h9) (by rw [HN.out]; exact hbig) (by rw [HN.out]; exact hL))).trans (by rw [HN.out, hc7, hu2])))
            have HX := Lib.hid (hRx.set (q + (i + 1)) (by omega))
            clear hrd hu hu2 hbig
            have h9' : ((i : Int) == 9) = true → n ≤ 1 := by simp; omega
            cases h91 : ((i : Int) == 9)
            · cases st
              · go_wp2_with fail
                go_ret2
                rw [HV.out]
                have hx := HX.out
                rw [show ((q + (i + 1) : Nat) : Int) = (q : Int) + ((i : Int) + 1) by omega] at hx
                exact ⟨rfl, hx, (Turn.of hbx).set 1 _⟩
              · by_cases hi0 : 0 < i
                · have hn0 : ((n : Int) == 0) = false := by simp; exact fun e => hL ⟨rfl, hi0, e⟩
                  go_wp2_with fail
                  go_ret2
                  rw [HV.out]
                  have hx := HX.out
                  rw [show ((q + (i + 1) : Nat) : Int) = (q : Int) + ((i : Int) + 1) by omega] at hx
                  exact ⟨rfl, hx, (Turn.of hbx).set 1 _⟩
                · have hi0' : i ≤ 0 := by omega
                  go_wp2_with fail
                  go_ret2
                  rw [HV.out]
                  have hx := HX.out
                  rw [show ((q + (i + 1) : Nat) : Int) = (q : Int) + ((i : Int) + 1) by omega] at hx
                  exact ⟨rfl, hx, (Turn.of hbx).set 1 _⟩
            · have hn1 := h9' h91
              cases st
              · go_wp2_with fail
                go_ret2
                rw [HV.out]
                have hx := HX.out
                rw [show ((q + (i + 1) : Nat) : Int) = (q : Int) + ((i : Int) + 1) by omega] at hx
                exact ⟨rfl, hx, (Turn.of hbx).set 1 _⟩
              · have hi0 : 0 < i := by simp at h91; omega
                have hn0 : ((n : Int) == 0) = false := by simp; exact fun e => hL ⟨rfl, hi0, e⟩
                go_wp2_with fail
                go_ret2
                rw [HV.out]
                have hx := HX.out
                rw [show ((q + (i + 1) : Nat) : Int) = (q : Int) + ((i : Int) + 1) by omega] at hx
                exact ⟨rfl, hx, (Turn.of hbx).set 1 _⟩
end Go.Proofs.YtecmhpncgdjgjaaDoor
