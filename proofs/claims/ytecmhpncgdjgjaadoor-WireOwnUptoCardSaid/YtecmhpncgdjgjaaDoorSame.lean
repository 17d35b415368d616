/-
  Same and SameRecords of the statements, walked. Conditions: none.
-/
import Derived.Test.YtecmhpncgdjgjaaDoorRead
import Derived.Test.YtecmhpncgdjgjaaDoorSamePlain
namespace Go.Proofs.YtecmhpncgdjgjaaDoor
open Go.RowKit
set_option linter.unusedVariables false
set_option linter.unusedSimpArgs false

theorem BytesAt.byte {P : Nat → Prop} {w : World} {a : Option Addr} {n cap : Nat} {b : List UInt8} (h : BytesAt P w (.slice a n cap) b) (k : Nat) (hk : k < b.length) : ∃ g off, a = some ⟨g, off, none⟩ ∧ w.cell? ⟨g, off + k, none⟩ = some (.int .u8 ((b[k]'hk).toNat : Int)) := by
  obtain ⟨a2, cap2, e, _, _, h3⟩ := h
  injection e with e1 e2 e3
  subst e1
  rcases h3 with rfl | ⟨g, off, e4, _, hc⟩
  · simp at hk
  · exact ⟨g, off, e4, hc k hk⟩

set_option maxHeartbeats 2000000 in
set_option maxRecDepth 100000 in
theorem same_any (P Q : Nat → Prop) (x y : List UInt8) (v u : Value) (w : World) (hv : BytesAt P w v x) (hu : BytesAt Q w u y) : Calls Tryd.prog 19 #[v, u] w (Says w (.bool (decide (x = y)))) := by
  have HV := Lib.hid hv
  have HU := Lib.hid hu
  obtain ⟨a, cap, rfl, h1, h2, _⟩ := hv
  obtain ⟨a2, cap2, rfl, h3, h4, _⟩ := hu
  by_cases hl : x.length = y.length
  · have hle : ((x.length : Int) != (y.length : Int)) = false := by simp [hl]
    go_enter Tryd.func19, Tryd.ntmps19
    go_wp2_with fail
    go_loopw [5] (fun vi wr => ∃ k : Nat, vi = .int .i64 k ∧ k ≤ x.length ∧ Below w.heap.size w wr ∧ x.take k = y.take k) (fun vi _ => x.length - (intOf vi).toNat)
    case atStart => exact ⟨0, rfl, Nat.zero_le _, Below.refl _ _, rfl⟩
    case round =>
      obtain ⟨k, rfl, hk, hbw, heq⟩ := hrel
      by_cases hlt : k < x.length
      · have hlt2 : k < y.length := by omega
        obtain ⟨g, off, rfl, k1⟩ := (HV.out.later hbw).byte k hlt
        obtain ⟨g2, off2, rfl, k2⟩ := (HU.out.later hbw).byte k hlt2
        have hx1 : x.take (k + 1) = x.take k ++ [x[k]'hlt] := by rw [List.take_add_one, List.getElem?_eq_getElem hlt]; rfl
        have hy1 : y.take (k + 1) = y.take k ++ [y[k]'hlt2] := by rw [List.take_add_one, List.getElem?_eq_getElem hlt2]; rfl
        obtain ⟨c, hc⟩ : ∃ c, x[k]'hlt = c := ⟨_, rfl⟩
        obtain ⟨d, hd⟩ : ∃ d, y[k]'hlt2 = d := ⟨_, rfl⟩
        rw [hc] at hx1 k1
        rw [hd] at hy1 k2
        have HX := Lib.hid hx1
        have HY := Lib.hid hy1
        have HEQ := Lib.hid heq
        by_cases hcd : c = d
        · have hcd2 : ((c.toNat : Int) != (d.toNat : Int)) = false := by simp [hcd]
          have HN := Lib.hid (show x.take (k + 1) = y.take (k + 1) by rw [hx1, hy1, heq, hcd])
          clear hx1 hy1 heq hc hd hcd
          go_wp2_with fail
          go_quiet (fail)
          go_wp2_with fail
          go_roundw
          case rel => exact ⟨k + 1, by simp, by omega, below_drawn hbw _, HN.out⟩
          case measure => simp [intOf]; omega
        · have hcd2 : ((c.toNat : Int) != (d.toNat : Int)) = true := by simp; exact fun e => hcd (UInt8.toNat_inj.1 (by omega))
          have HN := Lib.hid (show decide (x = y) = false by
            simp only [decide_eq_false_iff_not]
            intro e
            have h5 : x.take (k + 1) = y.take (k + 1) := by rw [e]
            rw [hx1, hy1, heq] at h5
            simp at h5
            exact hcd h5)
          clear hx1 hy1 heq hc hd hcd
          go_wp2_with fail
          go_quiet (fail)
          go_wp2_with fail
          go_ret
          exact ⟨by rw [HN.out]; rfl, below_drawn hbw _⟩
      · have HN := Lib.hid (show decide (x = y) = true by
          simp only [decide_eq_true_eq]
          rwa [List.take_of_length_le (by omega), List.take_of_length_le (by omega)] at heq)
        clear heq
        go_wp2_with fail
        go_ret
        exact ⟨by rw [HN.out]; rfl, hbw⟩
  · have hle : ((x.length : Int) != (y.length : Int)) = true := by simp; omega
    have HN := Lib.hid (show decide (x = y) = false by simp; exact fun e => hl (by rw [e]))
    go_enter Tryd.func19, Tryd.ntmps19
    go_wp2_with fail
    go_ret
    exact ⟨by rw [HN.out]; rfl, Below.refl _ _⟩
end Go.Proofs.YtecmhpncgdjgjaaDoor
