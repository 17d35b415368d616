/-
  The law's own function same, walked: two lists of words that read alike are the same. Conditions: both lists are the call's own.
-/
import Derived.Test.YtiocgdegaabnmaaWords
import Derived.Deep.QuietTactic
import Derived.BigQuiet
namespace Go.Proofs.Ytiocgdegaabnmaa
open Go.RowKit

theorem row_cell {w : World} {B : Nat} {v : Value} {xs : List (List UInt8)} (h : w.ownsRow B 9 1 v xs.length (xs.map strV)) (k : Nat) (hk : k < xs.length) :
    ∃ g cap, v = .slice (some ⟨g, 0, none⟩) xs.length cap ∧ w.cell? ⟨g, k, none⟩ = some (.string ⟨(xs[k]'hk).toArray⟩) ∧ xs.length ≤ 9223372036854775807 := by
  rcases h.2 with ⟨_, h0⟩ | ⟨g, cap, cur, rfl, _, hg, hc1, hc2, _⟩
  · omega
  · have := h.cells (g := g) rfl k (strV (xs[k]'hk)) (by simp [List.getElem?_eq_getElem hk])
    have e : (⟨g, 0, none⟩ : Addr).add k = ⟨g, k, none⟩ := by unfold Addr.add; split <;> simp_all
    rw [e] at this
    refine ⟨g, cap, rfl, this, by unfold maxLen at hc2; omega⟩

theorem row_form {w : World} {B : Nat} {v : Value} {n : Nat} {xs : List Value} (h : w.ownsRow B 9 1 v n xs) : ∃ a cap, v = .slice a n cap ∧ n ≤ 9223372036854775807 := by
  rcases h.2 with ⟨rfl, h0⟩ | ⟨g, cap, cur, rfl, _, hg, hc1, hc2, _⟩
  · exact ⟨none, 0, by rw [h0], by omega⟩
  · exact ⟨_, _, rfl, by unfold maxLen at hc2; omega⟩

theorem drewN_two (w : World) (q n : Nat) : (w.drewN q).drewN n = w.drewN (q + n) := by
  simp [World.drewN, Nat.add_assoc]

set_option maxHeartbeats 2000000 in
set_option maxRecDepth 100000 in
theorem same_eq (B C : Nat) (v u : Value) (xs : List (List UInt8)) (w : World) (h1 : w.ownsRow B 9 1 v xs.length (xs.map strV)) (h2 : w.ownsRow C 9 1 u xs.length (xs.map strV)) :
    Calls Try.prog 15 #[v, u] w fun e w' => e = .returned (.bool true) ∧ ∃ q, w' = w.drewN q := by
  obtain ⟨a1, k1, rfl, hn⟩ := row_form h1
  obtain ⟨a2, k2, rfl, _⟩ := row_form h2
  have H1 := Lib.hid h1
  have H2 := Lib.hid h2
  clear h1 h2
  go_enter Try.func15, Try.ntmps15
  go_wp2_with fail
  go_loopw [5] (fun v5 wr => ∃ (k : Nat), v5 = .int .i64 k ∧ k ≤ xs.length ∧ ∃ q, wr = w.drewN q) (fun v5 _ => xs.length - (intOf v5).toNat)
  case atStart => exact ⟨0, rfl, Nat.zero_le _, 0, rfl⟩
  case round =>
    obtain ⟨k, rfl, hk, q, hq⟩ := hrel
    have hcell : ∀ a, wr.cell? a = w.cell? a := by rw [hq]; exact fun _ => rfl
    have HC := Lib.hid hcell
    have HQ := Lib.hid hq
    clear hcell hq
    by_cases hlt : k < xs.length
    · obtain ⟨g1, c1, e1, m1, _⟩ := row_cell H1.out k hlt
      obtain ⟨g2, c2, e2, m2, _⟩ := row_cell H2.out k hlt
      obtain ⟨rfl, rfl⟩ : a1 = some ⟨g1, 0, none⟩ ∧ k1 = c1 := by cases e1; exact ⟨rfl, rfl⟩
      obtain ⟨rfl, rfl⟩ : a2 = some ⟨g2, 0, none⟩ ∧ k2 = c2 := by cases e2; exact ⟨rfl, rfl⟩
      clear e1 e2
      rw [← HC.out] at m1 m2
      obtain ⟨x, hx⟩ : ∃ x : ByteArray, (⟨(xs[k]'hlt).toArray⟩ : ByteArray) = x := ⟨_, rfl⟩
      rw [hx] at m1 m2
      clear hx
      go_wp2
      go_quiet (fail)
      go_wp2
      go_roundw
      case rel => exact ⟨k + 1, by go_num, by omega, by rw [HQ.out]; exact ⟨q + nq, drewN_two w q nq⟩⟩
      case measure => simp [intOf]; omega
    · go_wp2
      go_ret
      exact ⟨rfl, q, HQ.out⟩
end Go.Proofs.Ytiocgdegaabnmaa
