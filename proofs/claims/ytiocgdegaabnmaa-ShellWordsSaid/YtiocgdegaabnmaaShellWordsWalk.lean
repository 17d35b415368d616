/-
  The Go function ShellWords, walked: of every line it returns true, and changes nothing that was there. Conditions: none.
-/
import Derived.Test.YtiocgdegaabnmaaRefWords
import Derived.Test.YtiocgdegaabnmaaSame
namespace Go.Proofs.Ytiocgdegaabnmaa
open Go.RowKit

theorem resOf_a : resOf [97] = ([[97]], 0) := by decide +kernel

theorem below_drawn {B : Nat} {a w : World} (h : Below B a w) (q : Nat) : Below B a (w.drewN q) := h.trans ⟨rfl, rfl, rfl, Nat.le_refl _, fun _ _ => rfl⟩

set_option maxHeartbeats 2000000 in
set_option maxRecDepth 100000 in
theorem shellWords_walk (s : ByteArray) (w : World) : Calls Try.prog 8 #[.string s] w fun e w' => e = .returned (.bool true) ∧ Below w.heap.size w w' := by
  have HR : Hid (resOf (⟨#[97]⟩ : ByteArray).data.toList = ([[97]], 0)) := resOf_a
  obtain ⟨xs, code, hres⟩ : ∃ xs code, resOf s.data.toList = (xs, code) := ⟨_, _, rfl⟩
  have HRES := Lib.hid hres
  clear hres
  go_enter Try.func8, Try.ntmps8
  go_wp2_with fail
  refine (words_any ⟨#[97]⟩ _).mono ?_
  rintro e w1 ⟨⟨v, rfl, ho⟩, hb1⟩
  rw [HR.out] at ho
  obtain ⟨g, cap, rfl, hc, _⟩ := row_cell ho 0 (by simp)
  have hcode : (resOf (⟨#[97]⟩ : ByteArray).data.toList).2 = 0 := by rw [HR.out]
  rw [hcode]
  have hc' : w1.cell? ⟨g, 0, none⟩ = some (.string ⟨#[97]⟩) := hc
  have HO := Lib.hid ho
  clear hcode hc ho
  go_wp2_with fail
  refine (words_any s _).mono ?_
  rintro e w2 ⟨⟨l, rfl, hl⟩, hb2⟩
  rw [HRES.out] at hl
  have hcode : (resOf s.data.toList).2 = code := by rw [HRES.out]
  rw [hcode]
  have HL := Lib.hid hl
  clear hl hcode
  go_wp2_with fail
  refine (refWords_any s _).mono ?_
  rintro e w3 ⟨⟨m, rfl, hm⟩, hb3⟩
  rw [HRES.out] at hm
  have hcode : (resOf s.data.toList).2 = code := by rw [HRES.out]
  rw [hcode]
  have HL3 := Lib.hid (ownsRow_later HL.out hb3)
  have HM := Lib.hid hm
  clear hm hcode
  have hbX : Below w.heap.size w w3 := (hb1.trans (hb2.mono hb1.size)).trans (hb3.mono (Nat.le_trans hb1.size hb2.size))
  go_wp2_with fail
  refine (same_eq _ _ l m xs _ HL3.out HM.out).mono ?_
  rintro e w4 ⟨rfl, q, hq⟩
  have hbY : Below w.heap.size w w4 := by rw [hq]; exact below_drawn hbX q
  clear hq
  go_wp2
  go_ret
  exact ⟨rfl, hbY⟩
end Go.Proofs.Ytiocgdegaabnmaa
