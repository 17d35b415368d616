/-
  The reference's Reader method ends, walked: the word is put behind the words, and is empty behind it. Conditions: the Reader is the call's own, its lists are far below what memory holds.
-/
import Derived.Test.YtiocgdegaabnmaaRD
namespace Go.Proofs.Ytiocgdegaabnmaa
open Go.RowKit

theorem news_one {w1 : World} {g : Nat} {u : Value} {e : TypeId} {fr : Nat × Nat} (h : w1.heap[g]? = some (.cells #[u] e fr)) : ∀ j x, [u][j]? = some x → w1.cell? ((⟨g, 0, none⟩ : Addr).add j) = some x := by
  intro j x hj
  match j, hj with
  | 0, hj => simp at hj; subst hj; simp [Addr.add, World.cell?, h]

set_option maxHeartbeats 2000000 in
set_option maxRecDepth 100000 in
theorem ends_any (B R : Nat) (s : St) (w : World) (h : RD B R s w) (hB : B ≤ w.heap.size) (hl : s.words.length ≤ 1099511627776) :
    Calls Try.prog 24 #[.pointer (some ⟨R, 0, none⟩)] w (Goes B R (stEnds s) w) := by
  obtain ⟨v1, v2, h⟩ := h
  obtain ⟨c0, c1, c2, c3, c4, fz, hlt⟩ := h.facts
  obtain ⟨i0, hi, hz0, hz1, hz2⟩ := info_parts infoS
  have hcv := conv_row h.2.2.1 w.drew (fun _ => rfl)
  have e1 : w.drew.cell? ⟨R, 1, none⟩ = some v1 := c1
  have e2 : w.drew.cell? ⟨R, 2, none⟩ = some v2 := c2
  obtain ⟨wb, hwb⟩ : ∃ wb, strW s.word = .string wb := ⟨_, rfl⟩
  rw [hwb] at hcv
  have HW := Lib.hid hwb
  clear hwb
  have hnew : ∀ j x, [Value.string wb][j]? = some x → (w.alloc (.cells #[.string wb] 9)).drew.cell? ((⟨w.heap.size, 0, none⟩ : Addr).add j) = some x := news_one (e := 9) (fr := (0, 0)) (by show (w.heap.push _)[w.heap.size]? = _; exact Array.getElem?_push_size)
  have HNEW := Lib.hid hnew
  clear hnew
  go_enter Try.func24, Try.ntmps24
  go_wp2
  go_region_law (first | (refine step_append_lies _ rfl _ _ _ rfl B 9 i0 (.string ⟨#[]⟩) 1 16 Try.underlying25 hi hz0 hz1 hz2 rfl (by decide) _ _ _ rfl (h.2.2.2.alloc _) ⟨w.heap.size, 0, none⟩ 1 1 [.string wb] rfl rfl HNEW.out (by intro u hu; simp at hu; subst hu; rfl) (by decide) (by unfold maxLen; omega) (by omega) (by simp; omega) _ rfl ?_; intro g cap w2 hown' hgrow hat hlt2; obtain ⟨d2, d1, f2, f1, hfin⟩ := (h.alloc _).drew.wordPut (by rw [HW.out]; exact hown') hgrow))
  all_goals
    go_wp2
    go_end0
    exact ⟨rfl, ⟨_, _, hfin.clear⟩, ((((((Below.refl B w).drew).alloc hB _).grown hgrow (by simp; omega) (fun k hk => (h.2.2.2.lt k hk).1))).setCell (p := ⟨R, 2, none⟩) h.1 _).setCell (p := ⟨R, 1, none⟩) h.1 _⟩
end Go.Proofs.Ytiocgdegaabnmaa
