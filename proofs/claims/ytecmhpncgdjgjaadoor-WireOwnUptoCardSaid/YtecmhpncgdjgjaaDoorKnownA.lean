/-
  What known of the statements asks, reckoned; literals in memory. Conditions: none.
-/
import Derived.Test.YtecmhpncgdjgjaaDoorJoinAll
import Derived.Test.YtecmhpncgdjgjaaDoorSplit
import Derived.Test.YtecmhpncgdjgjaaDoorSame
import Derived.Test.YtecmhpncgdjgjaaDoorSameRecs
namespace Go.Proofs.YtecmhpncgdjgjaaDoor
open Go.RowKit
set_option linter.unusedVariables false
set_option linter.unusedSimpArgs false

theorem lit_own (w : World) (l : List UInt8) (cs : Array Value) (h : cs.toList = Lib.byteCells l) (hl : l.length ≤ 9223372036854775807) : OwnB (w.alloc (.cells cs 5)) w.heap.size (.slice (some ⟨w.heap.size, 0, none⟩) l.length l.length) l := by
  have h1 := World.ownsRow_lit (e := 5) (size := 1) w cs l.length (Nat.le_refl _) (by unfold maxLen; exact hl) (by rw [← Array.length_toList, h]; simp [Lib.byteCells])
  rw [h] at h1
  exact h1
theorem lit_bytes (w : World) (l : List UInt8) (cs : Array Value) (h : cs.toList = Lib.byteCells l) (hl : l.length ≤ 9223372036854775807) : BytesAt (fun _ => True) (w.alloc (.cells cs 5)) (.slice (some ⟨w.heap.size, 0, none⟩) l.length l.length) l :=
  (lit_own w l cs h hl).reads.mono fun _ _ => trivial

theorem lit_recs (w : World) (l : List Rec) (cs : Array Value) (us : Nat → Value) (hl : l.length ≤ 9223372036854775807)
    (h : ∀ k (hk : k < l.length), cs[k * 5]? = some (.int .i64 (l[k]'hk).number) ∧ cs[k * 5 + 1]? = some (.int .i64 (l[k]'hk).kind) ∧ cs[k * 5 + 2]? = some (.int .i64 (l[k]'hk).num) ∧ cs[k * 5 + 3]? = some (.string ⟨(l[k]'hk).text.toArray⟩) ∧ cs[k * 5 + 4]? = some (us k) ∧ RecOk (l[k]'hk))
    (hi : ∀ k (hk : k < l.length), ReadsR (fun _ => True) (w.alloc (.cells cs 53)) (us k) (l[k]'hk).inner) : Reads (w.alloc (.cells cs 53)) (.slice (some ⟨w.heap.size, 0, none⟩) l.length l.length) l := by
  refine .some w.heap.size 0 l.length l us trivial (Nat.le_refl _) hl (fun k hk => ?_) hi
  obtain ⟨h0, h1, h2, h3, h4, ho⟩ := h k hk
  have hX := Lib.cell_of_heap (alloc_at w (.cells cs 53))
  rw [Nat.zero_add]
  exact ⟨(hX _).trans h0, (hX _).trans h1, (hX _).trans h2, (hX _).trans h3, (hX _).trans h4, ho.n0, ho.n1, ho.n2, ho.n3⟩

theorem k_vb300 : vb (u64 300) = [172, 2] := by
  rw [show u64 300 = 300 by rfl, vb_more (by omega), vb_small (by omega)]
  rfl
theorem k_fixed : fixedOf 1 4 = ([1, 0, 0, 0], 0) := by rfl
theorem k_tag : tagOf 16 2 = ([130, 1], 0) := by
  unfold tagOf
  rw [if_neg (by omega), if_neg (by omega), show u64 (16 * 8 + 2) = 130 by rfl, vb_more (by omega), vb_small (by omega)]
  rfl
def kRecs : List Rec := [.mk 1 0 150 [] [], .mk 2 2 0 [104, 105] []]
theorem k_enc : encL kRecs = [8, 150, 1, 18, 2, 104, 105] := by
  unfold kRecs
  rw [encL, encL, encL, encR_0, encR_2]
  rw [show u64 (1 * 8 + 0) = 8 by rfl, show u64 150 = 150 by rfl, show u64 (2 * 8 + 2) = 18 by rfl, show u64 (([104, 105] : List UInt8).length : Int) = 2 by rfl]
  rw [vb_small (show 8 < 128 by omega), vb_more (show ¬ 150 < 128 by omega), vb_small (show 150 / 128 < 128 by omega), vb_small (show 18 < 128 by omega), vb_small (show 2 < 128 by omega)]
  rfl
theorem k_right : rightL kRecs = 0 := by
  unfold kRecs
  rw [rightL, rightL, rightL, rightR_0 (by omega) (by omega) (by rfl) (by omega), rightR_0 (by omega) (by omega) (by rfl) (by omega)]
  rfl
theorem k_join : joinOf kRecs = ([8, 150, 1, 18, 2, 104, 105], 0) := by
  unfold joinOf
  rw [k_right, k_enc]
  rw [if_neg (by unfold kRecs; simp [countL, countR]), if_neg (by unfold kRecs; simp [deepL, deepR]), if_neg (by simp), if_pos (by simp)]
theorem k_split : splitOf true [8, 150, 1] = ([.mk 1 0 150 [] []], 0, 0) := by kernel_rfl
theorem k_zig : zigV (-1) = 1 := by simp [zigV, wrap64]
theorem k_zag : zagV 3 = -2 := by decide
end Go.Proofs.YtecmhpncgdjgjaaDoor
