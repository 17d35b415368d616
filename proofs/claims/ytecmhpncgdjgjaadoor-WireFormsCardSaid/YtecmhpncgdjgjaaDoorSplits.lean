/-
  splits of the statements and the statement WireSplits, walked. Conditions: the rows of characters lie as they are laid.
-/
import Derived.Test.YtecmhpncgdjgjaaDoorBack
import Derived.Test.YtecmhpncgdjgjaaDoorCSplit
import Derived.Test.YtecmhpncgdjgjaaDoorSameRecs
import Derived.Test.YtecmhpncgdjgjaaDoorLaid
namespace Go.Proofs.YtecmhpncgdjgjaaDoor
open Go.RowKit
set_option linter.unusedVariables false
set_option linter.unusedSimpArgs false

set_option maxHeartbeats 4000000 in
set_option maxRecDepth 100000 in
theorem splits_any (w : World) (st : Bool) (b : List UInt8) (v : Value) (h : BytesAt (fun _ => True) w v b) (hb : b.length ≤ 140737488355000) : Calls Tryd.prog 32 #[v, .bool st] w (Says w (.bool true)) := by
  have HH := Lib.hid h
  obtain ⟨a, cap, rfl, h1, h2, h3⟩ := h
  obtain ⟨R, hR⟩ : ∃ R, splitOf st b = R := ⟨_, rfl⟩
  have HW := Lib.hid (fun W v (hW : BytesAt (fun _ => True) W v b) => hR ▸ wSplit_any W st b v hW)
  have HRF := Lib.hid (fun W v (hW : BytesAt (fun _ => True) W v b) => hR ▸ rSplit_any W st b v hW)
  clear h3 hR
  go_enter Tryd.func32, Tryd.ntmps32
  go_wp2_with fail
  refine (hand_any w b _ HH.out hb).mono ?_
  rintro e w1 ⟨rfl, hg1, hb1⟩
  have HG1 := Lib.hid hg1
  have HB1 := Lib.hid hb1
  clear hg1 hb1
  go_wp2_with fail
  refine (HW.out w1 _ (hand_reads HG1.out hb)).mono ?_
  rintro e w2 ⟨v2, rfl, hr2, _, hb2⟩
  have HR2 := Lib.hid hr2
  have HB2 := Lib.hid hb2
  clear hr2 hb2
  go_wp2_with fail
  refine (HRF.out w2 _ ((HH.out.later HB1.out).later HB2.out)).mono ?_
  rintro e w3 ⟨v3, rfl, hr3, _, hb3⟩
  have HR3 := Lib.hid hr3
  have HB3 := Lib.hid hb3
  have hs1 := HB1.out.size
  have hs2 := HB2.out.size
  have hs3 := hb3.size
  have hgl : w.heap.size < w1.heap.size := (Array.getElem?_eq_some_iff.1 HG1.out).1
  have HG3 := Lib.hid ((hb3.block _ (by omega)).trans ((HB2.out.block _ hgl).trans HG1.out))
  clear hr3 hb3
  go_wp2_with fail
  refine (back_any w3 w.heap.size b _ HG3.out (((HH.out.later HB1.out).later HB2.out).later HB3.out) hb).mono ?_
  rintro e w4 ⟨rfl, ht4⟩
  have HT4 := Lib.hid ht4
  clear ht4
  go_wp2_with fail
  refine (sameRecs_any _ R.1 (Nat.le_refl _) R.1 _ _ w4 ((((HR2.out.held (fun k hk hl => HB3.out.block k hl)).lt).held (fun k hk hl => HT4.out.block k hl (by omega))).mono fun _ _ => trivial) (((HR3.out.lt).held (fun k hk hl => HT4.out.block k hl (by omega))).mono fun _ _ => trivial)).mono ?_
  rintro e w5 ⟨rfl, hb5⟩
  rw [sameL_refl]
  have HB5 := Lib.hid hb5
  clear hb5
  go_wp2_with fail
  go_ret
  refine ⟨by simp, ?_⟩
  have h12 := HB1.out.trans ((HB2.out.mono hs1).trans (HB3.out.mono (by omega)))
  exact (h12.trans (HT4.out.below (Nat.le_refl _) (by omega))).trans (HB5.out.mono (by have := HT4.out.size; omega))
end Go.Proofs.YtecmhpncgdjgjaaDoor
