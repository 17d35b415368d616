/-
  Join of package wire, walked. Conditions: none.
-/
import Derived.Test.YtecmhpncgdjgjaaDoorCounted
import Derived.Test.YtecmhpncgdjgjaaDoorJoin
import Derived.Test.YtecmhpncgdjgjaaDoorRecsA
namespace Go.Proofs.YtecmhpncgdjgjaaDoor
open Go.RowKit
set_option linter.unusedVariables false
set_option linter.unusedSimpArgs false

/-- What Join answers: bytes and error. -/
def joinOf (l : List Rec) : List UInt8 × Int :=
  if 1048576 < countL l then ([], 2) else if 63 < deepL l then ([], 4) else if rightL l ≠ 0 then ([], rightL l) else if (encL l).length ≤ 1048576 then (encL l, 0) else ([], 5)
theorem joinOk_nil (l : List Rec) : joinOk [] l = decide ((encL l).length ≤ 1048576) := by
  unfold joinOk
  cases l with
  | nil => simp [encL]
  | cons r rs => simp

set_option maxHeartbeats 4000000 in
set_option maxRecDepth 100000 in
theorem wJoin_any (l : List Rec) (v : Value) (w : World) (h : Reads w v l) : Calls Tryd.prog 29 #[v] w (News2 w (joinOf l)) := by
  have HC := Lib.hid (counted_any l v w h)
  have HH := Lib.hid h
  obtain ⟨a, cap, rfl, hlc, hcm, h0⟩ := h.form
  clear h h0
  by_cases hc1 : 1048576 < countL l
  · have hE : countE l = 2 := if_pos hc1
    rw [hE] at HC
    have hV := Lib.hid (show joinOf l = ([], 2) from if_pos hc1)
    clear hc1 hE
    go_enter Tryd.func29, Tryd.ntmps29
    go_wp2_with fail
    refine HC.out.mono ?_
    rintro e w1 ⟨rfl, hb⟩
    go_wp2_with fail
    go_ret2
    rw [hV.out]
    exact ⟨_, rfl, OwnB.nil _ _, hb⟩
  by_cases hd1 : 63 < deepL l
  · have hE : countE l = 4 := (if_neg hc1).trans (if_pos hd1)
    rw [hE] at HC
    have hV := Lib.hid (show joinOf l = ([], 4) from (if_neg hc1).trans (if_pos hd1))
    clear hc1 hd1 hE
    go_enter Tryd.func29, Tryd.ntmps29
    go_wp2_with fail
    refine HC.out.mono ?_
    rintro e w1 ⟨rfl, hb⟩
    go_wp2_with fail
    go_ret2
    rw [hV.out]
    exact ⟨_, rfl, OwnB.nil _ _, hb⟩
  have hE : countE l = 0 := (if_neg hc1).trans (if_neg hd1)
  rw [hE] at HC
  have HD := Lib.hid (show deepL l ≤ 63 by omega)
  have hV := Lib.hid (show joinOf l = if rightL l ≠ 0 then ([], rightL l) else if (encL l).length ≤ 1048576 then (encL l, 0) else ([], 5) from (if_neg hc1).trans (if_neg hd1))
  clear hc1 hd1 hE
  obtain ⟨r, hr⟩ : ∃ r, rightL l = r := ⟨_, rfl⟩
  have HR := Lib.hid hr
  rw [hr] at hV
  cases hr0 : (r != 0 : Bool)
  · have hr1 : r = 0 := by simpa using hr0
    subst hr1
    by_cases hs : (encL l).length ≤ 1048576
    · have hV2 := Lib.hid (hV.out.trans ((if_neg (by simp)).trans (if_pos hs)))
      have HOK := Lib.hid (show joinOk [] l = true by rw [joinOk_nil]; simpa using hs)
      clear hs
      go_enter Tryd.func29, Tryd.ntmps29
      go_wp2_with fail
      refine HC.out.mono ?_
      rintro e w1 ⟨rfl, hb⟩
      go_wp2_with fail
      refine (right_any _ l (Nat.le_refl _) _ w1 (HH.out.later hb)).mono ?_
      rintro e w2 ⟨rfl, hb2⟩
      have hb3 := hb.trans (hb2.mono hb.size)
      have hs3 := hb3.size
      have HB3 := Lib.hid hb3
      rw [HR.out]
      clear hb hb2 hb3
      go_wp2_with fail
      refine (join_any _ l (Nat.le_refl _) [] _ _ w2.heap.size w2 (((HH.out.later HB3.out).lt).mono fun k hk => hk.2) (OwnB.nil _ _) (Nat.le_refl _) HR.out (by have := HD.out; simp; omega) (by have := HD.out; omega)).mono ?_
      rintro e w3 ⟨v3, rfl, h4, _, _⟩
      rw [HOK.out]
      obtain ⟨hown3, hgr3⟩ := h4 HOK.out
      obtain ⟨a3, cap3, rfl, _, _⟩ := own_slice hown3
      have HOWN := Lib.hid hown3
      have HB4 := Lib.hid (HB3.out.trans (hgr3.nil_below.mono hs3))
      clear h4 hown3 hgr3
      go_wp2_with fail
      go_ret2
      rw [hV2.out]
      exact ⟨_, rfl, ownsRow_down (show OwnB w3 w2.heap.size _ (encL l) by simpa using HOWN.out) hs3, HB4.out⟩
    · have hV2 := Lib.hid (hV.out.trans ((if_neg (by simp)).trans (if_neg hs)))
      have HOK := Lib.hid (show joinOk [] l = false by rw [joinOk_nil]; simpa using hs)
      clear hs
      go_enter Tryd.func29, Tryd.ntmps29
      go_wp2_with fail
      refine HC.out.mono ?_
      rintro e w1 ⟨rfl, hb⟩
      go_wp2_with fail
      refine (right_any _ l (Nat.le_refl _) _ w1 (HH.out.later hb)).mono ?_
      rintro e w2 ⟨rfl, hb2⟩
      have hb3 := hb.trans (hb2.mono hb.size)
      have hs3 := hb3.size
      have HB3 := Lib.hid hb3
      rw [HR.out]
      clear hb hb2 hb3
      go_wp2_with fail
      refine (join_any _ l (Nat.le_refl _) [] _ _ w2.heap.size w2 (((HH.out.later HB3.out).lt).mono fun k hk => hk.2) (OwnB.nil _ _) (Nat.le_refl _) HR.out (by have := HD.out; simp; omega) (by have := HD.out; omega)).mono ?_
      rintro e w3 ⟨v3, rfl, _, h4, v5, hgr3⟩
      rw [HOK.out]
      obtain rfl := h4 HOK.out
      have HB4 := Lib.hid (HB3.out.trans (hgr3.nil_below.mono hs3))
      clear h4 hgr3
      go_wp2_with fail
      go_ret2
      rw [hV2.out]
      exact ⟨_, rfl, OwnB.nil _ _, HB4.out⟩
  · have hV2 := Lib.hid (hV.out.trans (if_pos (by simpa using hr0)))
    go_enter Tryd.func29, Tryd.ntmps29
    go_wp2_with fail
    refine HC.out.mono ?_
    rintro e w1 ⟨rfl, hb⟩
    go_wp2_with fail
    refine (right_any _ l (Nat.le_refl _) _ w1 (HH.out.later hb)).mono ?_
    rintro e w2 ⟨rfl, hb2⟩
    rw [HR.out]
    have HB3 := Lib.hid (hb.trans (hb2.mono hb.size))
    clear hb hb2
    go_wp2_with fail
    go_ret2
    rw [hV2.out]
    exact ⟨_, rfl, OwnB.nil _ _, HB3.out⟩
end Go.Proofs.YtecmhpncgdjgjaaDoor
