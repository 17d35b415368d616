/-
  Join of the document's answer, walked: the same as the program's. Conditions: no more than 1048576 records in all, their texts no longer than that.
-/
import Derived.Test.YtecmhpncgdjgjaaDoorJoined
import Derived.Test.YtecmhpncgdjgjaaDoorWrong
import Derived.Test.YtecmhpncgdjgjaaDoorMany
namespace Go.Proofs.YtecmhpncgdjgjaaDoor
open Go.RowKit
set_option linter.unusedVariables false
set_option linter.unusedSimpArgs false

set_option maxHeartbeats 4000000 in
set_option maxRecDepth 100000 in
theorem rJoin_any (l : List Rec) (hcl : countL l ≤ 1048576) (hsh : shortL 1048576 l) (v : Value) (w : World) (h : Reads w v l) : Calls Tryd.prog 30 #[v] w (News2 w (joinOf l)) := by
  have HC := Lib.hid (count_any _ l (Nat.le_refl _) hcl v w h)
  have HH := Lib.hid h
  have HSH := Lib.hid hsh
  have hE : joinOf l = if 63 < deepL l then ([], 4) else if rightL l ≠ 0 then ([], rightL l) else if (encL l).length ≤ 1048576 then (encL l, 0) else ([], 5) := if_neg (by omega)
  obtain ⟨a, cap, rfl, hlc, hcm, h0⟩ := h.form
  obtain ⟨n, hn⟩ : ∃ n, countL l = n := ⟨_, rfl⟩
  obtain ⟨d, hd⟩ : ∃ d, deepL l = d := ⟨_, rfl⟩
  have HD := Lib.hid hd
  rw [hn] at hcl HC
  rw [hd] at hE HC
  clear h h0 hsh hn hd
  by_cases hd1 : 63 < d
  · have hV := Lib.hid (show joinOf l = ([], 4) from hE.trans (if_pos hd1))
    clear hE
    go_enter Tryd.func30, Tryd.ntmps30
    go_wp2_with fail
    refine HC.out.mono ?_
    rintro e w1 ⟨rfl, hb⟩
    go_wp2_with fail
    go_ret2
    rw [hV.out]
    exact ⟨_, rfl, OwnB.nil _ _, hb⟩
  have hd2 : d ≤ 63 := by omega
  have hV := Lib.hid (hE.trans (if_neg hd1))
  clear hE hd1
  obtain ⟨r, hr⟩ : ∃ r, rightL l = r := ⟨_, rfl⟩
  have HR := Lib.hid hr
  rw [hr] at hV
  clear hr
  by_cases hr0 : r = 0
  · subst hr0
    go_enter Tryd.func30, Tryd.ntmps30
    go_wp2_with fail
    refine HC.out.mono ?_
    rintro e w1 ⟨rfl, hb⟩
    go_wp2_with fail
    refine (wrong_any _ l (Nat.le_refl _) _ w1 (HH.out.later hb)).mono ?_
    rintro e w2 ⟨rfl, hb2⟩
    have hb3 := hb.trans (hb2.mono hb.size)
    have hs3 := hb3.size
    have HB3 := Lib.hid hb3
    rw [HR.out]
    clear hb hb2 hb3
    go_wp2_with fail
    refine (joined_any _ l (Nat.le_refl _) [] _ _ w2.heap.size w2 (((HH.out.later HB3.out).lt).mono fun k hk => hk.2) (OwnB.nil _ _) (Nat.le_refl _) HR.out HSH.out (by rw [HD.out]; omega) (by simp)).mono ?_
    rintro e w3 ⟨v3, J, rfl, hown3, hgr3, hJl, hJ⟩
    obtain ⟨a3, cap3, rfl, _, _⟩ := own_slice hown3
    have HOWN := Lib.hid (show OwnB w3 w.heap.size (.slice a3 J.length cap3) J from ownsRow_down hown3 hs3)
    have HB4 := Lib.hid (HB3.out.trans (hgr3.nil_below.mono hs3))
    rw [List.nil_append] at hJ
    by_cases hs : J.length ≤ 1048576
    · have hV2 := Lib.hid (show joinOf l = (J, 0) by
        rcases hJ with h | h
        · rw [hV.out, if_neg (by simp), if_pos (by rw [← h]; exact hs), ← h]
        · omega)
      have hsI : (J.length : Int) ≤ 1048576 := by omega
      clear hown3 hgr3 hJl hJ hs
      go_wp2_with fail
      go_ret2
      rw [hV2.out]
      exact ⟨_, rfl, HOWN.out, HB4.out⟩
    · have hV2 := Lib.hid (show joinOf l = ([], 5) by
        rw [hV.out, if_neg (by simp), if_neg (hJ.elim (fun h => h ▸ hs) (fun h => Nat.not_le.2 h.2))])
      have hsI : (1048576 : Int) < (J.length : Int) := by omega
      clear hown3 hgr3 hJl hJ hs
      go_wp2_with fail
      go_ret2
      rw [hV2.out]
      exact ⟨_, rfl, OwnB.nil _ _, HB4.out⟩
  · have hV2 := Lib.hid (hV.out.trans (if_pos hr0))
    have hrb : (r != 0 : Bool) = true := by simpa using hr0
    clear hr0
    go_enter Tryd.func30, Tryd.ntmps30
    go_wp2_with fail
    refine HC.out.mono ?_
    rintro e w1 ⟨rfl, hb⟩
    go_wp2_with fail
    refine (wrong_any _ l (Nat.le_refl _) _ w1 (HH.out.later hb)).mono ?_
    rintro e w2 ⟨rfl, hb2⟩
    rw [HR.out]
    have HB3 := Lib.hid (hb.trans (hb2.mono hb.size))
    clear hb hb2
    go_wp2_with fail
    go_ret2
    rw [hV2.out]
    exact ⟨_, rfl, OwnB.nil _ _, HB3.out⟩
end Go.Proofs.YtecmhpncgdjgjaaDoor
