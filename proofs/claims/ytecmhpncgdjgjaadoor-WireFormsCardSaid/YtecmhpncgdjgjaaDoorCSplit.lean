/-
  Split of the reference, walked. Conditions: none.
-/
import Derived.Test.YtecmhpncgdjgjaaDoorCRecs
import Derived.Test.YtecmhpncgdjgjaaDoorSplit
namespace Go.Proofs.YtecmhpncgdjgjaaDoor
open Go.RowKit
set_option linter.unusedVariables false
set_option linter.unusedSimpArgs false

/-- What Open leaves. -/
def OpenOut (w : World) (st : Bool) (b : List UInt8) (e : Ending) (w' : World) : Prop :=
  ∃ a cap, e = .returned (.pointer (some ⟨w.heap.size, 0, none⟩)) ∧ CrAt w' w.heap.size st b 0 a cap ∧ Below w.heap.size w w'

set_option maxHeartbeats 2000000 in
set_option maxRecDepth 100000 in
theorem crOpen_any (w : World) (st : Bool) (b : List UInt8) (v : Value) (h : BytesAt (fun _ => True) w v b) (hb : b.length ≤ 1048576) : Calls Tryd.prog 51 #[v, .bool st] w (OpenOut w st b) := by
  obtain ⟨a, cap, rfl, h1, h2, h3⟩ := h
  have H3 := Lib.hid h3
  clear h3
  go_enter Tryd.func51, Tryd.ntmps51
  go_wp2_with fail
  go_ret
  have hX := Lib.cell_of_heap (alloc_at w (.cells #[.slice a b.length cap, .int .i64 0, .int .i64 b.length, .bool st] 102))
  refine ⟨a, cap, rfl, ⟨hX 0, hX 1, hX 2, hX 3, frozen_of_row _ w.heap.size 1 _ _ (alloc_at w _), Nat.zero_le _, hb, h1, h2, ?_⟩, alloc_below _ _⟩
  rcases H3.out with h4 | ⟨g, off, e, _, hc⟩
  · exact .inl h4
  · by_cases hb0 : b = []
    · exact .inl hb0
    · have hg := cell_lt (hc 0 (List.length_pos_iff.2 hb0))
      exact .inr ⟨g, off, e, by omega, fun k hk => (World.cell?_of_block (w := w) ((alloc_below w _).block g hg)).trans (hc k hk)⟩

set_option maxHeartbeats 4000000 in
set_option maxRecDepth 100000 in
theorem rSplit_any (w : World) (st : Bool) (b : List UInt8) (v : Value) (h : BytesAt (fun _ => True) w v b) : Calls Tryd.prog 68 #[v, .bool st] w (SplitOut w (splitOf st b)) := by
  have HH := Lib.hid h
  obtain ⟨a, cap, rfl, h1, h2, h3⟩ := h
  clear h3
  by_cases hbig : 1048576 < b.length
  · have HV := Lib.hid (show splitOf st b = ([], 2, 0) from if_pos hbig)
    have hbz : (1048576 : Int) < (b.length : Int) := by omega
    clear hbig
    go_enter Tryd.func68, Tryd.ntmps68
    go_wp2_with fail
    go_ret3
    rw [HV.out]
    exact ⟨_, rfl, .none _ _ (by omega), fun _ => rfl, Below.refl _ _⟩
  · have hle : b.length ≤ 1048576 := by omega
    have HV := Lib.hid (show splitOf st b = _ from if_neg hbig)
    obtain ⟨R, hR⟩ : ∃ R, recsR st b 63 (b.length + 1) 0 0 0 = R := ⟨_, rfl⟩
    have HREC := Lib.hid (fun (W : World) (p : Nat) (a : Option Addr) (cap : Nat) (hW : CrAt W p st b 0 a cap) => hR ▸ crecs_any st b 63 (b.length + 1) (b.length + 1) (Nat.le_refl _) 0 0 W p 0 a cap hW (by omega) (by simp) (by omega))
    rw [hR] at HV
    have hbz : (b.length : Int) ≤ 1048576 := by omega
    have HC := Lib.hid (crOpen_any w st b _ HH.out hle)
    clear hR hbig hle
    obtain ⟨rl, re, rq⟩ := R
    simp only at HV
    cases hre : (re != 0 : Bool)
    · have hre0 : re = 0 := by simpa using hre
      subst hre0
      go_enter Tryd.func68, Tryd.ntmps68
      go_wp2_with fail
      refine HC.out.mono ?_
      rintro e w1 ⟨a, cap, rfl, hRd, hb⟩
      have HRD := Lib.hid hRd
      have hbs := hb.size
      clear hRd
      go_wp2_with fail
      refine (HREC.out w1 _ a cap HRD.out).mono ?_
      rintro e w2 ⟨v2, rfl, hr2, hn2, hR2, ht2⟩
      simp only at hr2 hn2 hR2
      have hb2 := hb.trans (ht2.below (Nat.le_refl _) hbs)
      have hr3 := Lib.hid (hr2.mono fun k hk => Nat.le_trans hbs hk)
      clear hr2 hn2
      go_wp2
      go_ret3
      rw [HV.out]
      exact ⟨v2, rfl, hr3.out, fun e => absurd rfl e, hb2⟩
    · go_enter Tryd.func68, Tryd.ntmps68
      go_wp2_with fail
      refine HC.out.mono ?_
      rintro e w1 ⟨a, cap, rfl, hRd, hb⟩
      have HRD := Lib.hid hRd
      have hbs := hb.size
      clear hRd
      go_wp2_with fail
      refine (HREC.out w1 _ a cap HRD.out).mono ?_
      rintro e w2 ⟨v2, rfl, hr2, hn2, hR2, ht2⟩
      simp only at hr2 hn2 hR2
      obtain rfl := hn2 (by simpa using hre)
      have hb2 := hb.trans (ht2.below (Nat.le_refl _) hbs)
      have k1 := hR2.c1
      have hrl := Lib.hid hr2
      clear hr2 hn2
      go_wp2_with fail
      go_quiet (fail)
      go_wp2
      go_ret3
      rw [HV.out, if_neg (by simpa using hre)]
      refine ⟨_, rfl, ?_, fun _ => rfl, below_drawn hb2 _⟩
      exact (ReadsR.held (w' := w2.drewN nq) hrl.out (fun _ _ _ => rfl)).mono fun k hk => Nat.le_trans hbs hk
end Go.Proofs.YtecmhpncgdjgjaaDoor
