/-
  Split of package wire, walked. Conditions: none.
-/
import Derived.Test.YtecmhpncgdjgjaaDoorRecs
import Derived.Test.YtecmhpncgdjgjaaDoorRead
namespace Go.Proofs.YtecmhpncgdjgjaaDoor
open Go.RowKit
set_option linter.unusedVariables false
set_option linter.unusedSimpArgs false

/-- What Split answers: records, error, place. -/
def splitOf (st : Bool) (b : List UInt8) : List Rec × Int × Nat :=
  if 1048576 < b.length then ([], 2, 0) else ((recsR st b 63 (b.length + 1) 0 0 0).1, (recsR st b 63 (b.length + 1) 0 0 0).2.1, if (recsR st b 63 (b.length + 1) 0 0 0).2.1 = 0 then 0 else (recsR st b 63 (b.length + 1) 0 0 0).2.2)
theorem splitOf_nil (st : Bool) (b : List UInt8) (h : (splitOf st b).2.1 ≠ 0) : (splitOf st b).1 = [] := by
  unfold splitOf at h ⊢
  split
  · rfl
  · rename_i h1
    rw [if_neg h1] at h
    exact (recsR_facts st b 63 (b.length + 1) 0 0 0 (Nat.zero_le _)).1 h

/-- What Split leaves. -/
def SplitOut (w : World) (r : List Rec × Int × Nat) (e : Ending) (w' : World) : Prop :=
  ∃ v, e = .returned (.tuple #[v, .int .i64 r.2.2, .int .i64 r.2.1]) ∧ ReadsR (fun k => w.heap.size ≤ k) w' v r.1 ∧ (r.2.1 ≠ 0 → v = .slice none 0 0) ∧ Below w.heap.size w w'

set_option maxHeartbeats 4000000 in
set_option maxRecDepth 100000 in
theorem wSplit_any (w : World) (st : Bool) (b : List UInt8) (v : Value) (h : BytesAt (fun _ => True) w v b) : Calls Tryd.prog 36 #[v, .bool st] w (SplitOut w (splitOf st b)) := by
  have HC := Lib.hid (wRead_any w st b v h)
  obtain ⟨a, cap, rfl, h1, h2, h3⟩ := h
  clear h3
  by_cases hbig : 1048576 < b.length
  · have HV := Lib.hid (show splitOf st b = ([], 2, 0) from if_pos hbig)
    go_enter Tryd.func36, Tryd.ntmps36
    go_wp2_with fail
    refine HC.out.mono ?_
    rintro e w1 ⟨h5, _⟩
    obtain ⟨rfl, hb⟩ := h5 hbig
    go_wp2
    go_ret3
    rw [HV.out]
    exact ⟨_, rfl, .none _ _ (by omega), fun _ => rfl, hb⟩
  · have hle : b.length ≤ 1048576 := by omega
    have HV := Lib.hid (show splitOf st b = _ from if_neg hbig)
    obtain ⟨R, hR⟩ : ∃ R, recsR st b 63 (b.length + 1) 0 0 0 = R := ⟨_, rfl⟩
    have HREC := Lib.hid (fun (W : World) (p : Nat) (a : Option Addr) (cap : Nat) (hW : RdAt W p st b 0 a cap) => hR ▸ records_any (b.length + 1) (b.length + 1) (Nat.le_refl _) 0 0 W p st b 0 a cap hW (by omega) (by omega))
    rw [hR] at HV
    clear hR
    obtain ⟨rl, re, rq⟩ := R
    simp only at HV
    cases hre : (re != 0 : Bool)
    · have hre0 : re = 0 := by simpa using hre
      subst hre0
      go_enter Tryd.func36, Tryd.ntmps36
      go_wp2_with fail
      refine HC.out.mono ?_
      rintro e w1 ⟨_, h5⟩
      obtain ⟨p, a, cap, rfl, hp, ha, hRd, hb⟩ := h5 hle
      have HRD := Lib.hid hRd
      clear h5 hRd ha
      go_wp2_with fail
      refine (HREC.out w1 p a cap HRD.out).mono ?_
      rintro e w2 ⟨v2, rfl, hr2, hn2, hR2, ht2⟩
      simp only at hr2 hn2 hR2
      have hb2 := hb.trans (ht2.below hp hb.size)
      have hr3 := Lib.hid (hr2.mono fun k hk => Nat.le_trans hb.size hk)
      clear hr2 hn2
      go_wp2
      go_ret3
      rw [HV.out]
      exact ⟨v2, rfl, hr3.out, fun e => absurd rfl e, hb2⟩
    · go_enter Tryd.func36, Tryd.ntmps36
      go_wp2_with fail
      refine HC.out.mono ?_
      rintro e w1 ⟨_, h5⟩
      obtain ⟨p, a, cap, rfl, hp, ha, hRd, hb⟩ := h5 hle
      have HRD := Lib.hid hRd
      clear h5 hRd ha
      go_wp2_with fail
      refine (HREC.out w1 p a cap HRD.out).mono ?_
      rintro e w2 ⟨v2, rfl, hr2, hn2, hR2, ht2⟩
      simp only at hr2 hn2 hR2
      obtain rfl := hn2 (by simpa using hre)
      have hb2 := hb.trans (ht2.below hp hb.size)
      have k1 := hR2.c1
      have hrl := Lib.hid (hr2)
      clear hr2 hn2
      go_wp2_with fail
      go_quiet (fail)
      go_wp2
      go_ret3
      rw [HV.out, if_neg (by simpa using hre)]
      refine ⟨_, rfl, ?_, fun _ => rfl, below_drawn hb2 _⟩
      exact (ReadsR.held (w' := w2.drewN nq) hrl.out (fun _ _ _ => rfl)).mono fun k hk => Nat.le_trans hb.size hk
end Go.Proofs.YtecmhpncgdjgjaaDoor
