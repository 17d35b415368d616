/-
  The statement WireJoins of package sigillaw2, walked. Conditions: the lists are of no more than 1048576 records each, their texts no longer; the rows of characters lie as they are laid.
-/
import Derived.Test.YtecmhpncgdjgjaaDoorRJoin
import Derived.Test.YtecmhpncgdjgjaaDoorLentB
import Derived.Test.YtecmhpncgdjgjaaDoorRecRows
import Derived.Test.YtecmhpncgdjgjaaDoorLaid
namespace Go.Proofs.YtecmhpncgdjgjaaDoor
open Go.RowKit
set_option linter.unusedVariables false
set_option linter.unusedSimpArgs false

theorem lens_few_aux (N : Nat) : ∀ (l : List Rec), SizeOf.sizeOf l ≤ N → l.length ≤ countL l ∧ ∀ M, countL l ≤ M → lensS M l := by
  induction N with
  | zero => intro l h; cases l <;> simp at h
  | succ N ih =>
    intro l h
    cases l with
    | nil => exact ⟨Nat.le_refl _, fun _ _ => trivial⟩
    | cons r rs =>
      obtain ⟨n, k, x, t, i⟩ := r
      simp only [List.cons.sizeOf_spec, Rec.mk.sizeOf_spec] at h
      have h1 := ih rs (by omega)
      have h2 := ih i (by omega)
      rw [countL, countR, List.length_cons]
      refine ⟨by omega, fun M hM => ⟨⟨by omega, h2.2 M (by omega)⟩, h1.2 M (by omega)⟩⟩
/-- So many records are in no list more. -/
theorem lens_few {l : List Rec} {M : Nat} (h : countL l ≤ M) : lensL M l := by
  have h1 := lens_few_aux _ l (Nat.le_refl _)
  exact ⟨by omega, h1.2 M h⟩

set_option maxHeartbeats 8000000 in
set_option maxRecDepth 100000 in
theorem joins_walk (a : Option Addr) (len cap : Nat) (w : World) (h : IsLists w a len cap) (hr : RowsAt w) : Calls Tryd.prog 4 #[.slice a len cap] w fun e w' => e = .returned (.bool true) ∧ Below w.heap.size w w' := by
  obtain ⟨hc1, hc2, hrows⟩ := h
  have HH := Lib.hid hrows
  clear hrows
  go_enter Tryd.func4, Tryd.ntmps4
  go_wp2_with fail
  refine (known_any w hr).mono ?_
  rintro e w1 ⟨rfl, hb1⟩
  go_wp2_with fail
  go_loopw [3] (fun vi wr => ∃ k : Nat, vi = .int .i64 k ∧ k ≤ len ∧ Below w.heap.size w wr) (fun vi _ => len - (intOf vi).toNat)
  case atStart => exact ⟨0, rfl, Nat.zero_le _, hb1⟩
  case round =>
    obtain ⟨k, rfl, hk, hbw⟩ := hrel
    by_cases hlt : k < len
    · obtain ⟨g, off, v, l, rfl, hc, hR, hcl, hsh⟩ := HH.out k hlt
      have kc := hbw.cell (p := ⟨g, off + k, none⟩) (cell_lt hc)
      rw [hc] at kc
      have HR := Lib.hid hR
      have HB := Lib.hid hbw
      have HCL := Lib.hid hcl
      have HSH := Lib.hid hsh
      have hg : g < w.heap.size := cell_lt hc
      obtain ⟨av, capv, rfl, hcv1, hcv2, hv0⟩ := hR.form
      obtain ⟨n, hn⟩ : ∃ n, l.length = n := ⟨_, rfl⟩
      have HNL := Lib.hid hn
      obtain ⟨c, hcn⟩ : ∃ c, countL l = c := ⟨_, rfl⟩
      have HCN := Lib.hid hcn
      have hcI : ((2097152 : Int) < (c : Int)) = False := by simp; omega
      rw [hn] at kc hcv1
      clear hc hv0 hbw hR hcl hsh hn hcn
      go_wp2_with fail
      have hM := many_any _ l (Nat.le_refl _) 2097152 (by decide) (by have := HCL.out; omega) _ wr (HR.out.later HB.out)
      rw [HNL.out] at hM
      refine hM.mono ?_
      rintro e w2 ⟨rfl, hb2⟩
      rw [HCN.out]
      have kc := hb2.cell (p := ⟨g, off + k, none⟩) (cell_lt kc) |>.trans kc
      have HB2 := Lib.hid (HB.out.trans (hb2.mono HB.out.size))
      clear hM hb2
      go_wp2_with fail
      have hM := lent_any _ l (Nat.le_refl _) (lens_few HCL.out) _ w2 (HR.out.later HB2.out)
      rw [HNL.out] at hM
      refine hM.mono ?_
      rintro e w3 ⟨v3, rfl, hl3, hb3⟩
      have kc := hb3.cell (p := ⟨g, off + k, none⟩) (cell_lt kc) |>.trans kc
      have HB3 := Lib.hid (HB2.out.trans (hb3.mono HB2.out.size))
      have HL3 := Lib.hid (show Lent w3 v3 l from hl3.mono fun _ _ => trivial)
      clear hM hb3 hl3
      go_wp2_with fail
      refine (wJoin_any l _ w3 (HL3.out.reads)).mono ?_
      rintro e w4 ⟨v4, rfl, ho4, hb4⟩
      have kc := hb4.cell (p := ⟨g, off + k, none⟩) (cell_lt kc) |>.trans kc
      have HB4 := Lib.hid (HB3.out.trans (hb4.mono HB3.out.size))
      have HL4 := Lib.hid (HL3.out.later hb4)
      have HO4 := Lib.hid (ho4.reads.mono fun _ _ => trivial : BytesAt (fun _ => True) w4 v4 (joinOf l).1)
      clear ho4 hb4
      go_wp2_with fail
      have hM := rJoin_any l HCL.out HSH.out _ w4 (HR.out.later HB4.out)
      rw [HNL.out] at hM
      refine hM.mono ?_
      rintro e w5 ⟨v5, rfl, ho5, hb5⟩
      have kc := hb5.cell (p := ⟨g, off + k, none⟩) (cell_lt kc) |>.trans kc
      have HB5 := Lib.hid (HB4.out.trans (hb5.mono HB4.out.size))
      have HL5 := Lib.hid (HL4.out.later hb5)
      have HO5 := Lib.hid (HO4.out.later hb5)
      have HP5 := Lib.hid (ho5.reads.mono fun _ _ => trivial : BytesAt (fun _ => True) w5 v5 (joinOf l).1)
      clear ho5 hb5 hM
      obtain ⟨a4, c4, rfl, hc41, hc42, hz1⟩ := HO5.out
      obtain ⟨a5, c5, rfl, hc51, hc52, hz2⟩ := HP5.out
      clear hz1 hz2
      obtain ⟨j, hj⟩ : ∃ j, joinOf l = j := ⟨_, rfl⟩
      rw [hj] at hc41 hc51 HO5 HP5 ⊢
      obtain ⟨jb, je⟩ := j
      clear hj
      go_wp2_with fail
      refine (same_any _ _ jb jb _ _ w5 HO5.out HP5.out).mono ?_
      rintro e w6 ⟨rfl, hb6⟩
      have kc := hb6.cell (p := ⟨g, off + k, none⟩) (cell_lt kc) |>.trans kc
      have HB6 := Lib.hid (HB5.out.trans (hb6.mono HB5.out.size))
      have HL6 := Lib.hid (HL5.out.later hb6)
      clear hb6
      rw [show decide (jb = jb) = true by simp]
      go_wp2_with fail
      have hM := lback_any _ l (Nat.le_refl _) v3 _ w6 HL6.out (HR.out.later HB6.out)
      rw [HNL.out] at hM
      refine hM.mono ?_
      rintro e w7 ⟨rfl, hb7⟩
      have HB7 := Lib.hid (HB6.out.trans (hb7.mono HB6.out.size))
      clear hM hb7
      go_wp2_with fail
      go_roundw
      case rel => exact ⟨k + 1, by simp, by omega, HB7.out⟩
      case measure => simp [intOf] <;> omega
    · go_wp2_with fail
      go_ret
      exact ⟨rfl, hbw⟩
end Go.Proofs.YtecmhpncgdjgjaaDoor
