/-
  The statement WireTexts of package sigillaw2, walked. Conditions: the rows of characters lie as they are laid; no text is larger than a process's addresses.
-/
import Derived.Test.YtecmhpncgdjgjaaDoorLaid
import Derived.Test.YtecmhpncgdjgjaaDoorTextsB
import Derived.Test.YtecmhpncgdjgjaaDoorTextsC
namespace Go.Proofs.YtecmhpncgdjgjaaDoor
open Go.RowKit
set_option linter.unusedVariables false
set_option linter.unusedSimpArgs false

/-- A row of texts among the arguments. -/
def IsStrs (w : World) (a : Option Addr) (len cap : Nat) (ss : List ByteArray) : Prop :=
  (a = none ∧ len = 0 ∧ cap = 0) ∨ ∃ x, a = some x ∧ len ≤ cap ∧ cap ≤ maxLen ∧ ss.length = cap ∧ (∀ i, i < ss.length → w.cell? (x.add i) = some (.string (ss.getD i ByteArray.empty))) ∧ ∀ s ∈ ss, s.size ≤ 140737488355328
theorem IsStrs.cap {w : World} {a : Option Addr} {len cap : Nat} {ss : List ByteArray} (h : IsStrs w a len cap ss) : len ≤ cap ∧ cap ≤ 9223372036854775807 := by
  rcases h with ⟨_, rfl, rfl⟩ | ⟨x, _, h1, h2, _⟩
  · exact ⟨Nat.le_refl _, by omega⟩
  · exact ⟨h1, by unfold maxLen at h2; omega⟩
theorem IsStrs.str {w : World} {a : Option Addr} {len cap : Nat} {ss : List ByteArray} (h : IsStrs w a len cap ss) (i : Nat) (hi : i < len) : ∃ g off s, a = some ⟨g, off, none⟩ ∧ w.cell? ⟨g, off + i, none⟩ = some (.string s) ∧ s.size ≤ 140737488355328 := by
  rcases h with ⟨_, rfl, _⟩ | ⟨x, rfl, h1, h2, h3, h4, h5⟩
  · omega
  · have hc := h4 i (by omega)
    obtain ⟨b, off, spot⟩ := x
    have hspot : spot = none := by simpa [Addr.add] using World.cell?_spot (h4 0 (by omega))
    subst hspot
    have e1 : (⟨b, off, none⟩ : Addr).add i = ⟨b, off + i, none⟩ := by unfold Addr.add; split <;> simp_all
    rw [e1] at hc
    refine ⟨b, off, _, rfl, hc, ?_⟩
    refine h5 _ ?_
    rw [List.getD_eq_getElem?_getD, List.getElem?_eq_getElem (by omega)]
    exact List.getElem_mem (by omega)

set_option maxHeartbeats 8000000 in
set_option maxRecDepth 100000 in
theorem texts_walk (a : Option Addr) (len cap : Nat) (ss : List ByteArray) (w : World) (h : IsStrs w a len cap ss) (hr : RowsAt w) : Calls Tryd.prog 11 #[.slice a len cap] w fun e w' => e = .returned (.bool true) ∧ Below w.heap.size w w' := by
  have HH := Lib.hid h
  have HR := Lib.hid hr
  obtain ⟨hc1, hc2⟩ := h.cap
  clear h
  go_enter Tryd.func11, Tryd.ntmps11
  go_wp2_with fail
  refine (known_any w hr).mono ?_
  rintro e w1 ⟨rfl, hb1⟩
  go_wp2_with fail
  go_loopw [3] (fun vi wr => ∃ k : Nat, vi = .int .i64 k ∧ k ≤ len ∧ Below w.heap.size w wr) (fun vi _ => len - (intOf vi).toNat)
  case atStart => exact ⟨0, rfl, Nat.zero_le _, hb1⟩
  case round =>
    obtain ⟨k, rfl, hk, hbw⟩ := hrel
    by_cases hlt : k < len
    · obtain ⟨g, off, s, rfl, hc, hsz⟩ := HH.out.str k hlt
      have kc := hbw.cell (p := ⟨g, off + k, none⟩) (cell_lt hc)
      rw [hc] at kc
      have HB := Lib.hid hbw
      have HSZ := Lib.hid hsz
      obtain ⟨R, hR⟩ : ∃ R, textOf s = R := ⟨_, rfl⟩
      obtain ⟨U, hU⟩ : ∃ U, utfR (s.size + 1) s.data.toList 0 = U := ⟨_, rfl⟩
      have HT := Lib.hid (fun W => hR ▸ wText_any s hsz W)
      have HT2 := Lib.hid (fun W => hR ▸ rText_any s hsz W)
      have HU := Lib.hid (fun W hW => hU ▸ wUtf8_any s hsz W hW)
      have HU2 := Lib.hid (fun W => hU ▸ rUtf8_any s hsz W)
      have herr : (R.2 != R.2) = false := by simp
      have huu : (U != U) = false := by simp
      clear hc hR hU hsz hbw
      go_wp2_with fail
      refine (HT.out wr).mono ?_
      rintro e x1 ⟨v1, rfl, ho1, hb1⟩
      have HB := Lib.hid (HB.out.trans (hb1.mono HB.out.size))
      have kc := hb1.cell (p := ⟨g, off + k, none⟩) (cell_lt kc) |>.trans kc
      have FA := Lib.hid (show BytesAt (fun _ => True) x1 v1 R.1 from ho1.reads.mono fun _ _ => trivial)
      clear hb1
      go_wp2_with fail
      refine (HT2.out x1).mono ?_
      rintro e x2 ⟨v2, rfl, ho2, hb2⟩
      have HB := Lib.hid (HB.out.trans (hb2.mono HB.out.size))
      have kc := hb2.cell (p := ⟨g, off + k, none⟩) (cell_lt kc) |>.trans kc
      have FA := Lib.hid (FA.out.later hb2)
      have FB := Lib.hid (show BytesAt (fun _ => True) x2 v2 R.1 from ho2.reads.mono fun _ _ => trivial)
      clear hb2
      go_wp2_with fail
      refine (HU.out x2 (HR.out.later HB.out)).mono ?_
      rintro e x3 ⟨rfl, hb3⟩
      have HB := Lib.hid (HB.out.trans (hb3.mono HB.out.size))
      have kc := hb3.cell (p := ⟨g, off + k, none⟩) (cell_lt kc) |>.trans kc
      have FA := Lib.hid (FA.out.later hb3)
      have FB := Lib.hid (FB.out.later hb3)
      clear hb3
      go_wp2_with fail
      refine (same_any (fun _ => True) (fun _ => True) R.1 R.1 _ _ x3 FA.out FB.out).mono ?_
      rintro e x4 ⟨rfl, hb4⟩
      rw [show decide (R.1 = R.1) = true by simp]
      have HB := Lib.hid (HB.out.trans (hb4.mono HB.out.size))
      have kc := hb4.cell (p := ⟨g, off + k, none⟩) (cell_lt kc) |>.trans kc
      clear hb4
      go_wp2_with fail
      refine (HU2.out x4).mono ?_
      rintro e x5 ⟨rfl, hb5⟩
      have HB := Lib.hid (HB.out.trans (hb5.mono HB.out.size))
      clear hb5
      go_wp2_with fail
      go_roundw
      case rel => exact ⟨k + 1, by simp, by omega, HB.out⟩
      case measure => simp [intOf] <;> omega
    · go_wp2_with fail
      go_ret
      exact ⟨rfl, hbw⟩
end Go.Proofs.YtecmhpncgdjgjaaDoor
