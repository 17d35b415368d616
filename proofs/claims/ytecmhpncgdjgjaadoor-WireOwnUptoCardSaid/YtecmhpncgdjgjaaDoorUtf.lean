/-
  Utf8 of package wire, walked. Conditions: the rows of characters lie as they are laid.
-/
import Derived.Test.YtecmhpncgdjgjaaDoorChar
namespace Go.Proofs.YtecmhpncgdjgjaaDoor
open Go.RowKit
set_option linter.unusedVariables false
set_option linter.unusedSimpArgs false

/-- Where bytes stop being UTF-8, from the place p on; f: fuel. -/
def utfR : Nat → List UInt8 → Nat → Int
  | 0, _, _ => -1
  | f + 1, l, p => if l.length ≤ p then -1 else if chOf (l.drop p) = 0 then p else utfR f l (p + chOf (l.drop p))
theorem chOf_le (l : List UInt8) : chOf l ≤ 4 := by
  cases l with
  | nil => simp [chOf]
  | cons c cs => simp only [chOf]; repeat' split
                 all_goals omega
theorem utfR_end (f : Nat) (l : List UInt8) (p : Nat) (h : l.length ≤ p) : utfR (f + 1) l p = -1 := by rw [utfR, if_pos h]
theorem utfR_bad (f : Nat) (l : List UInt8) (p : Nat) (h : ¬ l.length ≤ p) (h2 : chOf (l.drop p) = 0) : utfR (f + 1) l p = p := by rw [utfR, if_neg h, if_pos h2]
theorem utfR_next (f : Nat) (l : List UInt8) (p : Nat) (h : ¬ l.length ≤ p) (h2 : chOf (l.drop p) ≠ 0) : utfR (f + 1) l p = utfR f l (p + chOf (l.drop p)) := by rw [utfR, if_neg h, if_neg h2]

set_option maxHeartbeats 4000000 in
set_option maxRecDepth 100000 in
theorem wUtf8_any (s : ByteArray) (hss : s.size ≤ 140737488355328) (w : World) (h : RowsAt w) : Calls Tryd.prog 43 #[.string s] w (Says w (.int .i64 (utfR (s.size + 1) s.data.toList 0))) := by
  have HR := Lib.hid h
  have hsl : s.data.toList.length = s.size := rfl
  go_enter Tryd.func43, Tryd.ntmps43
  go_wp2_with fail
  go_loopw [3] (fun vi wr => ∃ p f : Nat, vi = .int .i64 p ∧ p ≤ s.size + 4 ∧ s.size < p + f ∧ Below w.heap.size w wr ∧ utfR (s.size + 1) s.data.toList 0 = utfR f s.data.toList p) (fun vi _ => s.size + 5 - (intOf vi).toNat)
  case atStart => exact ⟨0, s.size + 1, rfl, by omega, by omega, Below.refl _ _, rfl⟩
  case round =>
    obtain ⟨p, f, rfl, hp4, hpf, hbw, hu⟩ := hrel
    by_cases hlt : p < s.size
    · obtain ⟨f', rfl⟩ : ∃ f', f = f' + 1 := ⟨f - 1, by omega⟩
      have hR2 := HR.out.later hbw
      have hch := char_any s p hlt hss wr hR2
      have hle := chOf_le (s.data.toList.drop p)
      obtain ⟨c, hc⟩ : ∃ c, chOf (s.data.toList.drop p) = c := ⟨_, rfl⟩
      have HC := Lib.hid (hc ▸ hch)
      cases hc0 : ((c : Int) == 0)
      · have hcn : c ≠ 0 := by simpa using hc0
        have HN := Lib.hid (show utfR (s.size + 1) s.data.toList 0 = utfR f' s.data.toList (p + c) from hu.trans (by rw [utfR_next _ _ _ (by omega) (by rw [hc]; exact hcn), hc]))
        rw [hc] at hle
        clear hu hch hc
        go_wp2_with fail
        refine HC.out.mono ?_
        rintro e w2 ⟨rfl, hb2⟩
        have hb3 := hbw.trans (hb2.mono hbw.size)
        go_wp2_with fail
        go_roundw
        case rel => exact ⟨p + c, f', by simp, by omega, by omega, hb3, HN.out⟩
        case measure => simp [intOf]; omega
      · have hcn : c = 0 := by simpa using hc0
        have HN := Lib.hid (show utfR (s.size + 1) s.data.toList 0 = p from hu.trans (utfR_bad _ _ _ (by omega) (by rw [hc]; exact hcn)))
        clear hu hch hc
        subst hcn
        go_wp2_with fail
        refine HC.out.mono ?_
        rintro e w2 ⟨rfl, hb2⟩
        have hb3 := hbw.trans (hb2.mono hbw.size)
        go_wp2_with fail
        go_ret
        exact ⟨by rw [HN.out]; rfl, hb3⟩
    · have hm1 : utfR (s.size + 1) s.data.toList 0 = -1 := by
        rcases f with _ | f'
        · exact hu
        · exact hu.trans (utfR_end _ _ _ (by omega))
      have HN := Lib.hid hm1
      clear hu hm1
      go_wp2_with fail
      go_ret
      exact ⟨by rw [HN.out]; rfl, hbw⟩
end Go.Proofs.YtecmhpncgdjgjaaDoor
