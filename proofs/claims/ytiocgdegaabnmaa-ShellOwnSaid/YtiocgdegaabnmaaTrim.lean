/-
  What strings.TrimLeftFunc with blank leaves of a line: the blanks at its front are gone. Conditions: none.
-/
import Derived.Test.YtiocgdegaabnmaaBare
import Derived.Test.YtiocgdegaabnmaaShelf
namespace Go.Proofs.Ytiocgdegaabnmaa
open Go.RowKit Go.Shelf Go.Lib

def pBlank (r : Nat) : Bool := r == 32 || r == 9

theorem blank_pred (w : World) : PredAt Try.prog 20 #[] encR pBlank w := fun W r _ => by
  unfold FnGives
  refine (blank_any (r : Int) W).mono ?_
  rintro e w' ⟨rfl, rfl⟩
  refine ⟨?_, 0, rfl⟩
  unfold pBlank
  have h1 : ((r : Int) == 32) = (r == 32) := by rw [Bool.eq_iff_iff]; simp only [beq_iff_eq]; omega
  have h2 : ((r : Int) == 9) = (r == 9) := by rw [Bool.eq_iff_iff]; simp only [beq_iff_eq]; omega
  rw [h1, h2]

theorem idx_blank (s : ByteArray) : ∀ (f pos : Nat), pos ≤ s.size → s.size ≤ pos + f → (∀ c ∈ s.data.toList.take pos, isBlank c = true) →
    (idxFuncFrom pBlank false s f pos = -1 ∧ ∀ c ∈ s.data.toList, isBlank c = true) ∨
    ∃ i : Nat, idxFuncFrom pBlank false s f pos = (i : Int) ∧ i < s.size ∧ (∀ c ∈ s.data.toList.take i, isBlank c = true) ∧ ∀ c, s.data.toList[i]? = some c → isBlank c = false
  | 0, pos, h1, h2, h3 => by
    refine .inl ⟨rfl, ?_⟩
    rwa [List.take_of_length_le (by simp; omega)] at h3
  | f + 1, pos, h1, h2, h3 => by
    by_cases hp : pos < s.size
    · simp only [idxFuncFrom, hp, if_true]
      have hat := at_list hp
      have stop : (isBlank (s[pos]'hp) = false) → pBlank (Utf8.decode s pos).1 = false → (idxFuncFrom pBlank false s (f + 1) pos = -1 ∧ ∀ c ∈ s.data.toList, isBlank c = true) ∨ ∃ i : Nat, (if pBlank (Utf8.decode s pos).1 = false then (pos : Int) else idxFuncFrom pBlank false s f (pos + (Utf8.decode s pos).2)) = (i : Int) ∧ i < s.size ∧ (∀ c ∈ s.data.toList.take i, isBlank c = true) ∧ ∀ c, s.data.toList[i]? = some c → isBlank c = false := by
        intro hb hpb
        refine .inr ⟨pos, by rw [if_pos hpb], hp, h3, fun c hc => ?_⟩
        rw [hat] at hc
        cases hc
        exact hb
      by_cases ha : (s[pos]'hp).toNat < 128
      · have hdec := decode_ascii s pos hp ha
        by_cases hb : isBlank (s[pos]'hp) = true
        · have hpb : pBlank (Utf8.decode s pos).1 = true := by
            rw [hdec]
            have := (isBlank_iff _).1 hb
            simpa [pBlank] using this
          rw [if_neg (by rw [hpb]; decide), hdec]
          refine idx_blank s f (pos + 1) hp (by omega) (take_more h3 fun j h4 h5 c hc => ?_)
          obtain rfl : j = pos := by omega
          rw [hat] at hc
          cases hc
          exact hb
        · have hpb : pBlank (Utf8.decode s pos).1 = false := by
            rw [hdec]
            have : ¬ ((s[pos]'hp).toNat = 32 ∨ (s[pos]'hp).toNat = 9) := fun h => hb ((isBlank_iff _).2 h)
            simpa [pBlank] using this
          rcases stop (by simpa using hb) hpb with h | h
          · exact .inl (by simpa only [idxFuncFrom, hp, if_true] using h)
          · exact .inr h
      · have hd := (decode_high s pos hp (by omega)).1
        have hpb : pBlank (Utf8.decode s pos).1 = false := by
          unfold pBlank
          rw [Bool.or_eq_false_iff, beq_eq_false_iff_ne, beq_eq_false_iff_ne]
          omega
        have hb : isBlank (s[pos]'hp) = false := by
          have : ¬ isBlank (s[pos]'hp) = true := fun h => by have := (isBlank_iff _).1 h; omega
          simpa using this
        rcases stop hb hpb with h | h
        · exact .inl (by simpa only [idxFuncFrom, hp, if_true] using h)
        · exact .inr h
    · refine .inl ⟨idxFuncFrom_end _ _ _ _ _ hp, ?_⟩
      rwa [List.take_of_length_le (by simp; omega)] at h3

/-- The line without the blanks at its front. -/
theorem trim_blank (s : ByteArray) : ∃ b, b ≤ s.size ∧ (trimLeftF pBlank s).data.toList = s.data.toList.drop b ∧ (∀ c ∈ s.data.toList.take b, isBlank c = true) ∧ ∀ c, (trimLeftF pBlank s).data.toList[0]? = some c → isBlank c = false := by
  unfold trimLeftF idxFunc
  rcases idx_blank s s.size 0 (Nat.zero_le _) (by omega) (by simp) with ⟨h, hall⟩ | ⟨i, h, hi, hall, hn⟩
  · rw [h, if_pos rfl]
    refine ⟨s.size, Nat.le_refl _, ?_, ?_, ?_⟩
    · rw [List.drop_eq_nil_of_le (by simp)]
    · intro c hc
      exact hall c (List.mem_of_mem_take hc)
    · intro c hc
      simp at hc
  · rw [h, if_neg (by omega)]
    refine ⟨i, by omega, ?_, hall, ?_⟩
    · rw [extract_list, List.take_of_length_le (by simp), Int.toNat_natCast]
    · intro c hc
      rw [extract_list, List.take_of_length_le (by simp), Int.toNat_natCast, List.getElem?_drop] at hc
      exact hn c (by simpa using hc)
end Go.Proofs.Ytiocgdegaabnmaa
