/-
  The Go function bare of package shell, walked: the bare word that a line begins with and how many bytes it has; 0: there is none. Conditions: the line has a first byte that is no blank, no number sign and no quote.
-/
import Derived.Test.YtiocgdegaabnmaaEscape
import Derived.Lib.OthersKept
import Derived.Deep.LoopGhost
namespace Go.Proofs.Ytiocgdegaabnmaa
open Go.RowKit

theorem blank_yes (c : Int) (w : World) (h : c = 32 ∨ c = 9) : Calls Try.prog 20 #[.int .i32 c] w fun e w' => e = .returned (.bool true) ∧ w = w' :=
  (blank_any c w).mono fun _ _ hh => ⟨by rw [hh.1]; rcases h with rfl | rfl <;> rfl, hh.2⟩
theorem blank_no (c : Int) (w : World) (h : c ≠ 32 ∧ c ≠ 9) : Calls Try.prog 20 #[.int .i32 c] w fun e w' => e = .returned (.bool false) ∧ w = w' :=
  (blank_any c w).mono fun _ _ hh => ⟨by rw [hh.1]; simp [h.1, h.2], hh.2⟩

/-- What a taker of words hands back: a word and how many bytes of the line it takes. -/
def Took (s : ByteArray) (e : Ending) : Prop := ∃ (wd : ByteArray) (n : Nat), e = .returned (.tuple #[.string wd, .int .i64 n]) ∧ Takes s.data.toList wd.data.toList n

theorem byte_ne {c d : UInt8} (h : c.toNat ≠ d.toNat) : (c == d) = false := by rw [beq_eq_false_iff_ne]; intro e; exact h (by rw [e])

theorem isBlank_iff (c : UInt8) : isBlank c = true ↔ c.toNat = 32 ∨ c.toNat = 9 := by
  simp only [isBlank, Bool.or_eq_true, beq_iff_eq, ← UInt8.toNat_inj]
  exact Iff.rfl

theorem isBad_iff (c : UInt8) : isBad c = true ↔ c.toNat < 32 ∨ c.toNat = 127 ∨ c.toNat = 34 ∨ c.toNat = 92 := by
  simp only [isBad, isCtl, Bool.or_eq_true, decide_eq_true_eq, beq_iff_eq, ← UInt8.toNat_inj]
  constructor
  · rintro ((⟨h | h⟩ | h) | h)
    · exact .inl h
    · exact .inr (.inl h)
    · exact .inr (.inr (.inl h))
    · exact .inr (.inr (.inr h))
  · rintro (h | h | h | h)
    · exact .inl (.inl (.inl h))
    · exact .inl (.inl (.inr h))
    · exact .inl (.inr h)
    · exact .inr h

theorem isBare_iff (c : UInt8) : isBare c = true ↔ ¬ (c.toNat = 32 ∨ c.toNat = 9) ∧ ¬ (c.toNat < 32 ∨ c.toNat = 127 ∨ c.toNat = 34 ∨ c.toNat = 92) := by
  rw [← isBlank_iff, ← isBad_iff]
  simp [isBare]

theorem take_more {l : List UInt8} {P : UInt8 → Prop} {p k : Nat} (h : ∀ c ∈ l.take p, P c) (h' : ∀ j, p ≤ j → j < p + k → ∀ c, l[j]? = some c → P c) : ∀ c ∈ l.take (p + k), P c := by
  intro c hc
  obtain ⟨j, hj⟩ := List.mem_iff_getElem?.1 hc
  have hlt : j < p + k := by
    rcases Nat.lt_or_ge j (p + k) with h1 | h1
    · exact h1
    · rw [List.getElem?_eq_none (by rw [List.length_take]; omega)] at hj; cases hj
  rw [List.getElem?_take_of_lt hlt] at hj
  rcases Nat.lt_or_ge j p with h1 | h1
  · exact h c (List.mem_iff_getElem?.2 ⟨j, by rw [List.getElem?_take_of_lt h1]; exact hj⟩)
  · exact h' j h1 hlt c hj

theorem list_at {s : ByteArray} {j : Nat} {c : UInt8} (h : s.data.toList[j]? = some c) : ∃ hj : j < s.size, s[j]'hj = c := by
  have hlt : j < s.size := by
    rcases Nat.lt_or_ge j s.size with h1 | h1
    · exact h1
    · rw [List.getElem?_eq_none (by simpa using h1)] at h; cases h
  rw [at_list hlt] at h
  exact ⟨hlt, Option.some.inj h⟩

theorem extract_list (s : ByteArray) (a b : Nat) : (s.extract a b).data.toList = (s.data.toList.take b).drop a := by
  rw [ByteArray.data_extract]
  simp [List.drop_take]

/-- The rune that begins at a place of a text: a blank, a byte that may not stand in a bare word, or one whose bytes all may. -/
theorem rune_cases (s : ByteArray) (pos : Nat) (hp : pos < s.size) :
    (∃ c : UInt8, s.data.toList[pos]? = some c ∧ Utf8.decode s pos = (c.toNat, 1) ∧ isBlank c = true ∧ ((c.toNat : Int) = 32 ∨ (c.toNat : Int) = 9)) ∨
    (∃ c : UInt8, s.data.toList[pos]? = some c ∧ Utf8.decode s pos = (c.toNat, 1) ∧ isBlank c = false ∧ isBad c = true ∧ ((c.toNat : Int) ≠ 32 ∧ (c.toNat : Int) ≠ 9) ∧ ((c.toNat : Int) < 32 ∨ (c.toNat : Int) = 127 ∨ (c.toNat : Int) = 34 ∨ (c.toNat : Int) = 92)) ∨
    (∃ r k : Nat, Utf8.decode s pos = (r, k) ∧ 1 ≤ k ∧ pos + k ≤ s.size ∧ 33 ≤ (r : Int) ∧ (r : Int) ≠ 127 ∧ (r : Int) ≠ 34 ∧ (r : Int) ≠ 92 ∧ ∀ j, pos ≤ j → j < pos + k → ∀ c, s.data.toList[j]? = some c → isBare c = true) := by
  have hat := at_list hp
  by_cases ha : (s[pos]'hp).toNat < 128
  · have hdec := decode_ascii s pos hp ha
    generalize s[pos]'hp = c at hat ha hdec
    by_cases hbl : isBlank c = true
    · exact .inl ⟨c, hat, hdec, hbl, by have := (isBlank_iff c).1 hbl; omega⟩
    · have hnb : ¬ (c.toNat = 32 ∨ c.toNat = 9) := fun h => hbl ((isBlank_iff c).2 h)
      by_cases hbad : isBad c = true
      · exact .inr (.inl ⟨c, hat, hdec, by simpa using hbl, hbad, by omega, by have := (isBad_iff c).1 hbad; omega⟩)
      · have hnd : ¬ (c.toNat < 32 ∨ c.toNat = 127 ∨ c.toNat = 34 ∨ c.toNat = 92) := fun h => hbad ((isBad_iff c).2 h)
        refine .inr (.inr ⟨c.toNat, 1, hdec, by omega, by omega, by omega, by omega, by omega, by omega, fun j h1 h2 x hx => ?_⟩)
        obtain rfl : j = pos := by omega
        rw [hat] at hx
        cases hx
        exact (isBare_iff c).2 ⟨hnb, hnd⟩
  · obtain ⟨h1, h2⟩ := decode_high s pos hp (by omega)
    obtain ⟨h3, h4⟩ := decode_bytes s pos hp (by omega)
    generalize hdec : Utf8.decode s pos = d at h1 h2 h3 h4
    obtain ⟨r, k⟩ := d
    simp only at h1 h2 h3 h4
    refine .inr (.inr ⟨r, k, rfl, h2, h3, by omega, by omega, by omega, by omega, fun j h5 h6 x hx => ?_⟩)
    obtain ⟨hj, rfl⟩ := list_at hx
    exact (high_bare _ (h4 j hj h5 h6)).1

set_option maxHeartbeats 2000000 in
set_option maxRecDepth 100000 in
theorem bare_any (s : ByteArray) (w : World) (hs : s.size ≤ 9223372036854775807) (h0 : 0 < s.size) (hb0 : Hid (∀ c, s.data.toList[0]? = some c → isBlank c = false ∧ c ≠ 34 ∧ c ≠ 35)) :
    Calls Try.prog 21 #[.string s] w fun e w' => Took s e ∧ Below w.heap.size w w' := by
  go_enter Try.func21, Try.ntmps21
  go_wp2
  go_step3
  go_wp2
  go_step3
  go_wp2
  go_loopw [4] (fun v4 wr => ∃ pos : Nat, v4 = .int .i64 s.size ∧ wr.heap[w.heap.size]? = some (.stringIter s pos) ∧ Below w.heap.size w wr ∧ pos ≤ s.size ∧ ∀ c ∈ s.data.toList.take pos, isBare c = true) (fun _ wr => s.size - wr.iterPos w.heap.size)
  case atStart =>
    exact ⟨0, rfl, World.iter_heap w s 0, (Below.refl _ w).alloc (Nat.le_refl _) _, by omega, by simp⟩
  case round =>
    obtain ⟨pos, rfl, hit, hbw, hple, hall⟩ := hrel
    have HALL := Lib.hid hall
    clear hall
    have HL0 : Hid (s.data.toList[0]? ≠ some 35) := fun e => (hb0 35 e).2.2 rfl
    by_cases hp : pos < s.size
    · have hnx : ∀ ty, (Instr.next (.pointer (some ⟨w.heap.size, 0, none⟩)) true ty).run Try.prog wr = _ := fun ty => Lib.run_next_any_at wr w.heap.size s pos ty hit hp
      have hit2 := Lib.iterAt_heap wr w.heap.size s pos (pos + (Utf8.decode s pos).2) hit
      have hbw2 := Lib.below_iterAt hbw (k := w.heap.size) (Nat.le_refl _) s (pos + (Utf8.decode s pos).2)
      rcases rune_cases s pos hp with ⟨c, hat, hdec, hbl, hci⟩ | ⟨c, hat, hdec, hbl, hbad, hci, hbi⟩ | ⟨r, k, hdec, hk1, hk2, hr1, hr2, hr3, hr4, hbytes⟩
      · rw [hdec] at hit2 hbw2
        simp only [hdec] at hnx
        have HAT := Lib.hid hat
        have HCI := Lib.hid hci
        have HBL := Lib.hid hbl
        clear hdec hat hci hbl
        go_wp2_with (go_at_call 20; refine (blank_yes _ _ HCI.out).mono ?_; rintro e w' ⟨rfl, rfl⟩)
        rw [Exit.noGoto_ret]
        go_ret2
        refine ⟨⟨s.extract 0 pos, pos, rfl, ?_⟩, hbw2⟩
        rw [extract_list, List.drop_zero]
        have hpos : 0 < pos := by
          rcases Nat.eq_zero_or_pos pos with rfl | h
          · have := (hb0.out c HAT.out).1; rw [HBL.out] at this; cases this
          · exact h
        refine takes_bare _ pos hpos (by simpa using hple) HALL.out HL0.out fun x hx => ?_
        rw [HAT.out] at hx
        cases hx
        exact HBL.out
      · rw [hdec] at hit2 hbw2
        simp only [hdec] at hnx
        have hfin : Takes s.data.toList [] 0 := takes_bare_none _ [] pos HALL.out HL0.out c hat hbad (fun e => by subst e; exact (hb0.out c hat).2.1) hbl
        have HFIN := Lib.hid hfin
        have HCI := Lib.hid hci
        clear hdec hat hci hbl hbad hfin
        have hbi' : (c.toNat : Int) < 32 ∨ (32 ≤ (c.toNat : Int) ∧ ((c.toNat : Int) == 127) = true) ∨ (32 ≤ (c.toNat : Int) ∧ ((c.toNat : Int) == 127) = false ∧ ((c.toNat : Int) == 34) = true) ∨ (32 ≤ (c.toNat : Int) ∧ ((c.toNat : Int) == 127) = false ∧ ((c.toNat : Int) == 34) = false ∧ ((c.toNat : Int) == 92) = true) := by
          rcases hbi with h | h | h | h
          · exact .inl h
          · rw [h]; exact .inr (.inl ⟨by omega, rfl⟩)
          · rw [h]; exact .inr (.inr (.inl ⟨by omega, rfl, rfl⟩))
          · rw [h]; exact .inr (.inr (.inr ⟨by omega, rfl, rfl, rfl⟩))
        clear hbi
        rcases hbi' with hb1 | ⟨hb1, hb2⟩ | ⟨hb1, hb2, hb3⟩ | ⟨hb1, hb2, hb3, hb4⟩
        all_goals
          go_wp2_with (go_at_call 20; refine (blank_no _ _ HCI.out).mono ?_; rintro e w' ⟨rfl, rfl⟩)
          rw [Exit.noGoto_ret]
          go_ret2
          exact ⟨⟨⟨#[]⟩, 0, rfl, HFIN.out⟩, hbw2⟩
      · rw [hdec] at hit2 hbw2
        simp only [hdec] at hnx
        have HB := Lib.hid hbytes
        have hb1 : ((r : Int) == 127) = false := by simpa using hr2
        have hb2 : ((r : Int) == 34) = false := by simpa using hr3
        have hb3 : ((r : Int) == 92) = false := by simpa using hr4
        have HNB : Hid ((r : Int) ≠ 32 ∧ (r : Int) ≠ 9) := by constructor <;> omega
        clear hdec hbytes hr2 hr3 hr4
        go_wp2_with (go_at_call 20; refine (blank_no _ _ HNB.out).mono ?_; rintro e w' ⟨rfl, rfl⟩)
        go_roundw
        case rel => exact ⟨pos + k, rfl, hit2, hbw2, hk2, take_more HALL.out HB.out⟩
        case measure =>
          simp only [World.iterPos, hit2, hit]
          omega
    · have hnx : ∀ ty, (Instr.next (.pointer (some ⟨w.heap.size, 0, none⟩)) true ty).run Try.prog wr = _ := fun ty => Lib.run_next_end_at wr w.heap.size s pos ty hit hp
      obtain rfl : pos = s.size := by omega
      go_wp2
      rw [Exit.noGoto_ret]
      go_ret2
      have hfin := takes_bare s.data.toList s.size h0 (by simp) HALL.out HL0.out fun x hx => by rw [List.getElem?_eq_none (by simp)] at hx; cases hx
      rw [List.take_of_length_le (by simp)] at hfin
      exact ⟨⟨s, s.size, rfl, hfin⟩, hbw⟩
end Go.Proofs.Ytiocgdegaabnmaa
