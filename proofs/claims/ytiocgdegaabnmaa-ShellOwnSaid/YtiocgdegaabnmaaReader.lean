/-
  The reference's Reader methods plain, inside, escaped and first, walked: each goes as the machine of the plain words does. Conditions: the Reader is the call's own, its lists are far below what memory holds.
-/
import Derived.Test.YtiocgdegaabnmaaEnds
import Derived.Test.YtiocgdegaabnmaaBare
namespace Go.Proofs.Ytiocgdegaabnmaa
open Go.RowKit
set_option linter.unusedVariables false

theorem news_new {W : World} {g : Nat} {u : Value} {e : TypeId} (hg : W.heap.size = g) : ∀ j x, [u][j]? = some x → (W.alloc (.cells #[u] e)).cell? ((⟨g, 0, none⟩ : Addr).add j) = some x := by
  subst hg
  exact news_one (e := e) (fr := (0, 0)) (by show (W.heap.push _)[W.heap.size]? = _; exact Array.getElem?_push_size)

set_option maxHeartbeats 2000000 in
set_option maxRecDepth 100000 in
theorem plain_bad (B R : Nat) (s : St) (c : UInt8) (w : World) (h : RD B R s w) (hB : B ≤ w.heap.size) (hl : s.word.length ≤ 1099511627776) (hbi : (c.toNat : Int) < 32 ∨ (32 ≤ (c.toNat : Int) ∧ ((c.toNat : Int) == 127) = true) ∨ (32 ≤ (c.toNat : Int) ∧ ((c.toNat : Int) == 127) = false ∧ ((c.toNat : Int) == 34) = true) ∨ (32 ≤ (c.toNat : Int) ∧ ((c.toNat : Int) == 127) = false ∧ ((c.toNat : Int) == 34) = false ∧ ((c.toNat : Int) == 92) = true)) :
    Calls Try.prog 31 #[.pointer (some ⟨R, 0, none⟩), .int .u8 c.toNat] w (Goes B R { s with bad := true, word := s.word ++ [c] } w) := by
  obtain ⟨v1, v2, h⟩ := h
  obtain ⟨c0, c1, c2, c3, c4, fz, hlt⟩ := h.facts
  obtain ⟨i0, hi, hz0, hz1, hz2⟩ := info_parts infoB
  have hbl := Lib.byteCells_length s.word
  have hb := h.setBad true
  rcases hbi with hb1 | ⟨hb1, hb2⟩ | ⟨hb1, hb2, hb3⟩ | ⟨hb1, hb2, hb3, hb4⟩
  all_goals
    go_enter Try.func31, Try.ntmps31
    go_wp2_with (at_builtin; refine wpList_append_own _ rfl _ _ 35 rfl B 5 i0 (.int .u8 0) 1 1 Try.underlying35 hi hz0 hz1 hz2 rfl (by decide) _ _ _ rfl (hb.2.2.1.alloc _) ⟨w.heap.size, 0, none⟩ 1 1 [.int .u8 c.toNat] rfl rfl ?c1 ?c2 ?c3 ?c4 ?c5 ?_)
    case c1 => exact news_new (by simp)
    case c2 => intro u hu; simp at hu; subst hu; rfl
    case c3 => unfold maxLen; (try simp only []); omega
    case c4 => (try simp only []); omega
    case c5 => simp; omega
    intro v' w2 hown' hgrow _
    obtain ⟨ao, n', cap, rfl⟩ := own_form hown'
    obtain ⟨d1, f1, hfin⟩ := (hb.alloc _).byte c hown' hgrow
    go_wp2
    go_end0
    exact ⟨rfl, ⟨_, _, hfin⟩, ((((Below.refl B w).setCell (p := ⟨R, 4, none⟩) h.1 _).alloc (by simp; omega) _).grown hgrow (by simp; omega) (fun k hk => (h.2.2.1.lt k hk).1)).setCell (p := ⟨R, 1, none⟩) h.1 _⟩

theorem bad_cases (c : UInt8) (h : isBad c = true) : (c.toNat : Int) < 32 ∨ (32 ≤ (c.toNat : Int) ∧ ((c.toNat : Int) == 127) = true) ∨ (32 ≤ (c.toNat : Int) ∧ ((c.toNat : Int) == 127) = false ∧ ((c.toNat : Int) == 34) = true) ∨ (32 ≤ (c.toNat : Int) ∧ ((c.toNat : Int) == 127) = false ∧ ((c.toNat : Int) == 34) = false ∧ ((c.toNat : Int) == 92) = true) := by
  rcases (isBad_iff c).1 h with h | h | h | h
  · exact .inl (by omega)
  · rw [h]; exact .inr (.inl ⟨by decide, rfl⟩)
  · rw [h]; exact .inr (.inr (.inl ⟨by decide, rfl, rfl⟩))
  · rw [h]; exact .inr (.inr (.inr ⟨by decide, rfl, rfl, rfl⟩))

theorem good_case (c : UInt8) (h : isBad c = false) : 32 ≤ (c.toNat : Int) ∧ ((c.toNat : Int) == 127) = false ∧ ((c.toNat : Int) == 34) = false ∧ ((c.toNat : Int) == 92) = false := by
  have hn : ¬ (c.toNat < 32 ∨ c.toNat = 127 ∨ c.toNat = 34 ∨ c.toNat = 92) := fun e => by rw [(isBad_iff c).2 e] at h; cases h
  refine ⟨by omega, ?_, ?_, ?_⟩ <;> (rw [beq_eq_false_iff_ne]; omega)

theorem plain_any (B R : Nat) (s : St) (c : UInt8) (w : World) (h : RD B R s w) (hB : B ≤ w.heap.size) (hl : s.word.length ≤ 1099511627776) :
    Calls Try.prog 31 #[.pointer (some ⟨R, 0, none⟩), .int .u8 c.toNat] w (Goes B R (stPlain s c) w) := by
  by_cases hb : isBad c = true
  · have e : stPlain s c = { s with bad := true, word := s.word ++ [c] } := by simp [stPlain, hb]
    rw [e]
    exact plain_bad B R s c w h hB hl (bad_cases c hb)
  · have hb' : isBad c = false := by simpa using hb
    have e : stPlain s c = { s with word := s.word ++ [c] } := by simp [stPlain, hb']
    rw [e]
    obtain ⟨g1, g2, g3, g4⟩ := good_case c hb'
    exact plain_ok B R s c w h hB hl g1 g2 g3 g4

set_option maxHeartbeats 2000000 in
set_option maxRecDepth 100000 in
theorem inside_close (B R : Nat) (s : St) (c : UInt8) (w : World) (h : RD B R s w) (hB : B ≤ w.heap.size) (hl : s.word.length ≤ 1099511627776) (hw : s.words.length ≤ 1099511627776) (h34 : ((c.toNat : Int) == 34) = true) :
    Calls Try.prog 32 #[.pointer (some ⟨R, 0, none⟩), .int .u8 c.toNat] w (Goes B R { stEnds s with inn := 6 } w) := by
  go_enter Try.func32, Try.ntmps32
  go_wp2_with fail
  refine (ends_any B R s _ h hB hw).mono ?_
  rintro e w1 ⟨rfl, ⟨v1, v2, h1⟩, hb1⟩
  obtain ⟨c0, c1, c2, c3, c4, fz, hlt⟩ := h1.facts
  go_wp2
  go_end0
  exact ⟨rfl, ⟨_, _, h1.setIn 6⟩, hb1.setCell (p := ⟨R, 0, none⟩) h1.1 _⟩

set_option maxHeartbeats 2000000 in
set_option maxRecDepth 100000 in
theorem inside_back (B R : Nat) (s : St) (c : UInt8) (w : World) (h : RD B R s w) (hB : B ≤ w.heap.size) (hl : s.word.length ≤ 1099511627776) (h34 : ((c.toNat : Int) == 34) = false) (h92 : ((c.toNat : Int) == 92) = true) :
    Calls Try.prog 32 #[.pointer (some ⟨R, 0, none⟩), .int .u8 c.toNat] w (Goes B R { s with inn := 3 } w) := by
  obtain ⟨v1, v2, h⟩ := h
  obtain ⟨c0, c1, c2, c3, c4, fz, hlt⟩ := h.facts
  obtain ⟨i0, hi, hz0, hz1, hz2⟩ := info_parts infoB
  have hbl := Lib.byteCells_length s.word
  go_enter Try.func32, Try.ntmps32
  go_wp2
  go_end0
  exact ⟨rfl, ⟨_, _, h.setIn 3⟩, (Below.refl B w).setCell (p := ⟨R, 0, none⟩) h.1 _⟩

set_option maxHeartbeats 2000000 in
set_option maxRecDepth 100000 in
theorem inside_ctl (B R : Nat) (s : St) (c : UInt8) (w : World) (h : RD B R s w) (hB : B ≤ w.heap.size) (hl : s.word.length ≤ 1099511627776) (h34 : ((c.toNat : Int) == 34) = false) (h92 : ((c.toNat : Int) == 92) = false) (hc : (c.toNat : Int) < 32 ∨ (32 ≤ (c.toNat : Int) ∧ ((c.toNat : Int) == 127) = true)) :
    Calls Try.prog 32 #[.pointer (some ⟨R, 0, none⟩), .int .u8 c.toNat] w (Goes B R { s with bad := true } w) := by
  obtain ⟨v1, v2, h⟩ := h
  obtain ⟨c0, c1, c2, c3, c4, fz, hlt⟩ := h.facts
  obtain ⟨i0, hi, hz0, hz1, hz2⟩ := info_parts infoB
  have hbl := Lib.byteCells_length s.word
  rcases hc with hb1 | ⟨hb1, hb2⟩
  all_goals
    go_enter Try.func32, Try.ntmps32
    go_wp2
    go_end0
    exact ⟨rfl, ⟨_, _, h.setBad true⟩, (Below.refl B w).setCell (p := ⟨R, 4, none⟩) h.1 _⟩

set_option maxHeartbeats 2000000 in
set_option maxRecDepth 100000 in
theorem inside_byte (B R : Nat) (s : St) (c : UInt8) (w : World) (h : RD B R s w) (hB : B ≤ w.heap.size) (hl : s.word.length ≤ 1099511627776) (h34 : ((c.toNat : Int) == 34) = false) (h92 : ((c.toNat : Int) == 92) = false) (hc : 32 ≤ (c.toNat : Int)) (h127 : ((c.toNat : Int) == 127) = false) :
    Calls Try.prog 32 #[.pointer (some ⟨R, 0, none⟩), .int .u8 c.toNat] w (Goes B R { s with word := s.word ++ [c] } w) := by
  obtain ⟨v1, v2, h⟩ := h
  obtain ⟨c0, c1, c2, c3, c4, fz, hlt⟩ := h.facts
  obtain ⟨i0, hi, hz0, hz1, hz2⟩ := info_parts infoB
  have hbl := Lib.byteCells_length s.word
  go_enter Try.func32, Try.ntmps32
  go_wp2_with (at_builtin; refine wpList_append_own _ rfl _ _ 35 rfl B 5 i0 (.int .u8 0) 1 1 Try.underlying35 hi hz0 hz1 hz2 rfl (by decide) _ _ _ rfl (h.2.2.1.alloc _) ⟨w.heap.size, 0, none⟩ 1 1 [.int .u8 c.toNat] rfl rfl ?c1 ?c2 ?c3 ?c4 ?c5 ?_)
  case c1 => exact news_new (by simp)
  case c2 => intro u hu; simp at hu; subst hu; rfl
  case c3 => unfold maxLen; (try simp only []); omega
  case c4 => (try simp only []); omega
  case c5 => simp; omega
  intro v' w2 hown' hgrow _
  obtain ⟨ao, n', cap, rfl⟩ := own_form hown'
  obtain ⟨d1, f1, hfin⟩ := (h.alloc _).byte c hown' hgrow
  go_wp2
  go_end0
  exact ⟨rfl, ⟨_, _, hfin⟩, (((Below.refl B w).alloc hB _).grown hgrow (by simp; omega) (fun k hk => (h.2.2.1.lt k hk).1)).setCell (p := ⟨R, 1, none⟩) h.1 _⟩

theorem byteB (c d : UInt8) : ((c.toNat : Int) == (d.toNat : Int)) = (c == d) := byte_eq c d

theorem inside_any (B R : Nat) (s : St) (c : UInt8) (w : World) (h : RD B R s w) (hB : B ≤ w.heap.size) (hl : s.word.length ≤ 1099511627776) (hw : s.words.length ≤ 1099511627776) :
    Calls Try.prog 32 #[.pointer (some ⟨R, 0, none⟩), .int .u8 c.toNat] w (Goes B R (stInside s c) w) := by
  have b34 : ((c.toNat : Int) == 34) = (c == 34) := byteB c 34
  have b92 : ((c.toNat : Int) == 92) = (c == 92) := byteB c 92
  have b127 : ((c.toNat : Int) == 127) = (c == 127) := byteB c 127
  unfold stInside
  cases e34 : c == 34
  · cases e92 : c == 92
    · cases ec : isCtl c
      · have hn : ¬ c.toNat < 32 ∧ (c == 127) = false := by simpa [isCtl] using ec
        simp only [Bool.false_eq_true, if_false]
        exact inside_byte B R s c w h hB hl (b34.trans e34) (b92.trans e92) (by omega) (b127.trans hn.2)
      · simp only [Bool.false_eq_true, if_false, if_true]
        refine inside_ctl B R s c w h hB hl (b34.trans e34) (b92.trans e92) ?_
        by_cases h32 : c.toNat < 32
        · exact .inl (by omega)
        · have h127 : (c == 127) = true := by simpa [isCtl, h32] using ec
          exact .inr ⟨by omega, b127.trans h127⟩
    · simp only [Bool.false_eq_true, if_false, if_true]
      exact inside_back B R s c w h hB hl (b34.trans e34) (b92.trans e92)
  · simp only [if_true]
    exact inside_close B R s c w h hB hl hw (b34.trans e34)

set_option maxHeartbeats 2000000 in
set_option maxRecDepth 100000 in
theorem escaped_back (B R : Nat) (s : St) (c : UInt8) (w : World) (h : RD B R s w) (hB : B ≤ w.heap.size) (hl : s.word.length ≤ 1099511627776) (h92 : ((c.toNat : Int) == 92) = true) :
    Calls Try.prog 33 #[.pointer (some ⟨R, 0, none⟩), .int .u8 c.toNat] w (Goes B R { s with inn := 2, word := s.word ++ [c] } w) := by
  obtain ⟨v1, v2, h⟩ := h
  obtain ⟨c0, c1, c2, c3, c4, fz, hlt⟩ := h.facts
  obtain ⟨i0, hi, hz0, hz1, hz2⟩ := info_parts infoB
  have hbl := Lib.byteCells_length s.word
  have hb := h.setIn 2
  go_enter Try.func33, Try.ntmps33
  go_wp2_with (at_builtin; refine wpList_append_own _ rfl _ _ 35 rfl B 5 i0 (.int .u8 0) 1 1 Try.underlying35 hi hz0 hz1 hz2 rfl (by decide) _ _ _ rfl (hb.2.2.1.alloc _) ⟨w.heap.size, 0, none⟩ 1 1 [.int .u8 c.toNat] rfl rfl ?c1 ?c2 ?c3 ?c4 ?c5 ?_)
  case c1 => exact news_new (by simp)
  case c2 => intro u hu; simp at hu; subst hu; rfl
  case c3 => unfold maxLen; (try simp only []); omega
  case c4 => (try simp only []); omega
  case c5 => simp; omega
  intro v' w2 hown' hgrow _
  obtain ⟨ao, n', cap, rfl⟩ := own_form hown'
  obtain ⟨d1, f1, hfin⟩ := (hb.alloc _).byte c hown' hgrow
  go_wp2
  go_end0
  exact ⟨rfl, ⟨_, _, hfin⟩, ((((Below.refl B w).setCell (p := ⟨R, 0, none⟩) h.1 _).alloc (by simp; omega) _).grown hgrow (by simp; omega) (fun k hk => (h.2.2.1.lt k hk).1)).setCell (p := ⟨R, 1, none⟩) h.1 _⟩

set_option maxHeartbeats 2000000 in
set_option maxRecDepth 100000 in
theorem escaped_quote (B R : Nat) (s : St) (c : UInt8) (w : World) (h : RD B R s w) (hB : B ≤ w.heap.size) (hl : s.word.length ≤ 1099511627776) (h92 : ((c.toNat : Int) == 92) = false) (h34 : ((c.toNat : Int) == 34) = true) :
    Calls Try.prog 33 #[.pointer (some ⟨R, 0, none⟩), .int .u8 c.toNat] w (Goes B R { s with inn := 2, word := s.word ++ [c] } w) := by
  obtain ⟨v1, v2, h⟩ := h
  obtain ⟨c0, c1, c2, c3, c4, fz, hlt⟩ := h.facts
  obtain ⟨i0, hi, hz0, hz1, hz2⟩ := info_parts infoB
  have hbl := Lib.byteCells_length s.word
  have hb := h.setIn 2
  go_enter Try.func33, Try.ntmps33
  go_wp2_with (at_builtin; refine wpList_append_own _ rfl _ _ 35 rfl B 5 i0 (.int .u8 0) 1 1 Try.underlying35 hi hz0 hz1 hz2 rfl (by decide) _ _ _ rfl (hb.2.2.1.alloc _) ⟨w.heap.size, 0, none⟩ 1 1 [.int .u8 c.toNat] rfl rfl ?c1 ?c2 ?c3 ?c4 ?c5 ?_)
  case c1 => exact news_new (by simp)
  case c2 => intro u hu; simp at hu; subst hu; rfl
  case c3 => unfold maxLen; (try simp only []); omega
  case c4 => (try simp only []); omega
  case c5 => simp; omega
  intro v' w2 hown' hgrow _
  obtain ⟨ao, n', cap, rfl⟩ := own_form hown'
  obtain ⟨d1, f1, hfin⟩ := (hb.alloc _).byte c hown' hgrow
  go_wp2
  go_end0
  exact ⟨rfl, ⟨_, _, hfin⟩, ((((Below.refl B w).setCell (p := ⟨R, 0, none⟩) h.1 _).alloc (by simp; omega) _).grown hgrow (by simp; omega) (fun k hk => (h.2.2.1.lt k hk).1)).setCell (p := ⟨R, 1, none⟩) h.1 _⟩

set_option maxHeartbeats 2000000 in
set_option maxRecDepth 100000 in
theorem escaped_n (B R : Nat) (s : St) (c : UInt8) (w : World) (h : RD B R s w) (hB : B ≤ w.heap.size) (hl : s.word.length ≤ 1099511627776) (h92 : ((c.toNat : Int) == 92) = false) (h34 : ((c.toNat : Int) == 34) = false) (h110 : ((c.toNat : Int) == 110) = true) :
    Calls Try.prog 33 #[.pointer (some ⟨R, 0, none⟩), .int .u8 c.toNat] w (Goes B R { s with inn := 2, word := s.word ++ [10] } w) := by
  obtain ⟨v1, v2, h⟩ := h
  obtain ⟨c0, c1, c2, c3, c4, fz, hlt⟩ := h.facts
  obtain ⟨i0, hi, hz0, hz1, hz2⟩ := info_parts infoB
  have hbl := Lib.byteCells_length s.word
  have hb := h.setIn 2
  go_enter Try.func33, Try.ntmps33
  go_wp2_with (at_builtin; refine wpList_append_own _ rfl _ _ 35 rfl B 5 i0 (.int .u8 0) 1 1 Try.underlying35 hi hz0 hz1 hz2 rfl (by decide) _ _ _ rfl (hb.2.2.1.alloc _) ⟨w.heap.size, 0, none⟩ 1 1 [.int .u8 10] rfl rfl ?c1 ?c2 ?c3 ?c4 ?c5 ?_)
  case c1 => exact news_new (by simp)
  case c2 => intro u hu; simp at hu; subst hu; rfl
  case c3 => unfold maxLen; (try simp only []); omega
  case c4 => (try simp only []); omega
  case c5 => simp; omega
  intro v' w2 hown' hgrow _
  obtain ⟨ao, n', cap, rfl⟩ := own_form hown'
  obtain ⟨d1, f1, hfin⟩ := (hb.alloc _).byte 10 hown' hgrow
  go_wp2
  go_end0
  exact ⟨rfl, ⟨_, _, hfin⟩, ((((Below.refl B w).setCell (p := ⟨R, 0, none⟩) h.1 _).alloc (by simp; omega) _).grown hgrow (by simp; omega) (fun k hk => (h.2.2.1.lt k hk).1)).setCell (p := ⟨R, 1, none⟩) h.1 _⟩

set_option maxHeartbeats 2000000 in
set_option maxRecDepth 100000 in
theorem escaped_t (B R : Nat) (s : St) (c : UInt8) (w : World) (h : RD B R s w) (hB : B ≤ w.heap.size) (hl : s.word.length ≤ 1099511627776) (h92 : ((c.toNat : Int) == 92) = false) (h34 : ((c.toNat : Int) == 34) = false) (h110 : ((c.toNat : Int) == 110) = false) (h116 : ((c.toNat : Int) == 116) = true) :
    Calls Try.prog 33 #[.pointer (some ⟨R, 0, none⟩), .int .u8 c.toNat] w (Goes B R { s with inn := 2, word := s.word ++ [9] } w) := by
  obtain ⟨v1, v2, h⟩ := h
  obtain ⟨c0, c1, c2, c3, c4, fz, hlt⟩ := h.facts
  obtain ⟨i0, hi, hz0, hz1, hz2⟩ := info_parts infoB
  have hbl := Lib.byteCells_length s.word
  have hb := h.setIn 2
  go_enter Try.func33, Try.ntmps33
  go_wp2_with (at_builtin; refine wpList_append_own _ rfl _ _ 35 rfl B 5 i0 (.int .u8 0) 1 1 Try.underlying35 hi hz0 hz1 hz2 rfl (by decide) _ _ _ rfl (hb.2.2.1.alloc _) ⟨w.heap.size, 0, none⟩ 1 1 [.int .u8 9] rfl rfl ?c1 ?c2 ?c3 ?c4 ?c5 ?_)
  case c1 => exact news_new (by simp)
  case c2 => intro u hu; simp at hu; subst hu; rfl
  case c3 => unfold maxLen; (try simp only []); omega
  case c4 => (try simp only []); omega
  case c5 => simp; omega
  intro v' w2 hown' hgrow _
  obtain ⟨ao, n', cap, rfl⟩ := own_form hown'
  obtain ⟨d1, f1, hfin⟩ := (hb.alloc _).byte 9 hown' hgrow
  go_wp2
  go_end0
  exact ⟨rfl, ⟨_, _, hfin⟩, ((((Below.refl B w).setCell (p := ⟨R, 0, none⟩) h.1 _).alloc (by simp; omega) _).grown hgrow (by simp; omega) (fun k hk => (h.2.2.1.lt k hk).1)).setCell (p := ⟨R, 1, none⟩) h.1 _⟩

set_option maxHeartbeats 2000000 in
set_option maxRecDepth 100000 in
theorem escaped_x (B R : Nat) (s : St) (c : UInt8) (w : World) (h : RD B R s w) (hB : B ≤ w.heap.size) (hl : s.word.length ≤ 1099511627776) (h92 : ((c.toNat : Int) == 92) = false) (h34 : ((c.toNat : Int) == 34) = false) (h110 : ((c.toNat : Int) == 110) = false) (h116 : ((c.toNat : Int) == 116) = false) (h120 : ((c.toNat : Int) == 120) = true) :
    Calls Try.prog 33 #[.pointer (some ⟨R, 0, none⟩), .int .u8 c.toNat] w (Goes B R { s with inn := 4 } w) := by
  obtain ⟨v1, v2, h⟩ := h
  obtain ⟨c0, c1, c2, c3, c4, fz, hlt⟩ := h.facts
  obtain ⟨i0, hi, hz0, hz1, hz2⟩ := info_parts infoB
  have hbl := Lib.byteCells_length s.word
  have hb := h.setIn 2
  go_enter Try.func33, Try.ntmps33
  go_wp2
  go_end0
  exact ⟨rfl, ⟨_, _, hb.setIn 4⟩, ((Below.refl B w).setCell (p := ⟨R, 0, none⟩) h.1 _).setCell (p := ⟨R, 0, none⟩) h.1 _⟩

set_option maxHeartbeats 2000000 in
set_option maxRecDepth 100000 in
theorem escaped_none (B R : Nat) (s : St) (c : UInt8) (w : World) (h : RD B R s w) (hB : B ≤ w.heap.size) (hl : s.word.length ≤ 1099511627776) (h92 : ((c.toNat : Int) == 92) = false) (h34 : ((c.toNat : Int) == 34) = false) (h110 : ((c.toNat : Int) == 110) = false) (h116 : ((c.toNat : Int) == 116) = false) (h120 : ((c.toNat : Int) == 120) = false) :
    Calls Try.prog 33 #[.pointer (some ⟨R, 0, none⟩), .int .u8 c.toNat] w (Goes B R { s with inn := 2, bad := true } w) := by
  obtain ⟨v1, v2, h⟩ := h
  obtain ⟨c0, c1, c2, c3, c4, fz, hlt⟩ := h.facts
  obtain ⟨i0, hi, hz0, hz1, hz2⟩ := info_parts infoB
  have hbl := Lib.byteCells_length s.word
  have hb := h.setIn 2
  go_enter Try.func33, Try.ntmps33
  go_wp2
  go_end0
  exact ⟨rfl, ⟨_, _, hb.setBad true⟩, ((Below.refl B w).setCell (p := ⟨R, 0, none⟩) h.1 _).setCell (p := ⟨R, 4, none⟩) h.1 _⟩

theorem escaped_any (B R : Nat) (s : St) (c : UInt8) (w : World) (h : RD B R s w) (hB : B ≤ w.heap.size) (hl : s.word.length ≤ 1099511627776) :
    Calls Try.prog 33 #[.pointer (some ⟨R, 0, none⟩), .int .u8 c.toNat] w (Goes B R (stEscaped s c) w) := by
  have b34 : ((c.toNat : Int) == 34) = (c == 34) := byteB c 34
  have b92 : ((c.toNat : Int) == 92) = (c == 92) := byteB c 92
  have b110 : ((c.toNat : Int) == 110) = (c == 110) := byteB c 110
  have b116 : ((c.toNat : Int) == 116) = (c == 116) := byteB c 116
  have b120 : ((c.toNat : Int) == 120) = (c == 120) := byteB c 120
  unfold stEscaped
  cases e92 : c == 92
  · cases e34 : c == 34
    · cases e110 : c == 110
      · cases e116 : c == 116
        · cases e120 : c == 120
          · simp only [Bool.or_false, Bool.false_eq_true, if_false]
            exact escaped_none B R s c w h hB hl (b92.trans e92) (b34.trans e34) (b110.trans e110) (b116.trans e116) (b120.trans e120)
          · simp only [Bool.or_false, Bool.false_eq_true, if_false, if_true]
            exact escaped_x B R s c w h hB hl (b92.trans e92) (b34.trans e34) (b110.trans e110) (b116.trans e116) (b120.trans e120)
        · simp only [Bool.or_false, Bool.false_eq_true, if_false, if_true]
          exact escaped_t B R s c w h hB hl (b92.trans e92) (b34.trans e34) (b110.trans e110) (b116.trans e116)
      · simp only [Bool.or_false, Bool.false_eq_true, if_false, if_true]
        exact escaped_n B R s c w h hB hl (b92.trans e92) (b34.trans e34) (b110.trans e110)
    · simp only [Bool.or_true, if_true]
      exact escaped_quote B R s c w h hB hl (b92.trans e92) (b34.trans e34)
  · simp only [Bool.true_or, if_true]
    exact escaped_back B R s c w h hB hl (b92.trans e92)

set_option maxHeartbeats 2000000 in
set_option maxRecDepth 100000 in
theorem first_blank (B R : Nat) (s : St) (c : UInt8) (w : World) (h : RD B R s w) (hB : B ≤ w.heap.size) (hl : s.word.length ≤ 1099511627776) (h32 : ((c.toNat : Int) == 32) = true) :
    Calls Try.prog 30 #[.pointer (some ⟨R, 0, none⟩), .int .u8 c.toNat] w (Goes B R { s with inn := 0 } w) := by
  obtain ⟨v1, v2, h⟩ := h
  obtain ⟨c0, c1, c2, c3, c4, fz, hlt⟩ := h.facts
  obtain ⟨i0, hi, hz0, hz1, hz2⟩ := info_parts infoB
  have hbl := Lib.byteCells_length s.word
  go_enter Try.func30, Try.ntmps30
  go_wp2
  go_end0
  exact ⟨rfl, ⟨_, _, h.setIn 0⟩, (Below.refl B w).setCell (p := ⟨R, 0, none⟩) h.1 _⟩

set_option maxHeartbeats 2000000 in
set_option maxRecDepth 100000 in
theorem first_tab (B R : Nat) (s : St) (c : UInt8) (w : World) (h : RD B R s w) (hB : B ≤ w.heap.size) (hl : s.word.length ≤ 1099511627776) (h32 : ((c.toNat : Int) == 32) = false) (h9 : ((c.toNat : Int) == 9) = true) :
    Calls Try.prog 30 #[.pointer (some ⟨R, 0, none⟩), .int .u8 c.toNat] w (Goes B R { s with inn := 0 } w) := by
  obtain ⟨v1, v2, h⟩ := h
  obtain ⟨c0, c1, c2, c3, c4, fz, hlt⟩ := h.facts
  obtain ⟨i0, hi, hz0, hz1, hz2⟩ := info_parts infoB
  have hbl := Lib.byteCells_length s.word
  go_enter Try.func30, Try.ntmps30
  go_wp2
  go_end0
  exact ⟨rfl, ⟨_, _, h.setIn 0⟩, (Below.refl B w).setCell (p := ⟨R, 0, none⟩) h.1 _⟩

set_option maxHeartbeats 2000000 in
set_option maxRecDepth 100000 in
theorem first_hash (B R : Nat) (s : St) (c : UInt8) (w : World) (h : RD B R s w) (hB : B ≤ w.heap.size) (hl : s.word.length ≤ 1099511627776) (h32 : ((c.toNat : Int) == 32) = false) (h9 : ((c.toNat : Int) == 9) = false) (h35 : ((c.toNat : Int) == 35) = true) :
    Calls Try.prog 30 #[.pointer (some ⟨R, 0, none⟩), .int .u8 c.toNat] w (Goes B R { s with inn := 7 } w) := by
  obtain ⟨v1, v2, h⟩ := h
  obtain ⟨c0, c1, c2, c3, c4, fz, hlt⟩ := h.facts
  obtain ⟨i0, hi, hz0, hz1, hz2⟩ := info_parts infoB
  have hbl := Lib.byteCells_length s.word
  go_enter Try.func30, Try.ntmps30
  go_wp2
  go_end0
  exact ⟨rfl, ⟨_, _, h.setIn 7⟩, (Below.refl B w).setCell (p := ⟨R, 0, none⟩) h.1 _⟩

set_option maxHeartbeats 2000000 in
set_option maxRecDepth 100000 in
theorem first_quote (B R : Nat) (s : St) (c : UInt8) (w : World) (h : RD B R s w) (hB : B ≤ w.heap.size) (hl : s.word.length ≤ 1099511627776) (h32 : ((c.toNat : Int) == 32) = false) (h9 : ((c.toNat : Int) == 9) = false) (h35 : ((c.toNat : Int) == 35) = false) (h34 : ((c.toNat : Int) == 34) = true) :
    Calls Try.prog 30 #[.pointer (some ⟨R, 0, none⟩), .int .u8 c.toNat] w (Goes B R { s with inn := 2 } w) := by
  obtain ⟨v1, v2, h⟩ := h
  obtain ⟨c0, c1, c2, c3, c4, fz, hlt⟩ := h.facts
  obtain ⟨i0, hi, hz0, hz1, hz2⟩ := info_parts infoB
  have hbl := Lib.byteCells_length s.word
  go_enter Try.func30, Try.ntmps30
  go_wp2
  go_end0
  exact ⟨rfl, ⟨_, _, h.setIn 2⟩, (Below.refl B w).setCell (p := ⟨R, 0, none⟩) h.1 _⟩

set_option maxHeartbeats 2000000 in
set_option maxRecDepth 100000 in
theorem first_bare (B R : Nat) (s : St) (c : UInt8) (w : World) (h : RD B R s w) (hB : B ≤ w.heap.size) (hl : s.word.length ≤ 1099511627776) (h32 : ((c.toNat : Int) == 32) = false) (h9 : ((c.toNat : Int) == 9) = false) (h35 : ((c.toNat : Int) == 35) = false) (h34 : ((c.toNat : Int) == 34) = false) :
    Calls Try.prog 30 #[.pointer (some ⟨R, 0, none⟩), .int .u8 c.toNat] w (Goes B R (stPlain { s with inn := 1 } c) w) := by
  obtain ⟨v1, v2, h⟩ := h
  obtain ⟨c0, c1, c2, c3, c4, fz, hlt⟩ := h.facts
  obtain ⟨i0, hi, hz0, hz1, hz2⟩ := info_parts infoB
  have hbl := Lib.byteCells_length s.word
  have hb : RD B R { s with inn := 1 } (w.setCell ⟨R, 0, none⟩ (.int .i64 1)) := ⟨_, _, h.setIn 1⟩
  have hz : B ≤ (w.setCell ⟨R, 0, none⟩ (.int .i64 1)).heap.size := by simpa using hB
  have hb0 := (Below.refl B w).setCell (p := ⟨R, 0, none⟩) h.1 (.int .i64 1)
  go_enter Try.func30, Try.ntmps30
  go_wp2_with fail
  refine (plain_any B R _ c _ hb hz hl).mono ?_
  rintro e w1 ⟨rfl, h1, hb1⟩
  go_wp2
  go_end0
  exact ⟨rfl, h1, hb0.trans hb1⟩

theorem first_any (B R : Nat) (s : St) (c : UInt8) (w : World) (h : RD B R s w) (hB : B ≤ w.heap.size) (hl : s.word.length ≤ 1099511627776) :
    Calls Try.prog 30 #[.pointer (some ⟨R, 0, none⟩), .int .u8 c.toNat] w (Goes B R (stFirst s c) w) := by
  have b32 : ((c.toNat : Int) == 32) = (c == 32) := byteB c 32
  have b9 : ((c.toNat : Int) == 9) = (c == 9) := byteB c 9
  have b35 : ((c.toNat : Int) == 35) = (c == 35) := byteB c 35
  have b34 : ((c.toNat : Int) == 34) = (c == 34) := byteB c 34
  unfold stFirst isBlank
  cases e32 : c == 32
  · cases e9 : c == 9
    · cases e35 : c == 35
      · cases e34 : c == 34
        · simp only [Bool.or_false, Bool.false_eq_true, if_false]
          exact first_bare B R s c w h hB hl (b32.trans e32) (b9.trans e9) (b35.trans e35) (b34.trans e34)
        · simp only [Bool.or_false, Bool.false_eq_true, if_false, if_true]
          exact first_quote B R s c w h hB hl (b32.trans e32) (b9.trans e9) (b35.trans e35) (b34.trans e34)
      · simp only [Bool.or_false, Bool.false_eq_true, if_false, if_true]
        exact first_hash B R s c w h hB hl (b32.trans e32) (b9.trans e9) (b35.trans e35)
    · simp only [Bool.or_true, if_true]
      exact first_tab B R s c w h hB hl (b32.trans e32) (b9.trans e9)
  · simp only [Bool.true_or, if_true]
    exact first_blank B R s c w h hB hl (b32.trans e32)
end Go.Proofs.Ytiocgdegaabnmaa
