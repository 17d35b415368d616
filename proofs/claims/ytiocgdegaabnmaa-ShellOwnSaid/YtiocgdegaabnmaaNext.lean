/-
  The reference's Reader method next, walked: one byte more, as the machine of the plain words goes. Conditions: the Reader is the call's own, its lists are far below what memory holds.
-/
import Derived.Test.YtiocgdegaabnmaaReader
import Derived.IntWalk
namespace Go.Proofs.Ytiocgdegaabnmaa
open Go.RowKit
set_option linter.unusedVariables false

/-- A call that goes on with the Reader to its end. -/
theorem Goes.of {B R : Nat} {s t : St} {w w1 : World} {e : Ending} {w2 : World} (h : Goes B R s w1 e w2) (hb : Below B w w1) (he : s = t) : Goes B R t w e w2 :=
  ⟨h.1, he ▸ h.2.1, hb.trans h.2.2⟩

set_option maxHeartbeats 2000000 in
set_option maxRecDepth 100000 in
theorem next_0 (B R : Nat) (s : St) (c : UInt8) (w : World) (h : RD B R s w) (hB : B ≤ w.heap.size) (hl : s.word.length ≤ 1099511627776) (hw : s.words.length ≤ 1099511627776) (hin : s.inn = 0) :
    Calls Try.prog 23 #[.pointer (some ⟨R, 0, none⟩), .int .u8 c.toNat] w (Goes B R (step s c) w) := by
  have H := h
  obtain ⟨v1, v2, h⟩ := h
  obtain ⟨c0', c1, c2, c3, c4, fz, hlt⟩ := h.facts
  have c0 : w.cell? ⟨R, 0, none⟩ = some (.int .i64 0) := by rw [c0', hin]; rfl
  have HIN := Lib.hid hin
  clear c0' hin
  go_enter Try.func23, Try.ntmps23
  go_wp2_with fail
  refine (first_any B R s c _ H hB hl).mono ?_
  rintro e w1 ⟨rfl, h1, hb1⟩
  go_wp2
  go_end0
  exact ⟨rfl, by simpa [step, HIN.out] using h1, hb1⟩

set_option maxHeartbeats 2000000 in
set_option maxRecDepth 100000 in
theorem next_2 (B R : Nat) (s : St) (c : UInt8) (w : World) (h : RD B R s w) (hB : B ≤ w.heap.size) (hl : s.word.length ≤ 1099511627776) (hw : s.words.length ≤ 1099511627776) (hin : s.inn = 2) :
    Calls Try.prog 23 #[.pointer (some ⟨R, 0, none⟩), .int .u8 c.toNat] w (Goes B R (step s c) w) := by
  have H := h
  obtain ⟨v1, v2, h⟩ := h
  obtain ⟨c0', c1, c2, c3, c4, fz, hlt⟩ := h.facts
  have c0 : w.cell? ⟨R, 0, none⟩ = some (.int .i64 2) := by rw [c0', hin]; rfl
  have HIN := Lib.hid hin
  clear c0' hin
  go_enter Try.func23, Try.ntmps23
  go_wp2_with fail
  refine (inside_any B R s c _ H hB hl hw).mono ?_
  rintro e w1 ⟨rfl, h1, hb1⟩
  go_wp2
  go_end0
  exact ⟨rfl, by simpa [step, HIN.out] using h1, hb1⟩

set_option maxHeartbeats 2000000 in
set_option maxRecDepth 100000 in
theorem next_3 (B R : Nat) (s : St) (c : UInt8) (w : World) (h : RD B R s w) (hB : B ≤ w.heap.size) (hl : s.word.length ≤ 1099511627776) (hw : s.words.length ≤ 1099511627776) (hin : s.inn = 3) :
    Calls Try.prog 23 #[.pointer (some ⟨R, 0, none⟩), .int .u8 c.toNat] w (Goes B R (step s c) w) := by
  have H := h
  obtain ⟨v1, v2, h⟩ := h
  obtain ⟨c0', c1, c2, c3, c4, fz, hlt⟩ := h.facts
  have c0 : w.cell? ⟨R, 0, none⟩ = some (.int .i64 3) := by rw [c0', hin]; rfl
  have HIN := Lib.hid hin
  clear c0' hin
  go_enter Try.func23, Try.ntmps23
  go_wp2_with fail
  refine (escaped_any B R s c _ H hB hl).mono ?_
  rintro e w1 ⟨rfl, h1, hb1⟩
  go_wp2
  go_end0
  exact ⟨rfl, by simpa [step, HIN.out] using h1, hb1⟩

set_option maxHeartbeats 2000000 in
set_option maxRecDepth 100000 in
theorem next_1_blank (B R : Nat) (s : St) (c : UInt8) (w : World) (h : RD B R s w) (hB : B ≤ w.heap.size) (hl : s.word.length ≤ 1099511627776) (hw : s.words.length ≤ 1099511627776) (hin : s.inn = 1) (h32 : ((c.toNat : Int) == 32) = true) :
    Calls Try.prog 23 #[.pointer (some ⟨R, 0, none⟩), .int .u8 c.toNat] w (Goes B R { stEnds s with inn := 0 } w) := by
  have H := h
  obtain ⟨v1, v2, h⟩ := h
  obtain ⟨c0', c1, c2, c3, c4, fz, hlt⟩ := h.facts
  have c0 : w.cell? ⟨R, 0, none⟩ = some (.int .i64 1) := by rw [c0', hin]; rfl
  have HIN := Lib.hid hin
  clear c0' hin
  go_enter Try.func23, Try.ntmps23
  go_wp2_with fail
  refine (ends_any B R s _ H hB hw).mono ?_
  rintro e w1 ⟨rfl, ⟨u1, u2, h1⟩, hb1⟩
  obtain ⟨d0, d1, d2, d3, d4, dz, dlt⟩ := h1.facts
  go_wp2
  go_end0
  exact ⟨rfl, ⟨_, _, h1.setIn 0⟩, hb1.setCell (p := ⟨R, 0, none⟩) h1.1 _⟩

set_option maxHeartbeats 2000000 in
set_option maxRecDepth 100000 in
theorem next_1_tab (B R : Nat) (s : St) (c : UInt8) (w : World) (h : RD B R s w) (hB : B ≤ w.heap.size) (hl : s.word.length ≤ 1099511627776) (hw : s.words.length ≤ 1099511627776) (hin : s.inn = 1) (h32 : ((c.toNat : Int) == 32) = false) (h9 : ((c.toNat : Int) == 9) = true) :
    Calls Try.prog 23 #[.pointer (some ⟨R, 0, none⟩), .int .u8 c.toNat] w (Goes B R { stEnds s with inn := 0 } w) := by
  have H := h
  obtain ⟨v1, v2, h⟩ := h
  obtain ⟨c0', c1, c2, c3, c4, fz, hlt⟩ := h.facts
  have c0 : w.cell? ⟨R, 0, none⟩ = some (.int .i64 1) := by rw [c0', hin]; rfl
  have HIN := Lib.hid hin
  clear c0' hin
  go_enter Try.func23, Try.ntmps23
  go_wp2_with fail
  refine (ends_any B R s _ H hB hw).mono ?_
  rintro e w1 ⟨rfl, ⟨u1, u2, h1⟩, hb1⟩
  obtain ⟨d0, d1, d2, d3, d4, dz, dlt⟩ := h1.facts
  go_wp2
  go_end0
  exact ⟨rfl, ⟨_, _, h1.setIn 0⟩, hb1.setCell (p := ⟨R, 0, none⟩) h1.1 _⟩

set_option maxHeartbeats 2000000 in
set_option maxRecDepth 100000 in
theorem next_1_plain (B R : Nat) (s : St) (c : UInt8) (w : World) (h : RD B R s w) (hB : B ≤ w.heap.size) (hl : s.word.length ≤ 1099511627776) (hw : s.words.length ≤ 1099511627776) (hin : s.inn = 1) (h32 : ((c.toNat : Int) == 32) = false) (h9 : ((c.toNat : Int) == 9) = false) :
    Calls Try.prog 23 #[.pointer (some ⟨R, 0, none⟩), .int .u8 c.toNat] w (Goes B R (stPlain s c) w) := by
  have H := h
  obtain ⟨v1, v2, h⟩ := h
  obtain ⟨c0', c1, c2, c3, c4, fz, hlt⟩ := h.facts
  have c0 : w.cell? ⟨R, 0, none⟩ = some (.int .i64 1) := by rw [c0', hin]; rfl
  have HIN := Lib.hid hin
  clear c0' hin
  go_enter Try.func23, Try.ntmps23
  go_wp2_with fail
  refine (plain_any B R s c _ H hB hl).mono ?_
  rintro e w1 ⟨rfl, h1, hb1⟩
  go_wp2
  go_end0
  exact ⟨rfl, h1, hb1⟩

set_option maxHeartbeats 2000000 in
set_option maxRecDepth 100000 in
theorem next_4_bad (B R : Nat) (s : St) (c : UInt8) (w : World) (h : RD B R s w) (hB : B ≤ w.heap.size) (hl : s.word.length ≤ 1099511627776) (hw : s.words.length ≤ 1099511627776) (hin : s.inn = 4) (hx : hexv c < 0) :
    Calls Try.prog 23 #[.pointer (some ⟨R, 0, none⟩), .int .u8 c.toNat] w (Goes B R { s with digit := hexv c, inn := 5, bad := true } w) := by
  have H := h
  obtain ⟨v1, v2, h⟩ := h
  obtain ⟨c0', c1, c2, c3, c4, fz, hlt⟩ := h.facts
  have c0 : w.cell? ⟨R, 0, none⟩ = some (.int .i64 4) := by rw [c0', hin]; rfl
  have HIN := Lib.hid hin
  clear c0' hin
  go_enter Try.func23, Try.ntmps23
  go_wp2_with fail
  refine (hex_any c _).mono ?_
  rintro e w1 ⟨rfl, rfl⟩
  go_wp2
  go_end0
  exact ⟨rfl, ⟨_, _, ((h.setDigit (hexv c)).setIn 5).setBad true⟩, (((Below.refl B w).setCell (p := ⟨R, 3, none⟩) h.1 _).setCell (p := ⟨R, 0, none⟩) h.1 _).setCell (p := ⟨R, 4, none⟩) h.1 _⟩

set_option maxHeartbeats 2000000 in
set_option maxRecDepth 100000 in
theorem next_4_ok (B R : Nat) (s : St) (c : UInt8) (w : World) (h : RD B R s w) (hB : B ≤ w.heap.size) (hl : s.word.length ≤ 1099511627776) (hw : s.words.length ≤ 1099511627776) (hin : s.inn = 4) (hx : 0 ≤ hexv c) :
    Calls Try.prog 23 #[.pointer (some ⟨R, 0, none⟩), .int .u8 c.toNat] w (Goes B R { s with digit := hexv c, inn := 5 } w) := by
  have H := h
  obtain ⟨v1, v2, h⟩ := h
  obtain ⟨c0', c1, c2, c3, c4, fz, hlt⟩ := h.facts
  have c0 : w.cell? ⟨R, 0, none⟩ = some (.int .i64 4) := by rw [c0', hin]; rfl
  have HIN := Lib.hid hin
  clear c0' hin
  go_enter Try.func23, Try.ntmps23
  go_wp2_with fail
  refine (hex_any c _).mono ?_
  rintro e w1 ⟨rfl, rfl⟩
  go_wp2
  go_end0
  exact ⟨rfl, ⟨_, _, ((h.setDigit (hexv c)).setIn 5)⟩, ((Below.refl B w).setCell (p := ⟨R, 3, none⟩) h.1 _).setCell (p := ⟨R, 0, none⟩) h.1 _⟩

set_option maxHeartbeats 2000000 in
set_option maxRecDepth 100000 in
theorem next_5_bad (B R : Nat) (s : St) (c : UInt8) (w : World) (h : RD B R s w) (hB : B ≤ w.heap.size) (hl : s.word.length ≤ 1099511627776) (hw : s.words.length ≤ 1099511627776) (hin : s.inn = 5) (hx : hexv c < 0) :
    Calls Try.prog 23 #[.pointer (some ⟨R, 0, none⟩), .int .u8 c.toNat] w (Goes B R { s with inn := 2, bad := true } w) := by
  have H := h
  obtain ⟨v1, v2, h⟩ := h
  obtain ⟨c0', c1, c2, c3, c4, fz, hlt⟩ := h.facts
  have c0 : w.cell? ⟨R, 0, none⟩ = some (.int .i64 5) := by rw [c0', hin]; rfl
  have HIN := Lib.hid hin
  clear c0' hin
  go_enter Try.func23, Try.ntmps23
  go_wp2_with fail
  refine (hex_any c _).mono ?_
  rintro e w1 ⟨rfl, rfl⟩
  go_wp2
  go_end0
  exact ⟨rfl, ⟨_, _, (h.setBad true).setIn 2⟩, ((Below.refl B w).setCell (p := ⟨R, 4, none⟩) h.1 _).setCell (p := ⟨R, 0, none⟩) h.1 _⟩

set_option maxHeartbeats 2000000 in
set_option maxRecDepth 100000 in
theorem next_5_ok (B R : Nat) (s : St) (c : UInt8) (w : World) (h : RD B R s w) (hB : B ≤ w.heap.size) (hl : s.word.length ≤ 1099511627776) (hw : s.words.length ≤ 1099511627776) (hin : s.inn = 5) (hx : 0 ≤ hexv c) (hx15 : hexv c ≤ 15) (hd0 : 0 ≤ s.digit) (hd15 : s.digit ≤ 15) :
    Calls Try.prog 23 #[.pointer (some ⟨R, 0, none⟩), .int .u8 c.toNat] w (Goes B R { s with inn := 2, word := s.word ++ [low8 s.digit (hexv c)] } w) := by
  have H := h
  obtain ⟨v1, v2, h⟩ := h
  obtain ⟨c0', c1, c2, c3, c4, fz, hlt⟩ := h.facts
  have c0 : w.cell? ⟨R, 0, none⟩ = some (.int .i64 5) := by rw [c0', hin]; rfl
  have HIN := Lib.hid hin
  clear c0' hin
  obtain ⟨i0, hi, hz0, hz1, hz2⟩ := info_parts infoB
  have hbl := Lib.byteCells_length s.word
  have HLO : Hid (((low8 s.digit (hexv c)).toNat : Int) = (IntKind.u8.wrap (IntKind.i64.wrap (IntKind.i64.wrap (16 * s.digit) + hexv c)))) := by
    show _ = _
    rw [low8_toNat s.digit (hexv c) ⟨hd0, hd15⟩ ⟨hx, hx15⟩, IntWalk.i64_in (16 * s.digit) (by omega), IntWalk.i64_in _ (by omega)]
    simp only [IntKind.wrap, IntKind.bits, IntKind.signed, Bool.false_and, Bool.false_eq_true, if_false]
    omega
  have e1 : w.drew.cell? ⟨R, 1, none⟩ = some v1 := c1
  have e3 : w.drew.cell? ⟨R, 3, none⟩ = some (.int .i64 s.digit) := c3
  have hnew : ∀ j x, [Value.int .u8 (IntKind.u8.wrap (IntKind.i64.wrap (IntKind.i64.wrap (16 * s.digit) + hexv c)))][j]? = some x → (w.alloc (.cells #[.int .u8 (IntKind.u8.wrap (IntKind.i64.wrap (IntKind.i64.wrap (16 * s.digit) + hexv c)))] 5)).drew.cell? ((⟨w.heap.size, 0, none⟩ : Addr).add j) = some x := news_new rfl
  have HNEW := Lib.hid hnew
  clear hnew
  go_enter Try.func23, Try.ntmps23
  go_wp2_with fail
  refine (hex_any c _).mono ?_
  rintro e w1 ⟨rfl, rfl⟩
  go_wp2
  go_region_law (first | (refine step_append_lies _ rfl _ _ _ rfl B 5 i0 (.int .u8 0) 1 1 Try.underlying35 hi hz0 hz1 hz2 rfl (by decide) _ _ _ rfl (h.2.2.1.alloc _) ⟨w.heap.size, 0, none⟩ 1 1 [.int .u8 (IntKind.u8.wrap (IntKind.i64.wrap (IntKind.i64.wrap (16 * s.digit) + hexv c)))] rfl rfl HNEW.out (by intro u hu; simp at hu; subst hu; rfl) (by decide) (by unfold maxLen; omega) (by omega) (by simp; omega) _ rfl ?_; intro g cap w2 hown' hgrow hat hlt2; obtain ⟨d1, d0, f1, f0, hfin⟩ := (h.alloc _).drew.byte2 (low8 s.digit (hexv c)) (by rw [HLO.out]; exact hown') hgrow))
  all_goals
    go_wp2
    go_end0
    exact ⟨rfl, ⟨_, _, hfin.setIn 2⟩, ((((Below.refl B w).drew).alloc hB _).grown hgrow (by simp; omega) (fun k hk => (h.2.2.1.lt k hk).1)).setCell (p := ⟨R, 1, none⟩) h.1 _ |>.setCell (p := ⟨R, 0, none⟩) h.1 _⟩

set_option maxHeartbeats 2000000 in
set_option maxRecDepth 100000 in
theorem next_6_blank (B R : Nat) (s : St) (c : UInt8) (w : World) (h : RD B R s w) (hB : B ≤ w.heap.size) (hl : s.word.length ≤ 1099511627776) (hw : s.words.length ≤ 1099511627776) (hin : s.inn = 6) (h32 : ((c.toNat : Int) != 32) = false) :
    Calls Try.prog 23 #[.pointer (some ⟨R, 0, none⟩), .int .u8 c.toNat] w (Goes B R { s with inn := 0 } w) := by
  have H := h
  obtain ⟨v1, v2, h⟩ := h
  obtain ⟨c0', c1, c2, c3, c4, fz, hlt⟩ := h.facts
  have c0 : w.cell? ⟨R, 0, none⟩ = some (.int .i64 6) := by rw [c0', hin]; rfl
  have HIN := Lib.hid hin
  clear c0' hin
  go_enter Try.func23, Try.ntmps23
  go_wp2
  go_end0
  exact ⟨rfl, ⟨_, _, h.setIn 0⟩, (Below.refl B w).setCell (p := ⟨R, 0, none⟩) h.1 _⟩

set_option maxHeartbeats 2000000 in
set_option maxRecDepth 100000 in
theorem next_6_tab (B R : Nat) (s : St) (c : UInt8) (w : World) (h : RD B R s w) (hB : B ≤ w.heap.size) (hl : s.word.length ≤ 1099511627776) (hw : s.words.length ≤ 1099511627776) (hin : s.inn = 6) (h32 : ((c.toNat : Int) != 32) = true) (h9 : ((c.toNat : Int) != 9) = false) :
    Calls Try.prog 23 #[.pointer (some ⟨R, 0, none⟩), .int .u8 c.toNat] w (Goes B R { s with inn := 0 } w) := by
  have H := h
  obtain ⟨v1, v2, h⟩ := h
  obtain ⟨c0', c1, c2, c3, c4, fz, hlt⟩ := h.facts
  have c0 : w.cell? ⟨R, 0, none⟩ = some (.int .i64 6) := by rw [c0', hin]; rfl
  have HIN := Lib.hid hin
  clear c0' hin
  go_enter Try.func23, Try.ntmps23
  go_wp2
  go_end0
  exact ⟨rfl, ⟨_, _, h.setIn 0⟩, (Below.refl B w).setCell (p := ⟨R, 0, none⟩) h.1 _⟩

set_option maxHeartbeats 2000000 in
set_option maxRecDepth 100000 in
theorem next_6_bad (B R : Nat) (s : St) (c : UInt8) (w : World) (h : RD B R s w) (hB : B ≤ w.heap.size) (hl : s.word.length ≤ 1099511627776) (hw : s.words.length ≤ 1099511627776) (hin : s.inn = 6) (h32 : ((c.toNat : Int) != 32) = true) (h9 : ((c.toNat : Int) != 9) = true) :
    Calls Try.prog 23 #[.pointer (some ⟨R, 0, none⟩), .int .u8 c.toNat] w (Goes B R { s with inn := 0, bad := true } w) := by
  have H := h
  obtain ⟨v1, v2, h⟩ := h
  obtain ⟨c0', c1, c2, c3, c4, fz, hlt⟩ := h.facts
  have c0 : w.cell? ⟨R, 0, none⟩ = some (.int .i64 6) := by rw [c0', hin]; rfl
  have HIN := Lib.hid hin
  clear c0' hin
  go_enter Try.func23, Try.ntmps23
  go_wp2
  go_end0
  exact ⟨rfl, ⟨_, _, (h.setBad true).setIn 0⟩, ((Below.refl B w).setCell (p := ⟨R, 4, none⟩) h.1 _).setCell (p := ⟨R, 0, none⟩) h.1 _⟩

set_option maxHeartbeats 2000000 in
set_option maxRecDepth 100000 in
theorem next_7 (B R : Nat) (s : St) (c : UInt8) (w : World) (h : RD B R s w) (hB : B ≤ w.heap.size) (hl : s.word.length ≤ 1099511627776) (hw : s.words.length ≤ 1099511627776) (hin : s.inn = 7) :
    Calls Try.prog 23 #[.pointer (some ⟨R, 0, none⟩), .int .u8 c.toNat] w (Goes B R s w) := by
  have H := h
  obtain ⟨v1, v2, h⟩ := h
  obtain ⟨c0', c1, c2, c3, c4, fz, hlt⟩ := h.facts
  have c0 : w.cell? ⟨R, 0, none⟩ = some (.int .i64 7) := by rw [c0', hin]; rfl
  have HIN := Lib.hid hin
  clear c0' hin
  go_enter Try.func23, Try.ntmps23
  go_wp2
  go_end0
  exact ⟨rfl, H, Below.refl B w⟩

/-- The machine's states as it comes to them. -/
def StOk (s : St) : Prop := s.inn ≤ 7 ∧ (s.bad = false → s.inn = 5 → 0 ≤ s.digit ∧ s.digit ≤ 15)

theorem next_any (B R : Nat) (s : St) (c : UInt8) (w : World) (h : RD B R s w) (hB : B ≤ w.heap.size) (hl : s.word.length ≤ 1099511627776) (hw : s.words.length ≤ 1099511627776) (hok : StOk s) (hbad : s.bad = false) :
    Calls Try.prog 23 #[.pointer (some ⟨R, 0, none⟩), .int .u8 c.toNat] w (Goes B R (step s c) w) := by
  have b32 : ((c.toNat : Int) == 32) = (c == 32) := byteB c 32
  have b9 : ((c.toNat : Int) == 9) = (c == 9) := byteB c 9
  have n32 : ((c.toNat : Int) != 32) = !(c == 32) := by rw [← b32]; rfl
  have n9 : ((c.toNat : Int) != 9) = !(c == 9) := by rw [← b9]; rfl
  have hk : s.inn = 0 ∨ s.inn = 1 ∨ s.inn = 2 ∨ s.inn = 3 ∨ s.inn = 4 ∨ s.inn = 5 ∨ s.inn = 6 ∨ s.inn = 7 := by have := hok.1; omega
  rcases hk with hin | hin | hin | hin | hin | hin | hin | hin
  · exact next_0 B R s c w h hB hl hw hin
  · have e : step s c = if isBlank c then { stEnds s with inn := 0 } else stPlain s c := by simp [step, hin]
    rw [e]
    unfold isBlank
    cases e32 : c == 32
    · cases e9 : c == 9
      · simp only [Bool.or_false, Bool.false_eq_true, if_false]
        exact next_1_plain B R s c w h hB hl hw hin (b32.trans e32) (b9.trans e9)
      · simp only [Bool.or_true, if_true]
        exact next_1_tab B R s c w h hB hl hw hin (b32.trans e32) (b9.trans e9)
    · simp only [Bool.true_or, if_true]
      exact next_1_blank B R s c w h hB hl hw hin (b32.trans e32)
  · exact next_2 B R s c w h hB hl hw hin
  · exact next_3 B R s c w h hB hl hw hin
  · by_cases hx : hexv c < 0
    · have e : step s c = { s with digit := hexv c, inn := 5, bad := true } := by simp [step, hin, hx]
      rw [e]
      exact next_4_bad B R s c w h hB hl hw hin hx
    · have e : step s c = { s with digit := hexv c, inn := 5 } := by simp [step, hin, hx]
      rw [e]
      exact next_4_ok B R s c w h hB hl hw hin (by omega)
  · by_cases hx : hexv c < 0
    · have e : step s c = { s with inn := 2, bad := true } := by simp [step, hin, hx]
      rw [e]
      exact next_5_bad B R s c w h hB hl hw hin hx
    · have e : step s c = { s with inn := 2, word := s.word ++ [low8 s.digit (hexv c)] } := by simp [step, hin, hx]
      rw [e]
      have hd := hok.2 hbad hin
      exact next_5_ok B R s c w h hB hl hw hin (by omega) (hexv_le c).2 hd.1 hd.2
  · have e : step s c = { s with inn := 0, bad := s.bad || !isBlank c } := by simp [step, hin]
    rw [e]
    unfold isBlank
    cases e32 : c == 32
    · cases e9 : c == 9
      · simp only [Bool.or_false, Bool.not_false, Bool.or_true]
        exact next_6_bad B R s c w h hB hl hw hin (by rw [n32, e32]; rfl) (by rw [n9, e9]; rfl)
      · simp only [Bool.or_true, Bool.not_true, Bool.or_false]
        exact next_6_tab B R s c w h hB hl hw hin (by rw [n32, e32]; rfl) (by rw [n9, e9]; rfl)
    · simp only [Bool.true_or, Bool.not_true, Bool.or_false]
      exact next_6_blank B R s c w h hB hl hw hin (by rw [n32, e32]; rfl)
  · have e : step s c = s := by simp [step, hin]
    rw [e]
    exact next_7 B R s c w h hB hl hw hin

theorem step_ok (s : St) (c : UInt8) (h : StOk s) : StOk (step s c) := by
  obtain ⟨h1, h2⟩ := h
  have hx := hexv_le c
  unfold step
  split
  · unfold stFirst stPlain
    (repeat' split) <;> exact ⟨by simp, fun _ e => by simp at e⟩
  · split
    · unfold stPlain stEnds
      rename_i hh
      split
      · exact ⟨by simp, fun _ e => by simp at e⟩
      · exact ⟨by simpa using h1, fun _ e => by simp only at e; omega⟩
    · split
      · unfold stInside stEnds
        rename_i hh
        (repeat' split) <;> refine ⟨by simp only; omega, fun _ e => by simp only at e; omega⟩
      · split
        · unfold stEscaped
          (repeat' split) <;> exact ⟨by simp, fun _ e => by simp at e⟩
        · split
          · refine ⟨by simp, fun hb _ => ?_⟩
            simp only [Bool.or_eq_false_iff, decide_eq_false_iff_not] at hb
            simp only
            omega
          · split
            · split <;> exact ⟨by simp, fun _ e => by simp at e⟩
            · split
              · exact ⟨by simp, fun _ e => by simp at e⟩
              · exact ⟨h1, h2⟩
end Go.Proofs.Ytiocgdegaabnmaa
