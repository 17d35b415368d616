/-
  The reference's Words, walked: of every line its words, or its error; the list is the call's own. Conditions: none.
-/
import Derived.Test.YtiocgdegaabnmaaNext
import Derived.Test.YtiocgdegaabnmaaWords
namespace Go.Proofs.Ytiocgdegaabnmaa
open Go.RowKit

theorem strW_eq : strW = strV := rfl

theorem step_len (s : St) (c : UInt8) : (step s c).word.length ≤ s.word.length + 1 ∧ (step s c).words.length ≤ s.words.length + 1 := by
  unfold step stFirst stInside stEscaped stPlain stEnds
  (repeat' split) <;> simp

/-- Where the machine stands behind the first k bytes. -/
def StAt (l : List UInt8) (k : Nat) (s : St) : Prop := run (st0 []) (l.take k) = s ∧ StOk s ∧ s.word.length ≤ k ∧ s.words.length ≤ k

theorem StAt.start (l : List UInt8) : StAt l 0 (st0 []) := ⟨by simp [run_nil], ⟨by simp [st0], fun _ h => by simp [st0] at h⟩, by simp [st0], by simp [st0]⟩

theorem StAt.next {l : List UInt8} {k : Nat} {s : St} (h : StAt l k s) {c : UInt8} (hc : l[k]? = some c) : StAt l (k + 1) (step s c) := by
  obtain ⟨h1, h2, h3, h4⟩ := h
  refine ⟨?_, step_ok s c h2, ?_, ?_⟩
  · rw [List.take_add_one, hc, run_append, h1]
    rfl
  · have := (step_len s c).1; omega
  · have := (step_len s c).2; omega

theorem StAt.bad {l : List UInt8} {k : Nat} {s : St} (h : StAt l k s) (hb : s.bad = true) (hl : ¬ 65536 < l.length) : resOf l = ([], 200) := by
  unfold resOf wordsOf
  rw [if_neg hl, ← List.take_append_drop k l, run_append, h.1, fin_run_bad _ _ hb]

theorem StAt.done {l : List UInt8} {k : Nat} {s : St} (h : StAt l k s) (hk : l.length ≤ k) (hl : ¬ 65536 < l.length) : resOf l = match fin s with | none => ([], 200) | some ws => (ws, 0) := by
  have h1 := h.1
  rw [List.take_of_length_le hk] at h1
  unfold resOf wordsOf
  rw [if_neg hl, h1]
  cases fin s <;> rfl

theorem intB {a : Nat} {b : Nat} (h : a ≠ b) : ((a : Int) == (b : Int)) = false := by rw [beq_eq_false_iff_ne]; omega

set_option maxHeartbeats 4000000 in
set_option maxRecDepth 100000 in
theorem refWords_long (s : ByteArray) (w : World) (hl : 65536 < s.size) :
    Calls Try.prog 14 #[.string s] w fun e w' => e = .returned (.tuple #[.slice none 0 0, .int .i64 2]) ∧ w = w' := by
  go_enter Try.func14, Try.ntmps14
  go_wp2
  go_ret2
  exact ⟨rfl, rfl⟩

set_option maxHeartbeats 4000000 in
set_option maxRecDepth 100000 in
theorem refWords_short (s : ByteArray) (w : World) (hl : s.size ≤ 65536) :
    Calls Try.prog 14 #[.string s] w fun e w' => Handed w (resOf s.data.toList) e w' ∧ Below w.heap.size w w' := by
  have hln : ¬ 65536 < s.data.toList.length := by simpa using hl
  have HLN := Lib.hid hln
  clear hln
  go_enter Try.func14, Try.ntmps14
  go_wp2_with fail
  go_loopw [5] (fun v5 wr => ∃ (k : Nat) (st : St), v5 = .int .i64 k ∧ k ≤ s.size ∧ RD w.heap.size w.heap.size st wr ∧ Below w.heap.size w wr ∧ StAt s.data.toList k st) (fun v5 _ => s.size - (intOf v5).toNat)
  case atStart =>
    refine ⟨0, st0 [], rfl, Nat.zero_le _, ⟨.slice none 0 0, .slice none 0 0, Nat.le_refl _, ?_, World.ownsRow_nil _ _ _ _, World.ownsRow_nil _ _ _ _⟩, (Below.refl _ w).alloc (Nat.le_refl _) _, StAt.start _⟩
    show (w.heap.push _)[w.heap.size]? = _
    exact Array.getElem?_push_size
  case round =>
    obtain ⟨k, st, rfl, hk, hrd, hbw, hat⟩ := hrel
    have hz := hbw.size
    obtain ⟨v1, v2, hd⟩ := hrd
    obtain ⟨c0, c1, c2, c3, c4, fz, hlt⟩ := hd.facts
    have hw1 : st.word.length ≤ 1099511627776 := by have := hat.2.2.1; omega
    have hw2 : st.words.length ≤ 1099511627776 := by have := hat.2.2.2; omega
    cases hb : st.bad with
    | true =>
      rw [hb] at c4
      have hres := hat.bad hb HLN.out
      have HRES := Lib.hid hres
      have HB := Lib.hid hb
      clear hres hb
      by_cases h1 : st.inn = 1
      · have c0' : wr.cell? ⟨w.heap.size, 0, none⟩ = some (.int .i64 1) := by rw [c0, h1]; rfl
        have HE := Lib.hid (ends_any w.heap.size w.heap.size st wr ⟨v1, v2, hd⟩ hz hw2)
        clear c0 h1
        by_cases hlt : k < s.size
        all_goals
          go_wp2_with fail
          refine HE.out.mono ?_
          rintro e w1 ⟨rfl, ⟨u1, u2, h1⟩, hb1⟩
          obtain ⟨d0, d1, d2, d3, d4, dz, dlt⟩ := h1.facts
          rw [show (stEnds st).bad = true from HB.out] at d4
          go_wp2
          go_ret2
          exact ⟨⟨_, by rw [HRES.out]; rfl, by rw [HRES.out]; exact World.ownsRow_nil _ _ _ _⟩, hbw.trans hb1⟩
      · have b1 : ((st.inn : Int) == 1) = false := intB (b := 1) h1
        have H1 := Lib.hid h1
        clear h1
        by_cases hlt : k < s.size
        · go_wp2
          go_ret2
          exact ⟨⟨_, by rw [HRES.out]; rfl, by rw [HRES.out]; exact World.ownsRow_nil _ _ _ _⟩, hbw⟩
        · go_wp2
          go_ret2
          exact ⟨⟨_, by rw [HRES.out]; rfl, by rw [HRES.out]; exact World.ownsRow_nil _ _ _ _⟩, hbw⟩
    | false =>
      rw [hb] at c4
      by_cases hks : k < s.size
      · have hc := at_list hks
        obtain ⟨c, hcc⟩ : ∃ c, s[k]'hks = c := ⟨_, rfl⟩
        rw [hcc] at hc
        have hstep := next_any w.heap.size w.heap.size st c wr ⟨v1, v2, hd⟩ hz hw1 hw2 hat.2.1 hb
        have HNX := Lib.hid (hat.next hc)
        have HSTEP := Lib.hid hstep
        have HB := Lib.hid hb
        clear hc hstep hb
        go_wp2_with fail
        refine HSTEP.out.mono ?_
        rintro e w1 ⟨rfl, h1, hb1⟩
        go_wp2
        go_roundw
        case rel => exact ⟨k + 1, step st c, by go_num, by omega, h1, hbw.trans hb1, HNX.out⟩
        case measure => simp [intOf]; omega
      · have hres := hat.done (by simpa using hks) HLN.out
        have hk8 : st.inn = 0 ∨ st.inn = 1 ∨ st.inn = 2 ∨ st.inn = 3 ∨ st.inn = 4 ∨ st.inn = 5 ∨ st.inn = 6 ∨ st.inn = 7 := by have := hat.2.1.1; omega
        rcases hk8 with hin | hin | hin | hin | hin | hin | hin | hin
        · have c0' : wr.cell? ⟨w.heap.size, 0, none⟩ = some (.int .i64 0) := by rw [c0, hin]; rfl
          have hf : fin st = some st.words := by simp [fin, hb, hin]
          rw [hf] at hres
          have HRES := Lib.hid hres
          clear hres hf c0 hin hb
          go_wp2
          go_ret2
          exact ⟨⟨_, by rw [HRES.out]; rfl, by rw [HRES.out]; exact hd.2.2.2⟩, hbw⟩
        · have c0' : wr.cell? ⟨w.heap.size, 0, none⟩ = some (.int .i64 1) := by rw [c0, hin]; rfl
          have hf : fin st = some (st.words ++ [st.word]) := by simp [fin, hb, hin]
          rw [hf] at hres
          have HRES := Lib.hid hres
          have HE := Lib.hid (ends_any w.heap.size w.heap.size st wr ⟨v1, v2, hd⟩ hz hw2)
          have HIN := Lib.hid hin
          have HB := Lib.hid hb
          clear hres hf c0 hin hb
          go_wp2_with fail
          refine HE.out.mono ?_
          rintro e w1 ⟨rfl, ⟨u1, u2, h1⟩, hb1⟩
          obtain ⟨d0, d1, d2, d3, d4, dz, dlt⟩ := h1.facts
          rw [show (stEnds st).bad = false from HB.out] at d4
          rw [show (stEnds st).inn = 1 from HIN.out] at d0
          go_wp2
          go_ret2
          exact ⟨⟨_, by rw [HRES.out]; rfl, by rw [HRES.out]; exact h1.2.2.2⟩, hbw.trans hb1⟩
        · have c0' : wr.cell? ⟨w.heap.size, 0, none⟩ = some (.int .i64 2) := by rw [c0, hin]; rfl
          have hf : fin st = none := by simp [fin, hb, hin]
          rw [hf] at hres
          have HRES := Lib.hid hres
          clear hres hf c0 hin hb
          go_wp2
          go_ret2
          exact ⟨⟨_, by rw [HRES.out]; rfl, by rw [HRES.out]; exact World.ownsRow_nil _ _ _ _⟩, hbw⟩
        · have c0' : wr.cell? ⟨w.heap.size, 0, none⟩ = some (.int .i64 3) := by rw [c0, hin]; rfl
          have hf : fin st = none := by simp [fin, hb, hin]
          rw [hf] at hres
          have HRES := Lib.hid hres
          clear hres hf c0 hin hb
          go_wp2
          go_ret2
          exact ⟨⟨_, by rw [HRES.out]; rfl, by rw [HRES.out]; exact World.ownsRow_nil _ _ _ _⟩, hbw⟩
        · have c0' : wr.cell? ⟨w.heap.size, 0, none⟩ = some (.int .i64 4) := by rw [c0, hin]; rfl
          have hf : fin st = none := by simp [fin, hb, hin]
          rw [hf] at hres
          have HRES := Lib.hid hres
          clear hres hf c0 hin hb
          go_wp2
          go_ret2
          exact ⟨⟨_, by rw [HRES.out]; rfl, by rw [HRES.out]; exact World.ownsRow_nil _ _ _ _⟩, hbw⟩
        · have c0' : wr.cell? ⟨w.heap.size, 0, none⟩ = some (.int .i64 5) := by rw [c0, hin]; rfl
          have hf : fin st = none := by simp [fin, hb, hin]
          rw [hf] at hres
          have HRES := Lib.hid hres
          clear hres hf c0 hin hb
          go_wp2
          go_ret2
          exact ⟨⟨_, by rw [HRES.out]; rfl, by rw [HRES.out]; exact World.ownsRow_nil _ _ _ _⟩, hbw⟩
        · have c0' : wr.cell? ⟨w.heap.size, 0, none⟩ = some (.int .i64 6) := by rw [c0, hin]; rfl
          have hf : fin st = some st.words := by simp [fin, hb, hin]
          rw [hf] at hres
          have HRES := Lib.hid hres
          clear hres hf c0 hin hb
          go_wp2
          go_ret2
          exact ⟨⟨_, by rw [HRES.out]; rfl, by rw [HRES.out]; exact hd.2.2.2⟩, hbw⟩
        · have c0' : wr.cell? ⟨w.heap.size, 0, none⟩ = some (.int .i64 7) := by rw [c0, hin]; rfl
          have hf : fin st = some st.words := by simp [fin, hb, hin]
          rw [hf] at hres
          have HRES := Lib.hid hres
          clear hres hf c0 hin hb
          go_wp2
          go_ret2
          exact ⟨⟨_, by rw [HRES.out]; rfl, by rw [HRES.out]; exact hd.2.2.2⟩, hbw⟩

/-- The reference's Words, of every line. -/
theorem refWords_any (s : ByteArray) (w : World) :
    Calls Try.prog 14 #[.string s] w fun e w' => Handed w (resOf s.data.toList) e w' ∧ Below w.heap.size w w' := by
  by_cases hl : 65536 < s.size
  · refine (refWords_long s w hl).mono ?_
    rintro e w' ⟨rfl, rfl⟩
    have hr : resOf s.data.toList = ([], 2) := by unfold resOf; rw [if_pos (by simpa using hl)]
    exact ⟨⟨_, by rw [hr], by rw [hr]; exact World.ownsRow_nil _ _ _ _⟩, Below.refl _ _⟩
  · exact refWords_short s w (by omega)
end Go.Proofs.Ytiocgdegaabnmaa
