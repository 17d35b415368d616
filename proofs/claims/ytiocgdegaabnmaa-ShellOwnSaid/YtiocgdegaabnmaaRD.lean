/-
  The reference's Reader in memory, and its methods ends and plain, walked. Conditions: the Reader is the call's own, its lists are far below what memory holds.
-/
import Derived.Test.YtiocgdegaabnmaaSmall
import Derived.Lib.FrozenHead
import Derived.Deep.AppendLies
import Derived.Deep.RegionLaw
import Derived.Laws.Tables
namespace Go.Proofs.Ytiocgdegaabnmaa
open Go.RowKit

/-- A word as a value. -/
def strW (l : List UInt8) : Value := .string ⟨l.toArray⟩

/-- The Reader in block R stands as the machine does; its two lists are the call's own. -/
def RDat (B R : Nat) (s : St) (v1 v2 : Value) (w : World) : Prop :=
  B ≤ R ∧ w.heap[R]? = some (.cells #[.int .i64 s.inn, v1, v2, .int .i64 s.digit, .bool s.bad] 48 (0, 0)) ∧
    w.ownsRow B 5 1 v1 s.word.length (Lib.byteCells s.word) ∧ w.ownsRow B 9 1 v2 s.words.length (s.words.map strW)
def RD (B R : Nat) (s : St) (w : World) : Prop := ∃ v1 v2, RDat B R s v1 v2 w

theorem infoB : (Try.prog.info? 5).map (fun i => (i.zero, i.size, i.bytes)) = some (some (.int .u8 0), 1, 1) := by kernel_rfl
theorem infoS : (Try.prog.info? 9).map (fun i => (i.zero, i.size, i.bytes)) = some (some (.string ⟨#[]⟩), 1, 16) := by kernel_rfl

section
variable {w w' : World} {base : Nat} {e : TypeId} {size : Nat} {v : Value} {n : Nat} {xs : List Value}

theorem own_ne (h : w.ownsRow base e size v n xs) {R : Nat} {cs : Array Value} {T : TypeId} {fr : Nat × Nat} (hR : w.heap[R]? = some (.cells cs T fr)) (hT : T ≠ e) : v.ownBlock ≠ some R := by
  intro he
  rcases h.2 with ⟨rfl, _⟩ | ⟨g, cap, cur, rfl, _, hg, _⟩
  · cases he
  · simp [Value.ownBlock] at he
    subst he
    rw [hg] at hR
    cases hR
    exact hT rfl

theorem own_apart (h : w.ownsRow base e size v n xs) {e2 : TypeId} {size2 n2 : Nat} {u : Value} {ys : List Value} (h2 : w.ownsRow base e2 size2 u n2 ys) (hT : e ≠ e2) : v.ownBlock = none ∨ v.ownBlock ≠ u.ownBlock := by
  rcases h.2 with ⟨rfl, _⟩ | ⟨g, cap, cur, rfl, _, hg, _⟩
  · exact .inl rfl
  · right
    intro he
    exact own_ne h2 hg hT he.symm

theorem own_form (h : w.ownsRow base e size v n xs) : ∃ ao n' cap, v = .slice ao n' cap := by
  rcases h.2 with ⟨rfl, _⟩ | ⟨g, cap, cur, rfl, _⟩
  · exact ⟨_, _, _, rfl⟩
  · exact ⟨_, _, _, rfl⟩

/-- A store elsewhere. -/
theorem own_store (h : w.ownsRow base e size v n xs) {a : Addr} (ha : v.ownBlock ≠ some a.block) (u : Value) : (w.setCell a u).ownsRow base e size v n xs := by
  refine ⟨h.1, ?_⟩
  rcases h.2 with hn | ⟨g, cap, cur, rfl, hbg, hg, rest⟩
  · exact .inl hn
  · refine .inr ⟨g, cap, cur, rfl, hbg, ?_, rest⟩
    rw [Below.heap_setCell _ _ _ _ (fun e => ha (by simp [Value.ownBlock, e]))]
    exact hg
end

theorem heap_store {w : World} {R i : Nat} {cs : Array Value} {T : TypeId} {fr : Nat × Nat} (h : w.heap[R]? = some (.cells cs T fr)) (u : Value) : (w.setCell ⟨R, i, none⟩ u).heap[R]? = some (.cells (cs.setIfInBounds i u) T fr) := by
  rw [setCell_eq_setRow w R i cs T fr u h, setRow_heap w R cs _ T fr h]

/-- What a call that goes on with the Reader leaves. -/
def Goes (B R : Nat) (s : St) (w : World) (e : Ending) (w' : World) : Prop := e = .returned (.tuple #[]) ∧ RD B R s w' ∧ Below B w w'

theorem RDat.facts {B R : Nat} {s : St} {v1 v2 : Value} {w : World} (h : RDat B R s v1 v2 w) :
    w.cell? ⟨R, 0, none⟩ = some (.int .i64 s.inn) ∧ w.cell? ⟨R, 1, none⟩ = some v1 ∧ w.cell? ⟨R, 2, none⟩ = some v2 ∧ w.cell? ⟨R, 3, none⟩ = some (.int .i64 s.digit) ∧ w.cell? ⟨R, 4, none⟩ = some (.bool s.bad) ∧ (∀ j, w.frozen? ⟨R, j, none⟩ = false) ∧ R < w.heap.size := by
  obtain ⟨_, hb, _, _⟩ := h
  refine ⟨?_, ?_, ?_, ?_, ?_, fun j => Lib.frozen_of_heap hb j, (Array.getElem?_eq_some_iff.1 hb).1⟩ <;> (rw [Lib.cell_of_heap hb]; rfl)

/-- string(b) of a row of bytes that the call owns. -/
theorem conv_row {B : Nat} {v : Value} {l : List UInt8} {w : World} (h : w.ownsRow B 5 1 v l.length (Lib.byteCells l)) (W : World) (hW : ∀ a, W.cell? a = w.cell? a) : (convert 35 9 v).run Try.prog W = .ok (strW l) W := by
  rcases h.2 with ⟨rfl, h0⟩ | ⟨g, cap, cur, rfl, _, hg, _⟩
  · rw [run_convert_bytes_nil W 35 5 Try.underlying35 Try.underlying5 0 0 9 Try.underlying9]
    obtain rfl : l = [] := List.eq_nil_of_length_eq_zero h0
    rfl
  · refine run_convert_bytes_back W 35 9 5 ⟨g, 0, none⟩ cap l Try.underlying35 Try.underlying5 Try.underlying9 fun j hj => ?_
    rw [hW]
    exact h.cells (g := g) rfl j _ (by simp [Lib.byteCells, List.getElem?_eq_getElem hj])

theorem RDat.own1 {B R : Nat} {s : St} {v1 v2 : Value} {w : World} (h : RDat B R s v1 v2 w) (j : Nat) (u : Value) : (w.setCell ⟨R, j, none⟩ u).ownsRow B 5 1 v1 s.word.length (Lib.byteCells s.word) :=
  own_store h.2.2.1 (own_ne h.2.2.1 h.2.1 (by decide)) u
theorem RDat.own2 {B R : Nat} {s : St} {v1 v2 : Value} {w : World} (h : RDat B R s v1 v2 w) (j : Nat) (u : Value) : (w.setCell ⟨R, j, none⟩ u).ownsRow B 9 1 v2 s.words.length (s.words.map strW) :=
  own_store h.2.2.2 (own_ne h.2.2.2 h.2.1 (by decide)) u

theorem RDat.setIn {B R : Nat} {s : St} {v1 v2 : Value} {w : World} (h : RDat B R s v1 v2 w) (k : Nat) : RDat B R { s with inn := k } v1 v2 (w.setCell ⟨R, 0, none⟩ (.int .i64 k)) :=
  ⟨h.1, heap_store h.2.1 _, h.own1 0 _, h.own2 0 _⟩
theorem RDat.setDigit {B R : Nat} {s : St} {v1 v2 : Value} {w : World} (h : RDat B R s v1 v2 w) (k : Int) : RDat B R { s with digit := k } v1 v2 (w.setCell ⟨R, 3, none⟩ (.int .i64 k)) :=
  ⟨h.1, heap_store h.2.1 _, h.own1 3 _, h.own2 3 _⟩
theorem RDat.setBad {B R : Nat} {s : St} {v1 v2 : Value} {w : World} (h : RDat B R s v1 v2 w) (k : Bool) : RDat B R { s with bad := k } v1 v2 (w.setCell ⟨R, 4, none⟩ (.bool k)) :=
  ⟨h.1, heap_store h.2.1 _, h.own1 4 _, h.own2 4 _⟩

theorem RDat.alloc {B R : Nat} {s : St} {v1 v2 : Value} {w : World} (h : RDat B R s v1 v2 w) (o : Obj) : RDat B R s v1 v2 (w.alloc o) :=
  ⟨h.1, (Lib.alloc_old w o R (Array.getElem?_eq_some_iff.1 h.2.1).1).trans h.2.1, h.2.2.1.alloc o, h.2.2.2.alloc o⟩
theorem RDat.drew {B R : Nat} {s : St} {v1 v2 : Value} {w : World} (h : RDat B R s v1 v2 w) : RDat B R s v1 v2 w.drew := h

/-- A byte that comes behind the word. -/
theorem RDat.byte {B R : Nat} {s : St} {v1 v2 v' : Value} {w w2 : World} (h : RDat B R s v1 v2 w) (c : UInt8) (hown : w2.ownsRow B 5 1 v' (s.word.length + 1) (Lib.byteCells s.word ++ [.int .u8 c.toNat])) (hg : w.grownBy w2 v1.ownBlock) :
    w2.cell? ⟨R, 1, none⟩ = some v1 ∧ w2.frozen? ⟨R, 1, none⟩ = false ∧ RDat B R { s with word := s.word ++ [c] } v' v2 (w2.setCell ⟨R, 1, none⟩ v') := by
  have hR : w2.heap[R]? = some (.cells #[.int .i64 s.inn, v1, v2, .int .i64 s.digit, .bool s.bad] 48 (0, 0)) := by
    rw [hg.block R (Array.getElem?_eq_some_iff.1 h.2.1).1 (fun e => own_ne h.2.2.1 h.2.1 (by decide) e.symm)]
    exact h.2.1
  have h2 : w2.ownsRow B 9 1 v2 s.words.length (s.words.map strW) := h.2.2.2.kept hg (own_apart h.2.2.2 h.2.2.1 (by decide))
  have h1 : w2.ownsRow B 5 1 v' (s.word ++ [c]).length (Lib.byteCells (s.word ++ [c])) := by
    rw [Lib.byteCells_append, List.length_append]
    simpa [Lib.byteCells] using hown
  refine ⟨by rw [Lib.cell_of_heap hR]; rfl, Lib.frozen_of_heap hR 1, h.1, heap_store hR _, ?_, ?_⟩
  · exact own_store h1 (own_ne h1 hR (by decide)) _
  · exact own_store h2 (own_ne h2 hR (by decide)) _

theorem RDat.byte2 {B R : Nat} {s : St} {v1 v2 v' : Value} {w w2 : World} (h : RDat B R s v1 v2 w) (c : UInt8) (hown : w2.ownsRow B 5 1 v' (s.word.length + 1) (Lib.byteCells s.word ++ [.int .u8 c.toNat])) (hg : w.grownBy w2 v1.ownBlock) :
    w2.cell? ⟨R, 1, none⟩ = some v1 ∧ w2.cell? ⟨R, 0, none⟩ = some (.int .i64 s.inn) ∧ w2.frozen? ⟨R, 1, none⟩ = false ∧ w2.frozen? ⟨R, 0, none⟩ = false ∧ RDat B R { s with word := s.word ++ [c] } v' v2 (w2.setCell ⟨R, 1, none⟩ v') := by
  have hR : w2.heap[R]? = some (.cells #[.int .i64 s.inn, v1, v2, .int .i64 s.digit, .bool s.bad] 48 (0, 0)) := by
    rw [hg.block R (Array.getElem?_eq_some_iff.1 h.2.1).1 (fun e => own_ne h.2.2.1 h.2.1 (by decide) e.symm)]
    exact h.2.1
  exact ⟨(h.byte c hown hg).1, by rw [Lib.cell_of_heap hR]; rfl, (h.byte c hown hg).2.1, Lib.frozen_of_heap hR 0, (h.byte c hown hg).2.2⟩

/-- The word is put behind the words. -/
theorem RDat.wordPut {B R : Nat} {s : St} {v1 v2 v' : Value} {w w2 : World} (h : RDat B R s v1 v2 w) (hown : w2.ownsRow B 9 1 v' (s.words.length + 1) (s.words.map strW ++ [strW s.word])) (hg : w.grownBy w2 v2.ownBlock) :
    w2.cell? ⟨R, 2, none⟩ = some v2 ∧ w2.cell? ⟨R, 1, none⟩ = some v1 ∧ w2.frozen? ⟨R, 2, none⟩ = false ∧ w2.frozen? ⟨R, 1, none⟩ = false ∧ RDat B R { s with words := s.words ++ [s.word] } v1 v' (w2.setCell ⟨R, 2, none⟩ v') := by
  have hR : w2.heap[R]? = some (.cells #[.int .i64 s.inn, v1, v2, .int .i64 s.digit, .bool s.bad] 48 (0, 0)) := by
    rw [hg.block R (Array.getElem?_eq_some_iff.1 h.2.1).1 (fun e => own_ne h.2.2.2 h.2.1 (by decide) e.symm)]
    exact h.2.1
  have h1 : w2.ownsRow B 5 1 v1 s.word.length (Lib.byteCells s.word) := h.2.2.1.kept hg (own_apart h.2.2.1 h.2.2.2 (by decide))
  have h2 : w2.ownsRow B 9 1 v' (s.words ++ [s.word]).length ((s.words ++ [s.word]).map strW) := by
    rw [List.length_append, List.map_append]
    simpa using hown
  refine ⟨by rw [Lib.cell_of_heap hR]; rfl, by rw [Lib.cell_of_heap hR]; rfl, Lib.frozen_of_heap hR 2, Lib.frozen_of_heap hR 1, h.1, heap_store hR _, ?_, ?_⟩
  · exact own_store h1 (own_ne h1 hR (by decide)) _
  · exact own_store h2 (own_ne h2 hR (by decide)) _

theorem RDat.clear {B R : Nat} {s : St} {v1 v2 : Value} {w : World} (h : RDat B R s v1 v2 w) : RDat B R { s with word := [] } (.slice none 0 0) v2 (w.setCell ⟨R, 1, none⟩ (.slice none 0 0)) :=
  ⟨h.1, heap_store h.2.1 _, World.ownsRow_nil _ _ _ _, h.own2 1 _⟩

set_option maxHeartbeats 2000000 in
set_option maxRecDepth 100000 in
theorem plain_ok (B R : Nat) (s : St) (c : UInt8) (w : World) (h : RD B R s w) (hB : B ≤ w.heap.size) (hl : s.word.length ≤ 1099511627776) (hc : 32 ≤ (c.toNat : Int)) (h127 : ((c.toNat : Int) == 127) = false) (h34 : ((c.toNat : Int) == 34) = false) (h92 : ((c.toNat : Int) == 92) = false) :
    Calls Try.prog 31 #[.pointer (some ⟨R, 0, none⟩), .int .u8 c.toNat] w (Goes B R { s with word := s.word ++ [c] } w) := by
  obtain ⟨v1, v2, h⟩ := h
  obtain ⟨c0, c1, c2, c3, c4, fz, hlt⟩ := h.facts
  obtain ⟨i0, hi, hz0, hz1, hz2⟩ := info_parts infoB
  have hbl := Lib.byteCells_length s.word
  go_enter Try.func31, Try.ntmps31
  go_wp2_with (at_builtin; refine wpList_append_own _ rfl _ _ 35 rfl B 5 i0 (.int .u8 0) 1 1 Try.underlying35 hi hz0 hz1 hz2 rfl (by decide) _ _ _ rfl (h.2.2.1.alloc _) ⟨w.heap.size, 0, none⟩ 1 1 [.int .u8 c.toNat] rfl rfl ?c1 ?c2 ?c3 ?c4 ?c5 ?_)
  case c1 =>
    intro j u hj
    match j, hj with
    | 0, hj => simp at hj; subst hj; simp [Addr.add]
  case c2 => intro u hu; simp at hu; subst hu; rfl
  case c3 => unfold maxLen; omega
  case c4 => omega
  case c5 => simp; omega
  intro v' w2 hown' hgrow _
  obtain ⟨ao, n', cap, rfl⟩ := own_form hown'
  obtain ⟨d1, f1, hfin⟩ := (h.alloc _).byte c hown' hgrow
  go_wp2
  go_end0
  exact ⟨rfl, ⟨_, _, hfin⟩, (((Below.refl B w).alloc hB _).grown hgrow (by simp; omega) (fun k hk => (h.2.2.1.lt k hk).1)).setCell (p := ⟨R, 1, none⟩) h.1 _⟩
end Go.Proofs.Ytiocgdegaabnmaa
