/-
  Records in memory: a list of records that lies there, lists in it too; what right and join make of them, in plain Lean. Conditions: none.
-/
import Derived.Test.YtecmhpncgdjgjaaDoorKinds2
namespace Go.Proofs.YtecmhpncgdjgjaaDoor
open Go.RowKit
set_option linter.unusedVariables false

/-- A record. -/
inductive Rec where
  | mk (number kind num : Int) (text : List UInt8) (inner : List Rec)
def Rec.number : Rec → Int | .mk n _ _ _ _ => n
def Rec.kind : Rec → Int | .mk _ k _ _ _ => k
def Rec.num : Rec → Int | .mk _ _ x _ _ => x
def Rec.text : Rec → List UInt8 | .mk _ _ _ t _ => t
def Rec.inner : Rec → List Rec | .mk _ _ _ _ i => i

/-- A record's five cells. -/
structure RecAt (w : World) (b o : Nat) (r : Rec) (u : Value) : Prop where
  c0 : w.cell? ⟨b, o, none⟩ = some (.int .i64 r.number)
  c1 : w.cell? ⟨b, o + 1, none⟩ = some (.int .i64 r.kind)
  c2 : w.cell? ⟨b, o + 2, none⟩ = some (.int .i64 r.num)
  c3 : w.cell? ⟨b, o + 3, none⟩ = some (.string ⟨r.text.toArray⟩)
  c4 : w.cell? ⟨b, o + 4, none⟩ = some u
  n0 : Is64 r.number
  n1 : Is64 r.kind
  n2 : Is64 r.num
  n3 : r.text.length ≤ 140737488355328

/-- A slice value reads as the records l; the blocks of all lists are among P. -/
inductive ReadsR (P : Nat → Prop) (w : World) : Value → List Rec → Prop
  | none (a : Option Addr) (cap : Nat) (hc : cap ≤ 9223372036854775807) : ReadsR P w (.slice a 0 cap) []
  | some (b off cap : Nat) (l : List Rec) (us : Nat → Value) (hP : P b) (hl : l.length ≤ cap) (hc : cap ≤ 9223372036854775807)
      (hr : ∀ k (hk : k < l.length), RecAt w b (off + k * 5) (l[k]'hk) (us k)) (hi : ∀ k (hk : k < l.length), ReadsR P w (us k) (l[k]'hk).inner) :
      ReadsR P w (.slice (some ⟨b, off, none⟩) l.length cap) l

/-- Those blocks are as they were. -/
def Held (P : Nat → Prop) (w w' : World) : Prop := ∀ b, P b → b < w.heap.size → w'.heap[b]? = w.heap[b]?

theorem RecAt.held {w w' : World} {b o : Nat} {r : Rec} {u : Value} (h : RecAt w b o r u) (hb : w'.heap[b]? = w.heap[b]?) : RecAt w' b o r u :=
  ⟨(World.cell?_of_block (w := w) hb).trans h.c0, (World.cell?_of_block (w := w) hb).trans h.c1, (World.cell?_of_block (w := w) hb).trans h.c2, (World.cell?_of_block (w := w) hb).trans h.c3, (World.cell?_of_block (w := w) hb).trans h.c4, h.n0, h.n1, h.n2, h.n3⟩

theorem ReadsR.held {P : Nat → Prop} {w w' : World} {v : Value} {l : List Rec} (h : ReadsR P w v l) (hk : Held P w w') : ReadsR P w' v l := by
  induction h with
  | none a cap hc => exact .none a cap hc
  | some b off cap l us hP hl hc hr hi ih =>
    refine .some b off cap l us hP hl hc (fun k h => ?_) ih
    exact (hr k h).held (hk b hP (cell_lt (hr k h).c0))
theorem ReadsR.mono {P Q : Nat → Prop} {w : World} {v : Value} {l : List Rec} (h : ReadsR P w v l) (hq : ∀ b, P b → Q b) : ReadsR Q w v l := by
  induction h with
  | none a cap hc => exact .none a cap hc
  | some b off cap l us hP hl hc hr hi ih => exact .some b off cap l us (hq b hP) hl hc hr ih

/-- Reads, in whatever blocks. -/
def Reads (w : World) (v : Value) (l : List Rec) : Prop := ReadsR (fun _ => True) w v l
theorem Reads.later {w w' : World} {v : Value} {l : List Rec} (h : Reads w v l) (hb : Below w.heap.size w w') : Reads w' v l :=
  ReadsR.held h fun b _ hlt => hb.block b hlt

theorem Reads.form {w : World} {v : Value} {l : List Rec} (h : Reads w v l) : ∃ a cap, v = .slice a l.length cap ∧ l.length ≤ cap ∧ cap ≤ 9223372036854775807 ∧
    (l = [] ∨ ∃ (b off : Nat) (us : Nat → Value), a = some ⟨b, off, none⟩ ∧ (∀ k (hk : k < l.length), RecAt w b (off + k * 5) (l[k]'hk) (us k)) ∧ ∀ k (hk : k < l.length), Reads w (us k) (l[k]'hk).inner) := by
  cases h with
  | none a cap hc => exact ⟨a, cap, rfl, by simp, hc, .inl rfl⟩
  | some b off cap l us hP hl hc hr hi => exact ⟨_, cap, rfl, hl, hc, .inr ⟨b, off, us, rfl, hr, hi⟩⟩

/-- May a record's fields be so? -/
def fitsV (r : Rec) : Bool :=
  if r.kind = 0 ∨ r.kind = 1 then r.text.isEmpty && (r.inner.length : Int) == 0
  else if r.kind = 2 then r.num == 0 && (r.inner.length : Int) == 0
  else if r.kind = 3 then r.num == 0 && r.text.isEmpty
  else (r.text.isEmpty && (r.inner.length : Int) == 0) && (decide (0 ≤ r.num) && decide (r.num < 4294967296))

mutual
/-- The error of a record that may not be. -/
def rightR : Rec → Int
  | .mk n k x t i => if n < 1 ∨ 536870911 < n then 24 else if k < 0 ∨ 6 ≤ k ∨ k = 4 then 23 else if fitsV (.mk n k x t i) = false then 1 else if k = 3 then rightL i else 0
/-- The error of the first record that may not be. -/
def rightL : List Rec → Int
  | [] => 0
  | r :: rs => if rightR r = 0 then rightL rs else rightR r
end

theorem rightL_take {l : List Rec} (k : Nat) (hk : k < l.length) : rightL (l.drop k) = if rightR (l[k]'hk) = 0 then rightL (l.drop (k + 1)) else rightR (l[k]'hk) := by
  rw [List.drop_eq_getElem_cons hk, rightL]

theorem inner_size {l : List Rec} (k : Nat) (hk : k < l.length) : SizeOf.sizeOf (l[k]'hk).inner < SizeOf.sizeOf l := by
  have h1 := List.sizeOf_lt_of_mem (List.getElem_mem hk)
  cases h : l[k]'hk with
  | mk n kd x t i =>
    rw [h] at h1
    simp only [Rec.inner, Rec.mk.sizeOf_spec] at h1 ⊢
    omega
end Go.Proofs.YtecmhpncgdjgjaaDoor
