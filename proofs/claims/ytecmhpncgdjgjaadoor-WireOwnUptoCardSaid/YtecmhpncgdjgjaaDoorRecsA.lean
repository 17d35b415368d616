/-
  Rows of records of the call's own, lists in them too. Conditions: none.
-/
import Derived.Test.YtecmhpncgdjgjaaDoorRdr4
import Derived.Test.YtecmhpncgdjgjaaDoorJoinPlain
namespace Go.Proofs.YtecmhpncgdjgjaaDoor
open Go.RowKit
set_option linter.unusedVariables false
set_option linter.unusedSimpArgs false

theorem infoRec : (Tryd.prog.info? 53).map (fun i => (i.zero, i.size, i.bytes)) = some (some (.agg #[.int .i64 0, .int .i64 0, .int .i64 0, .string ⟨#[]⟩, .slice none 0 0]), 5, 64) := by kernel_rfl
theorem infoRecP : ∃ i, Tryd.prog.info? 53 = some i ∧ i.zero = some (.agg #[.int .i64 0, .int .i64 0, .int .i64 0, .string ⟨#[]⟩, .slice none 0 0]) ∧ i.size = 5 ∧ i.bytes = 64 := by
  obtain ⟨i, hi, h⟩ := Option.map_eq_some_iff.1 infoRec
  simp only [Prod.mk.injEq] at h
  exact ⟨i, hi, h.1, h.2.1, h.2.2⟩

/-- A record's cells. -/
def five (x : Rec × Value) : List Value := [.int .i64 x.1.number, .int .i64 x.1.kind, .int .i64 x.1.num, .string ⟨x.1.text.toArray⟩, x.2]
def rcells (L : List (Rec × Value)) : List Value := L.flatMap five
structure RecOk (r : Rec) : Prop where
  n0 : Is64 r.number
  n1 : Is64 r.kind
  n2 : Is64 r.num
  n3 : r.text.length ≤ 140737488355328

theorem rcells_append (L M : List (Rec × Value)) : rcells (L ++ M) = rcells L ++ rcells M := by simp [rcells]
theorem rcells_at (L : List (Rec × Value)) : ∀ (k : Nat) (hk : k < L.length) (i : Nat), i < 5 → (rcells L)[k * 5 + i]? = (five (L[k]'hk))[i]? := by
  induction L with
  | nil => intro k hk; simp at hk
  | cons x L ih =>
    intro k hk i hi
    have h5 : (five x).length = 5 := rfl
    show (five x ++ rcells L)[k * 5 + i]? = _
    cases k with
    | zero => rw [List.getElem?_append_left (by rw [h5]; omega)]; simp
    | succ k =>
      rw [List.getElem?_append_right (by rw [h5]; omega), h5, show (k + 1) * 5 + i - 5 = k * 5 + i by omega]
      exact ih k (by simpa using hk) i hi

theorem ReadsR.lt {P : Nat → Prop} {w : World} {v : Value} {l : List Rec} (h : ReadsR P w v l) : ReadsR (fun k => P k ∧ k < w.heap.size) w v l := by
  induction h with
  | none a cap hc => exact .none a cap hc
  | some b off cap l us hP hl hc hr hi ih =>
    rcases Nat.eq_zero_or_pos l.length with h0 | h0
    · have : l = [] := List.eq_nil_of_length_eq_zero h0
      subst this
      exact .none _ _ hc
    · exact .some b off cap l us ⟨hP, cell_lt (hr 0 h0).c0⟩ hl hc hr ih

/-- A row of records of the call's own. -/
def OwnR (w : World) (B : Nat) (v : Value) (L : List (Rec × Value)) : Prop := w.ownsRow B 53 5 v L.length (rcells L)
/-- And the lists in it are others. -/
structure LOk (w : World) (B : Nat) (v : Value) (L : List (Rec × Value)) : Prop where
  own : OwnR w B v L
  ok : ∀ x ∈ L, RecOk x.1
  inn : ∀ x ∈ L, ReadsR (fun k => B ≤ k ∧ v.ownBlock ≠ some k) w x.2 x.1.inner

theorem LOk.nil (w : World) (B : Nat) : LOk w B (.slice none 0 0) [] := ⟨World.ownsRow_nil _ _ _ _, fun x hx => by simp at hx, fun x hx => by simp at hx⟩

theorem LOk.reads {w : World} {B : Nat} {v : Value} {L : List (Rec × Value)} (h : LOk w B v L) : ReadsR (fun k => B ≤ k) w v (L.map (·.1)) := by
  have ho := h.own
  unfold OwnR at ho
  rcases ho.2 with ⟨rfl, h0⟩ | ⟨g, cap, cur, rfl, hbg, hg, hnc, hcm, rest⟩
  · have : L = [] := List.eq_nil_of_length_eq_zero h0
    subst this
    exact .none _ _ (by omega)
  · have hc : ∀ k (hk : k < L.length) i, i < 5 → w.cell? ⟨g, k * 5 + i, none⟩ = (five (L[k]'hk))[i]? := fun k hk i hi => by
      rw [ho.cellAt _ (by omega), rcells_at L k hk i hi]
    have hlen : (L.map (·.1)).length = L.length := List.length_map _
    have hX : ReadsR (fun k => B ≤ k) w (.slice (Option.some ⟨g, 0, Option.none⟩) (L.map (·.1)).length cap) (L.map (·.1)) := by
      refine .some g 0 cap (L.map (·.1)) (fun k => ((L[k]?).getD (Rec.mk 0 0 0 [] [], .bool false)).2) hbg (by rw [hlen]; exact hnc) (by unfold maxLen at hcm; omega) (fun k hk => ?_) (fun k hk => ?_)
      · have hk' : k < L.length := by rwa [hlen] at hk
        have ho := h.ok _ (List.getElem_mem hk')
        rw [List.getElem_map, Nat.zero_add, List.getElem?_eq_getElem hk']
        exact ⟨hc k hk' 0 (by omega), hc k hk' 1 (by omega), hc k hk' 2 (by omega), hc k hk' 3 (by omega), hc k hk' 4 (by omega), ho.n0, ho.n1, ho.n2, ho.n3⟩
      · have hk' : k < L.length := by rwa [hlen] at hk
        rw [List.getElem_map, List.getElem?_eq_getElem hk']
        exact (h.inn _ (List.getElem_mem hk')).mono fun b hb => hb.1
    rw [hlen] at hX
    exact hX

theorem LOk.turn {w w' : World} {B p : Nat} {v : Value} {L : List (Rec × Value)} (h : LOk w B v L) (ht : Turn w.heap.size p w w') (hp : p < B) : LOk w' B v L := by
  refine ⟨?_, h.ok, fun x hx => ?_⟩
  · have ho := h.own
    unfold OwnR at ho ⊢
    refine ⟨ho.1, ?_⟩
    rcases ho.2 with h0 | ⟨g, cap, cur, rfl, hbg, hg, rest⟩
    · exact .inl h0
    · exact .inr ⟨g, cap, cur, rfl, hbg, (ht.block g (Array.getElem?_eq_some_iff.1 hg).1 (by omega)).trans hg, rest⟩
  · exact (h.inn x hx).held fun b hb hlt => ht.block b hlt (by omega)

theorem LOk.put {w1 w' : World} {B : Nat} {v v' : Value} {L : List (Rec × Value)} {x : Rec × Value} (h : LOk w1 B v L) (hown : w'.ownsRow B 53 5 v' (L.length + 1) (rcells L ++ five x)) (hg : w1.grownBy w' v.ownBlock)
    (hat : v'.ownBlock = v.ownBlock ∨ v'.ownBlock = some w1.heap.size) (hx : RecOk x.1) (hi : ReadsR (fun k => B ≤ k ∧ v.ownBlock ≠ some k) w1 x.2 x.1.inner) : LOk w' B v' (L ++ [x]) := by
  have hk : ∀ u l, ReadsR (fun k => B ≤ k ∧ v.ownBlock ≠ some k) w1 u l → ReadsR (fun k => B ≤ k ∧ v'.ownBlock ≠ some k) w' u l := fun u l hr => by
    refine (hr.lt.held (fun b hb hlt => hg.block b hlt hb.1.2.symm)).mono fun b hb => ⟨hb.1.1, ?_⟩
    rcases hat with e | e
    · rw [e]; exact hb.1.2
    · rw [e]; intro e2; cases e2; exact absurd hb.2 (Nat.lt_irrefl _)
  refine ⟨?_, fun y hy => ?_, fun y hy => ?_⟩
  · unfold OwnR
    rw [rcells_append, List.length_append]
    simpa [rcells] using hown
  · rcases List.mem_append.1 hy with h1 | h1
    · exact h.ok y h1
    · rw [List.mem_singleton.1 h1]; exact hx
  · rcases List.mem_append.1 hy with h1 | h1
    · exact hk _ _ (h.inn y h1)
    · rw [List.mem_singleton.1 h1]; exact hk _ _ hi

/-- What records leaves. -/
def RecsOut (w : World) (p : Nat) (st : Bool) (b : List UInt8) (a : Option Addr) (cap : Nat) (r : List Rec × Int × Nat) (e : Ending) (w' : World) : Prop :=
  ∃ v, e = .returned (.tuple #[v, .int .i64 r.2.1]) ∧ ReadsR (fun k => w.heap.size ≤ k) w' v r.1 ∧ (r.2.1 ≠ 0 → v = .slice none 0 0) ∧ RdAt w' p st b r.2.2 a cap ∧ Turn w.heap.size p w w'
end Go.Proofs.YtecmhpncgdjgjaaDoor
