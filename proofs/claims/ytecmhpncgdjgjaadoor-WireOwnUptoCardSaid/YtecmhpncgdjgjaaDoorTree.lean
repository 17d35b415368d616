/-
  Records that the call has made: each list of them in a block of its own, no two lists in one block. Conditions: none.
-/
import Derived.Test.YtecmhpncgdjgjaaDoorRecs
import Derived.Test.YtecmhpncgdjgjaaDoorTwins
namespace Go.Proofs.YtecmhpncgdjgjaaDoor
open Go.RowKit
set_option linter.unusedVariables false
set_option linter.unusedSimpArgs false

/-- Each list in a block of its own; the blocks are among P. -/
inductive OwnT (w : World) : (Nat → Prop) → Value → List Rec → Prop
  | none (P : Nat → Prop) : OwnT w P (.slice none 0 0) []
  | some (P : Nat → Prop) (g cap : Nat) (L : List (Rec × Value)) (Ps : Nat → Nat → Prop) (hP : P g)
      (ho : w.ownsRow 0 53 5 (.slice (some ⟨g, 0, none⟩) L.length cap) L.length (rcells L)) (hok : ∀ x ∈ L, RecOk x.1)
      (hin : ∀ k b, Ps k b → P b ∧ b ≠ g) (hap : ∀ j k b, j ≠ k → Ps j b → ¬ Ps k b)
      (hk : ∀ k (h : k < L.length), OwnT w (Ps k) (L[k]'h).2 (L[k]'h).1.inner) :
      OwnT w P (.slice (some ⟨g, 0, none⟩) L.length cap) (L.map (·.1))

theorem OwnT.mono {w : World} {P Q : Nat → Prop} {v : Value} {l : List Rec} (h : OwnT w P v l) (hq : ∀ b, P b → Q b) : OwnT w Q v l := by
  cases h with
  | none => exact .none _
  | some _ g cap L Ps hP ho hok hin hap hk => exact .some Q g cap L Ps (hq _ hP) ho hok (fun k b hb => ⟨hq _ (hin k b hb).1, (hin k b hb).2⟩) hap hk
theorem OwnT.held {P : Nat → Prop} {w w' : World} {v : Value} {l : List Rec} (h : OwnT w P v l) (hk : Held P w w') : OwnT w' P v l := by
  induction h with
  | none => exact .none _
  | some P g cap L Ps hP ho hok hin hap _ ih =>
    refine .some P g cap L Ps hP ?_ hok hin hap fun k h => ih k h fun b hb hlt => hk b (hin k b hb).1 hlt
    refine ⟨ho.1, ?_⟩
    rcases ho.2 with ⟨e, _⟩ | ⟨g', cap', cur, e, hb, hg, rest⟩
    · cases e
    · injection e with e1 e2 e3
      injection e1 with e4
      injection e4 with e5
      subst e5 e3
      exact .inr ⟨g, cap, cur, rfl, hb, (hk g hP (Array.getElem?_eq_some_iff.1 hg).1).trans hg, rest⟩
theorem OwnT.lt {P : Nat → Prop} {w : World} {v : Value} {l : List Rec} (h : OwnT w P v l) : OwnT w (fun k => P k ∧ k < w.heap.size) v l := by
  induction h with
  | none => exact .none _
  | some P g cap L Ps hP ho hok hin hap _ ih =>
    refine .some _ g cap L (fun k b => Ps k b ∧ b < w.heap.size) ⟨hP, (ho.lt g rfl).2⟩ ho hok (fun k b hb => ⟨⟨(hin k b hb.1).1, hb.2⟩, (hin k b hb.1).2⟩) (fun j k b hjk h1 h2 => hap j k b hjk h1.1 h2.1) ih
theorem OwnT.later {P : Nat → Prop} {w w' : World} {v : Value} {l : List Rec} (h : OwnT w P v l) (hb : Below w.heap.size w w') : OwnT w' P v l := h.held fun b _ hlt => hb.block b hlt
theorem OwnT.reads {P : Nat → Prop} {w : World} {v : Value} {l : List Rec} (h : OwnT w P v l) : ReadsR P w v l := by
  induction h with
  | none => exact .none _ _ (by omega)
  | some P g cap L Ps hP ho hok hin hap _ ih =>
    have hc : ∀ k (hk : k < L.length) i, i < 5 → w.cell? ⟨g, k * 5 + i, Option.none⟩ = (five (L[k]'hk))[i]? := fun k hk i hi => by
      rw [ho.cellAt _ (by omega), rcells_at L k hk i hi]
    have hlen : (L.map (·.1)).length = L.length := List.length_map _
    obtain ⟨_, _, e, hn, hm⟩ := tw_slice ho
    injection e with e1 e2 e3
    subst e1 e3
    have hX : ReadsR P w (.slice (Option.some ⟨g, 0, Option.none⟩) (L.map (·.1)).length cap) (L.map (·.1)) := by
      refine .some g 0 cap (L.map (·.1)) (fun k => ((L[k]?).getD (Rec.mk 0 0 0 [] [], .bool false)).2) hP (by rw [hlen]; exact hn) hm (fun k hk => ?_) (fun k hk => ?_)
      · have hk' : k < L.length := by rwa [hlen] at hk
        have ho := hok _ (List.getElem_mem hk')
        rw [List.getElem_map, Nat.zero_add, List.getElem?_eq_getElem hk']
        exact ⟨hc k hk' 0 (by omega), hc k hk' 1 (by omega), hc k hk' 2 (by omega), hc k hk' 3 (by omega), hc k hk' 4 (by omega), ho.n0, ho.n1, ho.n2, ho.n3⟩
      · have hk' : k < L.length := by rwa [hlen] at hk
        rw [List.getElem_map, List.getElem?_eq_getElem hk']
        exact (ih k hk').mono fun b hb => (hin k b hb).1
    rw [hlen] at hX
    exact hX
theorem OwnT.form {P : Nat → Prop} {w : World} {v : Value} {l : List Rec} (h : OwnT w P v l) : ∃ a cap, v = .slice a l.length cap ∧ l.length ≤ cap ∧ cap ≤ 9223372036854775807 := by
  cases h with
  | none => exact ⟨_, _, rfl, Nat.le_refl _, by omega⟩
  | some _ g cap L Ps hP ho hok hin hap hk =>
    obtain ⟨_, _, e, hn, hm⟩ := tw_slice ho
    injection e with e1 e2 e3
    subst e1 e3
    exact ⟨_, _, by rw [List.length_map], by rw [List.length_map]; exact hn, hm⟩

/-- A row of records of the call's own, the lists in it too. -/
structure LOkT (w : World) (B : Nat) (v : Value) (L : List (Rec × Value)) : Prop where
  own : OwnR w B v L
  ok : ∀ x ∈ L, RecOk x.1
  inn : ∃ Ps : Nat → Nat → Prop, (∀ k b, Ps k b → B ≤ b ∧ v.ownBlock ≠ some b ∧ b < w.heap.size) ∧ (∀ j k b, j ≠ k → Ps j b → ¬ Ps k b) ∧ ∀ k (h : k < L.length), OwnT w (Ps k) (L[k]'h).2 (L[k]'h).1.inner

theorem LOkT.nil (w : World) (B : Nat) : LOkT w B (.slice none 0 0) [] := ⟨World.ownsRow_nil _ _ _ _, fun x hx => by simp at hx, fun _ _ => False, (fun _ _ h => h.elim), (fun _ _ _ _ h => h.elim), fun k h => by simp at h⟩
theorem LOkT.reads {w : World} {B : Nat} {v : Value} {L : List (Rec × Value)} (h : LOkT w B v L) : OwnT w (fun k => B ≤ k) v (L.map (·.1)) := by
  have ho := h.own
  unfold OwnR at ho
  obtain ⟨Ps, h1, h2, h3⟩ := h.inn
  rcases ho.2 with ⟨rfl, h0⟩ | ⟨g, cap, cur, rfl, hbg, _⟩
  · have : L = [] := List.eq_nil_of_length_eq_zero h0
    subst this
    exact .none _
  · exact .some _ g cap L Ps hbg (tw_drop ho (fun _ _ => Nat.zero_le _)) h.ok (fun k b hb => ⟨(h1 k b hb).1, fun e => (h1 k b hb).2.1 (by subst e; rfl)⟩) h2 h3
theorem LOkT.turn {w w' : World} {B p : Nat} {v : Value} {L : List (Rec × Value)} (h : LOkT w B v L) (ht : Turn w.heap.size p w w') (hp : p < B) : LOkT w' B v L := by
  refine ⟨?_, h.ok, ?_⟩
  · have ho := h.own
    unfold OwnR at ho ⊢
    refine ⟨ho.1, ?_⟩
    rcases ho.2 with h0 | ⟨g, cap, cur, rfl, hbg, hg, rest⟩
    · exact .inl h0
    · exact .inr ⟨g, cap, cur, rfl, hbg, (ht.block g (Array.getElem?_eq_some_iff.1 hg).1 (by omega)).trans hg, rest⟩
  · obtain ⟨Ps, h1, h2, h3⟩ := h.inn
    exact ⟨Ps, fun k b hb => ⟨(h1 k b hb).1, (h1 k b hb).2.1, Nat.lt_of_lt_of_le (h1 k b hb).2.2 ht.size⟩, h2, fun k hk => (h3 k hk).held fun b hb hlt => ht.block b hlt (by have := (h1 k b hb).1; omega)⟩
theorem LOkT.put {w0 w1 w' : World} {B p : Nat} {v v' : Value} {L : List (Rec × Value)} {x : Rec × Value} (h0 : LOkT w0 B v L) (ht : Turn w0.heap.size p w0 w1) (hp : p < B) (hB : B ≤ w0.heap.size) (hown : w'.ownsRow B 53 5 v' (L.length + 1) (rcells L ++ five x)) (hg : w1.grownBy w' v.ownBlock)
    (hat : v'.ownBlock = v.ownBlock ∨ v'.ownBlock = some w1.heap.size) (hx : RecOk x.1) (hi : OwnT w1 (fun k => w0.heap.size ≤ k) x.2 x.1.inner) : LOkT w' B v' (L ++ [x]) := by
  have h := h0.turn ht hp
  obtain ⟨Ps, h1, h2, h3⟩ := h0.inn
  have hsz := ht.size
  have hv0 : ∀ g, v.ownBlock = some g → g < w0.heap.size := fun g e => (h0.own.lt g e).2
  have hvn : ∀ b, b < w1.heap.size → v.ownBlock ≠ some b → v'.ownBlock ≠ some b := fun b hb hne => by
    rcases hat with e | e
    · rw [e]; exact hne
    · rw [e]; intro e2; cases e2; omega
  refine ⟨?_, fun y hy => ?_, fun k b => if k < L.length then Ps k b else (k = L.length ∧ w0.heap.size ≤ b ∧ b < w1.heap.size), fun k b hb => ?_, fun j k b hjk hj hk => ?_, fun k hk => ?_⟩
  · unfold OwnR
    rw [rcells_append, List.length_append]
    simpa [rcells] using hown
  · rcases List.mem_append.1 hy with h1 | h1
    · exact h0.ok y h1
    · rw [List.mem_singleton.1 h1]; exact hx
  · have hs2 := hg.size
    by_cases hk : k < L.length
    · simp only [hk, if_true] at hb
      have h4 := h1 k b hb
      exact ⟨h4.1, hvn b (by omega) h4.2.1, by omega⟩
    · simp only [hk, if_false] at hb
      exact ⟨by omega, hvn b hb.2.2 (fun e => by have := hv0 b e; omega), by omega⟩
  · by_cases hj1 : j < L.length
    · simp only [hj1, if_true] at hj
      by_cases hk1 : k < L.length
      · simp only [hk1, if_true] at hk
        exact h2 j k b hjk hj hk
      · simp only [hk1, if_false] at hk
        have := (h1 j b hj).2.2
        omega
    · simp only [hj1, if_false] at hj
      by_cases hk1 : k < L.length
      · simp only [hk1, if_true] at hk
        have := (h1 k b hk).2.2
        omega
      · simp only [hk1, if_false] at hk
        omega
  · by_cases hk1 : k < L.length
    · have e1 : (fun b => if k < L.length then Ps k b else (k = L.length ∧ w0.heap.size ≤ b ∧ b < w1.heap.size)) = Ps k := by funext b; simp [hk1]
      show OwnT w' (fun b => if k < L.length then Ps k b else (k = L.length ∧ w0.heap.size ≤ b ∧ b < w1.heap.size)) _ _
      rw [e1, List.getElem_append_left hk1]
      have hi1 : OwnT w1 (Ps k) (L[k]'hk1).2 (L[k]'hk1).1.inner := (h3 k hk1).held fun b hb hlt => ht.block b hlt (by have := (h1 k b hb).1; omega)
      exact hi1.held fun b hb hlt => hg.block b hlt (fun e => (h1 k b hb).2.1 e.symm)
    · have hkl : k = L.length := by simp at hk; omega
      subst hkl
      show OwnT w' (fun b => if L.length < L.length then Ps L.length b else (L.length = L.length ∧ w0.heap.size ≤ b ∧ b < w1.heap.size)) _ _
      have e1 : (fun b => if L.length < L.length then Ps L.length b else (L.length = L.length ∧ w0.heap.size ≤ b ∧ b < w1.heap.size)) = (fun b => w0.heap.size ≤ b ∧ b < w1.heap.size) := by funext b; simp
      rw [e1]
      rw [List.getElem_append_right (Nat.le_refl _)]
      simp only [Nat.sub_self, List.getElem_singleton]
      exact hi.lt.held fun b hb hlt => hg.block b hlt (fun e => by have := hv0 b e.symm; omega)

/-- What records leaves. -/
def RecsOutT (w : World) (p : Nat) (st : Bool) (b : List UInt8) (a : Option Addr) (cap : Nat) (r : List Rec × Int × Nat) (e : Ending) (w' : World) : Prop :=
  ∃ v, e = .returned (.tuple #[v, .int .i64 r.2.1]) ∧ OwnT w' (fun k => w.heap.size ≤ k) v r.1 ∧ (r.2.1 ≠ 0 → v = .slice none 0 0) ∧ RdAt w' p st b r.2.2 a cap ∧ Turn w.heap.size p w w'
theorem out_errT {w w' : World} {p : Nat} {st : Bool} {b : List UInt8} {a : Option Addr} {cap : Nat} {R : List Rec × Int × Nat} {er : Int} {q2 : Nat} (hV : R = ([], er, q2)) (h1 : RdAt w' p st b q2 a cap) (h2 : Turn w.heap.size p w w') :
    RecsOutT w p st b a cap R (.returned (.tuple #[.slice none 0 0, .int .i64 er])) w' := by
  subst hV
  exact ⟨_, rfl, .none _, fun _ => rfl, h1, h2⟩
theorem out_okT {w w' : World} {p : Nat} {st : Bool} {b : List UInt8} {a : Option Addr} {cap : Nat} {R : List Rec × Int × Nat} {v : Value} {L : List (Rec × Value)} {q2 : Nat} (hV : R = (L.map (·.1), 0, q2)) (hL : LOkT w' w.heap.size v L) (h1 : RdAt w' p st b q2 a cap) (h2 : Turn w.heap.size p w w') :
    RecsOutT w p st b a cap R (.returned (.tuple #[v, .int .i64 0])) w' := by
  subst hV
  exact ⟨_, rfl, hL.reads, fun e => absurd rfl e, h1, h2⟩
end Go.Proofs.YtecmhpncgdjgjaaDoor
