/-
  A list of records among the arguments, read as the form reads it. Conditions: none.
-/
import Derived.Test.YtecmhpncgdjgjaaDoorRoundB
import Derived.Test.YtecmhpncgdjgjaaDoorCopy
import Derived.Deep.Matrix
namespace Go.Proofs.YtecmhpncgdjgjaaDoor
open Go.RowKit Go.Deep
set_option linter.unusedVariables false
set_option linter.unusedSimpArgs false

theorem mem_weightsR {H : Type} {e : TypeId} {x : Nat} {d : DataW H} {ds : List (DataW H)} (hd : d ∈ ds) (hx : x ∈ d.weights Tryd.prog e) : x ∈ DataW.weightsAll Tryd.prog e ds := by
  induction ds with
  | nil => simp at hd
  | cons c ds ih =>
    show x ∈ c.weights Tryd.prog e ++ DataW.weightsAll Tryd.prog e ds
    rcases List.mem_cons.1 hd with rfl | h
    · exact List.mem_append.2 (.inl hx)
    · exact List.mem_append.2 (.inr (ih h))
theorem cells53 : Tryd.prog.cellsOf 53 = 5 := by kernel_rfl
theorem cells36 : Tryd.prog.cellsOf 36 = 1 := by kernel_rfl
theorem cells3 : Tryd.prog.cellsOf 3 = 1 := by kernel_rfl
theorem cells9 : Tryd.prog.cellsOf 9 = 1 := by kernel_rfl
theorem reach_eq : reachBytes = 140737488351232 := by kernel_rfl
theorem bytes53 : Tryd.prog.bytesOf 53 = 64 := by kernel_rfl

theorem is64_of_wf {x : Int} (h : (Lit.int .i64 x).wf = true) : Is64 x := by
  simp [Lit.wf, IntKind.min, IntKind.max, IntKind.bits, IntKind.signed] at h
  unfold Is64
  omega

theorem weights_struct {H : Type} {d0 d1 d2 d3 d4 : DataW H} : (DataW.agg [d0, d1, d2, d3, d4]).weights Tryd.prog 53 = d0.weights Tryd.prog 3 ++ (d1.weights Tryd.prog 3 ++ (d2.weights Tryd.prog 3 ++ (d3.weights Tryd.prog 9 ++ (d4.weights Tryd.prog 36 ++ [])))) := by
  rw [DataW.weights, Tryd.underlying53]
  rfl

theorem lensL_nil (M : Nat) : lensL M [] := ⟨Nat.zero_le _, trivial⟩
/-- A record at an address, what its list holds, and how large it is. -/
def RecAtA (W : World) (x : Addr) (y : Rec × Value) : Prop :=
  (W.cell? x = some (.int .i64 y.1.number) ∧ W.cell? (x.add 1) = some (.int .i64 y.1.kind) ∧ W.cell? (x.add 2) = some (.int .i64 y.1.num) ∧ W.cell? (x.add 3) = some (.string ⟨y.1.text.toArray⟩) ∧ W.cell? (x.add 4) = some y.2 ∧
    Is64 y.1.number ∧ Is64 y.1.kind ∧ Is64 y.1.num ∧ y.1.text.length ≤ 140737488355328 ∧ Reads W y.2 y.1.inner) ∧ lensL 2199023255552 y.1.inner ∧ wideR y.1
theorem lensS_of {M : Nat} {l : List Rec} (h : ∀ r ∈ l, lensL M r.inner) : lensS M l := by
  induction l with
  | nil => trivial
  | cons r rs ih =>
    have h1 := h r (by simp)
    obtain ⟨n, k, x, t, i⟩ := r
    exact ⟨h1, ih fun r hr => h r (by simp [hr])⟩
theorem wideL_of {l : List Rec} (h : ∀ r ∈ l, wideR r) : wideL l := by
  induction l with
  | nil => trivial
  | cons r rs ih => exact ⟨h r (by simp), ih fun r hr => h r (by simp [hr])⟩
theorem reads_of_cells {W : World} {a : Addr} {len cap : Nat} {y : Nat → Rec × Value} (hl : len ≤ cap) (hm : cap ≤ 9223372036854775807) (h : ∀ k, k < len → RecAtA W (a.add (k * 5)) (y k)) : Reads W (.slice (some a) len cap) ((List.range len).map fun k => (y k).1) := by
  rcases Nat.eq_zero_or_pos len with rfl | h0
  · exact .none _ _ hm
  · obtain ⟨b, off, spot⟩ := a
    have hspot : spot = none := by simpa [Addr.add] using World.cell?_spot (h 0 h0).1.1
    subst hspot
    have hadd : ∀ o i, (⟨b, o, none⟩ : Addr).add i = ⟨b, o + i, none⟩ := fun o i => by unfold Addr.add; split <;> simp_all
    have hX : ReadsR (fun _ => True) W (.slice (some ⟨b, off, none⟩) ((List.range len).map fun k => (y k).1).length cap) ((List.range len).map fun k => (y k).1) := by
      refine .some b off cap _ (fun k => (y k).2) trivial (by simpa using hl) hm (fun k hk => ?_) (fun k hk => ?_)
      · have hk' : k < len := by simpa using hk
        obtain ⟨⟨c0, c1, c2, c3, c4, n0, n1, n2, n3, _⟩, _⟩ := h k hk'
        rw [hadd] at c0 c1 c2 c3 c4
        rw [hadd] at c1 c2 c3 c4
        simp only [List.getElem_map, List.getElem_range]
        exact ⟨c0, c1, c2, c3, c4, n0, n1, n2, n3⟩
      · have hk' : k < len := by simpa using hk
        simp only [List.getElem_map, List.getElem_range]
        exact (h k hk').1.2.2.2.2.2.2.2.2.2
    have e : ((List.range len).map fun k => (y k).1).length = len := by simp
    rw [e] at hX
    exact hX
theorem add_zero' (x : Addr) : x.add 0 = x := by unfold Addr.add; simp

set_option maxRecDepth 100000 in
/-- What the form reads as a list of records is one. -/
theorem recs_of_trod {H : Type} {enc : TypeId × Value → H} {W : World} {base : Nat} {held : Bool} (N : Nat) : ∀ (d : DataW H), SizeOf.sizeOf d ≤ N → ∀ (fuel : Nat) (v : Value) (ps : List MemPlace), v.cells.toList = [v] → DataW.trod enc Tryd.prog W base (fun _ => true) held fuel 36 [v] = some (d, ps) →
    (∀ x ∈ d.weights Tryd.prog 36, x ≤ reachBytes) → ∃ l, Reads W v l ∧ lensL 2199023255552 l ∧ wideL l := by
  induction N with
  | zero => intro d hd; cases d <;> simp at hd
  | succ N ih =>
    intro d hd fuel v ps hv1 h hwt
    rcases open_slice Tryd.underlying36 h with ⟨hcs, hx⟩ | ⟨a, len, cap, m, n, D, Pl, hcs, hb, hl, hm, hmm, hx, hel⟩
    · injection hcs with hcs
      subst hcs
      exact ⟨[], .none _ _ (by omega), lensL_nil _, trivial⟩
    · injection hcs with hcs
      subst hcs
      simp only [if_true] at hmm
      have hmm' := hmm.symm
      subst hmm'
      have hde := congrArg Prod.fst hx
      simp only at hde
      subst hde
      rw [DataW.weights, Tryd.underlying36] at hwt
      simp only [List.length_map, List.length_range, bytes53] at hwt
      have hcap : cap ≤ 2199023255552 := by
        have := hwt _ (List.mem_cons.2 (.inl rfl))
        rw [reach_eq] at this
        omega
      have hone : ∀ k, k < len → ∃ y : Rec × Value, RecAtA W (a.add (k * 5)) y := by
        intro k hk
        obtain ⟨cs', hc1, hc2⟩ := hel k (by omega)
        rw [cells53] at hc1
        obtain ⟨_, hlen5, hcell⟩ := World.cells?_some hc1
        have hsz : SizeOf.sizeOf (D k) ≤ N := by
          have hmem : D k ∈ (List.range len).map D := List.mem_map.2 ⟨k, List.mem_range.2 hk, rfl⟩
          have h1 := List.sizeOf_lt_of_mem hmem
          simp only [DataW.slice.sizeOf_spec] at hd
          omega
        have hwk : ∀ x ∈ (D k).weights Tryd.prog 53, x ≤ reachBytes := fun x hx => hwt x (List.mem_cons.2 (.inr (List.mem_append.2 (.inl (mem_weightsR (List.mem_map.2 ⟨k, List.mem_range.2 hk, rfl⟩) hx)))))
        obtain ⟨xs, n', _, hxe, _, hxl, hf⟩ := DataW.trod_struct Tryd.underlying53 hc2
        match cs', hlen5, xs, hxl with
        | [u0, u1, u2, u3, u4], _, [y0, y1, y2, y3, y4], _ =>
          have f0 := hf 0 _ rfl
          have f1 := hf 1 _ rfl
          have f2 := hf 2 _ rfl
          have f3 := hf 3 _ rfl
          have f4 := hf 4 _ rfl
          have g0 : DataW.trod enc Tryd.prog W base (fun _ => true) held n' 3 (([u0, u1, u2, u3, u4].drop 0).take (Tryd.prog.cellsOf 3)) = some y0 := f0
          rw [cells3] at g0
          replace g0 : DataW.trod enc Tryd.prog W base (fun _ => true) held n' 3 [u0] = some y0 := g0
          have g1 : DataW.trod enc Tryd.prog W base (fun _ => true) held n' 3 (([u0, u1, u2, u3, u4].drop 1).take (Tryd.prog.cellsOf 3)) = some y1 := f1
          rw [cells3] at g1
          replace g1 : DataW.trod enc Tryd.prog W base (fun _ => true) held n' 3 [u1] = some y1 := g1
          have g2 : DataW.trod enc Tryd.prog W base (fun _ => true) held n' 3 (([u0, u1, u2, u3, u4].drop 2).take (Tryd.prog.cellsOf 3)) = some y2 := f2
          rw [cells3] at g2
          replace g2 : DataW.trod enc Tryd.prog W base (fun _ => true) held n' 3 [u2] = some y2 := g2
          have g3 : DataW.trod enc Tryd.prog W base (fun _ => true) held n' 9 (([u0, u1, u2, u3, u4].drop 3).take (Tryd.prog.cellsOf 9)) = some y3 := f3
          rw [cells9] at g3
          replace g3 : DataW.trod enc Tryd.prog W base (fun _ => true) held n' 9 [u3] = some y3 := g3
          have g4 : DataW.trod enc Tryd.prog W base (fun _ => true) held n' 36 (([u0, u1, u2, u3, u4].drop 4).take (Tryd.prog.cellsOf 36)) = some y4 := f4
          rw [cells36] at g4
          replace g4 : DataW.trod enc Tryd.prog W base (fun _ => true) held n' 36 [u4] = some y4 := g4
          obtain ⟨z0, e0, _, w0⟩ := DataW.trod_int Tryd.underlying3 g0
          obtain ⟨z1, e1, _, w1⟩ := DataW.trod_int Tryd.underlying3 g1
          obtain ⟨z2, e2, _, w2⟩ := DataW.trod_int Tryd.underlying3 g2
          obtain ⟨s, e3, t3, w3⟩ := DataW.trod_string Tryd.underlying9 g3
          injection e0 with e0; injection e1 with e1; injection e2 with e2; injection e3 with e3
          subst e0 e1 e2 e3
          have hDk := congrArg Prod.fst hxe
          simp only [List.map_cons, List.map_nil] at hDk
          rw [hDk] at hsz hwk
          rw [weights_struct] at hwk
          have hs4 : SizeOf.sizeOf y4.1 ≤ N := by
            have h1 := List.sizeOf_lt_of_mem (show y4.1 ∈ [y0.1, y1.1, y2.1, y3.1, y4.1] by simp)
            simp only [DataW.agg.sizeOf_spec] at hsz
            omega
          have hv4 : u4.cells.toList = [u4] := by
            rcases open_slice Tryd.underlying36 g4 with ⟨e, _⟩ | ⟨_, _, _, _, _, _, _, e, _⟩ <;> (injection e with e; subst e; rfl)
          obtain ⟨i, hi1, hi2, hi3⟩ := ih y4.1 hs4 n' u4 y4.2 hv4 g4 (fun x hx => hwk x (List.mem_append.2 (.inr (List.mem_append.2 (.inr (List.mem_append.2 (.inr (List.mem_append.2 (.inr (List.mem_append.2 (.inl hx)))))))))))
          have hst : s.data.toList.length ≤ 140737488355328 := by
            have : s.data.toList.length ∈ y3.1.weights Tryd.prog 9 := by rw [t3]; simp [DataW.weights]
            have := hwk s.data.toList.length (List.mem_append.2 (.inr (List.mem_append.2 (.inr (List.mem_append.2 (.inr (List.mem_append.2 (.inl this))))))))
            rw [reach_eq] at this
            omega
          refine ⟨(.mk z0 z1 z2 s.data.toList i, u4), ⟨?_, ?_, ?_, ?_, ?_, is64_of_wf w0, is64_of_wf w1, is64_of_wf w2, hst, hi1⟩, hi2, ⟨is64_of_wf w2, hst, hi3⟩⟩
          · have := hcell 0 (by omega)
            rwa [add_zero'] at this
          · exact hcell 1 (by omega)
          · exact hcell 2 (by omega)
          · exact hcell 3 (by omega)
          · exact hcell 4 (by omega)
      haveI : Inhabited (Rec × Value) := ⟨(.mk 0 0 0 [] [], .bool false)⟩
      obtain ⟨y, hy⟩ := choose_lt hone
      refine ⟨_, reads_of_cells hl (by unfold maxLen at hm; omega) hy, ⟨by rw [List.length_map, List.length_range]; omega, lensS_of fun r hr => ?_⟩, wideL_of fun r hr => ?_⟩
      · obtain ⟨k, hk, rfl⟩ := List.mem_map.1 hr
        exact (hy k (List.mem_range.1 hk)).2.1
      · obtain ⟨k, hk, rfl⟩ := List.mem_map.1 hr
        exact (hy k (List.mem_range.1 hk)).2.2
end Go.Proofs.YtecmhpncgdjgjaaDoor
