/-
  Lists of records among the arguments, read as the form reads them, and how many records and letters they hold by the arguments' bulk. Conditions: the bulk is no more than 1048576.
-/
import Derived.Test.YtecmhpncgdjgjaaDoorRecRow
import Derived.Test.YtecmhpncgdjgjaaDoorJoined
namespace Go.Proofs.YtecmhpncgdjgjaaDoor
open Go.RowKit Go.Deep
set_option linter.unusedVariables false
set_option linter.unusedSimpArgs false

theorem bulk_part {H : Type} {d : DataW H} {l : List (DataW H)} (h : d ∈ l) : Rows.uptoBulk d ≤ Rows.uptoBulkAll l := by
  induction l with
  | nil => cases h
  | cons x r ih =>
    simp only [Rows.uptoBulkAll]
    cases List.mem_cons.1 h with
    | inl e => subst e; omega
    | inr e => have := ih e; omega
theorem bulk_one {H : Type} (d : DataW H) : 1 ≤ Rows.uptoBulk d := by
  cases d with
  | lit l => cases l <;> simp [Rows.uptoBulk]
  | nil => simp [Rows.uptoBulk]
  | ptr d => simp [Rows.uptoBulk]
  | slice elems spare => simp [Rows.uptoBulk]
  | agg parts => simp [Rows.uptoBulk]
  | iface t d => simp [Rows.uptoBulk]
  | map entries => simp [Rows.uptoBulk]
  | held h => simp [Rows.uptoBulk]
theorem count_bulk {H : Type} (ks : List Nat) (y : Nat → Rec × Value) (D : Nat → DataW H) (h : ∀ k ∈ ks, countR (y k).1 ≤ Rows.uptoBulk (D k)) : countL (ks.map fun k => (y k).1) ≤ Rows.uptoBulkAll (ks.map D) := by
  induction ks with
  | nil => simp [countL]
  | cons k ks ih =>
    have h1 := h k (by simp)
    have h2 := ih fun k hk => h k (by simp [hk])
    simp only [List.map_cons, countL, Rows.uptoBulkAll]
    omega
theorem shortL_of {M : Nat} {l : List Rec} (h : ∀ r ∈ l, shortR M r) : shortL M l := by
  induction l with
  | nil => trivial
  | cons r rs ih => exact ⟨h r (by simp), ih fun r hr => h r (by simp [hr])⟩

/-- A record at an address, what its list holds, and how much it is. -/
def RecAtB (W : World) (x : Addr) (y : Rec × Value) (n : Nat) : Prop :=
  (W.cell? x = some (.int .i64 y.1.number) ∧ W.cell? (x.add 1) = some (.int .i64 y.1.kind) ∧ W.cell? (x.add 2) = some (.int .i64 y.1.num) ∧ W.cell? (x.add 3) = some (.string ⟨y.1.text.toArray⟩) ∧ W.cell? (x.add 4) = some y.2 ∧
    Is64 y.1.number ∧ Is64 y.1.kind ∧ Is64 y.1.num ∧ y.1.text.length ≤ 140737488355328 ∧ Reads W y.2 y.1.inner) ∧ countR y.1 ≤ n ∧ shortR 1048576 y.1
theorem reads_of_cellsB {W : World} {a : Addr} {len cap : Nat} {y : Nat → Rec × Value} {N : Nat → Nat} (hl : len ≤ cap) (hm : cap ≤ 9223372036854775807) (h : ∀ k, k < len → RecAtB W (a.add (k * 5)) (y k) (N k)) : Reads W (.slice (some a) len cap) ((List.range len).map fun k => (y k).1) := by
  rcases Nat.eq_zero_or_pos len with rfl | h0
  · exact .none _ _ hm
  · obtain ⟨b, off, spot⟩ := a
    have hspot : spot = none := by simpa [Addr.add] using World.cell?_spot (h 0 h0).1.1
    subst hspot
    have hadd : ∀ o i, (⟨b, o, none⟩ : Addr).add i = ⟨b, o + i, none⟩ := fun o i => by unfold Addr.add; split <;> simp_all
    have hX : ReadsR (fun _ => True) W (.slice (some ⟨b, off, none⟩) ((List.range len).map fun k => (y k).1).length cap) ((List.range len).map fun k => (y k).1) := by
      refine .some b off cap _ (fun k => (y k).2) trivial (by simpa using hl) hm (fun k hk => ?_) (fun k hk => ?_)
      · have hk' : k < len := by simpa using hk
        obtain ⟨⟨c0, c1, c2, c3, c4, n0, n1, n2, n3, _⟩, _⟩ := h k hk'
        rw [hadd] at c0 c1 c2 c3 c4
        rw [hadd] at c1 c2 c3 c4
        simp only [List.getElem_map, List.getElem_range]
        exact ⟨c0, c1, c2, c3, c4, n0, n1, n2, n3⟩
      · have hk' : k < len := by simpa using hk
        simp only [List.getElem_map, List.getElem_range]
        exact (h k hk').1.2.2.2.2.2.2.2.2.2
    have e : ((List.range len).map fun k => (y k).1).length = len := by simp
    rw [e] at hX
    exact hX

set_option maxRecDepth 100000 in
/-- What the form reads as a list of records is one. -/
theorem recs_of_bulk {H : Type} {enc : TypeId × Value → H} {W : World} {base : Nat} {held : Bool} (N : Nat) : ∀ (d : DataW H), SizeOf.sizeOf d ≤ N → ∀ (fuel : Nat) (v : Value) (ps : List MemPlace), v.cells.toList = [v] → DataW.trod enc Tryd.prog W base (fun _ => true) held fuel 36 [v] = some (d, ps) →
    Rows.uptoBulk d ≤ 1048576 → ∃ l, Reads W v l ∧ countL l ≤ Rows.uptoBulk d ∧ shortL 1048576 l := by
  induction N with
  | zero => intro d hd; cases d <;> simp at hd
  | succ N ih =>
    intro d hd fuel v ps hv1 h hwt
    rcases open_slice Tryd.underlying36 h with ⟨hcs, hx⟩ | ⟨a, len, cap, m, n, D, Pl, hcs, hb, hl, hm, hmm, hx, hel⟩
    · injection hcs with hcs
      subst hcs
      exact ⟨[], .none _ _ (by omega), by simp [countL], trivial⟩
    · injection hcs with hcs
      subst hcs
      simp only [if_true] at hmm
      have hmm' := hmm.symm
      subst hmm'
      have hde := congrArg Prod.fst hx
      simp only at hde
      subst hde
      rw [Rows.uptoBulk] at hwt
      have hone : ∀ k, k < len → ∃ y : Rec × Value, RecAtB W (a.add (k * 5)) y (Rows.uptoBulk (D k)) := by
        intro k hk
        obtain ⟨cs', hc1, hc2⟩ := hel k (by omega)
        rw [cells53] at hc1
        obtain ⟨_, hlen5, hcell⟩ := World.cells?_some hc1
        have hmem : D k ∈ (List.range len).map D := List.mem_map.2 ⟨k, List.mem_range.2 hk, rfl⟩
        have hsz : SizeOf.sizeOf (D k) ≤ N := by
          have h1 := List.sizeOf_lt_of_mem hmem
          simp only [DataW.slice.sizeOf_spec] at hd
          omega
        have hwk : Rows.uptoBulk (D k) ≤ 1048576 := by
          have := bulk_part hmem
          omega
        obtain ⟨xs, n', _, hxe, _, hxl, hf⟩ := DataW.trod_struct Tryd.underlying53 hc2
        match cs', hlen5, xs, hxl with
        | [u0, u1, u2, u3, u4], _, [y0, y1, y2, y3, y4], _ =>
          have f0 := hf 0 _ rfl
          have f1 := hf 1 _ rfl
          have f2 := hf 2 _ rfl
          have f3 := hf 3 _ rfl
          have f4 := hf 4 _ rfl
          have g0 : DataW.trod enc Tryd.prog W base (fun _ => true) held n' 3 (([u0, u1, u2, u3, u4].drop 0).take (Tryd.prog.cellsOf 3)) = some y0 := f0
          rw [cells3] at g0
          replace g0 : DataW.trod enc Tryd.prog W base (fun _ => true) held n' 3 [u0] = some y0 := g0
          have g1 : DataW.trod enc Tryd.prog W base (fun _ => true) held n' 3 (([u0, u1, u2, u3, u4].drop 1).take (Tryd.prog.cellsOf 3)) = some y1 := f1
          rw [cells3] at g1
          replace g1 : DataW.trod enc Tryd.prog W base (fun _ => true) held n' 3 [u1] = some y1 := g1
          have g2 : DataW.trod enc Tryd.prog W base (fun _ => true) held n' 3 (([u0, u1, u2, u3, u4].drop 2).take (Tryd.prog.cellsOf 3)) = some y2 := f2
          rw [cells3] at g2
          replace g2 : DataW.trod enc Tryd.prog W base (fun _ => true) held n' 3 [u2] = some y2 := g2
          have g3 : DataW.trod enc Tryd.prog W base (fun _ => true) held n' 9 (([u0, u1, u2, u3, u4].drop 3).take (Tryd.prog.cellsOf 9)) = some y3 := f3
          rw [cells9] at g3
          replace g3 : DataW.trod enc Tryd.prog W base (fun _ => true) held n' 9 [u3] = some y3 := g3
          have g4 : DataW.trod enc Tryd.prog W base (fun _ => true) held n' 36 (([u0, u1, u2, u3, u4].drop 4).take (Tryd.prog.cellsOf 36)) = some y4 := f4
          rw [cells36] at g4
          replace g4 : DataW.trod enc Tryd.prog W base (fun _ => true) held n' 36 [u4] = some y4 := g4
          obtain ⟨z0, e0, _, w0⟩ := DataW.trod_int Tryd.underlying3 g0
          obtain ⟨z1, e1, _, w1⟩ := DataW.trod_int Tryd.underlying3 g1
          obtain ⟨z2, e2, _, w2⟩ := DataW.trod_int Tryd.underlying3 g2
          obtain ⟨s, e3, t3, w3⟩ := DataW.trod_string Tryd.underlying9 g3
          injection e0 with e0; injection e1 with e1; injection e2 with e2; injection e3 with e3
          subst e0 e1 e2 e3
          have hDk := congrArg Prod.fst hxe
          simp only [List.map_cons, List.map_nil] at hDk
          rw [hDk] at hsz hwk ⊢
          have hs4 : SizeOf.sizeOf y4.1 ≤ N := by
            have h1 := List.sizeOf_lt_of_mem (show y4.1 ∈ [y0.1, y1.1, y2.1, y3.1, y4.1] by simp)
            simp only [DataW.agg.sizeOf_spec] at hsz
            omega
          have hb3 : Rows.uptoBulk y3.1 = s.data.toList.length + 1 := by rw [t3]; simp [Rows.uptoBulk]
          simp only [Rows.uptoBulk, Rows.uptoBulkAll] at hwk ⊢
          have hv4 : u4.cells.toList = [u4] := by
            rcases open_slice Tryd.underlying36 g4 with ⟨e, _⟩ | ⟨_, _, _, _, _, _, _, e, _⟩ <;> (injection e with e; subst e; rfl)
          obtain ⟨i, hi1, hi2, hi3⟩ := ih y4.1 hs4 n' u4 y4.2 hv4 g4 (by omega)
          refine ⟨(.mk z0 z1 z2 s.data.toList i, u4), ⟨?_, ?_, ?_, ?_, ?_, is64_of_wf w0, is64_of_wf w1, is64_of_wf w2, (by show s.data.toList.length ≤ _; omega), hi1⟩, ?_, ⟨by omega, hi3⟩⟩
          · have := hcell 0 (by omega)
            rwa [add_zero'] at this
          · exact hcell 1 (by omega)
          · exact hcell 2 (by omega)
          · exact hcell 3 (by omega)
          · exact hcell 4 (by omega)
          · show 1 + countL i ≤ _
            have := bulk_one y0.1
            omega
      haveI : Inhabited (Rec × Value) := ⟨(.mk 0 0 0 [] [], .bool false)⟩
      obtain ⟨y, hy⟩ := choose_lt hone
      refine ⟨_, reads_of_cellsB (N := fun k => Rows.uptoBulk (D k)) hl (by unfold maxLen at hm; omega) hy, ?_, shortL_of fun r hr => ?_⟩
      · have := count_bulk (List.range len) y D (fun k hk => (hy k (List.mem_range.1 hk)).2.1)
        rw [Rows.uptoBulk]
        omega
      · obtain ⟨k, hk, rfl⟩ := List.mem_map.1 hr
        exact (hy k (List.mem_range.1 hk)).2.2

/-- Lists of records among the arguments. -/
def IsLists (w : World) (a : Option Addr) (len cap : Nat) : Prop :=
  len ≤ cap ∧ cap ≤ 9223372036854775807 ∧ ∀ r, r < len → ∃ g off v l, a = some ⟨g, off, none⟩ ∧ w.cell? ⟨g, off + r, none⟩ = some v ∧ Reads w v l ∧ countL l ≤ 1048576 ∧ shortL 1048576 l

set_option maxRecDepth 100000 in
theorem lists_of_bulk {H : Type} {enc : TypeId × Value → H} {W : World} {base : Nat} {held : Bool} {d : DataW H} {fuel : Nat} {a : Option Addr} {len cap : Nat} {ps : List MemPlace} (h : DataW.trod enc Tryd.prog W base (fun _ => true) held fuel 34 [.slice a len cap] = some (d, ps))
    (hwt : Rows.uptoBulk d ≤ 1048576) : IsLists W a len cap := by
  rcases open_slice Tryd.underlying34 h with ⟨hcs, hx⟩ | ⟨a, len, cap, m, n, D, Pl, hcs, hb, hl, hm, hmm, hx, hel⟩
  · injection hcs with hcs
    cases hcs
    exact ⟨Nat.le_refl _, by omega, fun r hr => by omega⟩
  · injection hcs with hcs
    cases hcs
    simp only [if_true] at hmm
    have hmm' := hmm.symm
    subst hmm'
    have hde := congrArg Prod.fst hx
    simp only at hde
    subst hde
    rw [Rows.uptoBulk] at hwt
    refine ⟨hl, by unfold maxLen at hm; omega, fun r hr => ?_⟩
    have hspot : a.spot = none := by
      obtain ⟨cs', hc1, hc2⟩ := hel 0 (by omega)
      rw [cells36] at hc1
      obtain ⟨_, hlen1, hcell⟩ := World.cells?_some hc1
      match cs', hlen1 with
      | [u], _ =>
        have hc := hcell 0 (by omega)
        simpa [Addr.add] using World.cell?_spot hc
    obtain ⟨cs', hc1, hc2⟩ := hel r (by omega)
    rw [cells36] at hc1
    obtain ⟨_, hlen1, hcell⟩ := World.cells?_some hc1
    have hmem : D r ∈ (List.range len).map D := List.mem_map.2 ⟨r, List.mem_range.2 hr, rfl⟩
    have hwk : Rows.uptoBulk (D r) ≤ 1048576 := by
      have := bulk_part hmem
      omega
    match cs', hlen1 with
    | [u], _ =>
      have hv : u.cells.toList = [u] := by
        rcases open_slice Tryd.underlying36 hc2 with ⟨e, _⟩ | ⟨_, _, _, _, _, _, _, e, _⟩ <;> (injection e with e; subst e; rfl)
      obtain ⟨l, h1, h2, h3⟩ := recs_of_bulk _ (D r) (Nat.le_refl _) _ u _ hv hc2 hwk
      have hc := hcell 0 (by omega)
      rw [add_zero'] at hc
      obtain ⟨b0, off, spot⟩ := a
      replace hspot : spot = none := hspot
      subst hspot
      refine ⟨b0, off, u, l, rfl, ?_, h1, by omega, h3⟩
      have e1 : (⟨b0, off, none⟩ : Addr).add (r * 1) = ⟨b0, off + r, none⟩ := by unfold Addr.add; split <;> simp_all
      rw [e1] at hc
      exact hc
end Go.Proofs.YtecmhpncgdjgjaaDoor
