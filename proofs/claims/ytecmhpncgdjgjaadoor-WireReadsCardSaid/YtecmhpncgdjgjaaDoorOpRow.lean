/-
  A list of ops among the arguments, read as the form reads it. Conditions: none.
-/
import Derived.Test.YtecmhpncgdjgjaaDoorFamily
import Derived.Deep.Matrix
namespace Go.Proofs.YtecmhpncgdjgjaaDoor
open Go.RowKit Go.Deep
set_option linter.unusedVariables false
set_option linter.unusedSimpArgs false

theorem cells73 : Tryd.prog.cellsOf 73 = 4 := by kernel_rfl
theorem cells_3 : Tryd.prog.cellsOf 3 = 1 := by kernel_rfl
set_option maxRecDepth 100000 in
/-- What the form reads as a list of ops is one. -/
theorem ops_of_trod {H : Type} {enc : TypeId × Value → H} {W : World} {base : Nat} {held : Bool} {fuel : Nat} {ao : Option Addr} {len cap : Nat} {d : DataW H} {ps : List MemPlace} (h : DataW.trod enc Tryd.prog W base (fun _ => true) held fuel 63 [.slice ao len cap] = some (d, ps)) : IsOps W ao len cap := by
  rcases open_slice Tryd.underlying63 h with ⟨hcs, hx⟩ | ⟨a, len', cap', m, n, D, Pl, hcs, hb, hl, hm, hmm, hx, hel⟩
  · injection hcs with hcs
    cases hcs
    exact ⟨Nat.le_refl _, by omega, fun r hr => by omega⟩
  · injection hcs with hcs
    cases hcs
    simp only [if_true] at hmm
    refine ⟨hl, by unfold maxLen at hm; omega, fun r hr => ?_⟩
    have hone : ∀ k, k < len → ∃ kd A B C, W.cell? (a.add (k * 4)) = some (.int .i64 kd) ∧ W.cell? ((a.add (k * 4)).add 1) = some (.int .i64 A) ∧ W.cell? ((a.add (k * 4)).add 2) = some (.int .i64 B) ∧ W.cell? ((a.add (k * 4)).add 3) = some (.int .i64 C) := by
      intro k hk
      obtain ⟨cs', hc1, hc2⟩ := hel k (by omega)
      rw [cells73] at hc1
      obtain ⟨_, hlen4, hcell⟩ := World.cells?_some hc1
      obtain ⟨xs, n', _, hxe, _, hxl, hf⟩ := DataW.trod_struct Tryd.underlying73 hc2
      match cs', hlen4, xs, hxl with
      | [u0, u1, u2, u3], _, [y0, y1, y2, y3], _ =>
        have f0 := hf 0 _ rfl
        have f1 := hf 1 _ rfl
        have f2 := hf 2 _ rfl
        have f3 := hf 3 _ rfl
        have g0 : DataW.trod enc Tryd.prog W base (fun _ => true) held n' 3 (([u0, u1, u2, u3].drop 0).take (Tryd.prog.cellsOf 3)) = some y0 := f0
        have g1 : DataW.trod enc Tryd.prog W base (fun _ => true) held n' 3 (([u0, u1, u2, u3].drop 1).take (Tryd.prog.cellsOf 3)) = some y1 := f1
        have g2 : DataW.trod enc Tryd.prog W base (fun _ => true) held n' 3 (([u0, u1, u2, u3].drop 2).take (Tryd.prog.cellsOf 3)) = some y2 := f2
        have g3 : DataW.trod enc Tryd.prog W base (fun _ => true) held n' 3 (([u0, u1, u2, u3].drop 3).take (Tryd.prog.cellsOf 3)) = some y3 := f3
        rw [cells_3] at g0 g1 g2 g3
        replace g0 : DataW.trod enc Tryd.prog W base (fun _ => true) held n' 3 [u0] = some y0 := g0
        replace g1 : DataW.trod enc Tryd.prog W base (fun _ => true) held n' 3 [u1] = some y1 := g1
        replace g2 : DataW.trod enc Tryd.prog W base (fun _ => true) held n' 3 [u2] = some y2 := g2
        replace g3 : DataW.trod enc Tryd.prog W base (fun _ => true) held n' 3 [u3] = some y3 := g3
        obtain ⟨z0, e0, _, _⟩ := DataW.trod_int Tryd.underlying3 g0
        obtain ⟨z1, e1, _, _⟩ := DataW.trod_int Tryd.underlying3 g1
        obtain ⟨z2, e2, _, _⟩ := DataW.trod_int Tryd.underlying3 g2
        obtain ⟨z3, e3, _, _⟩ := DataW.trod_int Tryd.underlying3 g3
        injection e0 with e0; injection e1 with e1; injection e2 with e2; injection e3 with e3
        subst e0 e1 e2 e3
        refine ⟨z0, z1, z2, z3, ?_, hcell 1 (by omega), hcell 2 (by omega), hcell 3 (by omega)⟩
        have h0 := hcell 0 (by omega)
        have ea : (a.add (k * 4)).add 0 = a.add (k * 4) := by unfold Addr.add; simp
        rwa [ea] at h0
    obtain ⟨kd, A, B, C, h0, h1, h2, h3⟩ := hone r hr
    have hz := (hone 0 (by omega))
    obtain ⟨_, _, _, _, hz0, _⟩ := hz
    obtain ⟨b, off, spot⟩ := a
    have hspot : spot = none := by simpa [Addr.add] using World.cell?_spot hz0
    subst hspot
    have hadd : ∀ o i, (⟨b, o, none⟩ : Addr).add i = ⟨b, o + i, none⟩ := fun o i => by unfold Addr.add; split <;> simp_all
    rw [hadd] at h0 h1 h2 h3
    rw [hadd] at h1 h2 h3
    exact ⟨b, off, kd, A, B, C, rfl, h0, h1, h2, h3⟩
end Go.Proofs.YtecmhpncgdjgjaaDoor
