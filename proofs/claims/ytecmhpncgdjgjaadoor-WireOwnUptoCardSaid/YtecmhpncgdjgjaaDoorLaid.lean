/-
  The rows of characters, as the statements' condition lays them; what the laws' rows have in common. Conditions: none.
-/
import Derived.Test.YtecmhpncgdjgjaaDoorKnown
import Derived.ProofKit
import Derived.LaidMore
import Derived.OpenShut
import Derived.Stop.Joined
namespace Go.Proofs.YtecmhpncgdjgjaaDoor
open Go.RowKit Go.ChangeShapes Go.WideShapes Go.ChangeAt
set_option linter.unusedVariables false
set_option linter.unusedSimpArgs false

theorem own : ownKnob Tryd.prog.godebug = none := by kernel_rfl
theorem laidOut : laidOutB Tryd.prog = true := by kernel_rfl
theorem gRows : Tryd.prog.globalNamed "sigil/wire.rows" = some 0 := by kernel_rfl
theorem tRows : (Tryd.prog.globals[0]?).map (·.type) = some 129 := by kernel_rfl
def laidL : List (String × DataW Unit) := [("sigil/wire.rows", Rows.laid_sigil_wire_rows)]

def rowT : List (List (IntKind × Int)) := [[(.u8, 0), (.u8, 127), (.u8, 0), (.u8, 0), (.i64, 0)], [(.u8, 194), (.u8, 223), (.u8, 128), (.u8, 191), (.i64, 1)], [(.u8, 224), (.u8, 224), (.u8, 160), (.u8, 191), (.i64, 2)],
  [(.u8, 225), (.u8, 236), (.u8, 128), (.u8, 191), (.i64, 2)], [(.u8, 237), (.u8, 237), (.u8, 128), (.u8, 159), (.i64, 2)], [(.u8, 238), (.u8, 239), (.u8, 128), (.u8, 191), (.i64, 2)],
  [(.u8, 240), (.u8, 240), (.u8, 144), (.u8, 191), (.i64, 3)], [(.u8, 241), (.u8, 243), (.u8, 128), (.u8, 191), (.i64, 3)], [(.u8, 244), (.u8, 244), (.u8, 128), (.u8, 143), (.i64, 3)]]

theorem st128 : ∃ fs, Tryd.prog.underlying 128 = some (.struct fs) ∧ (fs.toList.map fun f => (f.offset, Tryd.prog.cellsOf f.type, Tryd.prog.underlying f.type)) = [(0, 1, some (.int .u8)), (1, 1, some (.int .u8)), (2, 1, some (.int .u8)), (3, 1, some (.int .u8)), (4, 1, some (.int .i64))] :=
  ⟨_, Tryd.underlying128, by kernel_rfl⟩
theorem cells128 : Tryd.prog.cellsOf 128 = 5 := by kernel_rfl
theorem cells129 : Tryd.prog.cellsOf 129 = 45 := by kernel_rfl

set_option maxRecDepth 100000 in
theorem row_cells {H : Type} {enc : TypeId × Value → H} {W : World} {b : Nat} {sp : Nat → Bool} {held : Bool} {fuel : Nat} {cs : List Value} {x : DataW H × List MemPlace} (h : DataW.trod enc Tryd.prog W b sp held fuel 128 cs = some x)
    (r : List (IntKind × Int)) (hx : x.1 = .agg (r.map fun p => .lit (.int p.1 p.2))) : cs = r.map fun p => .int p.1 p.2 := by
  obtain ⟨fs, hu, hf⟩ := st128
  obtain ⟨xs, n, rfl, rfl, hl, hxl, hel⟩ := DataW.trod_struct hu h
  rw [cells128] at hl
  have hfs : fs.size = 5 := by
    have := congrArg List.length hf
    simpa using this
  rw [hfs] at hxl
  injection hx with hx
  have hrl : r.length = 5 := by
    have := congrArg List.length hx
    simp at this
    omega
  apply List.ext_getElem?
  intro i
  by_cases hi : i < 5
  · obtain ⟨f, hfi⟩ : ∃ f, fs[i]? = some f := ⟨fs[i]'(by omega), Array.getElem?_eq_getElem (by omega)⟩
    have hfo : f.offset = i ∧ Tryd.prog.cellsOf f.type = 1 ∧ ∃ k, Tryd.prog.underlying f.type = some (.int k) := by
      have h1 := congrArg (·[i]?) hf
      simp only [List.getElem?_map, Array.getElem?_toList, hfi, Option.map_some] at h1
      have hc : i = 0 ∨ i = 1 ∨ i = 2 ∨ i = 3 ∨ i = 4 := by omega
      rcases hc with rfl | rfl | rfl | rfl | rfl <;> (simp at h1; exact ⟨h1.1, h1.2.1, _, h1.2.2⟩)
    obtain ⟨h1, h2, k, h3⟩ := hfo
    have h4 := hel i f hfi
    rw [h1, h2] at h4
    obtain ⟨y, hy⟩ : ∃ y, xs[i]? = some y := ⟨xs[i]'(by omega), List.getElem?_eq_getElem (by omega)⟩
    rw [hy] at h4
    obtain ⟨z, hc, rfl, _⟩ := DataW.trod_int h3 h4
    have h5 : cs[i]? = some (.int k z) := by
      have := congrArg (·[0]?) hc
      simpa [List.getElem?_take, List.getElem?_drop] using this
    have h6 := congrArg (·[i]?) hx
    simp only [List.getElem?_map, hy, Option.map_some] at h6
    rw [List.getElem?_map, h5]
    cases hri : r[i]? with
    | none => rw [hri] at h6; simp at h6
    | some p =>
      rw [hri] at h6
      simp at h6
      obtain ⟨rfl, rfl⟩ := h6
      rfl
  · rw [List.getElem?_eq_none (by omega), List.getElem?_eq_none (by simp; omega)]

set_option maxRecDepth 100000 in
theorem rows_cells {H : Type} {enc : TypeId × Value → H} {W : World} {b : Nat} {sp : Nat → Bool} {held : Bool} {fuel : Nat} {cs : List Value} {x : DataW H × List MemPlace} (h : DataW.trod enc Tryd.prog W b sp held fuel 129 cs = some x)
    (hx : x.1 = .agg (rowT.map fun r => .agg (r.map fun p => .lit (.int p.1 p.2)))) : cs = rowsC.toList := by
  obtain ⟨xs, n, rfl, rfl, hl, hxl, hel⟩ := DataW.trod_array Tryd.underlying129 h
  rw [cells129] at hl
  injection hx with hx
  apply List.ext_getElem?
  intro i
  by_cases hi : i < 45
  · have hq : i / 5 < 9 := by omega
    have h1 := hel (i / 5) hq
    rw [cells128] at h1
    obtain ⟨y, hy⟩ : ∃ y, xs[i / 5]? = some y := ⟨xs[i / 5]'(by omega), List.getElem?_eq_getElem (by omega)⟩
    rw [hy] at h1
    obtain ⟨r, hr⟩ : ∃ r, rowT[i / 5]? = some r := ⟨_, List.getElem?_eq_getElem (show i / 5 < rowT.length from hq)⟩
    have h2 : y.1 = .agg (r.map fun p => .lit (.int p.1 p.2)) := by
      have := congrArg (·[i / 5]?) hx
      simp only [List.getElem?_map, hy, hr, Option.map_some] at this
      exact Option.some.inj this
    have h3 := row_cells h1 r h2
    have h4 := congrArg (·[i % 5]?) h3
    simp only [List.getElem?_take, List.getElem?_drop, List.getElem?_map] at h4
    rw [if_pos (by omega), show i / 5 * 5 + i % 5 = i by omega] at h4
    rw [h4]
    have hall : ∀ i < 45, ∀ r, rowT[i / 5]? = some r → (r[i % 5]?).map (fun p => Value.int p.1 p.2) = rowsC.toList[i]? := by
      intro i hi r hr
      have hc : ∃ q m, i = q * 5 + m ∧ m < 5 ∧ q < 9 := ⟨i / 5, i % 5, by omega, by omega, by omega⟩
      obtain ⟨q, m, rfl, hm, hq⟩ := hc
      rw [show (q * 5 + m) / 5 = q by omega] at hr
      rw [show (q * 5 + m) % 5 = m by omega]
      have hqc : q = 0 ∨ q = 1 ∨ q = 2 ∨ q = 3 ∨ q = 4 ∨ q = 5 ∨ q = 6 ∨ q = 7 ∨ q = 8 := by omega
      have hmc : m = 0 ∨ m = 1 ∨ m = 2 ∨ m = 3 ∨ m = 4 := by omega
      rcases hqc with rfl | rfl | rfl | rfl | rfl | rfl | rfl | rfl | rfl <;> obtain rfl := Option.some.inj hr <;> rcases hmc with rfl | rfl | rfl | rfl | rfl <;> rfl
    exact hall i hi r hr
  · rw [List.getElem?_eq_none (by omega), List.getElem?_eq_none (by have : rowsC.toList.length = 45 := by rfl
                                                                    omega)]

theorem rows_of_laid {W : World} (h : laidMetH Tryd.prog laidL W) : RowsAt W := by
  rw [MakeChecks.laidMetH_plain _ _ _ (by kernel_rfl)] at h
  obtain ⟨ps, ⟨g0, t0, cs0, f0, p0, q0, hg0, ht0, hv0, hd0, _, _⟩, _, _⟩ := h
  obtain rfl := Option.some.inj (gRows.symm.trans hg0)
  obtain rfl := Option.some.inj (tRows.symm.trans ht0)
  have h1 := rows_cells hd0 rfl
  unfold World.var? at hv0
  rw [gRows] at hv0
  simp only [Option.bind_some] at hv0
  split at hv0
  · rename_i cs t fr hb
    injection hv0 with e
    subst e
    have e2 : cs = rowsC := Array.toList_inj.1 h1
    subst e2
    exact ⟨t, fr, hb⟩
  · cases hv0

/-- The door's own heap meets the condition. -/
theorem door_met (os : Os) (args : Array Value) : laidMetH Tryd.prog laidL ((World.doorLaid Tryd.prog 400 os).forCall (fun _ _ => 0) ⟨#[], args, []⟩).memory :=
  laidMetH_of_parts3 (fuel := 8) (laidMet_of_run' 8 (by kernel_rfl) (by kernel_rfl)) (by kernel_rfl) (by kernel_rfl)

/-- A row of integers among the arguments. -/
def IsRow (k : IntKind) (w : World) (a : Option Addr) (len cap : Nat) (zs : List Int) : Prop :=
  (a = none ∧ len = 0 ∧ cap = 0 ∧ zs = []) ∨
  ∃ x, a = some x ∧ len ≤ cap ∧ cap ≤ maxLen ∧ zs.length = cap ∧ (∀ i, i < zs.length → w.cell? (x.add i) = some (.int k (zs.getD i 0))) ∧ ∀ n ∈ zs, (Lit.int k n).wf = true
theorem IsRow.cap {k : IntKind} {w : World} {a : Option Addr} {len cap : Nat} {zs : List Int} (h : IsRow k w a len cap zs) : len ≤ cap ∧ cap ≤ 9223372036854775807 := by
  rcases h with ⟨_, rfl, rfl, _⟩ | ⟨x, _, h1, h2, _⟩
  · exact ⟨Nat.le_refl _, by omega⟩
  · exact ⟨h1, by unfold maxLen at h2; omega⟩
theorem IsRow.int {w : World} {a : Option Addr} {len cap : Nat} {zs : List Int} (h : IsRow .i64 w a len cap zs) (i : Nat) (hi : i < len) : ∃ g off, a = some ⟨g, off, none⟩ ∧ w.cell? ⟨g, off + i, none⟩ = some (.int .i64 (zs.getD i 0)) ∧ Is64 (zs.getD i 0) := by
  rcases h with ⟨_, rfl, _, _⟩ | ⟨x, rfl, h1, h2, h3, h4, h5⟩
  · omega
  · have hc := h4 i (by omega)
    obtain ⟨b, off, spot⟩ := x
    have hspot : spot = none := by simpa [Addr.add] using World.cell?_spot (h4 0 (by omega))
    subst hspot
    have e1 : (⟨b, off, none⟩ : Addr).add i = ⟨b, off + i, none⟩ := by unfold Addr.add; split <;> simp_all
    rw [e1] at hc
    refine ⟨b, off, rfl, hc, ?_⟩
    have hm : zs.getD i 0 ∈ zs := by
      rw [List.getD_eq_getElem?_getD, List.getElem?_eq_getElem (by omega)]
      exact List.getElem_mem (by omega)
    have hw := h5 _ hm
    simp [Lit.wf, IntKind.min, IntKind.max, IntKind.signed, IntKind.bits] at hw
    unfold Is64
    rw [List.getD_eq_getElem?_getD]
    omega
end Go.Proofs.YtecmhpncgdjgjaaDoor
