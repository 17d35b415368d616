/-
  The Go function ShellJoins returns true of any words and any comment, whatever world it is called in, and changes nothing of what was there. Conditions: none.
-/
import Derived.Test.YtiocgdegaabnmaaShellJoinsWalk
import Derived.Test.YtiocgdegaabnmaaRows
import Derived.WalkKit
import Derived.ProofKit
import Derived.OpenShut
import Derived.ShutString
import Derived.Deep.Matrix
namespace Go.Proofs.Ytiocgdegaabnmaa.shellJoins
open Go.ChangeShapes Go.WideShapes Go.ChangeAt Go.RowKit Go.Deep
open Go.ChangeMaps (open_string shut_string)
set_option linter.unusedVariables false

theorem own : ownKnob Try.prog.godebug = none := by kernel_rfl
theorem laidOut : laidOutB Try.prog = true := by kernel_rfl

/-- The first bytes of each of the slices that came in, at most 4000. -/
theorem came (W : World) (x : Addr) (len cap : Nat) (A : Nat → Option Addr) (L C : Nat → Nat) (Z : Nat → List Int) (hl : len ≤ cap)
    (h : ∀ r, r < cap → W.cell? (x.add r) = some (.slice (A r) (L r) (C r)) ∧ L r ≤ C r ∧ C r ≤ maxLen ∧ (Z r).length = C r ∧ (∀ n ∈ Z r, (Lit.int .u8 n).wf = true) ∧ (A r = none → C r = 0) ∧
        ∀ a', A r = some a' → 0 ≤ a'.block ∧ ∀ c, c < C r → W.cell? (a'.add c) = some (.int .u8 ((Z r).getD c 0))) :
    ∃ ws : Nat → List UInt8, CameR W (some x) len ws := by
  have each : ∀ r, ∃ l : List UInt8, r < cap → l.length = min (L r) 4000 ∧ ReadsB W (.slice (A r) l.length (C r)) l := by
    intro r
    by_cases hr : r < cap
    · obtain ⟨h1, h2, h3, h4, h5, h6, h7⟩ := h r hr
      have hcame : CameB W (A r) (L r) (C r) (Z r) := by
        cases hA : A r with
        | none =>
          have hC := h6 hA
          exact .inl ⟨rfl, by omega, hC, List.eq_nil_of_length_eq_zero (by omega)⟩
        | some a' => exact .inr ⟨a', rfl, h2, h3, h4, fun i hi => (h7 a' hA).2 i (by omega), h5⟩
      obtain ⟨l, hl1, hl2⟩ := reads_came hcame (min (L r) 4000) (Nat.min_le_left _ _)
      exact ⟨l, fun _ => ⟨hl1, by rw [hl1]; exact hl2⟩⟩
    · exact ⟨[], fun h => absurd h hr⟩
  refine ⟨fun r => Classical.choose (each r), ?_⟩
  by_cases h0 : len = 0
  · exact .inl h0
  · have hsp := (h 0 (by omega)).1
    obtain ⟨b, off, spot⟩ := x
    have hspot : spot = none := by simpa [Addr.add] using World.cell?_spot hsp
    subst hspot
    refine .inr ⟨b, off, rfl, fun r hr => ?_⟩
    obtain ⟨h1, h2, h3, _⟩ := h r (by omega)
    obtain ⟨g1, g2⟩ := Classical.choose_spec (each r) (by omega)
    have e1 : (⟨b, off, none⟩ : Addr).add r = ⟨b, off + r, none⟩ := by unfold Addr.add; split <;> simp_all
    rw [e1] at h1
    exact ⟨A r, L r, C r, h1, g1, h2, by unfold maxLen at h3; omega, g2⟩

set_option maxRecDepth 100000 in
theorem lifted (os : Os) (started : os.Started) (H : Type) (enc : TypeId × Value → H) :
    ReturnsInHanded {} Try.checked os 11 .any (Rows.shellJoinsSpec.pre6 enc Try.prog Try.f11 Rows.shellJoinsRow.domain false) (Rows.shellJoinsSpec.post enc Try.prog Try.f11 false true false false) := by
  refine returnsInHanded_of_change (C := Try.checked) own started (by kernel_rfl) Try.func11
    (ChangeSpec.witness6 (enc := enc) (C := Try.checked) false ⟨#[], #[.slice none 0 0, .string ByteArray.empty], []⟩ 8 (by kernel_rfl) (by kernel_rfl) (by kernel_rfl) (by kernel_rfl)) ?_
  intro W base args ds gs before hval0 hW hcnd _
  have hval : ∀ (j : Nat) t v, Try.f11.params[j]? = some t → args[j]? = some v → Value.okWide Try.prog W .any base t v := hval0
  have hW' := hW
  obtain ⟨p, q, hA0, hV, rfl, hfz, hnd⟩ := hW
  have hA : DataW.TrodAll enc Try.prog W 0 (fun _ => true) true Try.f11.params.toList args.toList ds p := hA0
  rw [Try.params11] at hA hval
  obtain ⟨v0, vs0, d0, ds0, p0, q0, hargs, rfl, rfl, h0, r0⟩ := trodAll_cons hA
  obtain ⟨v1, vs1, d1, ds1, p1, q1, rfl, rfl, rfl, h1, r1⟩ := trodAll_cons r0
  obtain ⟨rfl, rfl, rfl⟩ := trodAll_nil r1
  obtain rfl : args = #[v0, v1] := by cases args; simp_all
  obtain ⟨rfl, rfl⟩ := trodVars_none hV
  obtain ⟨a0, len0, cap0, rfl⟩ := okWide_slice Try.underlying38 (hval 0 38 v0 rfl rfl)
  have k0 := h0
  have k1 := h1
  have lt0 : ∀ x ∈ p0, x.block < W.heap.size := by obtain ⟨m, hm⟩ := k0; exact DataW.trod_lt m _ _ _ hm
  have lt1 : ∀ x ∈ p1, x.block < W.heap.size := by obtain ⟨m, hm⟩ := k1; exact DataW.trod_lt m _ _ _ hm
  obtain ⟨a1, rfl, rfl, rfl, w1⟩ := open_string Try.underlying9 (hval 1 9 v1 rfl rfl) h1
  obtain ⟨ws, hws, hl0⟩ : ∃ ws : Nat → List UInt8, CameR W a0 len0 ws ∧ len0 ≤ 9223372036854775807 := by
    obtain ⟨fuel, hf⟩ := h0
    rcases open_int_rows Try.underlying38 Try.underlying35 Try.underlying5 (by kernel_rfl) (by kernel_rfl) hf with ⟨hcs, _⟩ | ⟨x, l, c, A, L, C, Z, hcs, _, hl, hm, _, hrows⟩
    · simp [Value.cells] at hcs
      obtain ⟨rfl, rfl, rfl⟩ := hcs
      exact ⟨fun _ => [], .inl rfl, by omega⟩
    · simp [Value.cells] at hcs
      obtain ⟨rfl, rfl, rfl⟩ := hcs
      obtain ⟨ws, hws⟩ := came W x len0 cap0 A L C Z hl hrows
      exact ⟨ws, hws, by unfold maxLen at hm; omega⟩
  clear hA0 hval0
  refine (shellJoins_walk a0 len0 cap0 a1 ws W hws hl0 (by unfold maxLen at w1; omega)).mono fun e W' ⟨he, bel⟩ => ?_
  subst he
  exact ⟨_, rfl, _, _, _, [], _, [], hW', trodAll_mk1 (shut_bool Try.underlying4 _), (trodAll_cons_mk (Below.trod laidOut (by kernel_rfl) (of_decide_eq_true (by kernel_rfl)) k0 bel lt0) (trodAll_cons_mk (shut_string Try.underlying9 w1) trodAll_mk0)), rfl, bel.frame _, fun h => by cases h⟩

theorem over : Rows.shellJoinsRow.holds Try.pinned (OpenSpec.ofChange Rows.shellJoinsSpec) :=
  OpenClaim.holds_of_wide 11 Try.f11 rfl rfl rfl rfl rfl rfl rfl ⟨rfl, rfl, rfl, rfl, rfl⟩ rfl rfl rfl rfl rfl (by kernel_rfl) Try.func11 (by kernel_rfl)
    (of_decide_eq_true (by kernel_rfl)) (by unfold Func.isWrapper; first | (rw [if_pos (by decide +kernel)]; kernel_rfl) | (rw [if_neg (by decide +kernel)]; exact ⟨rfl, rfl⟩))
    (fun os started H enc _ => lifted os started H enc)

/-- THE STATEMENT -/
theorem proved : Rows.ShellJoinsSaid := over
#print axioms proved
end Go.Proofs.Ytiocgdegaabnmaa.shellJoins
