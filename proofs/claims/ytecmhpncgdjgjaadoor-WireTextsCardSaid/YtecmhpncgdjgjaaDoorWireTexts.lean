/-
  The Go function WireTexts returns true of any texts, whatever world it is called in, and changes nothing of what was there. Conditions: the rows of characters lie as the program's text lays them.
-/
import Derived.Test.YtecmhpncgdjgjaaDoorTexts
import Derived.Test.YtecmhpncgdjgjaaDoorCards
import Derived.Test.YtecmhpncgdjgjaaDoorTie
import Derived.SevenTiedAt
import Derived.Deep.Matrix
import Derived.SliceStrings
import Derived.SizedLaws
namespace Go.Proofs.YtecmhpncgdjgjaaDoor.wireTexts
open Go.ChangeShapes Go.WideShapes Go.ChangeAt Go.RowKit Go.Deep
set_option linter.unusedVariables false

theorem strs_all {H : Type} {e : TypeId} (ss : List ByteArray) : ∀ s ∈ ss, s.size ∈ DataW.weightsAll (H := H) Tryd.prog e (strs ss) := by
  induction ss with
  | nil => intro s hs; simp at hs
  | cons t ss ih =>
    intro s hs
    show s.size ∈ DataW.weights Tryd.prog e (DataW.lit (.string t.data.toList)) ++ DataW.weightsAll Tryd.prog e (strs ss)
    rcases List.mem_cons.1 hs with rfl | h
    · exact List.mem_append.2 (.inl (by simp [DataW.weights]))
    · exact List.mem_append.2 (.inr (ih s h))
theorem strs_weigh {H : Type} {ts : List TypeId} {ss : List ByteArray} {n : Nat} {s : ByteArray} (hs : s ∈ ss) :
    s.size ∈ DataW.weightsEach (H := H) Tryd.prog ([56] ++ ts) ([DataW.slice (strs (ss.take n)) (strs (ss.drop n))] ++ []) := by
  show s.size ∈ DataW.weights Tryd.prog 56 (DataW.slice (strs (ss.take n)) (strs (ss.drop n))) ++ DataW.weightsEach Tryd.prog ts []
  refine List.mem_append.2 (.inl ?_)
  rw [DataW.weights, Tryd.underlying56]
  simp only [List.mem_cons, List.mem_append]
  refine .inr ?_
  rw [← List.take_append_drop n ss] at hs
  rcases List.mem_append.1 hs with h | h
  · exact .inl (strs_all _ s h)
  · exact .inr (strs_all _ s h)

set_option maxRecDepth 100000 in
theorem lifted (os : Os) (started : os.Started) (H : Type) (enc : TypeId × Value → H) :
    ReturnsInHanded {} Tryd.checked os 11 .any (fun w args => (Rows.wireTextsSpec.pre enc Tryd.prog Tryd.f11 [] false w args ∧ laidMetH Tryd.prog laidL w) ∧ sizedMet enc Tryd.prog Tryd.f11 (OpenSpec.ofChange Rows.wireTextsSpec) false w args)
      (Rows.wireTextsSpec.post enc Tryd.prog Tryd.f11 false true false false) := by
  refine returnsInHanded_of_change_and (C := Tryd.checked) (X := fun w _ => laidMetH Tryd.prog laidL w) (fun _ _ _ hh h => h.of_heap hh) own started (by kernel_rfl) Tryd.func11
    (ChangeSpec.witness_shaped (enc := enc) (C := Tryd.checked) (os := os) (X := fun w _ => laidMetH Tryd.prog laidL w) false (World.doorLaid Tryd.prog 400 os) #[.slice none 0 0] 8 rfl (World.shaped_of_RefB (by kernel_rfl) (by kernel_rfl)) (by kernel_rfl) (by kernel_rfl) (by kernel_rfl) (door_met os _)) ?_
  intro W base args ds gs before hval0 hW _ hsz hL _
  have hval : ∀ (j : Nat) t v, Tryd.f11.params[j]? = some t → args[j]? = some v → Value.okWide Tryd.prog W .any base t v := hval0
  have hW' := hW
  obtain ⟨p, q, hA0, hV, rfl, hfz, hnd⟩ := hW
  have hA : DataW.TrodAll enc Tryd.prog W 0 (fun _ => true) true Tryd.f11.params.toList args.toList ds p := hA0
  rw [Tryd.params11] at hA hval
  obtain ⟨v0, vs0, d0, ds0, p0, q0, hargs, rfl, rfl, h0, r0⟩ := trodAll_cons hA
  obtain ⟨rfl, rfl, rfl⟩ := trodAll_nil r0
  obtain rfl : args = #[v0] := by cases args; simp_all
  obtain ⟨rfl, rfl⟩ := trodVars_none hV
  obtain ⟨a0, len0, cap0, rfl⟩ := okWide_slice Tryd.underlying56 (hval 0 56 v0 rfl rfl)
  have k0 := h0
  have lt0 : ∀ x ∈ p0, x.block < W.heap.size := by obtain ⟨m, hm⟩ := k0; exact DataW.trod_lt m _ _ _ hm
  obtain ⟨z0, w0⟩ : ∃ zs, IsStrs W a0 len0 cap0 zs := by
    obtain ⟨fuel, hf⟩ := h0
    rcases open_strings Tryd.underlying56 Tryd.underlying9 (by kernel_rfl) hf with ⟨hcs, _⟩ | ⟨x, l, c, ss, hcs, _, hl, hm, hz, hx, hcell, hwz⟩
    · simp [Value.cells] at hcs
      obtain ⟨rfl, rfl, rfl⟩ := hcs
      exact ⟨[], .inl ⟨rfl, rfl, rfl⟩⟩
    · simp [Value.cells] at hcs
      obtain ⟨rfl, rfl, rfl⟩ := hcs
      refine ⟨ss, .inr ⟨_, rfl, hl, hm, by simpa using hz, hcell, fun s hs => ?_⟩⟩
      have hd : d0 = .slice (strs (ss.take len0)) (strs (ss.drop len0)) := congrArg Prod.fst hx
      subst hd
      have h2 := List.all_eq_true.1 hsz s.size (by
        show s.size ∈ DataW.weightsEach Tryd.prog (Tryd.f11.params.toList ++ _) _
        rw [Tryd.params11]
        exact strs_weigh hs)
      have h3 : s.size ≤ reachBytes := by simpa using h2
      unfold reachBytes at h3
      omega
  have hrows := rows_of_laid hL
  clear hA0 hval0
  refine (texts_walk a0 len0 cap0 z0 W w0 hrows).mono fun e W' ⟨he, bel⟩ => ?_
  subst he
  exact ⟨_, rfl, _, _, _, [], _, [], hW', trodAll_mk1 (shut_bool Tryd.underlying4 _), (trodAll_cons_mk (Below.trod laidOut (by kernel_rfl) (of_decide_eq_true (by kernel_rfl)) k0 bel lt0) trodAll_mk0), rfl, bel.frame _, fun h => by cases h⟩

theorem over : Rows.wireTextsRow.holds Tryd.pinned (OpenSpec.ofChange Rows.wireTextsSpec) :=
  OpenClaim.holds_of_wide 11 Tryd.f11 rfl rfl rfl rfl rfl rfl rfl ⟨rfl, rfl, rfl, rfl, rfl⟩ rfl rfl rfl rfl rfl (by kernel_rfl) Tryd.func11 (by kernel_rfl)
    (of_decide_eq_true (by kernel_rfl)) (by unfold Func.isWrapper; first | (rw [if_pos (by decide +kernel)]; kernel_rfl) | (rw [if_neg (by decide +kernel)]; exact ⟨rfl, rfl⟩))
    (fun os started H enc _ => lifted os started H enc)

/-- THE STATEMENT: THE TIED CARD -/
theorem proved : Rows.WireTextsCardSaid :=
  Claim7.holds_tied_plain_at .later [] [.data] true (true, "991639e4bd7847cc7b90d788fb766c0e5fe9c1cb90828cb2f4f6a3f59393f491") false
    over (fun _ h => by cases h) (by kernel_rfl) (fun _ h => by cases h) wireTexts_row_tie rfl ⟨rfl, rfl⟩ (by kernel_rfl) rfl
    (fun f fn hf hfn => by
      obtain rfl : f = 11 := Option.some.inj ((show Tryd.prog.funcNamed "sigil/sigillaw2.WireTexts" = some 11 by kernel_rfl).symm.trans hf) |>.symm
      obtain rfl : fn = Tryd.f11 := (Option.some.inj (Tryd.func11.symm.trans hfn)).symm
      exact ⟨by kernel_rfl, fun j t ht => by
        rw [Tryd.params11] at ht
        have hm : t ∈ [56] := by simpa using Array.mem_of_getElem? ht
        have hall : ([56].all fun u => !Tryd.prog.wantsStandIn u) = true := by kernel_rfl
        exact (show Tryd.prog.wantsStandIn t = false by simpa using List.all_eq_true.1 hall t hm)⟩)
    (by kernel_rfl)
#print axioms proved
end Go.Proofs.YtecmhpncgdjgjaaDoor.wireTexts
