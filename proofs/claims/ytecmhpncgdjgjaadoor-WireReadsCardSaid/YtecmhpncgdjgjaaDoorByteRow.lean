/-
  Bytes among the arguments, read as the form reads them. Conditions: none.
-/
import Derived.Test.YtecmhpncgdjgjaaDoorLaid
import Derived.Deep.Matrix
namespace Go.Proofs.YtecmhpncgdjgjaaDoor
open Go.RowKit Go.Deep Go.ChangeShapes
set_option linter.unusedVariables false

theorem reach_is : reachBytes = 140737488351232 := by kernel_rfl
theorem cells5 : Tryd.prog.cellsOf 5 = 1 := by kernel_rfl
theorem bytes_5 : Tryd.prog.bytesOf 5 = 1 := by kernel_rfl
set_option maxRecDepth 100000 in
/-- What the form reads as bytes are bytes. -/
theorem bytes_of_trod {H : Type} {enc : TypeId × Value → H} {W : World} {base : Nat} {held : Bool} {fuel : Nat} {v : Value} {d : DataW H} {ps : List MemPlace} (h : DataW.trod enc Tryd.prog W base (fun _ => true) held fuel 24 [v] = some (d, ps))
    (hw : ∀ x ∈ d.weights Tryd.prog 24, x ≤ reachBytes) : ∃ b, BytesAt (fun _ => True) W v b ∧ b.length ≤ 140737488355000 := by
  rcases open_ints Tryd.underlying24 Tryd.underlying5 cells5 h with ⟨hcs, _⟩ | ⟨x, len, cap, zs, hcs, _, hl, hm, hz, hx, hcell, hwz⟩
  · injection hcs with hcs
    subst hcs
    exact ⟨[], ⟨none, 0, rfl, Nat.le_refl _, by omega, .inl rfl⟩, by simp⟩
  · injection hcs with hcs
    subst hcs
    simp only [if_true] at hz
    have hd := congrArg Prod.fst hx
    simp only at hd
    subst hd
    have hC : cap ≤ 140737488351232 := by
      rw [← reach_is]
      refine hw cap ?_
      rw [DataW.weights, Tryd.underlying24]
      simp only [List.mem_cons]
      refine .inl ?_
      rw [bytes_5]
      simp [lits, hz]
      omega
    obtain ⟨bs, hbs⟩ : ∃ bs : List UInt8, (zs.take len).map (fun n => UInt8.ofNat n.toNat) = bs := ⟨_, rfl⟩
    have hbl : bs.length = len := by rw [← hbs, List.length_map, List.length_take]; omega
    refine ⟨bs, ⟨some x, cap, by rw [hbl], by omega, by omega, ?_⟩, by omega⟩
    by_cases h0 : bs = []
    · exact .inl h0
    · have hL : 0 < len := by rw [← hbl]; exact List.length_pos_iff.2 h0
      obtain ⟨g, o2, sp⟩ := x
      have hsp : sp = none := by simpa [Addr.add] using World.cell?_spot (hcell 0 (by omega))
      subst hsp
      refine .inr ⟨g, o2, rfl, trivial, fun k hk => ?_⟩
      have hc := hcell k (by omega)
      have e2 : (⟨g, o2, none⟩ : Addr).add k = ⟨g, o2 + k, none⟩ := by unfold Addr.add; split <;> simp_all
      rw [e2] at hc
      rw [hc]
      have hkz : k < zs.length := by omega
      have hw := hwz (zs[k]'hkz) (List.getElem_mem hkz)
      simp [Lit.wf, IntKind.min, IntKind.max, IntKind.signed, IntKind.bits] at hw
      have e3 : bs[k]'hk = UInt8.ofNat (zs[k]'hkz).toNat := by
        subst hbs
        simp
      rw [e3, List.getD_eq_getElem?_getD, List.getElem?_eq_getElem hkz, UInt8.toNat_ofNat']
      simp
      omega
end Go.Proofs.YtecmhpncgdjgjaaDoor
