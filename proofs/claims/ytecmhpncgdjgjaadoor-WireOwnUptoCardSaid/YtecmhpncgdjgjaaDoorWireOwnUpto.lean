/-
  The Go function WireOwn returns true of any numbers, texts and bytes that are together of bulk at most 1048576, whatever world it is called in, and changes nothing of what was there. Conditions: the rows of characters lie as the program's text lays them; the bulk of what is handed in is at most 1048576.
-/
import Derived.Test.YtecmhpncgdjgjaaDoorOwnLaw
import Derived.SliceStrings
import Derived.Test.YtecmhpncgdjgjaaDoorCards
import Derived.Test.YtecmhpncgdjgjaaDoorTie
import Derived.SevenTiedAt
import Derived.Deep.Matrix
import Derived.SizedLaws
import Derived.Deep.DeepHandedRow
namespace Go.Proofs.YtecmhpncgdjgjaaDoor.wireOwnUpto
open Go.ChangeShapes Go.WideShapes Go.ChangeAt Go.RowKit Go.Deep
set_option linter.unusedVariables false

theorem bulk_bound {H : Type} {l : List (DataW H)} (h : Rows.uptoSmall H l = true) : Rows.uptoBulkAll l ≤ 1048576 := of_decide_eq_true h

theorem cells5 : Tryd.prog.cellsOf 5 = 1 := by kernel_rfl
set_option maxRecDepth 100000 in
/-- What the form reads as bytes are bytes. -/
theorem bytes_of_row {H : Type} {enc : TypeId × Value → H} {W : World} {base : Nat} {held : Bool} {fuel : Nat} {v : Value} {d : DataW H} {ps : List MemPlace} (h : DataW.trod enc Tryd.prog W base (fun _ => true) held fuel 24 [v] = some (d, ps)) : ∃ b, BytesAt (fun _ => True) W v b := by
  rcases open_ints Tryd.underlying24 Tryd.underlying5 cells5 h with ⟨hcs, _⟩ | ⟨x, len, cap, zs, hcs, _, hl, hm, hz, hx, hcell, hwz⟩
  · injection hcs with hcs
    subst hcs
    exact ⟨[], ⟨none, 0, rfl, Nat.le_refl _, by omega, .inl rfl⟩⟩
  · injection hcs with hcs
    subst hcs
    simp only [if_true] at hz
    have hd := congrArg Prod.fst hx
    simp only at hd
    subst hd
    have hC := hm
    unfold maxLen at hC
    obtain ⟨bs, hbs⟩ : ∃ bs : List UInt8, (zs.take len).map (fun n => UInt8.ofNat n.toNat) = bs := ⟨_, rfl⟩
    have hbl : bs.length = len := by rw [← hbs, List.length_map, List.length_take]; omega
    refine ⟨bs, ⟨some x, cap, by rw [hbl], by omega, by omega, ?_⟩⟩
    by_cases h0 : bs = []
    · exact .inl h0
    · have hL : 0 < len := by rw [← hbl]; exact List.length_pos_iff.2 h0
      obtain ⟨g, o2, sp⟩ := x
      have hsp : sp = none := by simpa [Addr.add] using World.cell?_spot (hcell 0 (by omega))
      subst hsp
      refine .inr ⟨g, o2, rfl, trivial, fun k hk => ?_⟩
      have hc := hcell k (by omega)
      have e2 : (⟨g, o2, none⟩ : Addr).add k = ⟨g, o2 + k, none⟩ := by unfold Addr.add; split <;> simp_all
      rw [e2] at hc
      rw [hc]
      have hkz : k < zs.length := by omega
      have hw := hwz (zs[k]'hkz) (List.getElem_mem hkz)
      simp [Lit.wf, IntKind.min, IntKind.max, IntKind.signed, IntKind.bits] at hw
      have e3 : bs[k]'hk = UInt8.ofNat (zs[k]'hkz).toNat := by
        subst hbs
        simp
      rw [e3, List.getD_eq_getElem?_getD, List.getElem?_eq_getElem hkz, UInt8.toNat_ofNat']
      simp
      omega

theorem bulk_len {H : Type} (l : List (DataW H)) : l.length ≤ Rows.uptoBulkAll l := by
  induction l with
  | nil => exact Nat.zero_le _
  | cons d r ih =>
    have h1 : 1 ≤ Rows.uptoBulk d := by
      cases d with
      | lit l => cases l <;> simp [Rows.uptoBulk]
      | nil => simp [Rows.uptoBulk]
      | ptr d => simp [Rows.uptoBulk]
      | slice elems spare => simp [Rows.uptoBulk]
      | agg parts => simp [Rows.uptoBulk]
      | iface t d => simp [Rows.uptoBulk]
      | map entries => simp [Rows.uptoBulk]
      | held h => simp [Rows.uptoBulk]
    simp only [List.length_cons, Rows.uptoBulkAll]
    omega
theorem len_of_bulk {H : Type} {enc : TypeId × Value → H} {W : World} {base : Nat} {held : Bool} {d : DataW H} {fuel : Nat} {t e : TypeId} {a : Option Addr} {len cap : Nat} {ps : List MemPlace} (hu : Tryd.prog.underlying t = some (.slice e))
    (h : DataW.trod enc Tryd.prog W base (fun _ => true) held fuel t [.slice a len cap] = some (d, ps)) : len ≤ Rows.uptoBulk d := by
  rcases open_slice hu h with ⟨hcs, hx⟩ | ⟨a, len, cap, m, n, D, Pl, hcs, hb, hl, hm, hmm, hx, hel⟩
  · injection hcs with hcs
    cases hcs
    exact Nat.zero_le _
  · injection hcs with hcs
    cases hcs
    have hde := congrArg Prod.fst hx
    simp only at hde
    subst hde
    rw [Rows.uptoBulk]
    have h9 := bulk_len ((List.range len).map D)
    simp only [List.length_map, List.length_range] at h9
    omega
theorem strs_bulk_all {H : Type} (ss : List ByteArray) (s : ByteArray) (hs : s ∈ ss) : s.size ≤ Rows.uptoBulkAll (strs ss : List (DataW H)) := by
  induction ss with
  | nil => cases hs
  | cons x r ih =>
    show s.size ≤ Rows.uptoBulk (DataW.lit (.string x.data.toList)) + Rows.uptoBulkAll (strs r : List (DataW H))
    rcases List.mem_cons.1 hs with rfl | h
    · have : s.data.toList.length = s.size := by simp
      simp only [Rows.uptoBulk]
      omega
    · have := ih h; omega
theorem strs_bulk {H : Type} (n : Nat) (ss : List ByteArray) (s : ByteArray) (hs : s ∈ ss) : s.size ≤ Rows.uptoBulk (DataW.slice (strs (ss.take n)) (strs (ss.drop n)) : DataW H) := by
  rw [Rows.uptoBulk]
  rw [← List.take_append_drop n ss] at hs
  rcases List.mem_append.1 hs with h | h
  · have := strs_bulk_all (H := H) _ s h; omega
  · have := strs_bulk_all (H := H) _ s h; omega

theorem reads (os : Os) {H : Type} (enc : TypeId × Value → H) : ∃ places, DataW.whole enc Tryd.prog ((World.doorLaid Tryd.prog 400 os).forCall (fun _ _ => 0) ⟨#[], #[.slice none 0 0, .slice none 0 0, .slice none 0 0], []⟩).memory Tryd.f12.params.toList Rows.wireOwnSpec.vars false #[Value.slice none 0 0, Value.slice none 0 0, Value.slice none 0 0].toList 8 = some ([.nil, .nil, .nil], [], places) :=
  ⟨[], by kernel_rfl⟩

set_option maxRecDepth 100000 in
theorem lifted (os : Os) (started : os.Started) (H : Type) (enc : TypeId × Value → H) (F : Stop.Interp) :
    ReturnsInHanded {} Tryd.checked os 12 .any ((Rows.OpenSpec.upto Rows.wireOwnSpec).preRow enc Tryd.prog Tryd.f12 Rows.wireOwnUptoRow.domain false Rows.wireOwnUptoRow.laid) (((Rows.OpenSpec.upto Rows.wireOwnSpec).at F).post enc Tryd.prog Tryd.f12 false true false false) := by
  obtain ⟨places, hx⟩ := reads os enc
  refine returnsInHanded_of_row (C := Tryd.checked) (s := Rows.OpenSpec.upto Rows.wireOwnSpec) own started (by kernel_rfl) Tryd.func12
    ⟨World.doorLaid Tryd.prog 400 os, fun _ _ => 0, ⟨#[], #[.slice none 0 0, .slice none 0 0, .slice none 0 0], []⟩, rfl, World.shaped_of_RefB (by kernel_rfl) (by kernel_rfl), rfl, (Input.okWide_of_okWideB (by kernel_rfl)).2,
      OpenSpec.preRow_of_cond 8 hx (by kernel_rfl) (fun k hk => by cases hk; kernel_rfl) (by kernel_rfl) (door_met os _), by
      simp only [Assume.holds]
      exact ⟨by simp, by simp, fun _ => Modest.zero, by simp, by simp⟩⟩ ?_
  intro W base args ds gs before hval0 hW _ hcond _ hL _ _
  have hbulk := bulk_bound (hcond _ rfl)
  have hval : ∀ (j : Nat) t v, Tryd.f12.params[j]? = some t → args[j]? = some v → Value.okWide Tryd.prog W .any base t v := hval0
  have hW' := hW
  obtain ⟨p, q, hA0, hV, rfl, hfz, hnd⟩ := hW
  have hA : DataW.TrodAll enc Tryd.prog W 0 (fun _ => true) true Tryd.f12.params.toList args.toList ds p := hA0
  rw [Tryd.params12] at hA hval
  obtain ⟨v0, vs0, d0, ds0, p0, q0, hargs0, rfl, rfl, h0, r0⟩ := trodAll_cons hA
  obtain ⟨v1, vs1, d1, ds1, p1, q1, hargs1, rfl, rfl, h1, r1⟩ := trodAll_cons r0
  obtain ⟨v2, vs2, d2, ds2, p2, q2, hargs2, rfl, rfl, h2, r2⟩ := trodAll_cons r1
  obtain ⟨rfl, rfl, rfl⟩ := trodAll_nil r2
  obtain rfl : args = #[v0, v1, v2] := by cases args; simp_all
  obtain ⟨rfl, rfl⟩ := trodVars_none hV
  obtain ⟨a0, len0, cap0, rfl⟩ := okWide_slice Tryd.underlying22 (hval 0 22 v0 rfl rfl)
  have k0 := h0
  have lt0 : ∀ x ∈ p0, x.block < W.heap.size := by obtain ⟨m, hm⟩ := k0; exact DataW.trod_lt m _ _ _ hm
  obtain ⟨a1, len1, cap1, rfl⟩ := okWide_slice Tryd.underlying56 (hval 1 56 v1 rfl rfl)
  have k1 := h1
  have lt1 : ∀ x ∈ p1, x.block < W.heap.size := by obtain ⟨m, hm⟩ := k1; exact DataW.trod_lt m _ _ _ hm
  obtain ⟨a2, len2, cap2, rfl⟩ := okWide_slice Tryd.underlying24 (hval 2 24 v2 rfl rfl)
  have k2 := h2
  have lt2 : ∀ x ∈ p2, x.block < W.heap.size := by obtain ⟨m, hm⟩ := k2; exact DataW.trod_lt m _ _ _ hm
  have hbulk2 : Rows.uptoBulk d0 + (Rows.uptoBulk d1 + Rows.uptoBulk d2) ≤ 1048576 := by
    have h := hbulk
    simp only [List.append_nil, Rows.uptoBulkAll] at h
    omega
  obtain ⟨z0, w0, hl0⟩ : ∃ zs, IsRow .i64 W a0 len0 cap0 zs ∧ len0 ≤ Rows.uptoBulk d0 := by
    obtain ⟨fuel, hf⟩ := h0
    rcases open_ints Tryd.underlying22 Tryd.underlying3 (by kernel_rfl) hf with ⟨hcs, _⟩ | ⟨x, l, c, zs, hcs, _, hl, hm, hz, hx, hcell, hwz⟩
    · simp [Value.cells] at hcs
      obtain ⟨rfl, rfl, rfl⟩ := hcs
      exact ⟨[], .inl ⟨rfl, rfl, rfl, rfl⟩, Nat.zero_le _⟩
    · simp [Value.cells] at hcs
      obtain ⟨rfl, rfl, rfl⟩ := hcs
      refine ⟨zs, .inr ⟨_, rfl, hl, hm, by simpa using hz, hcell, hwz⟩, ?_⟩
      exact len_of_bulk Tryd.underlying22 hf
  obtain ⟨z1, w1, hl1⟩ : ∃ ss, IsTexts W a1 len1 cap1 ss ∧ len1 ≤ Rows.uptoBulk d1 := by
    obtain ⟨fuel, hf⟩ := h1
    rcases open_strings Tryd.underlying56 Tryd.underlying9 (by kernel_rfl) hf with ⟨hcs, _⟩ | ⟨x, l, c, ss, hcs, _, hl, hm, hz, hx, hcell, hwz⟩
    · simp [Value.cells] at hcs
      obtain ⟨rfl, rfl, rfl⟩ := hcs
      exact ⟨[], .inl ⟨rfl, rfl, rfl⟩, Nat.zero_le _⟩
    · simp [Value.cells] at hcs
      obtain ⟨rfl, rfl, rfl⟩ := hcs
      refine ⟨ss, .inr ⟨_, rfl, hl, hm, by simpa using hz, hcell, fun s hs => ?_⟩, len_of_bulk Tryd.underlying56 hf⟩
      have hd : d1 = .slice (strs (ss.take len1)) (strs (ss.drop len1)) := congrArg Prod.fst hx
      subst hd
      have h5 := strs_bulk (H := H) len1 ss s hs
      omega
  obtain ⟨b2, w2, wl2⟩ : ∃ b, BytesAt (fun _ => True) W (.slice a2 len2 cap2) b ∧ b.length ≤ Rows.uptoBulk d2 := by
    obtain ⟨fuel, hf⟩ := h2
    have hlen2 := len_of_bulk Tryd.underlying24 hf
    obtain ⟨b, hb1⟩ := bytes_of_row hf
    refine ⟨b, hb1, ?_⟩
    obtain ⟨_, _, e, _⟩ := hb1
    injection e with _ e2 _
    omega
  have hrows := rows_of_laid hL
  clear hA0 hval0
  refine (own_walk a0 len0 cap0 z0 a1 len1 cap1 z1 b2 _ W (by omega) (by omega) (by omega) w0 w1 w2 hrows).mono fun e W' ⟨he, bel⟩ => ?_
  subst he
  exact ⟨_, rfl, _, _, _, [], _, [], hW', trodAll_mk1 (shut_bool Tryd.underlying4 _), (trodAll_cons_mk (Below.trod laidOut (by kernel_rfl) (of_decide_eq_true (by kernel_rfl)) k0 bel lt0) (trodAll_cons_mk (Below.trod laidOut (by kernel_rfl) (of_decide_eq_true (by kernel_rfl)) k1 bel lt1) (trodAll_cons_mk (Below.trod laidOut (by kernel_rfl) (of_decide_eq_true (by kernel_rfl)) k2 bel lt2) trodAll_mk0))), rfl, bel.frame _, fun h => by cases h⟩

theorem over : Rows.wireOwnUptoRow.holds Tryd.pinned (Rows.OpenSpec.upto Rows.wireOwnSpec) :=
  OpenClaim.holds_of_cond 12 Tryd.f12 rfl rfl rfl rfl rfl rfl rfl ⟨rfl, rfl, rfl, rfl, rfl⟩ rfl rfl rfl rfl rfl (by kernel_rfl) Tryd.func12 (by kernel_rfl)
    (of_decide_eq_true (by kernel_rfl)) (by unfold Func.isWrapper; first | (rw [if_pos (by decide +kernel)]; kernel_rfl) | (rw [if_neg (by decide +kernel)]; exact ⟨rfl, rfl⟩))
    (fun os started H enc _ F => by rw [OpenClaim.pre_eq_preRow]; exact lifted os started H enc F)

/-- THE STATEMENT: THE TIED CARD -/
theorem proved : Rows.WireOwnUptoCardSaid :=
  Claim7.holds_tied_plain_at .later [] [.data] true (true, "991639e4bd7847cc7b90d788fb766c0e5fe9c1cb90828cb2f4f6a3f59393f491") false
    over (fun _ h => by cases h) (by kernel_rfl) (fun _ h => by cases h) wireOwnUpto_row_tie rfl ⟨rfl, rfl⟩ (by kernel_rfl) rfl
    (fun f fn hf hfn => by
      obtain rfl : f = 12 := Option.some.inj ((show Tryd.prog.funcNamed "sigil/sigillaw2.WireOwn" = some 12 by kernel_rfl).symm.trans hf) |>.symm
      obtain rfl : fn = Tryd.f12 := (Option.some.inj (Tryd.func12.symm.trans hfn)).symm
      exact ⟨by kernel_rfl, fun j t ht => by
        rw [Tryd.params12] at ht
        have hm : t ∈ [22, 56, 24] := by simpa using Array.mem_of_getElem? ht
        have hall : ([22, 56, 24].all fun u => !Tryd.prog.wantsStandIn u) = true := by kernel_rfl
        exact (show Tryd.prog.wantsStandIn t = false by simpa using List.all_eq_true.1 hall t hm)⟩)
    (by kernel_rfl)
#print axioms proved
end Go.Proofs.YtecmhpncgdjgjaaDoor.wireOwnUpto
