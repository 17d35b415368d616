/-
  The statement WireSplits of package sigillaw2, walked; rows of bytes among the arguments. Conditions: the rows of characters lie as they are laid.
-/
import Derived.Test.YtecmhpncgdjgjaaDoorSplits
import Derived.Deep.Matrix
namespace Go.Proofs.YtecmhpncgdjgjaaDoor
open Go.RowKit
set_option linter.unusedVariables false
set_option linter.unusedSimpArgs false

/-- A row of byte slices among the arguments. -/
def IsRows (w : World) (a : Option Addr) (len cap : Nat) : Prop :=
  len ≤ cap ∧ cap ≤ 9223372036854775807 ∧ ∀ r, r < len → ∃ g off v b, a = some ⟨g, off, none⟩ ∧ w.cell? ⟨g, off + r, none⟩ = some v ∧ BytesAt (fun _ => True) w v b ∧ b.length ≤ 140737488355000

set_option maxHeartbeats 4000000 in
set_option maxRecDepth 100000 in
theorem splits_walk (a : Option Addr) (len cap : Nat) (w : World) (h : IsRows w a len cap) (hr : RowsAt w) : Calls Tryd.prog 5 #[.slice a len cap] w fun e w' => e = .returned (.bool true) ∧ Below w.heap.size w w' := by
  obtain ⟨hc1, hc2, hrows⟩ := h
  have HH := Lib.hid hrows
  clear hrows
  go_enter Tryd.func5, Tryd.ntmps5
  go_wp2_with fail
  refine (known_any w hr).mono ?_
  rintro e w1 ⟨rfl, hb1⟩
  go_wp2_with fail
  go_loopw [3] (fun vi wr => ∃ k : Nat, vi = .int .i64 k ∧ k ≤ len ∧ Below w.heap.size w wr) (fun vi _ => len - (intOf vi).toNat)
  case atStart => exact ⟨0, rfl, Nat.zero_le _, hb1⟩
  case round =>
    obtain ⟨k, rfl, hk, hbw⟩ := hrel
    by_cases hlt : k < len
    · obtain ⟨g, off, v, b, rfl, hc, hB, hbl⟩ := HH.out k hlt
      have kc := hbw.cell (p := ⟨g, off + k, none⟩) (cell_lt hc)
      rw [hc] at kc
      have HS := Lib.hid (fun W st (hW : Below w.heap.size w W) => splits_any W st b v (hB.later hW) hbl)
      obtain ⟨av, capv, rfl, _, _, hv0⟩ := hB
      have HB := Lib.hid hbw
      clear hc hv0 hbw
      go_wp2_with fail
      refine (HS.out wr true HB.out).mono ?_
      rintro e x1 ⟨rfl, hb1⟩
      have HB := Lib.hid (HB.out.trans (hb1.mono HB.out.size))
      have kc := hb1.cell (p := ⟨g, off + k, none⟩) (cell_lt kc) |>.trans kc
      clear hb1
      go_wp2_with fail
      refine (HS.out x1 false HB.out).mono ?_
      rintro e x2 ⟨rfl, hb2⟩
      have HB := Lib.hid (HB.out.trans (hb2.mono HB.out.size))
      clear hb2
      go_wp2_with fail
      go_roundw
      case rel => exact ⟨k + 1, by simp, by omega, HB.out⟩
      case measure => simp [intOf] <;> omega
    · go_wp2_with fail
      go_ret
      exact ⟨rfl, hbw⟩

open Go.Deep in
theorem mem_weights {H : Type} {e : TypeId} {x : Nat} {d : DataW H} {ds : List (DataW H)} (hd : d ∈ ds) (hx : x ∈ d.weights Tryd.prog e) : x ∈ DataW.weightsAll Tryd.prog e ds := by
  induction ds with
  | nil => simp at hd
  | cons c ds ih =>
    show x ∈ c.weights Tryd.prog e ++ DataW.weightsAll Tryd.prog e ds
    rcases List.mem_cons.1 hd with rfl | h
    · exact List.mem_append.2 (.inl hx)
    · exact List.mem_append.2 (.inr (ih h))
theorem bytes5 : Tryd.prog.bytesOf 5 = 1 := by kernel_rfl

open Go.Deep Go.ChangeShapes in
/-- A row of byte slices, as 'open_int_rows' gives it, no row larger than a process's addresses. -/
theorem isRows_of {H : Type} {W : World} {x : Addr} {len cap : Nat} {A : Nat → Option Addr} {L C : Nat → Nat} {Z : Nat → List Int} {spare : List (DataW H)} {ts : List TypeId} (hl : len ≤ cap) (hm : cap ≤ maxLen)
    (h : ∀ r, r < cap → W.cell? (x.add r) = some (.slice (A r) (L r) (C r)) ∧ L r ≤ C r ∧ C r ≤ maxLen ∧ (Z r).length = C r ∧ (∀ n ∈ Z r, (Lit.int .u8 n).wf = true) ∧ (A r = none → C r = 0) ∧
        ∀ a', A r = some a' → 0 ≤ a'.block ∧ ∀ c, c < C r → W.cell? (a'.add c) = some (.int .u8 ((Z r).getD c 0)))
    (hsz : (DataW.weightsEach Tryd.prog ([42] ++ ts) ([DataW.slice ((List.range len).map fun r => (intRow .u8 (A r) (L r) (Z r) : DataW H)) spare] ++ [])).all (· ≤ reachBytes) = true) : IsRows W (some x) len cap := by
  refine ⟨hl, by unfold maxLen at hm; omega, fun r hr => ?_⟩
  obtain ⟨h1, h2, h3, h4, h5, h6, h7⟩ := h r (by omega)
  obtain ⟨b0, off, spot⟩ := x
  have hspot : spot = none := by simpa [Addr.add] using World.cell?_spot (h 0 (by omega)).1
  subst hspot
  have e1 : (⟨b0, off, none⟩ : Addr).add r = ⟨b0, off + r, none⟩ := by unfold Addr.add; split <;> simp_all
  rw [e1] at h1
  have hC : C r ≤ reachBytes := by
    cases hA : A r with
    | none => rw [h6 hA]; exact Nat.zero_le _
    | some a' =>
      have hmem : C r ∈ DataW.weightsEach Tryd.prog ([42] ++ ts) ([DataW.slice ((List.range len).map fun r => (intRow .u8 (A r) (L r) (Z r) : DataW H)) spare] ++ []) := by
        show C r ∈ DataW.weights Tryd.prog 42 (DataW.slice ((List.range len).map fun r => (intRow .u8 (A r) (L r) (Z r) : DataW H)) spare) ++ _
        refine List.mem_append.2 (.inl ?_)
        rw [DataW.weights, Tryd.underlying42]
        simp only [List.mem_cons, List.mem_append]
        refine .inr (.inl (mem_weights (List.mem_map.2 ⟨r, List.mem_range.2 hr, rfl⟩) ?_))
        rw [hA]
        show C r ∈ DataW.weights Tryd.prog 24 (DataW.slice (lits .u8 ((Z r).take (L r))) (lits .u8 ((Z r).drop (L r))))
        rw [DataW.weights, Tryd.underlying24]
        simp only [List.mem_cons]
        refine .inl ?_
        rw [bytes5]
        simp [lits, h4]
        omega
      have := List.all_eq_true.1 hsz _ hmem
      simpa using this
  obtain ⟨bs, hbs⟩ : ∃ bs : List UInt8, ((Z r).take (L r)).map (fun n => UInt8.ofNat n.toNat) = bs := ⟨_, rfl⟩
  have hbl : bs.length = L r := by rw [← hbs, List.length_map, List.length_take]; omega
  refine ⟨b0, off, _, bs, rfl, h1, ⟨A r, C r, by rw [hbl], by omega, by unfold maxLen at h3; omega, ?_⟩, by unfold reachBytes at hC; omega⟩
  by_cases h0 : bs = []
  · exact .inl h0
  · have hL : 0 < L r := by rw [← hbl]; exact List.length_pos_iff.2 h0
    cases hA : A r with
    | none => have := h6 hA; omega
    | some a' =>
      have hcell := (h7 a' hA).2
      obtain ⟨g, o2, sp⟩ := a'
      have hsp : sp = none := by simpa [Addr.add] using World.cell?_spot (hcell 0 (by omega))
      subst hsp
      refine .inr ⟨g, o2, rfl, trivial, fun k hk => ?_⟩
      have hc := hcell k (by omega)
      have e2 : (⟨g, o2, none⟩ : Addr).add k = ⟨g, o2 + k, none⟩ := by unfold Addr.add; split <;> simp_all
      rw [e2] at hc
      rw [hc]
      have hkz : k < (Z r).length := by omega
      have hw := h5 ((Z r)[k]'hkz) (List.getElem_mem hkz)
      simp [Lit.wf, IntKind.min, IntKind.max, IntKind.signed, IntKind.bits] at hw
      have e3 : bs[k]'hk = UInt8.ofNat ((Z r)[k]'hkz).toNat := by
        subst hbs
        simp
      rw [e3, List.getD_eq_getElem?_getD, List.getElem?_eq_getElem hkz, UInt8.toNat_ofNat']
      simp
      omega
end Go.Proofs.YtecmhpncgdjgjaaDoor
