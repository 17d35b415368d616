/-
  Grown of the statements, walked: lists of bytes, each in a block of its own, are written full and appended to, and stay apart. Conditions: lists and their number are no more than 100000000.
-/
import Derived.Test.YtecmhpncgdjgjaaDoorTail
import Derived.Test.YtecmhpncgdjgjaaDoorTwins
import Derived.Test.YtecmhpncgdjgjaaDoorSame
import Derived.Deep.RegionHeld3
namespace Go.Proofs.YtecmhpncgdjgjaaDoor
open Go.RowKit
set_option linter.unusedVariables false
set_option linter.unusedSimpArgs false

/-- Lists of bytes, each in a block of its own. -/
def HerdB (w : World) (B n : Nat) (A : Nat → Value) (cs : Nat → List UInt8) : Prop := Herd w B 5 1 n A (fun i => (cs i).length) (fun i => Lib.byteCells (cs i))
/-- A list of marks. -/
def marksV (i l : Nat) : List UInt8 := (List.range l).map (markV i)
theorem marksV_len (i l : Nat) : (marksV i l).length = l := by simp [marksV]
theorem marksV_get (i l k : Nat) (h : k < (marksV i l).length) : (marksV i l)[k]'h = markV i k := by simp [marksV]

/-- The lists while they are written full: those ahead of i are, list i is as far as k. -/
structure Full (n i k : Nat) (ls : Nat → Nat) (cs : Nat → List UInt8) : Prop where
  len : ∀ j, j < n → (cs j).length = ls j
  done : ∀ j, j < i → j < n → cs j = marksV j (ls j)
  now : i < n → (cs i).take k = marksV i k

theorem Full.next {n i k : Nat} {ls : Nat → Nat} {cs : Nat → List UInt8} (h : Full n i k ls cs) (hi : i < n) (hk : k < ls i) : Full n i (k + 1) ls (upd cs i ((cs i).set k (markV i k))) := by
  have hl := h.len i hi
  refine ⟨fun j hj => ?_, fun j hj hjn => ?_, fun _ => ?_⟩
  · by_cases hji : j = i
    · subst hji; rw [upd_at, List.length_set]; exact h.len j hj
    · rw [upd_ne _ _ _ hji]; exact h.len j hj
  · rw [upd_ne _ _ _ (by omega)]; exact h.done j hj hjn
  · rw [upd_at, List.take_add_one, List.take_set_of_le (Nat.le_refl _), h.now hi, List.getElem?_set_self (by omega)]
    simp [marksV, List.range_succ]
theorem Full.row {n i k : Nat} {ls : Nat → Nat} {cs : Nat → List UInt8} (h : Full n i k ls cs) (hk : i < n → k = ls i) : Full n (i + 1) 0 ls cs :=
  ⟨h.len, fun j hj hjn => by
    by_cases hji : j = i
    · subst hji
      have h1 := h.now hjn
      rw [List.take_of_length_le (by rw [h.len j hjn, hk hjn]; exact Nat.le_refl _)] at h1
      rw [h1, hk hjn]
    · exact h.done j (by omega) hjn, fun _ => by simp [marksV]⟩
theorem HerdB.write {w : World} {B n : Nat} {A : Nat → Value} {cs : Nat → List UInt8} (h : HerdB w B n A cs) {i : Nat} (hi : i < n) {g cap : Nat} (hA : A i = .slice (some ⟨g, 0, none⟩) (cs i).length cap) (k : Nat) (c : UInt8) :
    HerdB (w.setCell ⟨g, k, none⟩ (.int .u8 (c.toNat : Int))) B n A (upd cs i ((cs i).set k c)) := by
  have h1 := Herd.write h hi (A := A) (ka := fun i => (cs i).length) hA k (.int .u8 (c.toNat : Int))
  refine Herd.congr h1 (fun _ _ => rfl) (fun j hj => ?_) (fun j hj => ?_)
  · by_cases hji : j = i
    · subst hji; simp only [upd_at, List.length_set]
    · simp only [upd_ne _ _ _ hji]
  · by_cases hji : j = i
    · subst hji; simp only [upd_at, Lib.byteCells, List.map_set]
    · simp only [upd_ne _ _ _ hji]

theorem store_keep {w : World} {g k K i : Nat} {v u : Value} (h1 : w.cell? ⟨K, i, none⟩ = some v) (h2 : w.frozen? ⟨g, k, none⟩ = false) (hne : K ≠ g) :
    (w.setCell ⟨g, k, none⟩ u).drew.cell? ⟨K, i, none⟩ = some v ∧ (w.setCell ⟨g, k, none⟩ u).drew.frozen? ⟨g, k, none⟩ = false :=
  ⟨(World.cell?_of_block (w := w) (w' := (w.setCell ⟨g, k, none⟩ u).drew) (Below.heap_setCell w _ _ _ (by exact hne))).trans h1, by
    have := World.frozen?_setCell w ⟨g, k, none⟩ ⟨g, k, none⟩ u
    exact this.trans h2⟩

theorem cell_one {X W x1 : World} {b o : Nat} {v : Value} (h : W.cell? ⟨b, o, none⟩ = some v ∧ Below X.heap.size X W) (hb : Below W.heap.size W x1) : x1.cell? ⟨b, o, none⟩ = some v ∧ Below X.heap.size X x1 :=
  ⟨(hb.cell (cell_lt h.1)).trans h.1, h.2.trans (hb.mono h.2.size)⟩
/-- The bytes behind the first l of a row. -/
theorem row_tail {w : World} {B g n cap : Nat} {xs ys : List UInt8} (h : w.ownsRow B 5 1 (.slice (some ⟨g, 0, none⟩) n cap) n (Lib.byteCells (xs ++ ys))) (hn : n = xs.length + ys.length) (hc : n ≤ cap) (hm : cap ≤ 9223372036854775807) :
    BytesAt (fun _ => True) w (.slice (some ⟨g, xs.length, none⟩) ys.length (cap - xs.length)) ys := by
  refine ⟨_, cap - xs.length, rfl, by omega, by omega, .inr ⟨g, xs.length, rfl, trivial, fun k hk => ?_⟩⟩
  rw [h.cellAt (xs.length + k) (by omega)]
  simp only [Lib.byteCells, List.map_append]
  rw [List.getElem?_append_right (by simp), List.length_map, Nat.add_sub_cancel_left]
  simp [hk]
theorem infoSl : (Tryd.prog.info? 24).map (fun i => (i.zero, i.size, i.bytes)) = some (some (.slice none 0 0), 1, 24) := by kernel_rfl

/-- The lists and, behind them, the tails. -/
def fam (n : Nat) (A T : Nat → Value) : Nat → Value := fun j => if j < n then A j else T (j - n)
def famB (n : Nat) (ls : Nat → Nat) : Nat → List UInt8 := fun j => if j < n then marksV j (ls j) else tailV (j - n)
theorem fam_lo {n : Nat} {A T : Nat → Value} {j : Nat} (h : j < n) : fam n A T j = A j := if_pos h
theorem fam_hi (n : Nat) (A T : Nat → Value) (j : Nat) : fam n A T (n + j) = T j := by unfold fam; rw [if_neg (by omega), show n + j - n = j by omega]
theorem famB_lo {n : Nat} {ls : Nat → Nat} {j : Nat} (h : j < n) : famB n ls j = marksV j (ls j) := if_pos h
theorem famB_hi (n : Nat) (ls : Nat → Nat) (j : Nat) : famB n ls (n + j) = tailV j := by unfold famB; rw [if_neg (by omega), show n + j - n = j by omega]
theorem fam_upd (n : Nat) (A T : Nat → Value) (i : Nat) (t : Value) (j : Nat) (h : j < n + i) : fam n A (upd T i t) j = fam n A T j := by
  unfold fam
  split
  · rfl
  · rw [upd_ne _ _ _ (by omega)]

/-- The lists and what was appended to them so far. -/
def GT (w : World) (B n : Nat) (F M : Nat → Value) (ls : Nat → Nat) (cnt : Nat → Nat) : Prop :=
  Twins w B 5 1 (n + n) F M (fun j => (famB n ls j).length) (fun j => (famB n ls j).length + cnt j) (fun j => Lib.byteCells (famB n ls j)) (fun j => Lib.byteCells (famB n ls j ++ (tailV j).take (cnt j)))
/-- So many bytes are appended to list j: k to all, one more to the first c. -/
def cntV (n k c : Nat) : Nat → Nat := fun j => if j < c then k + 1 else if j < n then k else 0
theorem cntV_step (n k c : Nat) (h : c < n) : cntV n k (c + 1) = upd (cntV n k c) c (cntV n k c c + 1) := by
  funext j
  unfold upd cntV
  by_cases h1 : j = c
  · subst h1
    rw [if_pos (by omega), if_pos rfl, if_neg (by omega), if_pos h]
  · rw [if_neg h1]
    by_cases h2 : j < c
    · rw [if_pos (by omega), if_pos h2]
    · rw [if_neg (by omega), if_neg h2]
theorem cntV_row (n k : Nat) : cntV n k n = cntV n (k + 1) 0 := by
  funext j
  unfold cntV
  by_cases h : j < n
  · simp [h]
  · simp [h]
theorem cntV_at (n k c : Nat) (h : c < n) : cntV n k c c = k := by unfold cntV; rw [if_neg (by omega), if_pos h]
theorem cntV_zero (n q c : Nat) (h : c < n) : cntV n q 0 c = q := by unfold cntV; rw [if_neg (by omega), if_pos h]
theorem GT.start {w : World} {B n : Nat} {F : Nat → Value} {ls : Nat → Nat} (h : HerdB w B (n + n) F (famB n ls)) : GT w B n F F ls (cntV n 0 0) := by
  have h0 : ∀ j, cntV n 0 0 j = 0 := fun j => by unfold cntV; simp
  exact Twins.congr h (fun _ _ => rfl) (fun j _ => by simp only [h0, Nat.add_zero]) (fun j _ => by simp only [h0, List.take_zero, List.append_nil])
theorem GT.put {w w' : World} {B n : Nat} {F M : Nat → Value} {ls cnt : Nat → Nat} (h : GT w B n F M ls cnt) {i : Nat} (hi : i < n + n) {c : UInt8} (hc : (tailV i)[cnt i]? = some c) {v : Value}
    (hown : w'.ownsRow B 5 1 v ((famB n ls i).length + cnt i + 1) (Lib.byteCells (famB n ls i ++ (tailV i).take (cnt i)) ++ [.int .u8 (c.toNat : Int)])) (hg : w.grownBy w' (M i).ownBlock) (hat : v.ownBlock = (M i).ownBlock ∨ v.ownBlock = some w.heap.size)
    (hs : Stays w w' (M i) (((famB n ls i).length + cnt i) * 1)) : GT w' B n F (upd M i v) ls (upd cnt i (cnt i + 1)) := by
  have h1 := Twins.put h hi (m := 1) hown hg hat hs
  refine Twins.congr h1 (fun _ _ => rfl) (fun j hj => ?_) (fun j hj => ?_)
  · by_cases hji : j = i
    · subst hji; simp only [upd_at]; omega
    · simp only [upd_ne _ _ _ hji]
  · by_cases hji : j = i
    · subst hji
      simp only [upd_at, List.take_add_one, hc]
      simp [Lib.byteCells]
    · simp only [upd_ne _ _ _ hji]
theorem GT.later {w w' : World} {B n : Nat} {F M : Nat → Value} {ls cnt : Nat → Nat} (h : GT w B n F M ls cnt) (hb : Below w.heap.size w w') : GT w' B n F M ls cnt := Twins.later h hb

/-- What a cell holds. -/
def cellOf (w : World) (a : Addr) : Value := (w.cell? a).getD undef
theorem cellOf_eq {w : World} {a : Addr} {v : Value} (h : w.cell? a = some v) : cellOf w a = v := by unfold cellOf; rw [h]; rfl
theorem cellOf_self {w : World} {a : Addr} (h : (w.cell? a).isSome = true) : w.cell? a = some (cellOf w a) := by
  obtain ⟨v, hv⟩ := Option.isSome_iff_exists.1 h
  rw [cellOf_eq hv, hv]

/-- What the region of the append reads and where it stores. -/
def Four (w : World) (gm gs gt c q : Nat) (vs : Value) (y : UInt8) : Prop :=
  w.cell? ⟨gm, c, none⟩ = some (cellOf w ⟨gm, c, none⟩) ∧ w.cell? ⟨gs, c, none⟩ = some vs ∧ w.cell? ⟨gt, q, none⟩ = some (.int .u8 (y.toNat : Int)) ∧ w.frozen? ⟨gm, c, none⟩ = false
theorem Four.held {w w' : World} {gm gs gt c q : Nat} {vs : Value} {y : UInt8} (h : Four w gm gs gt c q vs y) (h1 : w'.heap[gm]? = w.heap[gm]?) (h2 : w'.heap[gs]? = w.heap[gs]?) (h3 : w'.heap[gt]? = w.heap[gt]?) : Four w' gm gs gt c q vs y :=
  ⟨cellOf_self (by rw [World.cell?_of_block (w := w) (a := ⟨gm, c, none⟩) h1, h.1]; rfl), (World.cell?_of_block (w := w) (a := ⟨gs, c, none⟩) h2).trans h.2.1, (World.cell?_of_block (w := w) (a := ⟨gt, q, none⟩) h3).trans h.2.2.1, (World.frozen?_of_block (w := w) (a := ⟨gm, c, none⟩) h1).trans h.2.2.2⟩
theorem Four.store {w : World} {gm gs gt c q : Nat} {vs : Value} {y : UInt8} (h : Four w gm gs gt c q vs y) (hs : gs ≠ gm) (ht : gt ≠ gm) (u : Value) : Four (w.setCell ⟨gm, c, none⟩ u) gm gs gt c q vs y := by
  refine ⟨cellOf_self ?_, (World.cell?_of_block (w := w) (a := ⟨gs, c, none⟩) (Below.heap_setCell w _ _ _ (by exact hs))).trans h.2.1, (World.cell?_of_block (w := w) (a := ⟨gt, q, none⟩) (Below.heap_setCell w _ _ _ (by exact ht))).trans h.2.2.1, (World.frozen?_setCell w ⟨gm, c, none⟩ ⟨gm, c, none⟩ u).trans h.2.2.2⟩
  obtain ⟨v', hv'⟩ := cell?_setCell_some (p := ⟨gm, c, none⟩) (x := u) h.1
  rw [hv']; rfl

theorem four_grown {wr w1 : World} {o : Obj} {gm gs gt c q : Nat} {vs m : Value} {y : UInt8} (h : Four (wr.alloc o) gm gs gt c q vs y) (hm : cellOf wr ⟨gm, c, none⟩ = m) (hX : ∀ b, m.ownBlock = some b → b ≠ gm ∧ b ≠ gs ∧ b ≠ gt)
    (hg : (wr.alloc o).drew.grownBy w1 m.ownBlock) (h1 : gm < wr.heap.size) (h2 : gs < wr.heap.size) (h3 : gt < wr.heap.size) : Four w1 gm gs gt c q vs y := by
  have hs : (wr.alloc o).drew.heap.size = wr.heap.size + 1 := by simp
  refine h.held (hg.block gm (by omega) fun e => ?_) (hg.block gs (by omega) fun e => ?_) (hg.block gt (by omega) fun e => ?_)
  · exact (hX gm e.symm).1 rfl
  · exact (hX gs e.symm).2.1 rfl
  · exact (hX gt e.symm).2.2 rfl

/-- One byte is appended, and the row of slices has the new one. -/
theorem grown_step {w wr w1 : World} {B Bs n c q gm capm : Nat} {F M : Nat → Value} {ls : Nat → Nat} {va v6 v' : Value} {xa x6 : List Value} {y : UInt8} {o : Obj} (HG : GT wr B n F M ls (cntV n q c))
    (HT : Three wr 24 B Bs n n n va (.slice (some ⟨gm, 0, none⟩) n capm) v6 xa (rowOf n M) x6) (HB : Below B w wr) (hBw : B ≤ w.heap.size) (hc : c < n) (hy : (tailV c)[cntV n q c c]? = some y) (hgm : B ≤ gm)
    (hown : w1.ownsRow B 5 1 v' ((famB n ls c).length + cntV n q c c + 1) (Lib.byteCells (famB n ls c ++ (tailV c).take (cntV n q c c)) ++ [.int .u8 (y.toNat : Int)])) (hg : (wr.alloc o).drew.grownBy w1 (M c).ownBlock)
    (hat : v'.ownBlock = (M c).ownBlock ∨ v'.ownBlock = some (wr.alloc o).drew.heap.size) (hst : Stays (wr.alloc o).drew w1 (M c) (((famB n ls c).length + cntV n q c c) * 1)) :
    GT (w1.setCell ⟨gm, c, none⟩ v') B n F (upd M c v') ls (cntV n q (c + 1)) ∧ Three (w1.setCell ⟨gm, c, none⟩ v') 24 B Bs n n n va (.slice (some ⟨gm, 0, none⟩) n capm) v6 xa (rowOf n (upd M c v')) x6 ∧ Below B w (w1.setCell ⟨gm, c, none⟩ v') := by
  have hb : Below wr.heap.size wr (wr.alloc o).drew := (new_below wr o).drew
  have hG2 := HG.later hb
  have hT2 := HT.later hb
  have hmo := Twins.m hG2 c (by omega)
  have hG3 := hG2.put (by omega) hy hown hg hat hst
  have hT3 := hT2.unlike hmo (by decide) hg
  have hT4 := hT3.set5 c v'
  have hs := hT3.o5.stored c v'
  rw [← cntV_step n q c hc] at hG3
  have hsz := HB.size
  have hsz2 : (wr.alloc o).drew.heap.size = wr.heap.size + 1 := by simp
  refine ⟨Twins.unlike hG3 hT3.o5 (by decide) hs.2, by rw [← rowOf_set]; exact hT4, ?_⟩
  refine Below.setCell (p := ⟨gm, c, none⟩) ?_ (by exact hgm) v'
  exact (HB.trans (hb.mono (by omega))).grown hg (by omega) (tw_base hmo)

set_option maxHeartbeats 4000000 in
set_option maxRecDepth 100000 in
theorem grown_any (B n : Nat) (A : Nat → Value) (bs : Nat → List UInt8) (va : Value) (w : World) (hn : n ≤ 100000000) (hlen : ∀ i, i < n → (bs i).length ≤ 100000000) (hB : B ≤ w.heap.size)
    (ho : w.ownsRow B 24 1 va n (rowOf n A)) (hh : HerdB w B n A bs) : Calls Tryd.prog 45 #[va] w fun e w' => e = .returned (.bool true) ∧ Below B w w' := by
  obtain ⟨i0, hi0, hz0, hz1, hz2⟩ := info_parts infoB
  obtain ⟨ls, hls⟩ : ∃ ls : Nat → Nat, ls = fun i => (bs i).length := ⟨_, rfl⟩
  have HLS := Lib.hid hls
  have HO := Lib.hid ho
  have HH := Lib.hid hh
  have HLN := Lib.hid hlen
  obtain ⟨ga, capa, rfl, hca1, hca2⟩ := tw_slice ho
  clear ho hh hls hlen
  go_enter Tryd.func45, Tryd.ntmps45
  go_wp2_with fail
  go_loopw [3] (fun v3 wr => ∃ (i : Nat) (cs : Nat → List UInt8), v3 = .int .i64 i ∧ i ≤ n ∧ Full n i 0 ls cs ∧ HerdB wr B n A cs ∧ wr.ownsRow B 24 1 (.slice ga n capa) n (rowOf n A) ∧ Below B w wr) (fun v3 _ => n - (intOf v3).toNat)
  case atStart => exact ⟨0, bs, rfl, Nat.zero_le _, ⟨fun j _ => by rw [HLS.out], fun j hj => by omega, fun _ => by simp [marksV]⟩, HH.out, HO.out, Below.refl _ _⟩
  case round =>
    obtain ⟨i, cs, rfl, hi, hfull, hherd, hown, hbw⟩ := hrel
    have HF := Lib.hid hfull
    have HHE := Lib.hid hherd
    have HOW := Lib.hid hown
    have HBW := Lib.hid hbw
    clear hfull hherd hown hbw
    by_cases hlt : i < n
    · obtain ⟨wo, rfl⟩ : ∃ wo : World, wo = wr := ⟨_, rfl⟩
      obtain ⟨K, capK, hK, hK1, hK2, _, _⟩ := tw_some HOW.out (by omega)
      injection hK with hK3 _ hK4
      subst hK3 hK4
      obtain ⟨l, hl⟩ : ∃ l, ls i = l := ⟨_, rfl⟩
      have HL := Lib.hid hl
      have hcl := HF.out.len i hlt
      obtain ⟨aa, cap2, hA, hA1, hA2⟩ := tw_slice (Twins.a HHE.out i hlt)
      simp only [hcl, hl] at hA hA1
      have HA := Lib.hid hA
      have kA : wo.cell? ⟨K, i, none⟩ = some (.slice aa l cap2) := by rw [HOW.out.cellAt i (by omega), rowOf_get _ _ _ hlt, hA]
      have hll : l ≤ 100000000 := by have := HLN.out i hlt; rw [← hl, HLS.out]; exact this
      clear hl hcl hA
      go_wp2_with fail
      clear kA
      go_loopw [4] (fun v4 wr => ∃ (k : Nat) (cs : Nat → List UInt8), v4 = .int .i64 k ∧ k ≤ l ∧ Full n i k ls cs ∧ HerdB wr B n A cs ∧ wr.ownsRow B 24 1 (.slice (some ⟨K, 0, none⟩) n capa) n (rowOf n A) ∧ Below B w wr) (fun v4 _ => l - (intOf v4).toNat)
      case atStart => exact ⟨0, cs, rfl, Nat.zero_le _, HF.out, HHE.out, HOW.out, HBW.out⟩
      case round =>
        obtain ⟨k, cs, rfl, hk, hfull, hherd, hown, hbw⟩ := hrel
        have kA2 : wr.cell? ⟨K, i, none⟩ = some (.slice aa l cap2) := by rw [hown.cellAt i (by omega), rowOf_get _ _ _ hlt, HA.out]
        by_cases hlt2 : k < l
        · have hcl : (cs i).length = l := by rw [hfull.len i hlt, HL.out]
          have hoA := Twins.a hherd i hlt
          simp only [hcl] at hoA
          obtain ⟨g, cap3, hA3, hg1, hg2, _, _⟩ := tw_some hoA (by omega)
          have hA4 := HA.out.symm.trans hA3
          injection hA4 with hA5 _ hA6
          subst hA5 hA6
          rw [hA3] at hoA
          have hcc : wr.cell? ⟨g, k, none⟩ = some (.int .u8 (((cs i)[k]'(by omega)).toNat : Int)) := by
            rw [hoA.cellAt k (by omega)]; simp [Lib.byteCells, hcl, hlt2]
          have hKg : K ≠ g := fun e => by
            rcases tw_unlike hoA hown (by decide) with h | h
            · cases h
            · exact h (by subst e; rfl)
          have hfz : wr.frozen? ⟨g, k, none⟩ = false := hoA.frozenAt k
          obtain ⟨c, hc⟩ : ∃ c, (cs i)[k]'(by omega) = c := ⟨_, rfl⟩
          rw [hc] at hcc
          obtain ⟨m, hm⟩ : ∃ m, markV i k = m := ⟨_, rfl⟩
          have HM := Lib.hid (fun W => hm ▸ mark_any i k W (by omega) (by omega))
          have HMV := Lib.hid hm
          have HF := Lib.hid hfull
          have HHE := Lib.hid hherd
          have HOW := Lib.hid hown
          have HBW := Lib.hid hbw
          have HCL := Lib.hid hcl
          have HA3 := Lib.hid hA3
          clear hfull hherd hown hbw hcl hoA hA3 hc hm
          go_wp2_with fail
          go_region_held3 (fun w' => w'.cell? ⟨K, i, none⟩ = some (.slice (some ⟨g, 0, none⟩) l cap2) ∧ w'.frozen? ⟨g, k, none⟩ = false)
            (first | exact ⟨kA2, hfz⟩ | exact store_keep (by assumption) (by assumption) hKg | assumption)
            (first | (go_at_call 73; refine (HM.out _).mono ?_; rintro e w1 ⟨rfl, rfl⟩))
          go_wp2_with fail
          go_roundw
          case measure => simp [intOf] <;> omega
          case rel =>
            have hw9 := HHE.out.write hlt (by rw [HA3.out, HCL.out]) k m
            have hf9 := HF.out.next hlt (by rw [HL.out]; exact hlt2)
            rw [HMV.out] at hf9
            exact ⟨k + 1, upd cs i ((cs i).set k m), by simp, by omega, hf9, Twins.later hw9 (Below.refl _ _).drew,
              (ownsRow_setCell_other HOW.out (a := ⟨g, k, none⟩) (fun e => hKg (by injection e)) _).drew, (HBW.out.setCell (p := ⟨g, k, none⟩) hg1 _).drew⟩
        · obtain rfl : k = l := by omega
          have HF := Lib.hid hfull
          have HHE := Lib.hid hherd
          have HOW := Lib.hid hown
          have HBW := Lib.hid hbw
          clear hfull hherd hown hbw
          go_wp2_with fail
          go_roundw
          case measure => simp [intOf] <;> omega
          case rel => exact ⟨i + 1, cs, by simp, by omega, HF.out.row (fun _ => HL.out.symm), HHE.out, HOW.out, HBW.out⟩
    · obtain rfl : i = n := by omega
      obtain ⟨is, his, hsz0, hsz1, hsz2⟩ := info_parts infoSl
      have HH0 := Lib.hid (show HerdB wr B (i + 0) (fam i A A) (famB i ls) from Herd.congr HHE.out (fun j hj => fam_lo hj) (fun j hj => by simp only [famB_lo (show j < i from hj), HF.out.done j hj hj]) (fun j hj => by simp only [famB_lo (show j < i from hj), HF.out.done j hj hj]))
      clear HF HHE
      have HTH0 := Lib.hid (Three.start HOW.out)
      clear HOW
      go_wp2_with fail
      obtain ⟨ws, hws⟩ : ∃ ws, wr = ws := ⟨_, rfl⟩
      rw [hws] at HH0 HTH0 HBW ⊢
      clear hws
      have hBs : B ≤ ws.heap.size := Nat.le_trans hB HBW.out.size
      go_loopw [5, 6, 7] (fun v5 v6 v7 wr => ∃ (k : Nat) (T : Nat → Value), v7 = .int .i64 k ∧ k ≤ i ∧ HerdB wr B (i + k) (fam i A T) (famB i ls) ∧ Three wr 24 B ws.heap.size i k k (.slice ga i capa) v5 v6 (rowOf i A) (rowOf k A) (rowOf k T) ∧
        Below ws.heap.size ws wr) (fun _ _ v7 _ => i - (intOf v7).toNat)
      case atStart => exact ⟨0, A, rfl, Nat.zero_le _, HH0.out, HTH0.out, Below.refl _ _⟩
      case round =>
        obtain ⟨k, T, rfl, hk, hherd, hth, hbw⟩ := hrel
        have HHE := Lib.hid hherd
        have HTH := Lib.hid hth
        have HBW2 := Lib.hid hbw
        have hsz := hbw.size
        clear hherd hth hbw
        by_cases hlt : k < i
        · obtain ⟨K, capK, hK, hK1, hK2, _, _⟩ := tw_some HTH.out.a (by omega)
          injection hK with hK3 _ hK4
          subst hK3 hK4
          have kA : wr.cell? ⟨K, k, none⟩ = some (A k) := by rw [HTH.out.a.cellAt k (by omega), rowOf_get _ _ _ hlt]
          obtain ⟨aa, cap2, hav, _, _⟩ := tw_slice (Twins.a HHE.out k (by omega))
          rw [fam_lo hlt] at hav
          obtain ⟨l, hl⟩ : ∃ l, (famB i ls k).length = l := ⟨_, rfl⟩
          rw [hl] at hav
          clear hl
          rw [hav] at kA
          have HAV := Lib.hid hav
          clear hav
          go_wp2_with (at_builtin; refine wpList_append_own_at _ rfl _ _ 42 rfl ws.heap.size 24 is (.slice none 0 0) 1 24 Tryd.underlying42 his hsz0 hsz1 hsz2 rfl (by decide) _ _ _ rfl (World.ownsRow.alloc HTH.out.o5 _) ⟨wr.heap.size, 0, none⟩ 1 1 [.slice aa l cap2] rfl rfl ?c1 ?c2 ?c3 ?c4 ?c5 ?_)
          case c2 => first | rfl | (intro u hu; simp at hu; rw [hu]; rfl)
          case c3 => unfold maxLen; omega
          case c4 => omega
          case c5 => first | omega | (simp; omega)
          intro v5' w2 hown' hgrow _ hat
          have HT2 := Lib.hid (Three.put5 (HTH.out.later (new_below wr (.cells #[.slice aa l cap2] 24))) hown' hgrow (by simpa using hat))
          have HH2 := Lib.hid (Twins.unlike (Twins.later HHE.out (new_below wr (.cells #[.slice aa l cap2] 24))) (World.ownsRow.alloc HTH.out.o5 (.cells #[.slice aa l cap2] 24)) (by decide) hgrow)
          have HB2 := Lib.hid (show Below ws.heap.size ws w2 from (HBW2.out.alloc hsz _).grown hgrow (by simp; omega) (tw_base HTH.out.o5))
          have hs2 := HB2.out.size
          clear hown' hgrow hat kA
          go_wp2_with fail
          refine (tail_any k w2 (by omega)).mono ?_
          rintro e w3 ⟨t, rfl, ht, hb3⟩
          have HT3 := Lib.hid (HT2.out.later hb3)
          obtain ⟨gt, capt, rfl, hgt1, hgt2, _, _⟩ := tw_some (tail_own ht) (by omega)
          have HH3 := Lib.hid (show HerdB w3 B (i + (k + 1)) (fam i A (upd T k (.slice (some ⟨gt, 0, none⟩) 700 capt))) (famB i ls) from by
            refine Herd.fresh (w := w2) (N := i + k) (Herd.congr HH2.out (fun j hj => fam_upd i A T k _ j hj) (fun _ _ => rfl) (fun _ _ => rfl)) hb3 ?_ ?_
            · rw [fam_hi, upd_at, famB_hi, tailV_len]
              exact tw_drop (tail_own ht) (fun b e => by injection e with e1; subst e1; show B ≤ gt; omega)
            · rw [fam_hi, upd_at]
              intro b e
              injection e with e1
              subst e1
              exact hgt1)
          have HB3 := Lib.hid (HB2.out.trans (hb3.mono hs2))
          have hs3 := HB3.out.size
          clear ht hb3
          go_wp2_with (at_builtin; refine wpList_append_own_at _ rfl _ _ 42 rfl ws.heap.size 24 is (.slice none 0 0) 1 24 Tryd.underlying42 his hsz0 hsz1 hsz2 rfl (by decide) _ _ _ rfl (World.ownsRow.alloc HT3.out.o6 _) ⟨w3.heap.size, 0, none⟩ 1 1 [.slice (some ⟨gt, 0, none⟩) 700 capt] rfl rfl ?d1 ?d2 ?d3 ?d4 ?d5 ?_)
          case d1 => exact news_row (by simp)
          case d2 => first | rfl | (intro u hu; simp at hu; rw [hu]; rfl)
          case d3 => unfold maxLen; omega
          case d4 => omega
          case d5 => first | omega | (simp; omega)
          intro v6' w4 hown' hgrow _ hat
          have HT4 := Lib.hid (Three.put6 (HT3.out.later (new_below w3 (.cells #[.slice (some ⟨gt, 0, none⟩) 700 capt] 24))) hown' hgrow (by simpa using hat))
          have HH4 := Lib.hid (Twins.unlike (Twins.later HH3.out (new_below w3 (.cells #[.slice (some ⟨gt, 0, none⟩) 700 capt] 24))) (World.ownsRow.alloc HT3.out.o6 (.cells #[.slice (some ⟨gt, 0, none⟩) 700 capt] 24)) (by decide) hgrow)
          have HB4 := Lib.hid (show Below ws.heap.size ws w4 from (HB3.out.alloc hs3 _).grown hgrow (by simp; omega) (tw_base HT3.out.o6))
          clear hown' hgrow hat
          go_wp2_with fail
          go_roundw
          case measure => simp [intOf] <;> omega
          case rel =>
            have h9 := HT4.out
            rw [← HAV.out, ← rowOf_succ, show rowOf k T = rowOf k (upd T k (.slice (some ⟨gt, 0, none⟩) 700 capt)) from rowOf_congr k _ _ (fun j hj => (upd_ne _ _ _ (by omega)).symm)] at h9
            refine ⟨k + 1, _, by simp, by omega, HH4.out, ?_, HB4.out⟩
            rw [rowOf_succ k (upd T k _), upd_at]
            exact h9
        · obtain rfl : k = i := by omega
          have HG0 := Lib.hid (GT.start HHE.out)
          have HT0 := Lib.hid (show Three wr 24 B ws.heap.size k k k (.slice ga k capa) u5 u6 (rowOf k A) (rowOf k (fam k A T)) (rowOf k T) from by
            rw [rowOf_congr k (fam k A T) A (fun j hj => fam_lo hj)]; exact HTH.out)
          have HBWT := Lib.hid (HBW.out.trans (HBW2.out.mono hBs))
          clear HHE HTH HTH0 HH0
          go_wp2_with fail
          obtain ⟨wt, hwt⟩ : ∃ wt, wr = wt := ⟨_, rfl⟩
          rw [hwt] at HG0 HT0 HBW2 HBWT hsz ⊢
          clear hwt
          go_loopw [9] (fun v9 wr => ∃ (q : Nat) (M : Nat → Value), v9 = .int .i64 q ∧ q ≤ 700 ∧ GT wr B k (fam k A T) M ls (cntV k q 0) ∧ Three wr 24 B ws.heap.size k k k (.slice ga k capa) u5 u6 (rowOf k A) (rowOf k M) (rowOf k T) ∧ Below B w wr) (fun v9 _ => 700 - (intOf v9).toNat)
          case atStart => exact ⟨0, _, rfl, Nat.zero_le _, HG0.out, HT0.out, HBWT.out⟩
          case round =>
            obtain ⟨q, M, rfl, hq, hgt, hth, hbw⟩ := hrel
            obtain ⟨wo, hwo⟩ : ∃ wo, wr = wo := ⟨_, rfl⟩
            rw [hwo] at hgt hth hbw ⊢
            have HG1 := Lib.hid hgt
            have HT1 := Lib.hid hth
            have HB1 := Lib.hid hbw
            clear hgt hth hbw hwo
            by_cases hlt : q < 700
            · have hqd : decide ((q : Int) < 700) = true := by simp; omega
              go_wp2_with fail
              go_loopw [10] (fun v10 wr => ∃ (c : Nat) (M : Nat → Value), v10 = .int .i64 c ∧ c ≤ k ∧ GT wr B k (fam k A T) M ls (cntV k q c) ∧ Three wr 24 B ws.heap.size k k k (.slice ga k capa) u5 u6 (rowOf k A) (rowOf k M) (rowOf k T) ∧ Below B w wr) (fun v10 _ => k - (intOf v10).toNat)
              case atStart => exact ⟨0, M, rfl, Nat.zero_le _, HG1.out, HT1.out, HB1.out⟩
              case round =>
                have hq7 : (q : Int) < 700 := by omega
                obtain ⟨c, M, rfl, hc, hgt, hth, hbw⟩ := hrel
                have HG := Lib.hid hgt
                have HT := Lib.hid hth
                have HB2 := Lib.hid hbw
                clear hgt hth hbw
                by_cases hlt2 : c < k
                · obtain ⟨gm, capm, rfl, hm1, hm2, hm3, hm4⟩ := tw_some HT.out.o5 (by omega)
                  obtain ⟨gs, caps, rfl, hs1, hs2, hs3, hs4⟩ := tw_some HT.out.o6 (by omega)
                  have hoT : wr.ownsRow B 5 1 (T c) 700 (Lib.byteCells (tailV c)) := by
                    have h9 := Twins.a HG.out (k + c) (by omega)
                    rw [fam_hi, famB_hi, tailV_len] at h9
                    exact h9
                  obtain ⟨gt, capt, hTc, ht1, ht2, ht3, ht4⟩ := tw_some hoT (by omega)
                  rw [hTc] at hoT
                  have kT : wr.cell? ⟨gs, c, none⟩ = some (.slice (some ⟨gt, 0, none⟩) 700 capt) := by rw [HT.out.o6.cellAt c (by omega), rowOf_get _ _ _ hlt2, hTc]
                  have kM : wr.cell? ⟨gm, c, none⟩ = some (M c) := by rw [HT.out.o5.cellAt c (by omega), rowOf_get _ _ _ hlt2]
                  have hql : q < (tailV c).length := by rw [tailV_len]; exact hlt
                  have kB : wr.cell? ⟨gt, q, none⟩ = some (.int .u8 (((tailV c)[q]'hql).toNat : Int)) := by
                    rw [hoT.cellAt q (by omega)]; simp [Lib.byteCells, hql]
                  have HBT := Lib.hid (show (tailV c)[cntV k q c c]? = some ((tailV c)[q]'hql) by rw [cntV_at k q c hlt2]; exact List.getElem?_eq_getElem hql)
                  obtain ⟨y, hy⟩ : ∃ y, (tailV c)[q]'hql = y := ⟨_, rfl⟩
                  rw [hy] at kB HBT
                  have hfz : wr.frozen? ⟨gm, c, none⟩ = false := HT.out.o5.frozenAt c
                  have HF0 := Lib.hid (show Four wr gm gs gt c q (.slice (some ⟨gt, 0, none⟩) 700 capt) y from ⟨cellOf_self (by rw [kM]; rfl), kT, kB, hfz⟩)
                  have HF1 := Lib.hid (HF0.out.held (w' := wr.alloc (.cells #[.int .u8 (y.toNat : Int)] 5)) (Below.heap_alloc _ _ _ hm2) (Below.heap_alloc _ _ _ hs2) (Below.heap_alloc _ _ _ ht2))
                  have HMV := Lib.hid (cellOf_eq kM)
                  have hmo := Twins.m HG.out c (by omega)
                  have HOWN := Lib.hid (show (wr.alloc (.cells #[.int .u8 (y.toNat : Int)] 5)).drew.ownsRow B 5 1 (M c) ((famB k ls c).length + cntV k q c c) (Lib.byteCells (famB k ls c ++ (tailV c).take (cntV k q c c))) from (hmo.alloc _).drew)
                  have hcn := cntV_at k q c hlt2
                  have hfl : (famB k ls c).length ≤ 100000000 := by rw [famB_lo hlt2, marksV_len, HLS.out]; exact HLN.out c hlt2
                  have HC63 := Lib.hid (show (famB k ls c).length + cntV k q c c + 1 ≤ maxLen by rw [hcn]; unfold maxLen; omega)
                  have HCB := Lib.hid (show ((famB k ls c).length + cntV k q c c + 1) * 1 ≤ 140737488355328 by rw [hcn]; omega)
                  have hgsm : gs ≠ gm := fun e => HT.out.ap gm rfl (by subst e; rfl)
                  have hmB : B ≤ gm := Nat.le_trans hBs hm1
                  have hgtm : gt ≠ gm := fun e => by
                    rcases tw_unlike hoT HT.out.o5 (by decide) with h | h
                    · cases h
                    · exact h (by subst e; rfl)
                  have hX : ∀ b, (M c).ownBlock = some b → b ≠ gm ∧ b ≠ gs ∧ b ≠ gt := fun b hb => by
                    refine ⟨fun e => ?_, fun e => ?_, fun e => ?_⟩
                    · rcases tw_unlike hmo HT.out.o5 (by decide) with h | h
                      · rw [hb] at h; cases h
                      · exact h (by subst e; rw [hb]; rfl)
                    · rcases tw_unlike hmo HT.out.o6 (by decide) with h | h
                      · rw [hb] at h; cases h
                      · exact h (by subst e; rw [hb]; rfl)
                    · subst e
                      exact Twins.am HG.out (k + c) c (by omega) (by omega) (by omega) b (by rw [fam_hi, hTc]; rfl) hb
                  have HX := Lib.hid hX
                  have HTC := Lib.hid hTc
                  have HMO := Lib.hid hmo
                  have HHB : wr.heap.size + 1 = (wr.alloc (.cells #[.int .u8 (y.toNat : Int)] 5)).drew.heap.size := by simp
                  have HHB2 := Lib.hid HHB
                  have HBB := Lib.hid (show B ≤ (wr.alloc (.cells #[.int .u8 (y.toNat : Int)] 5)).drew.heap.size by rw [← HHB]; omega)
                  clear hX hoT hTc hmo hcn hfl HHB hy
                  go_wp2_with fail
                  go_region_law ((refine step_append_stays _ (by rfl) _ _ _ (by rfl) B 5 i0 (.int .u8 0) 1 1 Tryd.underlying24 hi0 hz0 hz1 hz2 rfl (by omega) _ _ _ (by rfl) HOWN.out ⟨wr.heap.size, 0, none⟩ 1 1 [.int .u8 (y.toNat : Int)] (by rfl) (by rfl) (World.news_of_block (cs := #[.int .u8 (y.toNat : Int)]) (t := 5) (fr := (0, 0)) (heap_alloc_new wr _)) (by simp [Value.oneCell']) HC63.out HCB.out HBB.out ?_; intro v' w1 hown1 hgrow hat hst; obtain ⟨g9, cap9, rfl, hg91, hg92, hg93, hg94⟩ := tw_some hown1 (by omega); have hF2 := (four_grown HF1.out HMV.out HX.out hgrow hm2 hs2 ht2).2.2.2; have hF3 := (four_grown HF1.out HMV.out HX.out hgrow hm2 hs2 ht2).1; have HEND := Lib.hid (grown_step HG.out HT.out HB2.out hB hlt2 HBT.out hmB hown1 hgrow hat hst); clear hown1 hgrow hat hst))
                  all_goals
                    go_wp2_with fail
                    go_roundw
                    case measure => simp [intOf] <;> omega
                    case rel => exact ⟨c + 1, _, by simp, by omega, HEND.out.1, HEND.out.2.1, HEND.out.2.2⟩
                · obtain rfl : c = k := by omega
                  rw [cntV_row] at HG
                  go_wp2_with fail
                  go_roundw
                  case measure => simp [intOf] <;> omega
                  case rel => exact ⟨q + 1, M, by simp, by omega, HG.out, HT.out, HB2.out⟩
            · obtain rfl : q = 700 := by omega
              rw [show ((700 : Nat) : Int) = 700 from rfl]
              go_wp2_with fail
              obtain ⟨wx, hwx⟩ : ∃ wx, wo = wx := ⟨_, rfl⟩
              rw [hwx] at HG1 HT1 HB1 ⊢
              clear hwx
              go_loopw [11] (fun v11 wr => ∃ (c : Nat), v11 = .int .i64 c ∧ c ≤ k ∧ Below wx.heap.size wx wr) (fun v11 _ => k - (intOf v11).toNat)
              case atStart => exact ⟨0, rfl, Nat.zero_le _, Below.refl _ _⟩
              case round =>
                obtain ⟨c, rfl, hc, hbw⟩ := hrel
                obtain ⟨wo2, hwo2⟩ : ∃ wo, wr = wo := ⟨_, rfl⟩
                rw [hwo2] at hbw ⊢
                have HG := Lib.hid (HG1.out.later hbw)
                have HT := Lib.hid (HT1.out.later hbw)
                have HB2 := Lib.hid hbw
                clear hbw hwo2
                by_cases hlt2 : c < k
                · obtain ⟨ga0, capa0, hKa, ha1, ha2, ha3, ha4⟩ := tw_some HT.out.a (by omega)
                  injection hKa with hK3 _ hK4
                  subst hK3 hK4
                  obtain ⟨gm, capm, rfl, hm1, hm2, hm3, hm4⟩ := tw_some HT.out.o5 (by omega)
                  have hca := Twins.a HG.out c (by omega)
                  have hcm := Twins.m HG.out c (by omega)
                  simp only [fam_lo hlt2, famB_lo hlt2, marksV_len, cntV_zero k 700 c hlt2] at hca hcm
                  rw [List.take_of_length_le (by rw [tailV_len]; exact Nat.le_refl _)] at hcm
                  have hll : ls c ≤ 100000000 := by rw [HLS.out]; exact HLN.out c hlt2
                  obtain ⟨l, hl⟩ : ∃ l, ls c = l := ⟨_, rfl⟩
                  rw [hl] at hca hcm hll
                  obtain ⟨aa, cap2, hA, hA1, hA2⟩ := tw_slice hca
                  obtain ⟨gx, capx, hM, _, _, hM1, hM2⟩ := tw_some hcm (by omega)
                  have kA : wo2.cell? ⟨ga0, c, none⟩ = some (.slice aa l cap2) := by rw [HT.out.a.cellAt c (by omega), rowOf_get _ _ _ hlt2, hA]
                  have kM : wo2.cell? ⟨gm, c, none⟩ = some (.slice (some ⟨gx, 0, none⟩) (l + 700) capx) := by rw [HT.out.o5.cellAt c (by omega), rowOf_get _ _ _ hlt2, hM]
                  rw [hA] at hca
                  rw [hM] at hcm
                  have HCA := Lib.hid hca
                  have HCM := Lib.hid hcm
                  have HBM := Lib.hid (row_tail hcm (by rw [marksV_len, tailV_len]) hM1 hM2)
                  rw [marksV_len, tailV_len] at HBM
                  clear hca hcm hA hM hl
                  go_wp2_with fail
                  go_loopw [13] (fun v13 wr => ∃ (q : Nat), v13 = .int .i64 q ∧ q ≤ l ∧ Below wo2.heap.size wo2 wr) (fun v13 _ => l - (intOf v13).toNat)
                  case atStart => exact ⟨0, rfl, Nat.zero_le _, Below.refl _ _⟩
                  case round =>
                    obtain ⟨q, rfl, hq, hbw⟩ := hrel
                    by_cases hlt3 : q < l
                    · have hca := ownsRow_later HCA.out hbw
                      have hcm := ownsRow_later HCM.out hbw
                      obtain ⟨gy, capy, hY, _, _, hY1, hY2⟩ := tw_some hca (by omega)
                      injection hY with hY3 _ hY4
                      subst hY3 hY4
                      obtain ⟨m, hm⟩ : ∃ m, markV c q = m := ⟨_, rfl⟩
                      have cA : wr.cell? ⟨gy, q, none⟩ = some (.int .u8 (m.toNat : Int)) := by
                        rw [hca.cellAt q (by omega)]; simp [Lib.byteCells, marksV, hlt3, hm]
                      have cM : wr.cell? ⟨gx, q, none⟩ = some (.int .u8 (m.toNat : Int)) := by
                        rw [hcm.cellAt q (by omega)]
                        simp only [Lib.byteCells, List.map_append]
                        rw [List.getElem?_append_left (by simp [marksV]; omega)]
                        simp [marksV, hlt3, hm]
                      have kA2 := (hbw.cell (cell_lt kA)).trans kA
                      have kM2 := (hbw.cell (cell_lt kM)).trans kM
                      have hne : ((m.toNat : Int) != (m.toNat : Int)) = false := by simp
                      have HMK := Lib.hid (fun W => ((hm ▸ mark_any c q W (by omega) (by omega)).mono fun _ _ h => ⟨h.1, h.2.symm⟩ : Calls Tryd.prog 73 #[.int .i64 c, .int .i64 q] W fun e w' => e = .returned (.int .u8 (m.toNat : Int)) ∧ w' = W))
                      have HBQ := Lib.hid hbw
                      clear hca hcm hm hbw kA kM
                      go_wp2_with fail
                      go_quiet ((go_at_call 73; exact Calls.quiet_of_same (HMK.out _)))
                      go_wp2_with fail
                      go_roundw
                      case measure => simp [intOf] <;> omega
                      case rel => exact ⟨q + 1, by simp, by omega, below_drawn HBQ.out _⟩
                    · obtain rfl : q = l := by omega
                      have HBQ := Lib.hid hbw
                      have HBM2 := Lib.hid (HBM.out.later hbw)
                      have kM2 := (hbw.cell (cell_lt kM)).trans kM
                      obtain ⟨n7, hn7⟩ : ∃ n7, q + 700 = n7 := ⟨_, rfl⟩
                      rw [hn7] at kM2 hM1
                      have hq0 : (0 : Int) ≤ (q : Int) := by omega
                      have hql : (q : Int) ≤ (n7 : Int) := by omega
                      have hqn : (n7 : Int) ≤ (capx : Int) := by omega
                      have hqc : ¬ capx = q := by omega
                      rw [show 700 = n7 - q by omega] at HBM2
                      clear hn7
                      clear hbw kA kM
                      go_wp2_with fail
                      go_region_held3 (fun w' => w'.cell? ⟨gm, c, none⟩ = some (.slice (some ⟨gx, 0, none⟩) n7 capx) ∧ Below wr.heap.size wr w')
                        (first | exact ⟨kM2, (Below.refl _ _).drew⟩ | exact cell_one (by assumption) (by assumption))
                        (first | (go_at_call 74; refine (tail_any c _ (by omega)).mono ?_; rintro e x1 ⟨t, rfl, ht, hbt⟩) | (go_at_call 19; refine (same_any _ _ (tailV c) (tailV c) _ _ _ (HBM2.out.later (by assumption : _ ∧ Below wr.heap.size wr x1).2) ht.reads).mono ?_; rintro e x2 ⟨rfl, hb2⟩))
                      have hS2 : Below wr.heap.size wr x2 := (by assumption : _ ∧ Below wr.heap.size wr x2).2
                      have HBX := Lib.hid (HBQ.out.trans (hS2.mono HBQ.out.size))
                      clear hS2 hb2 hbt ht
                      go_wp2_with fail
                      go_roundw
                      case measure => simp [intOf] <;> omega
                      case rel => exact ⟨c + 1, by simp, by omega, HB2.out.trans (HBX.out.mono HB2.out.size)⟩
                · obtain rfl : c = k := by omega
                  go_wp2_with fail
                  go_ret
                  exact ⟨rfl, HB1.out.trans (HB2.out.mono (Nat.le_trans hB HB1.out.size))⟩
end Go.Proofs.YtecmhpncgdjgjaaDoor
