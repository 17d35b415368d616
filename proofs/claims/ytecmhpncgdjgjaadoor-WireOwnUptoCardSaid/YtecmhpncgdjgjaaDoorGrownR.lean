/-
  grownRecords of the statements, walked: lists of records, each in a block of its own, are written full and appended to, and stay apart. Conditions: no more than 4000000 lists, of no more than 4000000 records each.
-/
import Derived.Test.YtecmhpncgdjgjaaDoorLists
namespace Go.Proofs.YtecmhpncgdjgjaaDoor
open Go.RowKit
set_option linter.unusedVariables false
set_option linter.unusedSimpArgs false

theorem herd_of {w : World} {P : Nat → Prop} {B : Nat} {us : List Value} (h : HerdL w P us) (hP : ∀ b, P b → B ≤ b) : ∃ (A : Nat → Value) (ka : Nat → Nat) (XA : Nat → List Value), us = rowOf us.length A ∧ Herd w B 53 5 us.length A ka XA ∧ (∀ i, i < us.length → ka i ≤ 4000000) ∧ ∀ i, i < us.length → ∀ b, (A i).ownBlock = some b → P b := by
  have hmem : ∀ i (hi : i < us.length), ∃ n xs, w.ownsRow B 53 5 (us[i]'hi) n xs ∧ n ≤ 4000000 := fun i hi => by
    obtain ⟨n, xs, h1, h2, h3⟩ := h.1 _ (List.getElem_mem hi)
    exact ⟨n, xs, tw_drop h1 (fun b hb => hP b (h2 b hb)), h3⟩
  refine ⟨fun i => us.getD i (.slice none 0 0), fun i => if hi : i < us.length then Classical.choose (hmem i hi) else 0, fun i => if hi : i < us.length then Classical.choose (Classical.choose_spec (hmem i hi)) else [], ?_, ?_, fun i hi => ?_, fun i hi b hb => ?_⟩
  · apply List.ext_getElem?
    intro j
    by_cases hj : j < us.length
    · rw [rowOf_get _ _ _ hj, List.getElem?_eq_getElem hj]
      simp [hj]
    · rw [List.getElem?_eq_none (by omega), List.getElem?_eq_none (by rw [rowOf_len]; omega)]
  · have ha : ∀ i, i < us.length → w.ownsRow B 53 5 (us.getD i (.slice none 0 0)) (if hi : i < us.length then Classical.choose (hmem i hi) else 0) (if hi : i < us.length then Classical.choose (Classical.choose_spec (hmem i hi)) else []) := fun i hi => by
      simp only [hi, dif_pos]
      rw [show us.getD i (.slice none 0 0) = us[i]'hi by simp [hi]]
      exact (Classical.choose_spec (Classical.choose_spec (hmem i hi))).1
    have hap : ∀ i j, i < us.length → j < us.length → i ≠ j → ∀ b, (us.getD i (.slice none 0 0)).ownBlock = some b → (us.getD j (.slice none 0 0)).ownBlock ≠ some b := fun i j hi hj hne b hb => by
      rw [show us.getD i (.slice none 0 0) = us[i]'hi by simp [hi]] at hb
      rw [show us.getD j (.slice none 0 0) = us[j]'hj by simp [hj]]
      rcases Nat.lt_or_gt_of_ne hne with h1 | h1
      · exact List.pairwise_iff_getElem.1 h.2 i j hi hj h1 b hb
      · exact fun e => List.pairwise_iff_getElem.1 h.2 j i hj hi h1 b e hb
    exact ⟨ha, ha, fun _ _ => Nat.le_refl _, hap, hap, hap⟩
  · simp only [hi, dif_pos]
    exact (Classical.choose_spec (Classical.choose_spec (hmem i hi))).2
  · obtain ⟨_, _, _, h2, _⟩ := h.1 _ (List.getElem_mem hi)
    have hb2 : (us.getD i (.slice none 0 0)).ownBlock = some b := hb
    rw [show us.getD i (.slice none 0 0) = us[i]'hi by simp [hi]] at hb2
    exact h2 b hb2

/-- Nothing has turned but blocks among G. -/
structure Fr (G : Nat → Prop) (B : Nat) (w w' : World) : Prop where
  below : Below B w w'
  kept : ∀ b, b < w.heap.size → ¬ G b → w'.heap[b]? = w.heap[b]?
theorem Fr.size {G : Nat → Prop} {B : Nat} {w w' : World} (h : Fr G B w w') : w.heap.size ≤ w'.heap.size := h.below.size
theorem Fr.later {G : Nat → Prop} {B : Nat} {w w1 w2 : World} (h : Fr G B w w1) (hb : Below w1.heap.size w1 w2) (hB : B ≤ w.heap.size) : Fr G B w w2 :=
  ⟨h.below.trans (hb.mono (Nat.le_trans hB h.size)), fun b hlt hn => (hb.block b (Nat.lt_of_lt_of_le hlt h.size)).trans (h.kept b hlt hn)⟩
theorem Fr.set {G : Nat → Prop} {B : Nat} {w w1 : World} (h : Fr G B w w1) {g : Nat} (hgB : B ≤ g) (hG : G g ∨ w.heap.size ≤ g) (o : Nat) (u : Value) : Fr G B w (w1.setCell ⟨g, o, none⟩ u) :=
  ⟨h.below.setCell (p := ⟨g, o, none⟩) hgB u, fun b hlt hn => (Below.heap_setCell w1 ⟨g, o, none⟩ u b (by
    intro e
    have e2 : b = g := e
    subst e2
    rcases hG with h | h
    · exact hn h
    · omega)).trans (h.kept b hlt hn)⟩

/-- The first k records bear the mark of list i. -/
def Marked (X : List Value) (i k : Nat) : Prop := ∀ m, m < k → X[m * 5]? = some (.int .i64 (-7)) ∧ X[m * 5 + 2]? = some (.int .i64 (1000 * (i : Int) + (m : Int)))
structure FullR (n i k : Nat) (ka : Nat → Nat) (X : Nat → List Value) : Prop where
  done : ∀ j, j < i → j < n → Marked (X j) j (ka j)
  now : i < n → Marked (X i) i k
theorem FullR.next {n i k : Nat} {ka : Nat → Nat} {X : Nat → List Value} (h : FullR n i k ka X) (hi : i < n) (hl : (X i).length = ka i * 5) (hk : k < ka i) :
    FullR n i (k + 1) ka (upd X i (((X i).set (k * 5 + 2) (.int .i64 (1000 * (i : Int) + (k : Int)))).set (k * 5) (.int .i64 (-7)))) := by
  refine ⟨fun j hj hjn => ?_, fun _ => ?_⟩
  · rw [upd_ne _ _ _ (by omega)]; exact h.done j hj hjn
  · rw [upd_at]
    intro m hm
    have hb : k * 5 + 2 < (X i).length := by omega
    by_cases hmk : m = k
    · subst hmk
      refine ⟨?_, ?_⟩
      · rw [List.getElem?_set_self (by rw [List.length_set]; omega)]
      · rw [List.getElem?_set_ne (by omega), List.getElem?_set_self hb]
    · have h1 := h.now hi m (by omega)
      refine ⟨?_, ?_⟩
      · rw [List.getElem?_set_ne (by omega), List.getElem?_set_ne (by omega)]; exact h1.1
      · rw [List.getElem?_set_ne (by omega), List.getElem?_set_ne (by omega)]; exact h1.2
theorem FullR.row {n i k : Nat} {ka : Nat → Nat} {X : Nat → List Value} (h : FullR n i k ka X) (hk : i < n → k = ka i) : FullR n (i + 1) 0 ka X :=
  ⟨fun j hj hjn => by
    by_cases hji : j = i
    · subst hji; have := h.now hjn; rw [hk hjn] at this; exact this
    · exact h.done j (by omega) hjn, fun _ m hm => by omega⟩

/-- The records that were appended to list j. -/
def recC (j q : Nat) : List Value := [.int .i64 (-9), .int .i64 0, .int .i64 (-(1000 * (j : Int)) - (q : Int)), .string ⟨#[]⟩, .slice none 0 0]
def appR (j : Nat) : Nat → List Value
  | 0 => []
  | c + 1 => appR j c ++ recC j c
theorem appR_len (j c : Nat) : (appR j c).length = c * 5 := by
  induction c with
  | zero => rfl
  | succ c ih => rw [appR, List.length_append, ih]; simp [recC]; omega
theorem appR_get (j : Nat) : ∀ (c q : Nat), q < c → ∀ i, i < 5 → (appR j c)[q * 5 + i]? = (recC j q)[i]? := by
  intro c
  induction c with
  | zero => intro q hq; omega
  | succ c ih =>
    intro q hq i hi
    rw [appR]
    by_cases hqc : q = c
    · subst hqc
      rw [List.getElem?_append_right (by rw [appR_len]; omega), appR_len, Nat.add_sub_cancel_left]
    · rw [List.getElem?_append_left (by rw [appR_len]; omega)]
      exact ih q (by omega) i hi

/-- The lists and what was appended to them so far. -/
def GR (w : World) (B n : Nat) (A M : Nat → Value) (ka : Nat → Nat) (X : Nat → List Value) (cnt : Nat → Nat) : Prop :=
  Twins w B 53 5 n A M ka (fun j => ka j + cnt j) X (fun j => X j ++ appR j (cnt j))
theorem GR.start {w : World} {B n : Nat} {A : Nat → Value} {ka : Nat → Nat} {X : Nat → List Value} (h : Herd w B 53 5 n A ka X) : GR w B n A A ka X (cntV n 0 0) := by
  have h0 : ∀ j, cntV n 0 0 j = 0 := fun j => by unfold cntV; simp
  exact Twins.congr h (fun _ _ => rfl) (fun j _ => by simp only [h0, Nat.add_zero]) (fun j _ => by simp only [h0, appR, List.append_nil])
theorem GR.later {w w' : World} {B n : Nat} {A M : Nat → Value} {ka : Nat → Nat} {X : Nat → List Value} {cnt : Nat → Nat} (h : GR w B n A M ka X cnt) (hb : Below w.heap.size w w') : GR w' B n A M ka X cnt := Twins.later h hb
theorem GR.put {w w' : World} {B n : Nat} {A M : Nat → Value} {ka : Nat → Nat} {X : Nat → List Value} {cnt : Nat → Nat} (h : GR w B n A M ka X cnt) {i : Nat} (hi : i < n) {v : Value}
    (hown : w'.ownsRow B 53 5 v (ka i + cnt i + 1) ((X i ++ appR i (cnt i)) ++ recC i (cnt i))) (hg : w.grownBy w' (M i).ownBlock) (hat : v.ownBlock = (M i).ownBlock ∨ v.ownBlock = some w.heap.size)
    (hs : Stays w w' (M i) ((ka i + cnt i) * 5)) : GR w' B n A (upd M i v) ka X (upd cnt i (cnt i + 1)) := by
  have h1 := Twins.put h hi (m := 1) hown hg hat hs
  refine Twins.congr h1 (fun _ _ => rfl) (fun j hj => ?_) (fun j hj => ?_)
  · by_cases hji : j = i
    · subst hji; simp only [upd_at]; omega
    · simp only [upd_ne _ _ _ hji]
  · by_cases hji : j = i
    · subst hji
      simp only [upd_at, appR, List.append_assoc]
    · simp only [upd_ne _ _ _ hji]

theorem setCell_comm (w : World) {a b : Addr} (h : a.block ≠ b.block) (u v : Value) : (w.setCell a u).setCell b v = (w.setCell b v).setCell a u := by
  unfold World.setCell
  congr 1
  apply Array.ext_getElem?
  intro i
  simp only [Array.getElem?_modify]
  by_cases h1 : b.block = i
  · by_cases h2 : a.block = i
    · exact absurd (h2.trans h1.symm) h
    · simp [h1, h2]
  · by_cases h2 : a.block = i <;> simp [h1, h2]
theorem stays_store {w w1 : World} {v x : Value} {k g off : Nat} (h : Stays w w1 v k) (hg : v.ownBlock = some g ∨ w.heap.size ≤ g) (ho : k ≤ off) : Stays w (w1.setCell ⟨g, off, none⟩ x) v k := by
  intro B e s u n xs hu hk
  have h1 := h B e s u n xs hu hk
  by_cases hb : u.ownBlock = some g
  · rcases hg with hg | hg
    · have hle := hk (by rw [hb, hg])
      rcases h1.2 with ⟨rfl, _⟩ | ⟨g', cap, cur, rfl, _⟩
      · cases hb
      · have : g' = g := by injection hb
        subst this
        have hs := (h1.stored off x).1
        rwa [List.set_eq_of_length_le (by rw [h1.1]; omega)] at hs
    · have := (hu.lt g hb).2; omega
  · exact ownsRow_setCell_other h1 (by exact hb) x
theorem grown_store {w w1 : World} {r : Option Nat} {g off : Nat} {x : Value} (h : w.grownBy w1 r) (hg : r = some g ∨ w.heap.size ≤ g) : w.grownBy (w1.setCell ⟨g, off, none⟩ x) r :=
  ⟨h.os, h.tape, h.output, by rw [World.size_setCell]; exact h.size, fun k hk hne => (Below.heap_setCell w1 ⟨g, off, none⟩ x k (by
    intro e
    have e2 : k = g := e
    subst e2
    rcases hg with hg | hg
    · exact hne hg.symm
    · omega)).trans (h.block k hk hne)⟩

theorem wrap_rec (c q : Nat) (hc : c ≤ 4000000) (hq : q ≤ 64) : IntKind.i64.wrap (IntKind.i64.wrap (-IntKind.i64.wrap (1000 * (c : Int))) - (q : Int)) = -(1000 * (c : Int)) - (q : Int) := by
  have h1 : IntKind.i64.wrap (1000 * (c : Int)) = 1000 * (c : Int) := by rw [IntKind.wrap_i64]; omega
  rw [h1]
  have h2 : IntKind.i64.wrap (-(1000 * (c : Int))) = -(1000 * (c : Int)) := by rw [IntKind.wrap_i64]; omega
  rw [h2, IntKind.wrap_i64]
  omega

/-- One record is appended, and the row of slices has the new one. -/
theorem grownR_step {w wr w1 : World} {G : Nat → Prop} {B Bs n c q gm capm nn g9 cap9 : Nat} {A M : Nat → Value} {ka : Nat → Nat} {X : Nat → List Value} {va v6 : Value} {xa x6 : List Value} {o : Obj} (HG : GR wr B n A M ka X (cntV n q c))
    (HT : Three wr 36 B Bs n n 0 va (.slice (some ⟨gm, 0, none⟩) n capm) v6 xa (rowOf n M) x6) (HB : Fr G B w wr) (HMG : ∀ i, i < n → ∀ b, (M i).ownBlock = some b → G b ∨ w.heap.size ≤ b) (hgmS : w.heap.size ≤ gm) (hBw : B ≤ w.heap.size) (hc : c < n) (hgm : B ≤ gm) (hnn : ka c + cntV n q c c = nn) (hX : (X c).length = ka c * 5)
    (hown : w1.ownsRow B 53 5 (.slice (some ⟨g9, 0, none⟩) (nn + 1) cap9) (nn + 1) ((X c ++ appR c (cntV n q c c)) ++ [.int .i64 0, .int .i64 0, .int .i64 0, .string ⟨#[]⟩, .slice none 0 0])) (hg : (wr.alloc o).drew.grownBy w1 (M c).ownBlock)
    (hat : (Value.slice (some ⟨g9, 0, none⟩) (nn + 1) cap9).ownBlock = (M c).ownBlock ∨ (Value.slice (some ⟨g9, 0, none⟩) (nn + 1) cap9).ownBlock = some (wr.alloc o).drew.heap.size) (hst : Stays (wr.alloc o).drew w1 (M c) (nn * 5))
    (hq : cntV n q c c = q) {W : World} (hW : W = (((((w1.setCell ⟨g9, nn * 5, none⟩ (.int .i64 (-9))).setCell ⟨g9, nn * 5 + 1, none⟩ (.int .i64 0)).setCell ⟨g9, nn * 5 + 2, none⟩ (.int .i64 (-(1000 * (c : Int)) - (q : Int)))).setCell ⟨g9, nn * 5 + 3, none⟩ (.string ⟨#[]⟩)).setCell ⟨g9, nn * 5 + 4, none⟩ (.slice none 0 0))) :
    GR (W.setCell ⟨gm, c, none⟩ (.slice (some ⟨g9, 0, none⟩) (nn + 1) cap9)) B n A (upd M c (.slice (some ⟨g9, 0, none⟩) (nn + 1) cap9)) ka X (cntV n q (c + 1)) ∧ Three (W.setCell ⟨gm, c, none⟩ (.slice (some ⟨g9, 0, none⟩) (nn + 1) cap9)) 36 B Bs n n 0 va (.slice (some ⟨gm, 0, none⟩) n capm) v6 xa (rowOf n (upd M c (.slice (some ⟨g9, 0, none⟩) (nn + 1) cap9))) x6 ∧ Fr G B w (W.setCell ⟨gm, c, none⟩ (.slice (some ⟨g9, 0, none⟩) (nn + 1) cap9)) ∧ ∀ i, i < n → ∀ b, (upd M c (.slice (some ⟨g9, 0, none⟩) (nn + 1) cap9) i).ownBlock = some b → G b ∨ w.heap.size ≤ b := by
  have hq2 : (q : Int) = (cntV n q c c : Int) := by rw [hq]
  rw [hq2] at hW
  have hb : Below wr.heap.size wr (wr.alloc o).drew := (new_below wr o).drew
  have hG2 := HG.later hb
  have hT2 := HT.later hb
  have hmo := Twins.m hG2 c hc
  have hfr : (M c).ownBlock = some g9 ∨ (wr.alloc o).drew.heap.size ≤ g9 := by
    rcases hat with h | h
    · exact .inl h.symm
    · right
      have : g9 = (wr.alloc o).drew.heap.size := by injection h
      omega
  have s1 := (hown.stored (nn * 5) (.int .i64 (-9))).1
  have s2 := (s1.stored (nn * 5 + 1) (.int .i64 0)).1
  have s3 := (s2.stored (nn * 5 + 2) (.int .i64 (-(1000 * (c : Int)) - (cntV n q c c : Int)))).1
  have s4 := (s3.stored (nn * 5 + 3) (.string ⟨#[]⟩)).1
  have s5 := (s4.stored (nn * 5 + 4) (.slice none 0 0)).1
  rw [← hW] at s5
  have hxl : (X c ++ appR c (cntV n q c c)).length = nn * 5 := by rw [List.length_append, hX, appR_len]; omega
  have hset : ((((((X c ++ appR c (cntV n q c c)) ++ ([Value.int .i64 0, Value.int .i64 0, Value.int .i64 0, Value.string ⟨#[]⟩, Value.slice none 0 0] : List Value)).set (nn * 5) (.int .i64 (-9))).set (nn * 5 + 1) (.int .i64 0)).set (nn * 5 + 2) (.int .i64 (-(1000 * (c : Int)) - (cntV n q c c : Int)))).set (nn * 5 + 3) (.string ⟨#[]⟩)).set (nn * 5 + 4) (.slice none 0 0) = (X c ++ appR c (cntV n q c c)) ++ recC c (cntV n q c c) := by
    generalize X c ++ appR c (cntV n q c c) = Y at hxl
    rw [← hxl]
    have hs : ∀ (Z : List Value) (j : Nat) (v : Value), (Y ++ Z).set (Y.length + j) v = Y ++ Z.set j v := fun Z j v => by
      rw [List.set_append_right _ _ (by omega), Nat.add_sub_cancel_left]
    have h0 := hs [Value.int .i64 0, .int .i64 0, .int .i64 0, .string ⟨#[]⟩, .slice none 0 0] 0 (.int .i64 (-9))
    rw [Nat.add_zero] at h0
    rw [h0, hs, hs, hs, hs]
    rfl
  rw [hset] at s5
  have gW : (wr.alloc o).drew.grownBy W (M c).ownBlock := by
    rw [hW]
    exact grown_store (grown_store (grown_store (grown_store (grown_store hg hfr) hfr) hfr) hfr) hfr
  have tW : Stays (wr.alloc o).drew W (M c) (nn * 5) := by
    rw [hW]
    exact stays_store (stays_store (stays_store (stays_store (stays_store hst hfr (by omega)) hfr (by omega)) hfr (by omega)) hfr (by omega)) hfr (by omega)
  have hG3 := hG2.put hc (by rw [hnn]; exact s5) gW hat (by rw [hnn]; exact tW)
  have hT3 := hT2.unlike hmo (by decide) gW
  have hT4 := hT3.set5 c (.slice (some ⟨g9, 0, none⟩) (nn + 1) cap9)
  have hs := hT3.o5.stored c (.slice (some ⟨g9, 0, none⟩) (nn + 1) cap9)
  rw [← cntV_step n q c hc] at hG3
  have hsz := HB.size
  have hsz2 : (wr.alloc o).drew.heap.size = wr.heap.size + 1 := by simp
  refine ⟨Twins.unlike hG3 hT3.o5 (by decide) hs.2, by rw [← rowOf_set]; exact hT4, ?_, fun i hi b hb => ?_⟩
  · have hF : Fr G B w W := ⟨(HB.below.trans (hb.mono (by omega))).grown gW (by omega) (tw_base hmo), fun b hlt hn => (gW.block b (by omega) (fun e => by
      rcases HMG c hc b e.symm with h | h
      · exact hn h
      · omega)).trans ((hb.block b (by omega)).trans (HB.kept b hlt hn))⟩
    exact hF.set hgm (.inr hgmS) c _
  · by_cases hic : i = c
    · subst hic
      rw [upd_at] at hb
      rcases hat with h | h
      · exact HMG i hc b (h.symm.trans hb)
      · have h3 := h.symm.trans hb
        have h4 : (wr.alloc o).drew.heap.size = b := by injection h3
        omega
    · rw [upd_ne _ _ _ hic] at hb
      exact HMG i hi b hb

theorem grownR_facts {wr w1 : World} {o : Obj} {B Bs g9 cap9 nn gm c k capm : Nat} {xs ys : List Value} {v m : Value} (ho : w1.ownsRow B 53 5 (.slice (some ⟨g9, 0, none⟩) (nn + 1) cap9) (nn + 1) (xs ++ [.int .i64 0, .int .i64 0, .int .i64 0, .string ⟨#[]⟩, .slice none 0 0]))
    (hg : (wr.alloc o).drew.grownBy w1 v.ownBlock) (hat : (Value.slice (some ⟨g9, 0, none⟩) (nn + 1) cap9).ownBlock = v.ownBlock ∨ (Value.slice (some ⟨g9, 0, none⟩) (nn + 1) cap9).ownBlock = some (wr.alloc o).drew.heap.size) (hv : v.ownBlock ≠ some gm)
    (hm : wr.ownsRow Bs 36 1 (.slice (some ⟨gm, 0, none⟩) k capm) k ys) (kM : wr.cell? ⟨gm, c, none⟩ = some m) (hfz : wr.frozen? ⟨gm, c, none⟩ = false) (hlt : gm < wr.heap.size) :
    (w1.cell? ⟨g9, nn * 5, none⟩ = some (.int .i64 0) ∧ w1.cell? ⟨g9, nn * 5 + 1, none⟩ = some (.int .i64 0) ∧ w1.cell? ⟨g9, nn * 5 + 2, none⟩ = some (.int .i64 0) ∧ w1.cell? ⟨g9, nn * 5 + 3, none⟩ = some (.string ⟨#[]⟩) ∧ w1.cell? ⟨g9, nn * 5 + 4, none⟩ = some (.slice none 0 0)) ∧
    (w1.frozen? ⟨g9, nn * 5, none⟩ = false ∧ w1.frozen? ⟨g9, nn * 5 + 1, none⟩ = false ∧ w1.frozen? ⟨g9, nn * 5 + 2, none⟩ = false ∧ w1.frozen? ⟨g9, nn * 5 + 3, none⟩ = false ∧ w1.frozen? ⟨g9, nn * 5 + 4, none⟩ = false) ∧
    w1.cell? ⟨gm, c, none⟩ = some m ∧ w1.frozen? ⟨gm, c, none⟩ = false ∧ g9 ≠ gm := by
  have hx : xs.length = nn * 5 := by have := ho.1; simp only [List.length_append, List.length_cons, List.length_nil] at this; omega
  have hc : ∀ j, j < 5 → w1.cell? ⟨g9, nn * 5 + j, none⟩ = [Value.int .i64 0, .int .i64 0, .int .i64 0, .string ⟨#[]⟩, .slice none 0 0][j]? := fun j hj => by
    rw [ho.cellAt _ (by omega), List.getElem?_append_right (by omega), hx, Nat.add_sub_cancel_left]
  have hs : (wr.alloc o).drew.heap.size = wr.heap.size + 1 := by simp
  have hb : w1.heap[gm]? = wr.heap[gm]? := (hg.block gm (by omega) (fun e => hv e.symm)).trans (Below.heap_alloc wr o gm hlt)
  refine ⟨⟨hc 0 (by omega), hc 1 (by omega), hc 2 (by omega), hc 3 (by omega), hc 4 (by omega)⟩, ⟨ho.frozenAt _, ho.frozenAt _, ho.frozenAt _, ho.frozenAt _, ho.frozenAt _⟩, (World.cell?_of_block (w := wr) (a := ⟨gm, c, none⟩) hb).trans kM, (World.frozen?_of_block (w := wr) (a := ⟨gm, c, none⟩) hb).trans hfz, fun e => ?_⟩
  subst e
  rcases hat with h | h
  · exact hv h.symm
  · have : g9 = (wr.alloc o).drew.heap.size := by injection h
    omega

set_option maxHeartbeats 8000000 in
set_option maxRecDepth 100000 in
theorem grownRecords_any (B n : Nat) (V : Nat → Value) (ls : Nat → List Rec) (Qs : Nat → Nat → Prop) (a : Option Addr) (cap : Nat) (w : World) (hV : ∀ i, i < n → OwnT w (Qs i) (V i) (ls i))
    (hQ : ∀ i j b, i ≠ j → Qs i b → ¬ Qs j b) (hQB : ∀ i b, Qs i b → B ≤ b) (hB : B ≤ w.heap.size) (hc1 : n ≤ cap) (hc2 : cap ≤ 9223372036854775807) (hin : n = 0 ∨ ∃ g off, a = some ⟨g, off, none⟩ ∧ ∀ i, i < n → w.cell? ⟨g, off + i, none⟩ = some (V i)) (hcnt : cntN ls n ≤ 4000000)
    (N : Nat) (hN : ∀ i, i < n → SizeOf.sizeOf (ls i) ≤ N) (G : Nat → Prop) (hQG : ∀ i b, i < n → Qs i b → G b) :
    Calls Tryd.prog 46 #[.slice a n cap] w fun e w' => e = .returned (.bool true) ∧ Fr G B w w' := by
  have HL0 := Lib.hid (lists_any N n V ls Qs a cap w hN hV hQ hc1 hc2 hin hcnt)
  have HQB := Lib.hid hQB
  have HQG := Lib.hid hQG
  have HC := Lib.hid hcnt
  obtain ⟨is, his, hsz0, hsz1, hsz2⟩ := info_parts infoRl
  obtain ⟨ir, hir, hir0, hir1, hir2⟩ := infoRecP
  clear hV hQ hQB hQG hin hcnt hN
  go_enter Tryd.func46, Tryd.ntmps46
  go_wp2_with fail
  refine HL0.out.mono ?_
  rintro e w1 ⟨va, us, rfl, ho1, hl1, hh1, hb1⟩
  obtain ⟨A, ka, X, hA1, hA2, hA3, hA4⟩ := herd_of hh1 (B := B) (fun b ⟨i, _, h⟩ => HQB.out i b h)
  obtain ⟨M, hM⟩ : ∃ M, us.length = M := ⟨_, rfl⟩
  rw [hA1, rowOf_len, hM] at ho1
  rw [hM] at hl1 hA2 hA3 hA4
  have HPA := Lib.hid (show ∀ i, i < M → ∀ b, (A i).ownBlock = some b → G b from fun i hi b hb => by obtain ⟨j, hj, hq⟩ := hA4 i hi b hb; exact HQG.out j b hj hq)
  have hM4 : M ≤ 4000000 := by rw [hl1]; exact HC.out
  have HH := Lib.hid hA2
  have HK := Lib.hid hA3
  have HO := Lib.hid (tw_drop ho1 (fun b hb => Nat.le_trans hB (ho1.lt b hb).1) : w1.ownsRow B 36 1 va M (rowOf M A))
  have HB1 := Lib.hid (show Fr G B w w1 from ⟨hb1.mono hB, fun b hb _ => hb1.block b hb⟩)
  have hB1 : B ≤ w1.heap.size := by have := hb1.size; omega
  obtain ⟨ga, capa, rfl, hca1, hca2⟩ := tw_slice ho1
  clear hA1 hA2 hA3 hA4 hM hl1 hh1 ho1 hb1 HL0 HQB HQG HC
  go_wp2_with fail
  go_loopw [4] (fun v4 wr => ∃ (i : Nat) (X : Nat → List Value), v4 = .int .i64 i ∧ i ≤ M ∧ FullR M i 0 ka X ∧ Herd wr B 53 5 M A ka X ∧ wr.ownsRow B 36 1 (.slice ga M capa) M (rowOf M A) ∧ Fr G B w wr) (fun v4 _ => M - (intOf v4).toNat)
  case atStart => exact ⟨0, X, rfl, Nat.zero_le _, ⟨fun j hj => by omega, fun _ m hm => by omega⟩, HH.out, HO.out, HB1.out⟩
  case round =>
    obtain ⟨i, X, rfl, hi, hfull, hherd, hown, hbw⟩ := hrel
    have HF := Lib.hid hfull
    have HHE := Lib.hid hherd
    have HOW := Lib.hid hown
    have HBW := Lib.hid hbw
    clear hfull hherd hown hbw
    by_cases hlt : i < M
    · obtain ⟨wo, hwo⟩ : ∃ wo, wr = wo := ⟨_, rfl⟩
      rw [hwo] at HHE HOW HBW ⊢
      clear hwo
      obtain ⟨K, capK, hK, hK1, hK2, _, _⟩ := tw_some HOW.out (by omega)
      injection hK with hK3 hK5 hK4
      clear hK5
      subst hK3 hK4
      obtain ⟨l, hl⟩ : ∃ l, ka i = l := ⟨_, rfl⟩
      have HL := Lib.hid hl
      obtain ⟨aa, cap2, hA, hA1, hA2⟩ := tw_slice (Twins.a HHE.out i hlt)
      rw [hl] at hA hA1
      have HA := Lib.hid hA
      have kA : wo.cell? ⟨K, i, none⟩ = some (.slice aa l cap2) := by rw [HOW.out.cellAt i (by omega), rowOf_get _ _ _ hlt, hA]
      have hll : l ≤ 4000000 := by rw [← hl]; exact HK.out i hlt
      clear hl hA
      go_wp2_with fail
      clear kA
      go_loopw [5] (fun v5 wr => ∃ (k : Nat) (X : Nat → List Value), v5 = .int .i64 k ∧ k ≤ l ∧ FullR M i k ka X ∧ Herd wr B 53 5 M A ka X ∧ wr.ownsRow B 36 1 (.slice (some ⟨K, 0, none⟩) M capa) M (rowOf M A) ∧ Fr G B w wr) (fun v5 _ => l - (intOf v5).toNat)
      case atStart => exact ⟨0, X, rfl, Nat.zero_le _, HF.out, HHE.out, HOW.out, HBW.out⟩
      case round =>
        obtain ⟨k, X, rfl, hk, hfull, hherd, hown, hbw⟩ := hrel
        have kA2 : wr.cell? ⟨K, i, none⟩ = some (.slice aa l cap2) := by rw [hown.cellAt i (by omega), rowOf_get _ _ _ hlt, HA.out]
        by_cases hlt2 : k < l
        · have hoA := Twins.a hherd i hlt
          rw [HL.out] at hoA
          have HXL := Lib.hid (show (X i).length = ka i * 5 by rw [hoA.1, HL.out])
          obtain ⟨g, cap3, hA3, hg1, hg2, _, _⟩ := tw_some hoA (by omega)
          have hA4 := HA.out.symm.trans hA3
          injection hA4 with hA5 hA7 hA6
          clear hA7
          subst hA5 hA6
          rw [hA3] at hoA
          have hXl : (X i).length = l * 5 := hoA.1
          obtain ⟨z2, hz2⟩ : ∃ z, wr.cell? ⟨g, k * 5 + 2, none⟩ = some z := ⟨_, by rw [hoA.cellAt _ (by omega)]; exact List.getElem?_eq_getElem (by omega)⟩
          obtain ⟨z0, hz0⟩ : ∃ z, wr.cell? ⟨g, k * 5, none⟩ = some z := ⟨_, by rw [hoA.cellAt _ (by omega)]; exact List.getElem?_eq_getElem (by omega)⟩
          have hfz2 : wr.frozen? ⟨g, k * 5 + 2, none⟩ = false := hoA.frozenAt _
          have hfz0 : wr.frozen? ⟨g, k * 5, none⟩ = false := hoA.frozenAt _
          have hKg : K ≠ g := fun e => by
            rcases tw_unlike hoA hown (by decide) with h | h
            · cases h
            · exact h (by subst e; rfl)
          have HF := Lib.hid hfull
          have HHE := Lib.hid hherd
          have HOW := Lib.hid hown
          have HBW := Lib.hid hbw
          have HA3 := Lib.hid hA3
          have hKg2 : g ≠ K := fun e => hKg e.symm
          clear hfull hherd hown hbw hoA hA3 hXl
          go_wp2_with fail
          have hw1 := Herd.write HHE.out hlt (by rw [HA3.out, HL.out]) (k * 5 + 2) (.int .i64 (1000 * (i : Int) + (k : Int)))
          have hw2 := Herd.write hw1 hlt (by rw [HA3.out, HL.out]) (k * 5) (.int .i64 (-7))
          have ho1 := ownsRow_setCell_other (ownsRow_setCell_other HOW.out (a := ⟨g, k * 5 + 2, none⟩) (fun e => hKg (by injection e)) (.int .i64 (1000 * (i : Int) + (k : Int)))) (a := ⟨g, k * 5, none⟩) (fun e => hKg (by injection e)) (.int .i64 (-7))
          have hGg : G g := HPA.out i hlt g (by rw [HA3.out]; rfl)
          have hf1 := HF.out.next hlt HXL.out (by rw [HL.out]; exact hlt2)
          refine ⟨⟨k + 1, _, by simp, by omega, hf1, Herd.congr hw2 (fun _ _ => rfl) (fun _ _ => rfl) (fun j hj => ?_), ho1, ((HBW.out.set hg1 (.inl hGg) _ _).set hg1 (.inl hGg) _ _)⟩, by simp [intOf]; omega⟩
          by_cases hji : j = i
          · subst hji; simp only [upd_at]
          · simp only [upd_ne _ _ _ hji]
        · obtain rfl : k = l := by omega
          have HF := Lib.hid hfull
          have HHE := Lib.hid hherd
          have HOW := Lib.hid hown
          have HBW := Lib.hid hbw
          clear hfull hherd hown hbw
          go_wp2_with fail
          go_roundw
          case measure => simp [intOf] <;> omega
          case rel => exact ⟨i + 1, X, by simp, by omega, HF.out.row (fun _ => HL.out.symm), HHE.out, HOW.out, HBW.out⟩
    · obtain rfl : i = M := by omega
      have HTH0 := Lib.hid (Three.start HOW.out)
      clear HOW
      go_wp2_with fail
      obtain ⟨ws, hws⟩ : ∃ ws, wr = ws := ⟨_, rfl⟩
      rw [hws] at HHE HTH0 HBW ⊢
      clear hws
      have hBs : B ≤ ws.heap.size := Nat.le_trans hB HBW.out.size
      go_loopw [6, 7] (fun v6 v7 wr => ∃ (k : Nat), v7 = .int .i64 k ∧ k ≤ i ∧ Herd wr B 53 5 i A ka X ∧ Three wr 36 B ws.heap.size i k 0 (.slice ga i capa) v6 (.slice none 0 0) (rowOf i A) (rowOf k A) [] ∧ Below ws.heap.size ws wr) (fun _ v7 _ => i - (intOf v7).toNat)
      case atStart => exact ⟨0, rfl, Nat.zero_le _, HHE.out, HTH0.out, Below.refl _ _⟩
      case round =>
        obtain ⟨k, rfl, hk, hherd, hth, hbw⟩ := hrel
        have HHE2 := Lib.hid hherd
        have HTH := Lib.hid hth
        have HBW2 := Lib.hid hbw
        have hsz := hbw.size
        clear hherd hth hbw
        by_cases hlt : k < i
        · obtain ⟨K, capK, hK, hK1, hK2, _, _⟩ := tw_some HTH.out.a (by omega)
          injection hK with hK3 hK5 hK4
          clear hK5
          subst hK3 hK4
          have kA : wr.cell? ⟨K, k, none⟩ = some (A k) := by rw [HTH.out.a.cellAt k (by omega), rowOf_get _ _ _ hlt]
          obtain ⟨aa, cap2, hav, _, _⟩ := tw_slice (Twins.a HHE2.out k (by omega))
          obtain ⟨l, hl⟩ : ∃ l, ka k = l := ⟨_, rfl⟩
          rw [hl] at hav
          clear hl
          rw [hav] at kA
          have HAV := Lib.hid hav
          clear hav
          go_wp2_with (at_builtin; refine wpList_append_own_at _ rfl _ _ 34 rfl ws.heap.size 36 is (.slice none 0 0) 1 24 Tryd.underlying34 his hsz0 hsz1 hsz2 rfl (by decide) _ _ _ rfl (World.ownsRow.alloc HTH.out.o5 _) ⟨wr.heap.size, 0, none⟩ 1 1 [.slice aa l cap2] rfl rfl ?c1 ?c2 ?c3 ?c4 ?c5 ?_)
          case c1 => exact news_row (by simp)
          case c2 => first | rfl | (intro u hu; simp at hu; rw [hu]; rfl)
          case c3 => unfold maxLen; omega
          case c4 => omega
          case c5 => first | omega | (simp; omega)
          intro v5' w2 hown' hgrow _ hat
          have HT2 := Lib.hid (Three.put5 (HTH.out.later (new_below wr (.cells #[.slice aa l cap2] 36))) hown' hgrow (by simpa using hat))
          have HH2 := Lib.hid (Twins.unlike (Twins.later HHE2.out (new_below wr (.cells #[.slice aa l cap2] 36))) (World.ownsRow.alloc HTH.out.o5 (.cells #[.slice aa l cap2] 36)) (by decide) hgrow)
          have HB2 := Lib.hid (show Below ws.heap.size ws w2 from (HBW2.out.alloc hsz _).grown hgrow (by simp; omega) (tw_base HTH.out.o5))
          clear hown' hgrow hat kA
          go_wp2_with fail
          go_roundw
          case measure => simp [intOf] <;> omega
          case rel =>
            have h9 := HT2.out
            rw [← HAV.out, ← rowOf_succ] at h9
            exact ⟨k + 1, by simp, by omega, HH2.out, h9, HB2.out⟩
        · obtain rfl : k = i := by omega
          have HG0 := Lib.hid (GR.start HHE2.out)
          have HT0 := Lib.hid HTH.out
          have HBWT := Lib.hid (HBW.out.later HBW2.out hB)
          have hwS : w.heap.size ≤ ws.heap.size := HBW.out.size
          clear HHE2 HTH HTH0 HHE
          go_wp2_with fail
          obtain ⟨wt, hwt⟩ : ∃ wt, wr = wt := ⟨_, rfl⟩
          rw [hwt] at HG0 HT0 HBW2 HBWT hsz ⊢
          clear hwt
          go_loopw [8] (fun v8 wr => ∃ (q : Nat) (M : Nat → Value), v8 = .int .i64 q ∧ q ≤ 64 ∧ GR wr B k A M ka X (cntV k q 0) ∧ Three wr 36 B ws.heap.size k k 0 (.slice ga k capa) u6 (.slice none 0 0) (rowOf k A) (rowOf k M) [] ∧ Fr G B w wr ∧ ∀ i, i < k → ∀ b, (M i).ownBlock = some b → G b ∨ w.heap.size ≤ b) (fun v8 _ => 64 - (intOf v8).toNat)
          case atStart => exact ⟨0, _, rfl, Nat.zero_le _, HG0.out, HT0.out, HBWT.out, fun i hi b hb => .inl (HPA.out i hi b hb)⟩
          case round =>
            obtain ⟨q, M, rfl, hq, hgt, hth, hbw, hmg⟩ := hrel
            have HMG1 := Lib.hid hmg
            clear hmg
            obtain ⟨wo, hwo⟩ : ∃ wo, wr = wo := ⟨_, rfl⟩
            rw [hwo] at hgt hth hbw ⊢
            have HG1 := Lib.hid hgt
            have HT1 := Lib.hid hth
            have HB1x := Lib.hid hbw
            clear hgt hth hbw hwo
            by_cases hlt : q < 64
            · have hqd : decide ((q : Int) < 64) = true := by simp; omega
              go_wp2_with fail
              go_loopw [9] (fun v9 wr => ∃ (c : Nat) (M : Nat → Value), v9 = .int .i64 c ∧ c ≤ k ∧ GR wr B k A M ka X (cntV k q c) ∧ Three wr 36 B ws.heap.size k k 0 (.slice ga k capa) u6 (.slice none 0 0) (rowOf k A) (rowOf k M) [] ∧ Fr G B w wr ∧ ∀ i, i < k → ∀ b, (M i).ownBlock = some b → G b ∨ w.heap.size ≤ b) (fun v9 _ => k - (intOf v9).toNat)
              case atStart => exact ⟨0, M, rfl, Nat.zero_le _, HG1.out, HT1.out, HB1x.out, HMG1.out⟩
              case round =>
                have hq7 : (q : Int) < 64 := by omega
                obtain ⟨c, M, rfl, hc, hgt, hth, hbw, hmg⟩ := hrel
                have HMG := Lib.hid hmg
                clear hmg
                have HG := Lib.hid hgt
                have HT := Lib.hid hth
                have HB2 := Lib.hid hbw
                clear hgt hth hbw
                by_cases hlt2 : c < k
                · obtain ⟨gm, capm, rfl, hm1, hm2, hm3, hm4⟩ := tw_some HT.out.o5 (by omega)
                  have kM : wr.cell? ⟨gm, c, none⟩ = some (M c) := by rw [HT.out.o5.cellAt c (by omega), rowOf_get _ _ _ hlt2]
                  have hfz : wr.frozen? ⟨gm, c, none⟩ = false := HT.out.o5.frozenAt c
                  have hmo := Twins.m HG.out c hlt2
                  have HXC := Lib.hid (Twins.a HG.out c hlt2).1
                  obtain ⟨am, capx, hMc, hMc1, hMc2⟩ := tw_slice hmo
                  obtain ⟨nn, hnn⟩ : ∃ nn, ka c + cntV k q c c = nn := ⟨_, rfl⟩
                  have hnn4 : nn ≤ 4000064 := by have := HK.out c hlt2; have := cntV_at k q c hlt2; omega
                  rw [hnn] at hmo hMc hMc1
                  rw [hMc] at hmo kM
                  have HOWN := Lib.hid (show (wr.alloc (.cells #[.int .i64 0, .int .i64 0, .int .i64 0, .string ⟨#[]⟩, .slice none 0 0] 53)).drew.ownsRow B 53 5 (.slice am nn capx) nn (X c ++ appR c (cntV k q c c)) from (hmo.alloc _).drew)
                  have HNN := Lib.hid hnn
                  have HMC := Lib.hid hMc
                  have HC63 := Lib.hid (show nn + 1 ≤ maxLen by unfold maxLen; omega)
                  have HCB := Lib.hid (show (nn + 1) * 64 ≤ 140737488355328 by omega)
                  have hmB : B ≤ gm := Nat.le_trans hBs hm1
                  have HBB := Lib.hid (show B ≤ (wr.alloc (.cells #[.int .i64 0, .int .i64 0, .int .i64 0, .string ⟨#[]⟩, .slice none 0 0] 53)).drew.heap.size by simp; omega)
                  have HXM := Lib.hid (show (Value.slice am nn capx).ownBlock ≠ some gm from fun e => by
                    rcases tw_unlike hmo HT.out.o5 (by decide) with h | h
                    · rw [h] at e; cases e
                    · exact h e)
                  have hnlt : (nn : Int) < (nn : Int) + 1 := by omega
                  clear hmo hnn hMc
                  go_wp2_with fail
                  go_region_law ((refine step_append_stays _ (by rfl) _ _ _ (by rfl) B 53 ir (.agg #[.int .i64 0, .int .i64 0, .int .i64 0, .string ⟨#[]⟩, .slice none 0 0]) 5 64 Tryd.underlying36 hir hir0 hir1 hir2 rfl (by omega) _ _ _ (by rfl) HOWN.out ⟨wr.heap.size, 0, none⟩ 1 1 [.int .i64 0, .int .i64 0, .int .i64 0, .string ⟨#[]⟩, .slice none 0 0] (by rfl) (by rfl) (World.news_of_block (cs := #[.int .i64 0, .int .i64 0, .int .i64 0, .string ⟨#[]⟩, .slice none 0 0]) (t := 53) (fr := (0, 0)) (heap_alloc_new wr _)) (by simp [Value.oneCell']) HC63.out HCB.out HBB.out ?_; intro v' w1 hown1 hgrow hat hst; obtain ⟨g9, cap9, rfl, hg91, hg92, hg93, hg94⟩ := tw_some hown1 (by omega); obtain ⟨⟨c0, c1, c2, c3, c4⟩, ⟨d0, d1, d2, d3, d4⟩, e0, e1, e2⟩ := grownR_facts hown1 hgrow hat HXM.out HT.out.o5 kM hfz hm2))
                  all_goals
                    rw [wrap_rec c q (by omega) (by omega)]
                    try rw [setCell_comm _ (a := ⟨gm, c, none⟩) (b := ⟨g9, nn * 5, none⟩) (by exact fun e => e2 e.symm), setCell_comm _ (a := ⟨gm, c, none⟩) (b := ⟨g9, nn * 5 + 1, none⟩) (by exact fun e => e2 e.symm), setCell_comm _ (a := ⟨gm, c, none⟩) (b := ⟨g9, nn * 5 + 2, none⟩) (by exact fun e => e2 e.symm), setCell_comm _ (a := ⟨gm, c, none⟩) (b := ⟨g9, nn * 5 + 3, none⟩) (by exact fun e => e2 e.symm), setCell_comm _ (a := ⟨gm, c, none⟩) (b := ⟨g9, nn * 5 + 4, none⟩) (by exact fun e => e2 e.symm)]
                    have HEND := Lib.hid (grownR_step HG.out HT.out HB2.out HMG.out (Nat.le_trans hwS hm1) hB hlt2 hmB HNN.out HXC.out hown1 (by rw [HMC.out]; exact hgrow) (by rw [HMC.out]; exact hat) (by rw [HMC.out]; exact hst) (cntV_at k q c hlt2) rfl)
                    clear hown1 hgrow hat hst c0 c1 c2 c3 c4 d0 d1 d2 d3 d4 e0 e1
                    go_wp2_with fail
                    go_roundw
                    case measure => simp [intOf] <;> omega
                    case rel => exact ⟨c + 1, _, by simp, by omega, HEND.out.1, HEND.out.2.1, HEND.out.2.2.1, HEND.out.2.2.2⟩
                · obtain rfl : c = k := by omega
                  rw [cntV_row] at HG
                  go_wp2_with fail
                  go_roundw
                  case measure => simp [intOf] <;> omega
                  case rel => exact ⟨q + 1, M, by simp, by omega, HG.out, HT.out, HB2.out, HMG.out⟩
            · obtain rfl : q = 64 := by omega
              rw [show ((64 : Nat) : Int) = 64 from rfl]
              go_wp2_with fail
              obtain ⟨wx, hwx⟩ : ∃ wx, wo = wx := ⟨_, rfl⟩
              rw [hwx] at HG1 HT1 HB1x ⊢
              clear hwx
              go_loopw [10] (fun v10 wr => ∃ (c : Nat), v10 = .int .i64 c ∧ c ≤ k ∧ Below wx.heap.size wx wr) (fun v10 _ => k - (intOf v10).toNat)
              case atStart => exact ⟨0, rfl, Nat.zero_le _, Below.refl _ _⟩
              case round =>
                obtain ⟨c, rfl, hc, hbw⟩ := hrel
                obtain ⟨wo2, hwo2⟩ : ∃ wo, wr = wo := ⟨_, rfl⟩
                rw [hwo2] at hbw ⊢
                have HG := Lib.hid (HG1.out.later hbw)
                have HT := Lib.hid (HT1.out.later hbw)
                have HB2 := Lib.hid hbw
                clear hbw hwo2
                by_cases hlt2 : c < k
                · obtain ⟨ga0, capa0, hKa, ha1, ha2, ha3, ha4⟩ := tw_some HT.out.a (by omega)
                  injection hKa with hK3 hK5 hK4
                  clear hK5
                  subst hK3 hK4
                  obtain ⟨gm, capm, rfl, hm1, hm2, hm3, hm4⟩ := tw_some HT.out.o5 (by omega)
                  have hca := Twins.a HG.out c (by omega)
                  have hcm := Twins.m HG.out c (by omega)
                  simp only [cntV_zero k 64 c hlt2] at hca hcm
                  have hll : ka c ≤ 4000000 := HK.out c hlt2
                  have hmk := HF.out.done c hlt2 hlt2
                  obtain ⟨l, hl⟩ : ∃ l, ka c = l := ⟨_, rfl⟩
                  rw [hl] at hca hcm hll hmk
                  obtain ⟨aa, cap2, hA, hA1, hA2⟩ := tw_slice hca
                  obtain ⟨gx, capx, hM, _, _, hM1, hM2⟩ := tw_some hcm (by omega)
                  have kA : wo2.cell? ⟨ga0, c, none⟩ = some (.slice aa l cap2) := by rw [HT.out.a.cellAt c (by omega), rowOf_get _ _ _ hlt2, hA]
                  have kM : wo2.cell? ⟨gm, c, none⟩ = some (.slice (some ⟨gx, 0, none⟩) (l + 64) capx) := by rw [HT.out.o5.cellAt c (by omega), rowOf_get _ _ _ hlt2, hM]
                  rw [hA] at hca
                  rw [hM] at hcm
                  have HCA := Lib.hid hca
                  have HCM := Lib.hid hcm
                  have HMK := Lib.hid hmk
                  clear hca hcm hA hM hl hmk
                  go_wp2_with fail
                  go_loopw [12] (fun v12 wr => ∃ (q : Nat), v12 = .int .i64 q ∧ q ≤ l ∧ Below wo2.heap.size wo2 wr) (fun v12 _ => l - (intOf v12).toNat)
                  case atStart => exact ⟨0, rfl, Nat.zero_le _, Below.refl _ _⟩
                  case round =>
                    obtain ⟨q, rfl, hq, hbw⟩ := hrel
                    have kA2 := (hbw.cell (cell_lt kA)).trans kA
                    have kM2 := (hbw.cell (cell_lt kM)).trans kM
                    by_cases hlt3 : q < l
                    · have hca := ownsRow_later HCA.out hbw
                      have hcm := ownsRow_later HCM.out hbw
                      obtain ⟨gy, capy, hY, _, _, hY1, hY2⟩ := tw_some hca (by omega)
                      injection hY with hY3 hY5 hY4
                      clear hY5
                      subst hY3 hY4
                      have hmq := HMK.out q hlt3
                      have hxl : (X c).length = l * 5 := hca.1
                      have cA0 : wr.cell? ⟨gy, q * 5, none⟩ = some (.int .i64 (-7)) := by rw [hca.cellAt _ (by omega)]; exact hmq.1
                      have cA2 : wr.cell? ⟨gy, q * 5 + 2, none⟩ = some (.int .i64 (1000 * (c : Int) + (q : Int))) := by rw [hca.cellAt _ (by omega)]; exact hmq.2
                      have cM2 : wr.cell? ⟨gx, q * 5 + 2, none⟩ = some (.int .i64 (1000 * (c : Int) + (q : Int))) := by rw [hcm.cellAt _ (by omega), List.getElem?_append_left (by omega)]; exact hmq.2
                      have hne : (1000 * (c : Int) + (q : Int) != 1000 * (c : Int) + (q : Int)) = false := by simp
                      have HBQ := Lib.hid hbw
                      clear hca hcm hbw kA kM hmq hxl
                      go_wp2_with fail
                      exact ⟨⟨q + 1, by simp, by omega, HBQ.out⟩, by simp [intOf]; omega⟩
                    · obtain rfl : q = l := by omega
                      have HBQ := Lib.hid hbw
                      have hszq := hbw.size
                      clear hbw kA kM
                      go_wp2_with fail
                      obtain ⟨wy, hwy⟩ : ∃ wy, wr = wy := ⟨_, rfl⟩
                      rw [hwy] at HBQ kA2 kM2 hszq ⊢
                      clear hwy
                      go_loopw [13] (fun v13 wr => ∃ (p : Nat), v13 = .int .i64 p ∧ p ≤ 64 ∧ Below wy.heap.size wy wr) (fun v13 _ => 64 - (intOf v13).toNat)
                      case atStart => exact ⟨0, rfl, Nat.zero_le _, Below.refl _ _⟩
                      case round =>
                        obtain ⟨p, rfl, hp, hbw⟩ := hrel
                        have kM3 := (hbw.cell (cell_lt kM2)).trans kM2
                        by_cases hlt4 : p < 64
                        · have hcm := ownsRow_later (ownsRow_later HCM.out HBQ.out) hbw
                          have hxl : (X c).length = q * 5 := HCA.out.1
                          have hg5 := appR_get c 64 p hlt4
                          have hlen : (X c ++ appR c 64).length = (q + 64) * 5 := hcm.1
                          have cM0 : wr.cell? ⟨gx, (q + p) * 5, none⟩ = some (.int .i64 (-9)) := by
                            rw [hcm.cellAt _ (by omega), List.getElem?_append_right (by omega), hxl, show (q + p) * 5 - q * 5 = p * 5 + 0 by omega, hg5 0 (by omega)]; rfl
                          have cM2 : wr.cell? ⟨gx, (q + p) * 5 + 2, none⟩ = some (.int .i64 (-(1000 * (c : Int)) - (p : Int))) := by
                            rw [hcm.cellAt _ (by omega), List.getElem?_append_right (by omega), hxl, show (q + p) * 5 + 2 - q * 5 = p * 5 + 2 by omega, hg5 2 (by omega)]; rfl
                          have hne : (-(1000 * (c : Int)) - (p : Int) != -(1000 * (c : Int)) - (p : Int)) = false := by simp
                          have hpq : (q : Int) + (p : Int) < (q : Int) + 64 := by omega
                          have HBP := Lib.hid hbw
                          clear hcm hbw hg5 hlen hxl kA2 kM2
                          go_wp2_with fail
                          exact ⟨⟨p + 1, by simp, by omega, HBP.out⟩, by simp [intOf]; omega⟩
                        · obtain rfl : p = 64 := by omega
                          go_wp2_with fail
                          go_roundw
                          case measure => simp [intOf] <;> omega
                          case rel => exact ⟨c + 1, by simp, by omega, HB2.out.trans ((HBQ.out.trans (hbw.mono hszq)).mono HB2.out.size)⟩
                · obtain rfl : c = k := by omega
                  go_wp2_with fail
                  go_ret
                  exact ⟨rfl, HB1x.out.later HB2.out hB⟩
end Go.Proofs.YtecmhpncgdjgjaaDoor
