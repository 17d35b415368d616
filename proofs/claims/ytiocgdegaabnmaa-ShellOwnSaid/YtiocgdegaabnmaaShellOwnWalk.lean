/-
  The Go function ShellOwn, walked: of all lines it returns true, and changes nothing that was there. Conditions: none.
-/
import Derived.Test.YtiocgdegaabnmaaMarked
import Derived.Test.YtiocgdegaabnmaaRefWords
import Derived.Test.YtiocgdegaabnmaaSame
namespace Go.Proofs.Ytiocgdegaabnmaa
open Go.RowKit
set_option linter.unusedVariables false
set_option linter.unusedSimpArgs false

/-- A row of texts among the arguments. -/
def IsTexts (w : World) (a : Option Addr) (len cap : Nat) (ss : List ByteArray) : Prop :=
  (a = none ∧ len = 0 ∧ cap = 0) ∨ ∃ x, a = some x ∧ len ≤ cap ∧ cap ≤ maxLen ∧ ss.length = cap ∧ (∀ i, i < ss.length → w.cell? (x.add i) = some (.string (ss.getD i ByteArray.empty)))
theorem IsTexts.cap {w : World} {a : Option Addr} {len cap : Nat} {ss : List ByteArray} (h : IsTexts w a len cap ss) : len ≤ cap ∧ cap ≤ 9223372036854775807 := by
  rcases h with ⟨_, rfl, rfl⟩ | ⟨x, _, h1, h2, _⟩
  · exact ⟨Nat.le_refl _, by omega⟩
  · exact ⟨h1, by unfold maxLen at h2; omega⟩
theorem IsTexts.str {w : World} {a : Option Addr} {len cap : Nat} {ss : List ByteArray} (h : IsTexts w a len cap ss) (i : Nat) (hi : i < len) : ∃ g off s, a = some ⟨g, off, none⟩ ∧ w.cell? ⟨g, off + i, none⟩ = some (.string s) := by
  rcases h with ⟨_, rfl, _⟩ | ⟨x, rfl, h1, h2, h3, h4⟩
  · omega
  · have hc := h4 i (by omega)
    obtain ⟨b, off, spot⟩ := x
    have hspot : spot = none := by simpa [Addr.add] using World.cell?_spot (h4 0 (by omega))
    subst hspot
    have e1 : (⟨b, off, none⟩ : Addr).add i = ⟨b, off + i, none⟩ := by unfold Addr.add; split <;> simp_all
    rw [e1] at hc
    exact ⟨b, off, _, rfl, hc⟩
theorem lt_of_cell {w : World} {b o : Nat} {v : Value} (h : w.cell? ⟨b, o, none⟩ = some v) : b < w.heap.size := by
  rcases Nat.lt_or_ge b w.heap.size with h1 | h1
  · exact h1
  · simp [World.cell?, Array.getElem?_eq_none h1] at h
theorem drawn_below {B : Nat} (w : World) (q : Nat) : Below B w (w.drewN q) := ⟨rfl, rfl, rfl, Nat.le_refl _, fun _ _ => rfl⟩
theorem made_below (w : World) (o : Obj) : Below w.heap.size w (w.alloc o) := (Below.refl _ w).alloc (Nat.le_refl _) o
theorem made_row {W : World} {g : Nat} {us : List Value} {e : TypeId} (hg : W.heap.size = g) : ∀ j x, us[j]? = some x → (W.alloc (.cells us.toArray e)).cell? ((⟨g, 0, none⟩ : Addr).add j) = some x := by
  subst hg
  intro j x hj
  have h : (W.alloc (.cells us.toArray e)).heap[W.heap.size]? = some (.cells us.toArray e (0, 0)) := heap_alloc_new W _
  have e1 : (⟨W.heap.size, 0, none⟩ : Addr).add j = ⟨W.heap.size, j, none⟩ := by unfold Addr.add; split <;> simp_all
  rw [e1, cell_of_row _ _ _ _ _ _ h, List.getElem?_toArray]
  exact hj

theorem infoLists : (Try.prog.info? 25).map (fun i => (i.zero, i.size, i.bytes)) = some (some (.slice none 0 0), 1, 24) := by kernel_rfl

/-- Lists of words, each of the call's own. -/
structure KeptS (w : World) (B n : Nat) (A : Nat → Value) (ka : Nat → Nat) (X : Nat → List Value) : Prop where
  herd : Herd w B 9 1 n A ka X
  few : ∀ i, i < n → ka i ≤ 65537
theorem KeptS.zero (w : World) (B : Nat) (A : Nat → Value) (ka : Nat → Nat) (X : Nat → List Value) : KeptS w B 0 A ka X := ⟨Herd.zero _ _ _ _ _ _ _, fun i hi => by omega⟩
theorem KeptS.later {w w' : World} {B n : Nat} {A : Nat → Value} {ka : Nat → Nat} {X : Nat → List Value} (h : KeptS w B n A ka X) (hb : Below w.heap.size w w') : KeptS w' B n A ka X := ⟨Twins.later h.herd hb, h.few⟩
theorem KeptS.add {w w' : World} {B n : Nat} {A : Nat → Value} {ka : Nat → Nat} {X : Nat → List Value} {v : Value} {k : Nat} {xs : List Value} (h : KeptS w B n A ka X) (ho : w'.ownsRow w.heap.size 9 1 v k xs) (hb : Below w.heap.size w w') (hB : B ≤ w.heap.size) (hl : k ≤ 65537) :
    KeptS w' B (n + 1) (upd A n v) (upd ka n k) (upd X n xs) := by
  have hbl : ∀ b, v.ownBlock = some b → w.heap.size ≤ b := fun b hb => (World.ownsRow.lt ho b hb).1
  refine ⟨Herd.fresh (w := w) (N := n) (Herd.congr h.herd (fun i hi => upd_ne _ _ _ (by omega)) (fun i hi => upd_ne _ _ _ (by omega)) (fun i hi => upd_ne _ _ _ (by omega))) hb ?_ ?_, fun i hi => ?_⟩
  · simp only [upd_at]
    exact tw_drop ho fun b hb => Nat.le_trans hB (hbl b hb)
  · rw [upd_at]; exact hbl
  · by_cases hin : i = n
    · subst hin; rw [upd_at]; exact hl
    · rw [upd_ne _ _ _ hin]; exact h.few i (by omega)
theorem rowOf_upd (n : Nat) (A : Nat → Value) (v : Value) : rowOf (n + 1) (upd A n v) = rowOf n A ++ [v] := by
  rw [rowOf_succ, upd_at, rowOf_congr n (upd A n v) A (fun i hi => upd_ne _ _ _ (by omega))]

/-- The mark of list i, and what is appended to it. -/
def keptS (i : Nat) : ByteArray := ⟨#[107, 101, 112, 116, 32]⟩ ++ mkV i
def moreS (i : Nat) : ByteArray := ⟨#[109, 111, 114, 101, 32]⟩ ++ mkV i
structure FullS (n i k : Nat) (ka : Nat → Nat) (X : Nat → List Value) : Prop where
  done : ∀ j, j < i → j < n → ∀ m, m < ka j → (X j)[m]? = some (.string (keptS j))
  now : i < n → ∀ m, m < k → (X i)[m]? = some (.string (keptS i))
theorem FullS.next {n i k : Nat} {ka : Nat → Nat} {X : Nat → List Value} (h : FullS n i k ka X) (hi : i < n) (hl : (X i).length = ka i) (hk : k < ka i) : FullS n i (k + 1) ka (upd X i ((X i).set k (.string (keptS i)))) := by
  refine ⟨fun j hj hjn => ?_, fun _ m hm => ?_⟩
  · rw [upd_ne _ _ _ (by omega)]; exact h.done j hj hjn
  · rw [upd_at]
    by_cases hmk : m = k
    · subst hmk; rw [List.getElem?_set_self (by omega)]
    · rw [List.getElem?_set_ne (by omega)]; exact h.now hi m (by omega)
theorem FullS.row {n i k : Nat} {ka : Nat → Nat} {X : Nat → List Value} (h : FullS n i k ka X) (hk : i < n → k = ka i) : FullS n (i + 1) 0 ka X :=
  ⟨fun j hj hjn => by
    by_cases hji : j = i
    · subst hji; have := h.now hjn; rw [hk hjn] at this; exact this
    · exact h.done j (by omega) hjn, fun _ m hm => by omega⟩

/-- The lists, and beside each the longer one: so many times more, the same text each time. -/
def TWS (w : World) (B n : Nat) (A M : Nat → Value) (ka : Nat → Nat) (X : Nat → List Value) (cnt : Nat → Nat) : Prop :=
  Twins w B 9 1 n A M ka (fun j => ka j + cnt j) X (fun j => X j ++ List.replicate (cnt j) (.string (moreS j)))
theorem TWS.start {w : World} {B n : Nat} {A : Nat → Value} {ka : Nat → Nat} {X : Nat → List Value} (h : Herd w B 9 1 n A ka X) : TWS w B n A A ka X (fun _ => 0) :=
  Twins.congr h (fun _ _ => rfl) (fun _ _ => rfl) (fun j _ => by simp)
theorem TWS.put {w w' : World} {B n i : Nat} {A M : Nat → Value} {ka cnt : Nat → Nat} {X : Nat → List Value} {v0 v : Value} (h : TWS w B n A M ka X cnt) (hi : i < n) (hM : M i = v0)
    (hown : w'.ownsRow B 9 1 v (ka i + cnt i + 1) ((X i ++ List.replicate (cnt i) (.string (moreS i))) ++ [.string (moreS i)])) (hg : w.grownBy w' v0.ownBlock) (hat : v.ownBlock = v0.ownBlock ∨ v.ownBlock = some w.heap.size)
    (hs : Stays w w' v0 ((ka i + cnt i) * 1)) : TWS w' B n A (upd M i v) ka X (upd cnt i (cnt i + 1)) := by
  subst hM
  have h1 := Twins.put h hi (m := 1) hown hg hat hs
  refine Twins.congr h1 (fun _ _ => rfl) (fun j hj => ?_) (fun j hj => ?_)
  · by_cases hji : j = i
    · subst hji; simp only [upd_at]; omega
    · simp only [upd_ne _ _ _ hji]
  · by_cases hji : j = i
    · subst hji
      simp only [upd_at, List.append_assoc, List.replicate_succ']
    · simp only [upd_ne _ _ _ hji]
theorem more_step {w wr x w1 : World} {B Bs n i k5 : Nat} {A M : Nat → Value} {ka cnt : Nat → Nat} {X : Nat → List Value} {va v5 v6 v0 v : Value} {xa x5 x6 : List Value} (HG : TWS wr B n A M ka X cnt) (HT : Three wr 25 B Bs n k5 0 va v5 v6 xa x5 x6)
    (HB : Below B w wr) (hBw : B ≤ w.heap.size) (hb : Below wr.heap.size wr x) (hi : i < n) (hM : M i = v0)
    (hown : w1.ownsRow B 9 1 v (ka i + cnt i + 1) ((X i ++ List.replicate (cnt i) (.string (moreS i))) ++ [.string (moreS i)])) (hg : x.grownBy w1 v0.ownBlock) (hat : v.ownBlock = v0.ownBlock ∨ v.ownBlock = some x.heap.size)
    (hs : Stays x w1 v0 ((ka i + cnt i) * 1)) : TWS w1 B n A (upd M i v) ka X (upd cnt i (cnt i + 1)) ∧ Three w1 25 B Bs n k5 0 va v5 v6 xa x5 x6 ∧ Below B w w1 ∧ wr.heap.size ≤ w1.heap.size := by
  have hG2 : TWS x B n A M ka X cnt := Twins.later HG hb
  have hmo := Twins.m hG2 i hi
  have hsz := HB.size
  refine ⟨hG2.put hi hM hown hg hat hs, (HT.later hb).unlike hmo (by decide) (by rw [hM]; exact hg), ?_⟩
  exact ⟨(HB.trans (hb.mono (by omega))).grown hg (by have := hb.size; omega) (fun j hj => (hmo.lt j (by rw [hM]; exact hj)).1), Nat.le_trans hb.size hg.size⟩
/-- So often was appended, i lists being done. -/
def cntS (i : Nat) : Nat → Nat := fun j => if j < i then 71 else 0
theorem cntS_at (i : Nat) : cntS i i = 0 := by simp [cntS]
theorem cntS_lo {n i : Nat} (h : i < n) : cntS n i = 71 := by simp [cntS, h]
theorem cntS_zero : cntS 0 = fun _ => 0 := by funext j; simp [cntS]
theorem cntS_next (i : Nat) : upd (cntS i) i 71 = cntS (i + 1) := by
  funext j
  unfold upd cntS
  by_cases h : j = i
  · subst h; rw [if_pos rfl, if_pos (by omega)]
  · rw [if_neg h]
    by_cases h2 : j < i
    · rw [if_pos h2, if_pos (by omega)]
    · rw [if_neg h2, if_neg (by omega)]
theorem upd_upd {α : Type} (f : Nat → α) (i : Nat) (u v : α) : upd (upd f i u) i v = upd f i v := by
  funext j; unfold upd; split <;> rfl

theorem cellB {w w' : World} {b o : Nat} {v : Value} (h : w.cell? ⟨b, o, none⟩ = some v) (hb : Below w.heap.size w w') : w'.cell? ⟨b, o, none⟩ = some v := (hb.cell (lt_of_cell h)).trans h
theorem call_alloc {w w2 : World} (h : Below w.drew.heap.size w.drew w2) (o : Obj) : Below w.heap.size w (w2.alloc o) :=
  ((Below.refl _ _).drew.trans (h.mono (Nat.le_refl _))).alloc (by have := h.size; exact this) o
theorem call_only {w w2 : World} (h : Below w.drew.heap.size w.drew w2) : Below w.heap.size w w2 :=
  (Below.refl _ _).drew.trans (h.mono (Nat.le_refl _))
theorem made_news (w : World) (v : Value) : ∀ j u, [v][j]? = some u → (w.alloc (.cells #[v] 9)).cell? ((⟨w.heap.size, 0, none⟩ : Addr).add j) = some u := made_row rfl

theorem cellG {x w3 : World} {K c : Nat} {v : Value} {row : Option Nat} (h : x.cell? ⟨K, c, none⟩ = some v) (hg : x.grownBy w3 row) (hne : row ≠ some K) : w3.cell? ⟨K, c, none⟩ = some v :=
  (World.cell?_of_block (w := x) (w' := w3) (a := ⟨K, c, none⟩) (hg.block K (lt_of_cell h) fun e => hne e.symm)).trans h

theorem limbs5 {x w2 : World} {K g1 g2 g3 c q : Nat} {v1 v2 v3 v4 : Value} (h : x.cell? ⟨K, c, none⟩ = some v1 ∧ x.cell? ⟨g1, q, none⟩ = some v2 ∧ x.cell? ⟨g2, c, none⟩ = some v3 ∧ x.cell? ⟨g3, q, none⟩ = some v4) (hb : Below x.heap.size x w2) :
    w2.cell? ⟨K, c, none⟩ = some v1 ∧ w2.cell? ⟨g1, q, none⟩ = some v2 ∧ w2.cell? ⟨g2, c, none⟩ = some v3 ∧ w2.cell? ⟨g3, q, none⟩ = some v4 :=
  ⟨cellB h.1 hb, cellB h.2.1 hb, cellB h.2.2.1 hb, cellB h.2.2.2 hb⟩
theorem limbs2 {x w2 : World} {g2 g3 c q : Nat} {v3 v4 : Value} (h : x.cell? ⟨g2, c, none⟩ = some v3 ∧ x.cell? ⟨g3, q, none⟩ = some v4) (hb : Below x.heap.size x w2) :
    w2.cell? ⟨g2, c, none⟩ = some v3 ∧ w2.cell? ⟨g3, q, none⟩ = some v4 := ⟨cellB h.1 hb, cellB h.2 hb⟩

theorem limbs2b {x w2 : World} {g2 g3 c q : Nat} {v3 v4 : Value} (hb : Below x.heap.size x w2) (h : x.cell? ⟨g2, c, none⟩ = some v3 ∧ x.cell? ⟨g3, q, none⟩ = some v4) :
    w2.cell? ⟨g2, c, none⟩ = some v3 ∧ w2.cell? ⟨g3, q, none⟩ = some v4 := ⟨cellB h.1 hb, cellB h.2 hb⟩
theorem call_only2 {w w2 : World} (h : Below w.drew.drew.heap.size w.drew.drew w2) : Below w.heap.size w w2 :=
  (Below.refl _ _).drew.drew.trans (h.mono (Nat.le_refl _))

theorem call_drawn {w w2 : World} {n : Nat} (h : Below (w.drewN n).heap.size (w.drewN n) w2) : Below w.heap.size w w2 :=
  (drawn_below w n).trans (h.mono (Nat.le_refl _))

theorem resOf_ab : resOf [97, 32, 34, 98, 34] = ([[97], [98]], 0) := by decide +kernel

set_option maxHeartbeats 8000000 in
set_option maxRecDepth 100000 in
theorem shellOwn_walk (a : Option Addr) (len cap : Nat) (ss : List ByteArray) (w : World) (h0 : IsTexts w a len cap ss) : Calls Try.prog 9 #[.slice a len cap] w fun e w' => e = .returned (.bool true) ∧ Below w.heap.size w w' := by
  have HT := Lib.hid h0
  obtain ⟨hc1, hc2⟩ := h0.cap
  obtain ⟨is, his, hsz0, hsz1, hsz2⟩ := info_parts infoLists
  obtain ⟨ir, hir, hir0, hir1, hir2⟩ := info_parts infoString
  have HRES := Lib.hid (show resOf (⟨#[97, 32, 34, 98, 34]⟩ : ByteArray).data.toList = ([[97], [98]], 0) from resOf_ab)
  have hsz2' := hsz2
  clear h0
  go_enter Try.func9, Try.ntmps9
  go_wp2_with fail
  refine (words_any ⟨#[97, 32, 34, 98, 34]⟩ _).mono ?_
  rintro e w1 ⟨⟨v, rfl, ho⟩, hb1⟩
  rw [HRES.out] at ho
  obtain ⟨g, cap1, rfl, hca, _⟩ := row_cell ho 0 (by simp)
  obtain ⟨g', cap1', hg', hcb, _⟩ := row_cell ho 1 (by simp)
  have hcode : (resOf (⟨#[97, 32, 34, 98, 34]⟩ : ByteArray).data.toList).2 = 0 := by rw [HRES.out]
  rw [hcode]
  injection hg' with hg1 hg2 hg3
  injection hg1 with hg1
  injection hg1 with hg1
  subst hg1 hg3
  clear hg2 hcode
  have kca : w1.cell? ⟨g, 0, none⟩ = some (.string ⟨#[97]⟩) := hca
  have kcb : w1.cell? ⟨g, 1, none⟩ = some (.string ⟨#[98]⟩) := hcb
  have HO := Lib.hid ho
  have HB1 := Lib.hid hb1
  have hs1 := hb1.size
  clear hca hcb ho hb1
  have HK0 := Lib.hid (show KeptS (w1.alloc (.cells #[.slice (some ⟨g, 0, none⟩) 2 cap1] 25)) w.heap.size (0 + 1) (upd (fun _ => .slice none 0 0) 0 (.slice (some ⟨g, 0, none⟩) 2 cap1)) (upd (fun _ => 0) 0 2) (upd (fun _ => []) 0 [.string ⟨#[97]⟩, .string ⟨#[98]⟩]) from
    ((KeptS.zero w w.heap.size (fun _ => .slice none 0 0) (fun _ => 0) (fun _ => [])).add HO.out HB1.out (Nat.le_refl _) (by show 2 ≤ 65537; omega)).later (made_below _ _))
  have HR0 := Lib.hid (show (w1.alloc (.cells #[.slice (some ⟨g, 0, none⟩) 2 cap1] 25)).ownsRow w.heap.size 25 1 (.slice (some ⟨w1.heap.size, 0, none⟩) 1 1) (1 + 2 * 0) (rowOf (1 + 2 * 0) (upd (fun _ => .slice none 0 0) 0 (.slice (some ⟨g, 0, none⟩) 2 cap1))) from by
    have h := World.ownsRow_lit (e := 25) (size := 1) (base := w.heap.size) w1 #[.slice (some ⟨g, 0, none⟩) 2 cap1] 1 hs1 (by unfold maxLen; omega) rfl
    simpa [rowOf, upd] using h)
  have HBX := Lib.hid (HB1.out.trans ((made_below w1 (.cells #[.slice (some ⟨g, 0, none⟩) 2 cap1] 25)).mono hs1))
  go_wp2_with fail
  go_loopw [5, 7] (fun v5 v7 wr => ∃ (k : Nat) (A : Nat → Value) (ka : Nat → Nat) (X : Nat → List Value), v7 = .int .i64 k ∧ k ≤ len ∧ k ≤ 4096 ∧ wr.ownsRow w.heap.size 25 1 v5 (1 + 2 * k) (rowOf (1 + 2 * k) A) ∧ KeptS wr w.heap.size (1 + 2 * k) A ka X ∧ Below w.heap.size w wr) (fun _ v7 _ => len - (intOf v7).toNat)
  case atStart => exact ⟨0, _, _, _, rfl, Nat.zero_le _, Nat.zero_le _, HR0.out, HK0.out, HBX.out⟩
  case round =>
    obtain ⟨k, A, ka, X, rfl, hk, hk4, hown, hkept, hbw⟩ := hrel
    have hsz := hbw.size
    have HOW := Lib.hid hown
    have HK := Lib.hid hkept
    have HB := Lib.hid hbw
    clear hown hkept hbw
    by_cases hlt : k < len ∧ k < 4096
    · obtain ⟨hlt1, hlt2⟩ := hlt
      have hd2 : decide ((k : Int) < 4096) = true := by simp; omega
      obtain ⟨gl, off, s, rfl, hc⟩ := HT.out.str k hlt1
      have kc := (HB.out.cell (p := ⟨gl, off + k, none⟩) (lt_of_cell hc)).trans hc
      obtain ⟨R, hR⟩ : ∃ R, resOf s.data.toList = R := ⟨_, rfl⟩
      have hfew := res_few s.data.toList
      rw [hR] at hfew
      have HW := Lib.hid (fun W => hR ▸ words_any s W)
      have HRW := Lib.hid (fun W => hR ▸ refWords_any s W)
      obtain ⟨xs, code⟩ := R
      clear hc hR
      simp only at hfew
      go_wp2_with fail
      refine (HW.out wr).mono ?_
      rintro e w2 ⟨⟨l, rfl, hl⟩, hb2⟩
      simp only at hl
      have kc := (hb2.cell (p := ⟨gl, off + k, none⟩) (lt_of_cell kc)).trans kc
      obtain ⟨al, cl, rfl, _, _⟩ := tw_slice hl
      have HL2 := Lib.hid hl
      have HK2 := Lib.hid (HK.out.add hl hb2 hsz hfew)
      have HO2 := Lib.hid (ownsRow_later HOW.out hb2)
      have HB2 := Lib.hid (HB.out.trans (hb2.mono hsz))
      have hs2 := HB2.out.size
      clear hl hb2
      go_wp2_with fail
      refine (HW.out w2).mono ?_
      rintro e w3 ⟨⟨l3, rfl, hl⟩, hb3⟩
      simp only at hl
      have kc := (hb3.cell (p := ⟨gl, off + k, none⟩) (lt_of_cell kc)).trans kc
      obtain ⟨al3, cl3, rfl, _, _⟩ := tw_slice hl
      have HL3 := Lib.hid hl
      have HL2 := Lib.hid (ownsRow_later HL2.out hb3)
      have HK3 := Lib.hid (HK2.out.add hl hb3 hs2 hfew)
      have HO3 := Lib.hid (ownsRow_later HO2.out hb3)
      have HB3 := Lib.hid (HB2.out.trans (hb3.mono hs2))
      have hs3 := HB3.out.size
      clear hl hb3
      go_wp2_with fail
      refine (HRW.out w3).mono ?_
      rintro e w4 ⟨⟨l4, rfl, hl⟩, hb4⟩
      simp only at hl
      have HL4 := Lib.hid hl
      have HL2 := Lib.hid (ownsRow_later HL2.out hb4)
      have HL3 := Lib.hid (ownsRow_later HL3.out hb4)
      have HK4 := Lib.hid (HK3.out.later hb4)
      have HO4 := Lib.hid (ownsRow_later HO3.out hb4)
      have HB4 := Lib.hid (HB3.out.trans (hb4.mono hs3))
      have hs4 := HB4.out.size
      have hne : (code != code) = false := by simp
      clear hl hb4
      go_wp2_with fail
      refine (same_eq _ _ _ l4 xs w4 HL2.out HL4.out).mono ?_
      rintro e w5 ⟨rfl, q5, hq5⟩
      subst hq5
      have hd5 := drawn_below (B := (w4.drewN q5).heap.size) w4 q5
      have HL3 := Lib.hid (ownsRow_later HL3.out hd5)
      have HL4 := Lib.hid (ownsRow_later HL4.out hd5)
      have HK5 := Lib.hid (HK4.out.later hd5)
      have HO5 := Lib.hid (ownsRow_later HO4.out hd5)
      have HB5 := Lib.hid (HB4.out.trans (hd5.mono hs4))
      have hs5 := HB5.out.size
      clear hd5
      obtain ⟨w5, hw5⟩ : ∃ w5, w4.drewN q5 = w5 := ⟨_, rfl⟩
      rw [hw5] at HL3 HL4 HK5 HO5 HB5 hs5 ⊢
      clear hw5
      go_wp2_with fail
      refine (same_eq _ _ _ l4 xs w5 HL3.out HL4.out).mono ?_
      rintro e w6 ⟨rfl, q6, hq6⟩
      subst hq6
      have hd6 := drawn_below (B := (w5.drewN q6).heap.size) w5 q6
      have HK6 := Lib.hid (HK5.out.later hd6)
      have HO6 := Lib.hid (ownsRow_later HO5.out hd6)
      have HB6 := Lib.hid (HB5.out.trans (hd6.mono hs5))
      have hs6 := HB6.out.size
      clear hd6
      obtain ⟨w6, hw6⟩ : ∃ w6, w5.drewN q6 = w6 := ⟨_, rfl⟩
      rw [hw6] at HK6 HO6 HB6 hs6 ⊢
      clear hw6
      obtain ⟨n, hn⟩ : ∃ n, xs.length = n := ⟨_, rfl⟩
      rw [hn] at HK6 hfew ⊢
      clear hn
      go_wp2_with (at_builtin; refine wpList_append_own_at _ rfl _ _ 32 rfl w.heap.size 25 is (.slice none 0 0) 1 24 Try.underlying32 his hsz0 hsz1 hsz2 rfl (by decide) _ _ _ rfl (World.ownsRow.alloc HO6.out _) ⟨w6.heap.size, 0, none⟩ 1 1 [.slice al n cl] rfl rfl ?c1 ?c2 ?c3 ?c4 ?c5 ?_)
      case c1 => exact made_row (by simp)
      case c2 => intro u hu; simp at hu; rw [hu]; rfl
      case c3 => unfold maxLen; omega
      case c4 => omega
      case c5 => simp; omega
      intro v7 w7 hown' hgrow _ hat
      have HK7 := Lib.hid (show KeptS w7 w.heap.size (1 + 2 * k + 1 + 1) _ _ _ from ⟨Twins.unlike (Twins.later HK6.out.herd (made_below w6 (.cells #[.slice al n cl] 25))) (World.ownsRow.alloc HO6.out _) (by decide) hgrow, HK6.out.few⟩)
      have HB7 := Lib.hid (show Below w.heap.size w w7 from (HB6.out.alloc hs6 _).grown hgrow (by simp; omega) (fun j hj => (HO6.out.lt j hj).1))
      have HO7 := Lib.hid (show w7.ownsRow w.heap.size 25 1 v7 (1 + 2 * k + 1) (rowOf (1 + 2 * k + 1) (upd A (1 + 2 * k) (.slice al n cl))) from by
        rw [rowOf_upd]; exact hown')
      have hs7 := HB7.out.size
      clear hown' hgrow hat
      go_wp2_with (at_builtin; refine wpList_append_own_at _ rfl _ _ 32 rfl w.heap.size 25 is (.slice none 0 0) 1 24 Try.underlying32 his hsz0 hsz1 hsz2 rfl (by decide) _ _ _ rfl (World.ownsRow.alloc HO7.out _) ⟨w7.heap.size, 0, none⟩ 1 1 [.slice al3 n cl3] rfl rfl ?c1 ?c2 ?c3 ?c4 ?c5 ?_)
      case c1 => exact made_row (by simp)
      case c2 => intro u hu; simp at hu; rw [hu]; rfl
      case c3 => unfold maxLen; omega
      case c4 => omega
      case c5 => simp; omega
      intro v8 w8 hown' hgrow _ hat
      have HK8 := Lib.hid (show KeptS w8 w.heap.size (1 + 2 * k + 1 + 1) _ _ _ from ⟨Twins.unlike (Twins.later HK7.out.herd (made_below w7 (.cells #[.slice al3 n cl3] 25))) (World.ownsRow.alloc HO7.out _) (by decide) hgrow, HK7.out.few⟩)
      have HB8 := Lib.hid (show Below w.heap.size w w8 from (HB7.out.alloc hs7 _).grown hgrow (by simp; omega) (fun j hj => (HO7.out.lt j hj).1))
      have HO8 := Lib.hid (show w8.ownsRow w.heap.size 25 1 v8 (1 + 2 * k + 1 + 1) (rowOf (1 + 2 * k + 1 + 1) (upd (upd A (1 + 2 * k) (.slice al n cl)) (1 + 2 * k + 1) (.slice al3 n cl3))) from by
        rw [rowOf_upd]; exact hown')
      clear hown' hgrow hat kc
      go_wp2_with fail
      go_roundw
      case measure => simp [intOf] <;> omega
      case rel =>
        have h8 := HK8.out
        have o8 := HO8.out
        rw [show 1 + 2 * k + 1 + 1 = 1 + 2 * (k + 1) by omega] at h8 o8
        exact ⟨k + 1, _, _, _, by simp, by omega, by omega, o8, h8, HB8.out⟩
    · have hgd : (decide (k < len) = false ∧ ¬ k < len) ∨ (decide (k < len) = true ∧ k < len ∧ decide ((k : Int) < 4096) = false) := by
        by_cases h : k < len
        · exact .inr ⟨by simp; omega, h, by simp; omega⟩
        · exact .inl ⟨by simp; omega, h⟩
      obtain ⟨n, hn⟩ : ∃ n, 1 + 2 * k = n := ⟨_, rfl⟩
      have hn8 : n ≤ 8193 := by omega
      rw [hn] at HOW HK
      have hn1 : 0 < n := by omega
      clear hn hlt
      rcases hgd with ⟨hgd, hgd0⟩ | ⟨hgd1, hgd2, hgd3⟩
      · go_wp2_with fail
        obtain ⟨K, capK, rfl, hK1, hK2, hK3, hK4⟩ := tw_some HOW.out hn1
        go_loopw [14] (fun v14 wr => ∃ (i : Nat) (X : Nat → List Value), v14 = .int .i64 i ∧ i ≤ n ∧ FullS n i 0 ka X ∧ Herd wr w.heap.size 9 1 n A ka X ∧ wr.ownsRow w.heap.size 25 1 (.slice (some ⟨K, 0, none⟩) n capK) n (rowOf n A) ∧ Below w.heap.size w wr) (fun v14 _ => n - (intOf v14).toNat)
        case atStart => exact ⟨0, X, rfl, Nat.zero_le _, ⟨fun j hj => by omega, fun _ m hm => by omega⟩, HK.out.herd, HOW.out, HB.out⟩
        case round =>
          have hfew := HK.out.few
          have HFEW := Lib.hid hfew
          clear hfew
          obtain ⟨i, X, rfl, hi, hfull, hherd, hown, hbw⟩ := hrel
          have HF := Lib.hid hfull
          have HHE := Lib.hid hherd
          have HO2 := Lib.hid hown
          have HB2 := Lib.hid hbw
          have hsz2 := hbw.size
          clear hfull hherd hown hbw HK HOW HB
          by_cases hlt : i < n
          · obtain ⟨m, hm⟩ : ∃ m, mkV i = m := ⟨_, rfl⟩
            have hms := mkV_size i (by omega)
            have HM := Lib.hid (marked_any i (by omega) wr)
            rw [hm] at HM hms
            have HKS := Lib.hid (show keptS i = ⟨#[107, 101, 112, 116, 32]⟩ ++ m by rw [keptS, hm])
            clear hm
            go_wp2_with fail
            refine HM.out.mono ?_
            rintro e w2 ⟨rfl, hb2⟩
            have HHE2 := Lib.hid (Twins.later HHE.out hb2)
            have HO3 := Lib.hid (ownsRow_later HO2.out hb2)
            have HB3 := Lib.hid (HB2.out.trans (hb2.mono hsz2))
            have hsz3 := HB3.out.size
            clear hb2
            obtain ⟨wo, hwo⟩ : ∃ wo, w2 = wo := ⟨_, rfl⟩
            obtain ⟨l, hl⟩ : ∃ l, ka i = l := ⟨_, rfl⟩
            have hll := HFEW.out i hlt
            obtain ⟨aa, cap2, hA, hA1, hA2⟩ := tw_slice (Twins.a HHE2.out i hlt)
            rw [hl] at hA hll
            have HL := Lib.hid hl
            have HA := Lib.hid hA
            have kA : w2.cell? ⟨K, i, none⟩ = some (.slice aa l cap2) := by rw [HO3.out.cellAt i (by omega), rowOf_get _ _ _ hlt, hA]
            clear hA hl
            go_wp2_with fail
            clear kA
            try rw [hwo]
            rw [hwo] at HHE2 HO3 HB3
            clear hwo
            go_loopw [16] (fun v16 wr => ∃ (k : Nat) (X : Nat → List Value), v16 = .int .i64 k ∧ k ≤ l ∧ FullS n i k ka X ∧ Herd wr w.heap.size 9 1 n A ka X ∧ wr.ownsRow w.heap.size 25 1 (.slice (some ⟨K, 0, none⟩) n capK) n (rowOf n A) ∧ Below w.heap.size w wr) (fun v16 _ => l - (intOf v16).toNat)
            case atStart => exact ⟨0, X, rfl, Nat.zero_le _, HF.out, HHE2.out, HO3.out, HB3.out⟩
            case round =>
              obtain ⟨q, X, rfl, hq, hfull, hherd, hown, hbw⟩ := hrel
              have kA : wr.cell? ⟨K, i, none⟩ = some (.slice aa l cap2) := by rw [hown.cellAt i (by omega), rowOf_get _ _ _ hlt, HA.out]
              have HF := Lib.hid hfull
              have HHE := Lib.hid hherd
              have HO := Lib.hid hown
              have HB := Lib.hid hbw
              have hxl : (X i).length = l := by have h := (Twins.a hherd i hlt).1; rw [Nat.mul_one, HL.out] at h; exact h
              by_cases hlt2 : q < l
              · have hoA := Twins.a hherd i hlt
                obtain ⟨g, cap3, hA3, hg1, hg2, _, _⟩ := tw_some hoA (by rw [HL.out]; omega)
                have hA4 := HA.out.symm.trans hA3
                injection hA4 with hA5 hA7 hA6
                subst hA5 hA6
                clear hA7
                rw [hA3] at hoA
                have hfz : wr.frozen? ⟨g, q, none⟩ = false := hoA.frozenAt q
                have hcc : wr.cell? ⟨g, q, none⟩ = some ((X i)[q]'(by omega)) := by rw [hoA.cellAt q (by rw [HL.out]; omega)]; exact List.getElem?_eq_getElem _
                obtain ⟨c, hc⟩ : ∃ c, (X i)[q]'(by omega) = c := ⟨_, rfl⟩
                rw [hc] at hcc
                have hKg : K ≠ g := fun e => by
                  rcases tw_unlike hoA hown (by decide) with h | h
                  · cases h
                  · exact h (by subst e; rfl)
                have HA3 := Lib.hid hA3
                have HXL := Lib.hid hxl
                clear hfull hherd hown hbw hoA hA3 hc hxl
                go_wp2_with fail
                rw [← HKS.out]
                have hst := (show wr.ownsRow w.heap.size 9 1 (.slice (some ⟨g, 0, none⟩) (ka i) cap2) (ka i) (X i) from HA3.out ▸ Twins.a HHE.out i hlt).stored q (.string (keptS i))
                exact ⟨⟨q + 1, upd X i ((X i).set q (.string (keptS i))), by simp, by omega, HF.out.next hlt (by rw [HXL.out, HL.out]) (by rw [HL.out]; exact hlt2), Herd.write HHE.out hlt HA3.out q _, HO.out.kept hst.2 (.inr fun e => hKg (by injection e)), HB.out.setCell (p := ⟨g, q, none⟩) hg1 _⟩, by simp [intOf]; omega⟩
              · obtain rfl : q = l := by omega
                clear hfull hherd hown hbw hxl
                go_wp2_with fail
                go_roundw
                case measure => simp [intOf] <;> omega
                case rel => exact ⟨i + 1, X, by simp, by omega, HF.out.row (fun _ => HL.out.symm), HHE.out, HO.out, HB.out⟩
          · obtain rfl : i = n := by omega
            have HG0 := Lib.hid (show TWS wr w.heap.size i A A ka X (cntS 0) by rw [cntS_zero]; exact TWS.start HHE.out)
            have HT0 := Lib.hid (Three.start HO2.out)
            clear HHE HO2
            go_wp2_with fail
            obtain ⟨ws, hws⟩ : ∃ ws, wr = ws := ⟨_, rfl⟩
            rw [hws] at HG0 HT0 HB2 hsz2
            try rw [hws]
            clear hws
            go_loopw [6, 17] (fun v6 v17 wr => ∃ (c : Nat) (M : Nat → Value), v17 = .int .i64 c ∧ c ≤ i ∧ (∀ j, c ≤ j → M j = A j) ∧ TWS wr w.heap.size i A M ka X (cntS c) ∧ Three wr 25 w.heap.size ws.heap.size i c 0 (.slice (some ⟨K, 0, none⟩) i capK) v6 (.slice none 0 0) (rowOf i A) (rowOf c M) [] ∧ Below w.heap.size w wr ∧ ws.heap.size ≤ wr.heap.size) (fun _ v17 _ => i - (intOf v17).toNat)
            case atStart => exact ⟨0, A, rfl, Nat.zero_le _, fun _ _ => rfl, HG0.out, HT0.out, HB2.out, Nat.le_refl _⟩
            case round =>
              obtain ⟨c, M, rfl, hc, hMA, hg, ht, hbw, hws⟩ := hrel
              have HG := Lib.hid hg
              have HT := Lib.hid ht
              have HBW := Lib.hid hbw
              have HMA := Lib.hid hMA
              have hsz4 := hbw.size
              clear hg ht hbw hMA
              by_cases hlt : c < i
              · obtain ⟨m, hm⟩ : ∃ m, mkV c = m := ⟨_, rfl⟩
                have hms := mkV_size c (by omega)
                have HM := Lib.hid (fun W => hm ▸ marked_any c (by omega) W)
                rw [hm] at hms
                have hadd : ¬ 9223372036854775807 < 5 + m.size := by omega
                have HMS := Lib.hid (show moreS c = ⟨#[109, 111, 114, 101, 32]⟩ ++ m by rw [moreS, hm])
                obtain ⟨l, hl⟩ : ∃ l, ka c = l := ⟨_, rfl⟩
                have hll := HFEW.out c hlt
                obtain ⟨aa, cap2, hA, hA1, hA2⟩ := tw_slice (Twins.a HG.out c hlt)
                rw [hl] at hA hll hA1
                have HL := Lib.hid hl
                have HA := Lib.hid hA
                have kA : wr.cell? ⟨K, c, none⟩ = some (.slice aa l cap2) := by rw [HT.out.a.cellAt c (by omega), rowOf_get _ _ _ hlt, hA]
                have HMC := Lib.hid ((HMA.out c (Nat.le_refl _)).trans hA)
                have HMO := Lib.hid (show wr.ownsRow w.heap.size 9 1 (.slice aa l cap2) (ka c + cntS c c) (X c ++ List.replicate (cntS c c) (.string (moreS c))) from HMC.out ▸ Twins.m HG.out c hlt)
                have HC63 := Lib.hid (show ka c + cntS c c + 1 ≤ maxLen by rw [cntS_at, hl]; unfold maxLen; omega)
                have HCB := Lib.hid (show (ka c + cntS c c + 1) * 16 ≤ 140737488355328 by rw [cntS_at, hl]; omega)
                have HKNE := Lib.hid (show (Value.slice aa l cap2).ownBlock ≠ some K from fun e => by
                  rcases tw_unlike HMO.out HT.out.a (by decide) with h | h
                  · rw [e] at h; cases h
                  · exact h (by rw [e]; rfl))
                clear hm hA hl
                go_wp2_with fail
                go_region_held3 (fun w' => w'.cell? ⟨K, c, none⟩ = some (.slice aa l cap2))
                  (first | exact kA | exact cellB (w := wr.drew) kA hb2 | exact cellB (cellB (w := wr.drew) kA hb2) (made_below _ _) | exact cellG (cellB (cellB (w := wr.drew) kA hb2) (made_below _ _)) hgrow HKNE.out | assumption)
                  (first | (go_at_call 16; refine (HM.out _).mono ?_; rintro e w2 ⟨rfl, hb2⟩) | (refine step_append_stays _ (by rfl) _ _ _ (by rfl) w.heap.size 9 ir (.string ⟨#[]⟩) 1 16 Try.underlying25 hir hir0 hir1 hir2 rfl (by decide) _ _ _ (by rfl) (ownsRow_later HMO.out (call_alloc hb2 _)) ⟨w2.heap.size, 0, none⟩ 1 1 [.string (moreS c)] (by rfl) (by rfl) (by rw [HMS.out]; exact made_news _ _) (by simp [Value.oneCell']) HC63.out HCB.out (Nat.le_trans hsz4 (call_alloc hb2 _).size) ?_; intro v' w3 hown hgrow hat hst))
                have h9 := more_step HG.out HT.out HBW.out (Nat.le_refl _) (call_alloc hb2 _) hlt HMC.out hown hgrow hat hst
                rw [cntS_at] at h9
                have HSTEP := Lib.hid h9
                clear h9
                obtain ⟨g9, cap9, rfl, _, _, _, _⟩ := tw_some hown (by omega)
                obtain ⟨l9, hl9⟩ : ∃ l9, ka c + cntS c c + 1 = l9 := ⟨_, rfl⟩
                rw [hl9] at HSTEP
                try rw [hl9]
                clear hl9 hown hgrow hat hst hb2 kA HG HT HBW HMO HC63 HCB HKNE
                go_wp2_with fail
                go_loopw [18, 19] (fun v18 v19 wr => ∃ (q : Nat), v19 = .int .i64 q ∧ q ≤ 70 ∧ TWS wr w.heap.size i A (upd M c v18) ka X (upd (cntS c) c (q + 1)) ∧ Three wr 25 w.heap.size ws.heap.size i c 0 (.slice (some ⟨K, 0, none⟩) i capK) u6 (.slice none 0 0) (rowOf i A) (rowOf c M) [] ∧ Below w.heap.size w wr ∧ ws.heap.size ≤ wr.heap.size) (fun _ v19 _ => 70 - (intOf v19).toNat)
                case atStart => exact ⟨0, rfl, by omega, HSTEP.out.1, HSTEP.out.2.1, HSTEP.out.2.2.1, Nat.le_trans hws HSTEP.out.2.2.2⟩
                case round =>
                  obtain ⟨q, rfl, hq, hg, ht, hbw, hws2⟩ := hrel
                  have HG := Lib.hid hg
                  have HT := Lib.hid ht
                  have HBW := Lib.hid hbw
                  have hsz5 := hbw.size
                  have hmo := Twins.m hg c hlt
                  simp only [upd_at] at hmo
                  obtain ⟨a18, c18, rfl, h181, h182⟩ := tw_slice hmo
                  have HMO := Lib.hid hmo
                  clear hg ht hbw hmo HSTEP
                  by_cases hlt2 : q < 70
                  · have hd7 : decide ((q : Int) < 70) = true := by simp; omega
                    have hd8 : (q : Int) < 70 := by omega
                    go_wp2_with fail
                    refine (HM.out _).mono ?_
                    rintro e w2 ⟨rfl, hb2⟩
                    go_wp2_with (at_builtin; refine wpList_append_stays _ rfl _ _ 25 rfl w.heap.size 9 ir (.string ⟨#[]⟩) 1 16 Try.underlying25 hir hir0 hir1 hir2 rfl (by decide) _ _ _ rfl (ownsRow_later HMO.out (hb2.trans ((made_below _ _).mono hb2.size))) ⟨w2.heap.size, 0, none⟩ 1 1 [.string (moreS c)] rfl rfl ?c1 ?c2 ?c3 ?c4 ?c5 ?_)
                    case c1 => rw [HMS.out]; exact made_news _ _
                    case c2 => intro u hu; simp at hu; rw [hu]; rfl
                    case c3 => have := HL.out; unfold maxLen; omega
                    case c4 => have := HL.out; omega
                    case c5 => have := hb2.size; simp; omega
                    intro v' w3 hown hgrow hat hst
                    have h9 := more_step (cnt := upd (cntS c) c (q + 1)) (M := upd M c (.slice a18 (ka c + (q + 1)) c18)) (i := c) HG.out HT.out HBW.out (Nat.le_refl _) (hb2.trans ((made_below _ _).mono hb2.size)) hlt (upd_at _ _ _) (by rw [upd_at]; simpa using hown) hgrow (by simpa using hat) (by rw [upd_at]; simpa using hst)
                    simp only [upd_upd, upd_at] at h9
                    have HSTEP := Lib.hid h9
                    clear h9 hown hgrow hat hst hb2
                    go_wp2_with fail
                    go_roundw
                    case measure => simp [intOf] <;> omega
                    case rel => exact ⟨q + 1, by simp, by omega, HSTEP.out.1, HSTEP.out.2.1, HSTEP.out.2.2.1, Nat.le_trans hws2 HSTEP.out.2.2.2⟩
                  · obtain rfl : q = 70 := by omega
                    rw [show ((70 : Nat) : Int) = 70 from rfl]
                    obtain ⟨l18, hl18⟩ : ∃ l18, ka c + (70 + 1) = l18 := ⟨_, rfl⟩
                    rw [hl18] at HG HMO h181
                    try rw [hl18]
                    clear hl18
                    go_wp2_with (at_builtin; refine wpList_append_own_at _ rfl _ _ 32 rfl ws.heap.size 25 is (.slice none 0 0) 1 24 Try.underlying32 his hsz0 hsz1 hsz2' rfl (by decide) _ _ _ rfl (World.ownsRow.alloc HT.out.o5 _) ⟨wr.heap.size, 0, none⟩ 1 1 [.slice a18 l18 c18] rfl rfl ?c1 ?c2 ?c3 ?c4 ?c5 ?_)
                    case c1 => exact made_row (by simp)
                    case c2 => intro u hu; simp at hu; rw [hu]; rfl
                    case c3 => unfold maxLen; omega
                    case c4 => omega
                    case c5 => simp; omega
                    intro v6' w3 hown' hgrow _ hat
                    have HT3 := Lib.hid (Three.put5 (HT.out.later (made_below wr (.cells #[.slice a18 l18 c18] 25))) hown' hgrow (by simpa using hat))
                    have HG3 := Lib.hid (show TWS w3 w.heap.size i A (upd M c (.slice a18 l18 c18)) ka X (cntS (c + 1)) from by
                      rw [← cntS_next]
                      exact Twins.unlike (Twins.later HG.out (made_below wr (.cells #[.slice a18 l18 c18] 25))) (World.ownsRow.alloc HT.out.o5 (.cells #[.slice a18 l18 c18] 25)) (by decide) hgrow)
                    have HB3 := Lib.hid (show Below w.heap.size w w3 from (HBW.out.alloc hsz5 _).grown hgrow (by simp; omega) (fun j hj => Nat.le_trans hsz2 (HT.out.o5.lt j hj).1))
                    have hws3 : ws.heap.size ≤ w3.heap.size := Nat.le_trans hws2 (Nat.le_trans (made_below wr (.cells #[.slice a18 l18 c18] 25)).size hgrow.size)
                    clear hown' hgrow hat
                    go_wp2_with fail
                    go_roundw
                    case measure => simp [intOf] <;> omega
                    case rel =>
                      have h9 := HT3.out
                      rw [show rowOf c M ++ [.slice a18 l18 c18] = rowOf (c + 1) (upd M c (.slice a18 l18 c18)) from (rowOf_upd _ _ _).symm] at h9
                      exact ⟨c + 1, _, by simp, by omega, fun j hj => by rw [upd_ne _ _ _ (by omega)]; exact HMA.out j (by omega), HG3.out, h9, HB3.out, hws3⟩
              · obtain rfl : c = i := by omega
                have HDONE := Lib.hid HF.out.done
                clear HF
                go_wp2_with fail
                obtain ⟨gm, capm, rfl, _, _, hm3, hm4⟩ := tw_some HT.out.o5 hn1
                obtain ⟨wx, hwx⟩ : ∃ wx, wr = wx := ⟨_, rfl⟩
                rw [hwx] at HG HT HBW hsz4
                try rw [hwx]
                clear hwx
                go_loopw [20] (fun v20 wr => ∃ (i : Nat), v20 = .int .i64 i ∧ i ≤ c ∧ Below wx.heap.size wx wr) (fun v20 _ => c - (intOf v20).toNat)
                case atStart => exact ⟨0, rfl, Nat.zero_le _, Below.refl _ _⟩
                case round =>
                  obtain ⟨i, rfl, hi2, hbw⟩ := hrel
                  have hG := Twins.later HG.out hbw
                  have hT := Three.later HT.out hbw
                  have HBX := Lib.hid hbw
                  by_cases hlt : i < c
                  · obtain ⟨m, hm⟩ : ∃ m, mkV i = m := ⟨_, rfl⟩
                    have hms := mkV_size i (by omega)
                    have HM := Lib.hid (fun W => hm ▸ marked_any i (by omega) W)
                    rw [hm] at hms
                    have hadd : ¬ 9223372036854775807 < 5 + m.size := by omega
                    have hkv : keptS i = ⟨#[107, 101, 112, 116, 32]⟩ ++ m := by rw [keptS, hm]
                    have hmv : moreS i = ⟨#[109, 111, 114, 101, 32]⟩ ++ m := by rw [moreS, hm]
                    obtain ⟨l, hl⟩ : ∃ l, ka i = l := ⟨_, rfl⟩
                    have hll := HFEW.out i hlt
                    have hca := Twins.a hG i hlt
                    have hcm := Twins.m hG i hlt
                    simp only [cntS_lo hlt, hl] at hca hcm
                    obtain ⟨aa, cap2, hA, hA1, hA2⟩ := tw_slice hca
                    obtain ⟨gx, capx, hM, _, _, hM1, hM2⟩ := tw_some hcm (by omega)
                    have kA : wr.cell? ⟨K, i, none⟩ = some (.slice aa l cap2) := by rw [hT.a.cellAt i (by omega), rowOf_get _ _ _ hlt, hA]
                    have kM : wr.cell? ⟨gm, i, none⟩ = some (.slice (some ⟨gx, 0, none⟩) (l + 71) capx) := by rw [hT.o5.cellAt i (by omega), rowOf_get _ _ _ hlt, hM]
                    have HCA := Lib.hid (show ∀ q, q < l → ∃ gy, aa = some ⟨gy, 0, none⟩ ∧ wr.cell? ⟨gy, q, none⟩ = some (.string (⟨#[107, 101, 112, 116, 32]⟩ ++ m)) ∧ wr.cell? ⟨gx, q, none⟩ = some (.string (⟨#[107, 101, 112, 116, 32]⟩ ++ m)) from by
                      intro q hq
                      have hx := HDONE.out i hlt hlt q (by omega)
                      rw [hkv] at hx
                      have hca2 := hca
                      have hcm2 := hcm
                      rw [hA] at hca2
                      rw [hM] at hcm2
                      obtain ⟨gy, capy, hY, _, _, _, _⟩ := tw_some hca2 (by omega)
                      injection hY with hY3 _ hY4
                      subst hY3 hY4
                      refine ⟨gy, rfl, by rw [hca2.cellAt q (by omega)]; exact hx, ?_⟩
                      rw [hcm2.cellAt q (by omega), List.getElem?_append_left (by rw [hca2.1]; omega)]
                      exact hx)
                    have HCM := Lib.hid (show ∀ q, l ≤ q → q < l + 71 → wr.cell? ⟨gx, q, none⟩ = some (.string (⟨#[109, 111, 114, 101, 32]⟩ ++ m)) from by
                      intro q hq hq2
                      have hcm2 := hcm
                      rw [hM] at hcm2
                      rw [hcm2.cellAt q (by omega), List.getElem?_append_right (by rw [hca.1]; omega), hca.1, List.getElem?_replicate, if_pos (by omega), hmv])
                    have HBX := Lib.hid hbw
                    clear hbw hG hT hm hl hca hcm hA hM hkv hmv
                    obtain ⟨L, hL⟩ : ∃ L, l + 71 = L := ⟨_, rfl⟩
                    rw [hL] at kM HCM hM1
                    have hLl : l ≤ L := by omega
                    clear hL
                    obtain ⟨wy, hwy⟩ : ∃ wy, wr = wy := ⟨_, rfl⟩
                    rw [hwy] at kA kM HCA HCM HBX
                    try rw [hwy]
                    clear hwy
                    go_wp2_with fail
                    go_loopw [22] (fun v22 wr => ∃ (q : Nat), v22 = .int .i64 q ∧ q ≤ L ∧ Below wy.heap.size wy wr) (fun v22 _ => L - (intOf v22).toNat)
                    case atStart => exact ⟨0, rfl, Nat.zero_le _, Below.refl _ _⟩
                    case round =>
                      obtain ⟨q, rfl, hq, hbw⟩ := hrel
                      have kA2 := cellB kA hbw
                      have kM2 := cellB kM hbw
                      have HBQ := Lib.hid hbw
                      by_cases hlt2 : q < L
                      · by_cases hlt3 : q < l
                        · obtain ⟨gy, rfl, cA, cM⟩ := HCA.out q hlt3
                          have cA2 := cellB cA hbw
                          have cM2 := cellB cM hbw
                          clear hbw cA cM kA kM
                          have hq1 : decide (q < l) = true := by simp; omega
                          have hq2 : ¬ l ≤ q := by omega
                          have hq3 : decide (l ≤ q) = false := by simp; omega
                          go_wp2_with fail
                          go_region_held3 (fun w' => w'.cell? ⟨K, i, none⟩ = some (.slice (some ⟨gy, 0, none⟩) l cap2) ∧ w'.cell? ⟨gy, q, none⟩ = some (.string (⟨#[107, 101, 112, 116, 32]⟩ ++ m)) ∧ w'.cell? ⟨gm, i, none⟩ = some (.slice (some ⟨gx, 0, none⟩) L capx) ∧ w'.cell? ⟨gx, q, none⟩ = some (.string (⟨#[107, 101, 112, 116, 32]⟩ ++ m)))
                            (first | exact ⟨kA2, cA2, kM2, cM2⟩ | exact limbs5 (x := wr.drew) ⟨kA2, cA2, kM2, cM2⟩ hb2 | assumption)
                            (first | (go_at_call 16; refine (HM.out _).mono ?_; rintro e w2 ⟨rfl, hb2⟩))
                          have HBN := Lib.hid (HBQ.out.trans ((call_only hb2).mono HBQ.out.size))
                          clear hb2
                          go_wp2_with fail
                          go_quiet (fail)
                          go_wp2_with fail
                          go_roundw
                          case measure => simp [intOf] <;> omega
                          case rel => first | exact ⟨q + 1, by simp, by omega, HBN.out⟩ | exact ⟨q + 1, by simp, by omega, HBN.out.drew⟩ | exact ⟨q + 1, by simp, by omega, HBN.out.trans (drawn_below _ _)⟩
                        · have cM := HCM.out q (by omega) (by omega)
                          have cM2 := cellB cM hbw
                          clear hbw cM kA kM
                          have hq1 : decide (q < l) = false := by simp; omega
                          have hq2 : l ≤ q := by omega
                          have hq3 : decide (l ≤ q) = true := by simp; omega
                          go_wp2_with fail
                          go_quiet (fail)
                          go_wp2_with fail
                          go_region_held3 (fun w' => w'.cell? ⟨gm, i, none⟩ = some (.slice (some ⟨gx, 0, none⟩) L capx) ∧ w'.cell? ⟨gx, q, none⟩ = some (.string (⟨#[109, 111, 114, 101, 32]⟩ ++ m)))
                            (first | exact ⟨kM2, cM2⟩ | exact limbs2b hb2 ⟨kM2, cM2⟩ | assumption)
                            (first | (go_at_call 16; refine (HM.out _).mono ?_; rintro e w2 ⟨rfl, hb2⟩))
                          have HBN := Lib.hid (show Below wy.heap.size wy w2 from HBQ.out.trans ((call_drawn hb2).mono HBQ.out.size))
                          clear hb2
                          go_wp2_with fail
                          go_roundw
                          case measure => simp [intOf] <;> omega
                          case rel => first | exact ⟨q + 1, by simp, by omega, HBN.out⟩ | exact ⟨q + 1, by simp, by omega, HBN.out.drew⟩ | exact ⟨q + 1, by simp, by omega, HBN.out.trans (drawn_below _ _)⟩
                      · obtain rfl : q = L := by omega
                        clear hbw
                        go_wp2_with fail
                        go_roundw
                        case measure => simp [intOf] <;> omega
                        case rel => exact ⟨i + 1, by simp, by omega, HBX.out.trans (HBQ.out.mono HBX.out.size)⟩
                  · obtain rfl : i = c := by omega
                    go_wp2_with fail
                    go_ret
                    exact ⟨rfl, HBW.out.trans (HBX.out.mono HBW.out.size)⟩
      · go_wp2_with fail
        obtain ⟨K, capK, rfl, hK1, hK2, hK3, hK4⟩ := tw_some HOW.out hn1
        go_loopw [14] (fun v14 wr => ∃ (i : Nat) (X : Nat → List Value), v14 = .int .i64 i ∧ i ≤ n ∧ FullS n i 0 ka X ∧ Herd wr w.heap.size 9 1 n A ka X ∧ wr.ownsRow w.heap.size 25 1 (.slice (some ⟨K, 0, none⟩) n capK) n (rowOf n A) ∧ Below w.heap.size w wr) (fun v14 _ => n - (intOf v14).toNat)
        case atStart => exact ⟨0, X, rfl, Nat.zero_le _, ⟨fun j hj => by omega, fun _ m hm => by omega⟩, HK.out.herd, HOW.out, HB.out⟩
        case round =>
          have hfew := HK.out.few
          have HFEW := Lib.hid hfew
          clear hfew
          obtain ⟨i, X, rfl, hi, hfull, hherd, hown, hbw⟩ := hrel
          have HF := Lib.hid hfull
          have HHE := Lib.hid hherd
          have HO2 := Lib.hid hown
          have HB2 := Lib.hid hbw
          have hsz2 := hbw.size
          clear hfull hherd hown hbw HK HOW HB
          by_cases hlt : i < n
          · obtain ⟨m, hm⟩ : ∃ m, mkV i = m := ⟨_, rfl⟩
            have hms := mkV_size i (by omega)
            have HM := Lib.hid (marked_any i (by omega) wr)
            rw [hm] at HM hms
            have HKS := Lib.hid (show keptS i = ⟨#[107, 101, 112, 116, 32]⟩ ++ m by rw [keptS, hm])
            clear hm
            go_wp2_with fail
            refine HM.out.mono ?_
            rintro e w2 ⟨rfl, hb2⟩
            have HHE2 := Lib.hid (Twins.later HHE.out hb2)
            have HO3 := Lib.hid (ownsRow_later HO2.out hb2)
            have HB3 := Lib.hid (HB2.out.trans (hb2.mono hsz2))
            have hsz3 := HB3.out.size
            clear hb2
            obtain ⟨wo, hwo⟩ : ∃ wo, w2 = wo := ⟨_, rfl⟩
            obtain ⟨l, hl⟩ : ∃ l, ka i = l := ⟨_, rfl⟩
            have hll := HFEW.out i hlt
            obtain ⟨aa, cap2, hA, hA1, hA2⟩ := tw_slice (Twins.a HHE2.out i hlt)
            rw [hl] at hA hll
            have HL := Lib.hid hl
            have HA := Lib.hid hA
            have kA : w2.cell? ⟨K, i, none⟩ = some (.slice aa l cap2) := by rw [HO3.out.cellAt i (by omega), rowOf_get _ _ _ hlt, hA]
            clear hA hl
            go_wp2_with fail
            clear kA
            try rw [hwo]
            rw [hwo] at HHE2 HO3 HB3
            clear hwo
            go_loopw [16] (fun v16 wr => ∃ (k : Nat) (X : Nat → List Value), v16 = .int .i64 k ∧ k ≤ l ∧ FullS n i k ka X ∧ Herd wr w.heap.size 9 1 n A ka X ∧ wr.ownsRow w.heap.size 25 1 (.slice (some ⟨K, 0, none⟩) n capK) n (rowOf n A) ∧ Below w.heap.size w wr) (fun v16 _ => l - (intOf v16).toNat)
            case atStart => exact ⟨0, X, rfl, Nat.zero_le _, HF.out, HHE2.out, HO3.out, HB3.out⟩
            case round =>
              obtain ⟨q, X, rfl, hq, hfull, hherd, hown, hbw⟩ := hrel
              have kA : wr.cell? ⟨K, i, none⟩ = some (.slice aa l cap2) := by rw [hown.cellAt i (by omega), rowOf_get _ _ _ hlt, HA.out]
              have HF := Lib.hid hfull
              have HHE := Lib.hid hherd
              have HO := Lib.hid hown
              have HB := Lib.hid hbw
              have hxl : (X i).length = l := by have h := (Twins.a hherd i hlt).1; rw [Nat.mul_one, HL.out] at h; exact h
              by_cases hlt2 : q < l
              · have hoA := Twins.a hherd i hlt
                obtain ⟨g, cap3, hA3, hg1, hg2, _, _⟩ := tw_some hoA (by rw [HL.out]; omega)
                have hA4 := HA.out.symm.trans hA3
                injection hA4 with hA5 hA7 hA6
                subst hA5 hA6
                clear hA7
                rw [hA3] at hoA
                have hfz : wr.frozen? ⟨g, q, none⟩ = false := hoA.frozenAt q
                have hcc : wr.cell? ⟨g, q, none⟩ = some ((X i)[q]'(by omega)) := by rw [hoA.cellAt q (by rw [HL.out]; omega)]; exact List.getElem?_eq_getElem _
                obtain ⟨c, hc⟩ : ∃ c, (X i)[q]'(by omega) = c := ⟨_, rfl⟩
                rw [hc] at hcc
                have hKg : K ≠ g := fun e => by
                  rcases tw_unlike hoA hown (by decide) with h | h
                  · cases h
                  · exact h (by subst e; rfl)
                have HA3 := Lib.hid hA3
                have HXL := Lib.hid hxl
                clear hfull hherd hown hbw hoA hA3 hc hxl
                go_wp2_with fail
                rw [← HKS.out]
                have hst := (show wr.ownsRow w.heap.size 9 1 (.slice (some ⟨g, 0, none⟩) (ka i) cap2) (ka i) (X i) from HA3.out ▸ Twins.a HHE.out i hlt).stored q (.string (keptS i))
                exact ⟨⟨q + 1, upd X i ((X i).set q (.string (keptS i))), by simp, by omega, HF.out.next hlt (by rw [HXL.out, HL.out]) (by rw [HL.out]; exact hlt2), Herd.write HHE.out hlt HA3.out q _, HO.out.kept hst.2 (.inr fun e => hKg (by injection e)), HB.out.setCell (p := ⟨g, q, none⟩) hg1 _⟩, by simp [intOf]; omega⟩
              · obtain rfl : q = l := by omega
                clear hfull hherd hown hbw hxl
                go_wp2_with fail
                go_roundw
                case measure => simp [intOf] <;> omega
                case rel => exact ⟨i + 1, X, by simp, by omega, HF.out.row (fun _ => HL.out.symm), HHE.out, HO.out, HB.out⟩
          · obtain rfl : i = n := by omega
            have HG0 := Lib.hid (show TWS wr w.heap.size i A A ka X (cntS 0) by rw [cntS_zero]; exact TWS.start HHE.out)
            have HT0 := Lib.hid (Three.start HO2.out)
            clear HHE HO2
            go_wp2_with fail
            obtain ⟨ws, hws⟩ : ∃ ws, wr = ws := ⟨_, rfl⟩
            rw [hws] at HG0 HT0 HB2 hsz2
            try rw [hws]
            clear hws
            go_loopw [6, 17] (fun v6 v17 wr => ∃ (c : Nat) (M : Nat → Value), v17 = .int .i64 c ∧ c ≤ i ∧ (∀ j, c ≤ j → M j = A j) ∧ TWS wr w.heap.size i A M ka X (cntS c) ∧ Three wr 25 w.heap.size ws.heap.size i c 0 (.slice (some ⟨K, 0, none⟩) i capK) v6 (.slice none 0 0) (rowOf i A) (rowOf c M) [] ∧ Below w.heap.size w wr ∧ ws.heap.size ≤ wr.heap.size) (fun _ v17 _ => i - (intOf v17).toNat)
            case atStart => exact ⟨0, A, rfl, Nat.zero_le _, fun _ _ => rfl, HG0.out, HT0.out, HB2.out, Nat.le_refl _⟩
            case round =>
              obtain ⟨c, M, rfl, hc, hMA, hg, ht, hbw, hws⟩ := hrel
              have HG := Lib.hid hg
              have HT := Lib.hid ht
              have HBW := Lib.hid hbw
              have HMA := Lib.hid hMA
              have hsz4 := hbw.size
              clear hg ht hbw hMA
              by_cases hlt : c < i
              · obtain ⟨m, hm⟩ : ∃ m, mkV c = m := ⟨_, rfl⟩
                have hms := mkV_size c (by omega)
                have HM := Lib.hid (fun W => hm ▸ marked_any c (by omega) W)
                rw [hm] at hms
                have hadd : ¬ 9223372036854775807 < 5 + m.size := by omega
                have HMS := Lib.hid (show moreS c = ⟨#[109, 111, 114, 101, 32]⟩ ++ m by rw [moreS, hm])
                obtain ⟨l, hl⟩ : ∃ l, ka c = l := ⟨_, rfl⟩
                have hll := HFEW.out c hlt
                obtain ⟨aa, cap2, hA, hA1, hA2⟩ := tw_slice (Twins.a HG.out c hlt)
                rw [hl] at hA hll hA1
                have HL := Lib.hid hl
                have HA := Lib.hid hA
                have kA : wr.cell? ⟨K, c, none⟩ = some (.slice aa l cap2) := by rw [HT.out.a.cellAt c (by omega), rowOf_get _ _ _ hlt, hA]
                have HMC := Lib.hid ((HMA.out c (Nat.le_refl _)).trans hA)
                have HMO := Lib.hid (show wr.ownsRow w.heap.size 9 1 (.slice aa l cap2) (ka c + cntS c c) (X c ++ List.replicate (cntS c c) (.string (moreS c))) from HMC.out ▸ Twins.m HG.out c hlt)
                have HC63 := Lib.hid (show ka c + cntS c c + 1 ≤ maxLen by rw [cntS_at, hl]; unfold maxLen; omega)
                have HCB := Lib.hid (show (ka c + cntS c c + 1) * 16 ≤ 140737488355328 by rw [cntS_at, hl]; omega)
                have HKNE := Lib.hid (show (Value.slice aa l cap2).ownBlock ≠ some K from fun e => by
                  rcases tw_unlike HMO.out HT.out.a (by decide) with h | h
                  · rw [e] at h; cases h
                  · exact h (by rw [e]; rfl))
                clear hm hA hl
                go_wp2_with fail
                go_region_held3 (fun w' => w'.cell? ⟨K, c, none⟩ = some (.slice aa l cap2))
                  (first | exact kA | exact cellB (w := wr.drew) kA hb2 | exact cellB (cellB (w := wr.drew) kA hb2) (made_below _ _) | exact cellG (cellB (cellB (w := wr.drew) kA hb2) (made_below _ _)) hgrow HKNE.out | assumption)
                  (first | (go_at_call 16; refine (HM.out _).mono ?_; rintro e w2 ⟨rfl, hb2⟩) | (refine step_append_stays _ (by rfl) _ _ _ (by rfl) w.heap.size 9 ir (.string ⟨#[]⟩) 1 16 Try.underlying25 hir hir0 hir1 hir2 rfl (by decide) _ _ _ (by rfl) (ownsRow_later HMO.out (call_alloc hb2 _)) ⟨w2.heap.size, 0, none⟩ 1 1 [.string (moreS c)] (by rfl) (by rfl) (by rw [HMS.out]; exact made_news _ _) (by simp [Value.oneCell']) HC63.out HCB.out (Nat.le_trans hsz4 (call_alloc hb2 _).size) ?_; intro v' w3 hown hgrow hat hst))
                have h9 := more_step HG.out HT.out HBW.out (Nat.le_refl _) (call_alloc hb2 _) hlt HMC.out hown hgrow hat hst
                rw [cntS_at] at h9
                have HSTEP := Lib.hid h9
                clear h9
                obtain ⟨g9, cap9, rfl, _, _, _, _⟩ := tw_some hown (by omega)
                obtain ⟨l9, hl9⟩ : ∃ l9, ka c + cntS c c + 1 = l9 := ⟨_, rfl⟩
                rw [hl9] at HSTEP
                try rw [hl9]
                clear hl9 hown hgrow hat hst hb2 kA HG HT HBW HMO HC63 HCB HKNE
                go_wp2_with fail
                go_loopw [18, 19] (fun v18 v19 wr => ∃ (q : Nat), v19 = .int .i64 q ∧ q ≤ 70 ∧ TWS wr w.heap.size i A (upd M c v18) ka X (upd (cntS c) c (q + 1)) ∧ Three wr 25 w.heap.size ws.heap.size i c 0 (.slice (some ⟨K, 0, none⟩) i capK) u6 (.slice none 0 0) (rowOf i A) (rowOf c M) [] ∧ Below w.heap.size w wr ∧ ws.heap.size ≤ wr.heap.size) (fun _ v19 _ => 70 - (intOf v19).toNat)
                case atStart => exact ⟨0, rfl, by omega, HSTEP.out.1, HSTEP.out.2.1, HSTEP.out.2.2.1, Nat.le_trans hws HSTEP.out.2.2.2⟩
                case round =>
                  obtain ⟨q, rfl, hq, hg, ht, hbw, hws2⟩ := hrel
                  have HG := Lib.hid hg
                  have HT := Lib.hid ht
                  have HBW := Lib.hid hbw
                  have hsz5 := hbw.size
                  have hmo := Twins.m hg c hlt
                  simp only [upd_at] at hmo
                  obtain ⟨a18, c18, rfl, h181, h182⟩ := tw_slice hmo
                  have HMO := Lib.hid hmo
                  clear hg ht hbw hmo HSTEP
                  by_cases hlt2 : q < 70
                  · have hd7 : decide ((q : Int) < 70) = true := by simp; omega
                    have hd8 : (q : Int) < 70 := by omega
                    go_wp2_with fail
                    refine (HM.out _).mono ?_
                    rintro e w2 ⟨rfl, hb2⟩
                    go_wp2_with (at_builtin; refine wpList_append_stays _ rfl _ _ 25 rfl w.heap.size 9 ir (.string ⟨#[]⟩) 1 16 Try.underlying25 hir hir0 hir1 hir2 rfl (by decide) _ _ _ rfl (ownsRow_later HMO.out (hb2.trans ((made_below _ _).mono hb2.size))) ⟨w2.heap.size, 0, none⟩ 1 1 [.string (moreS c)] rfl rfl ?c1 ?c2 ?c3 ?c4 ?c5 ?_)
                    case c1 => rw [HMS.out]; exact made_news _ _
                    case c2 => intro u hu; simp at hu; rw [hu]; rfl
                    case c3 => have := HL.out; unfold maxLen; omega
                    case c4 => have := HL.out; omega
                    case c5 => have := hb2.size; simp; omega
                    intro v' w3 hown hgrow hat hst
                    have h9 := more_step (cnt := upd (cntS c) c (q + 1)) (M := upd M c (.slice a18 (ka c + (q + 1)) c18)) (i := c) HG.out HT.out HBW.out (Nat.le_refl _) (hb2.trans ((made_below _ _).mono hb2.size)) hlt (upd_at _ _ _) (by rw [upd_at]; simpa using hown) hgrow (by simpa using hat) (by rw [upd_at]; simpa using hst)
                    simp only [upd_upd, upd_at] at h9
                    have HSTEP := Lib.hid h9
                    clear h9 hown hgrow hat hst hb2
                    go_wp2_with fail
                    go_roundw
                    case measure => simp [intOf] <;> omega
                    case rel => exact ⟨q + 1, by simp, by omega, HSTEP.out.1, HSTEP.out.2.1, HSTEP.out.2.2.1, Nat.le_trans hws2 HSTEP.out.2.2.2⟩
                  · obtain rfl : q = 70 := by omega
                    rw [show ((70 : Nat) : Int) = 70 from rfl]
                    obtain ⟨l18, hl18⟩ : ∃ l18, ka c + (70 + 1) = l18 := ⟨_, rfl⟩
                    rw [hl18] at HG HMO h181
                    try rw [hl18]
                    clear hl18
                    go_wp2_with (at_builtin; refine wpList_append_own_at _ rfl _ _ 32 rfl ws.heap.size 25 is (.slice none 0 0) 1 24 Try.underlying32 his hsz0 hsz1 hsz2' rfl (by decide) _ _ _ rfl (World.ownsRow.alloc HT.out.o5 _) ⟨wr.heap.size, 0, none⟩ 1 1 [.slice a18 l18 c18] rfl rfl ?c1 ?c2 ?c3 ?c4 ?c5 ?_)
                    case c1 => exact made_row (by simp)
                    case c2 => intro u hu; simp at hu; rw [hu]; rfl
                    case c3 => unfold maxLen; omega
                    case c4 => omega
                    case c5 => simp; omega
                    intro v6' w3 hown' hgrow _ hat
                    have HT3 := Lib.hid (Three.put5 (HT.out.later (made_below wr (.cells #[.slice a18 l18 c18] 25))) hown' hgrow (by simpa using hat))
                    have HG3 := Lib.hid (show TWS w3 w.heap.size i A (upd M c (.slice a18 l18 c18)) ka X (cntS (c + 1)) from by
                      rw [← cntS_next]
                      exact Twins.unlike (Twins.later HG.out (made_below wr (.cells #[.slice a18 l18 c18] 25))) (World.ownsRow.alloc HT.out.o5 (.cells #[.slice a18 l18 c18] 25)) (by decide) hgrow)
                    have HB3 := Lib.hid (show Below w.heap.size w w3 from (HBW.out.alloc hsz5 _).grown hgrow (by simp; omega) (fun j hj => Nat.le_trans hsz2 (HT.out.o5.lt j hj).1))
                    have hws3 : ws.heap.size ≤ w3.heap.size := Nat.le_trans hws2 (Nat.le_trans (made_below wr (.cells #[.slice a18 l18 c18] 25)).size hgrow.size)
                    clear hown' hgrow hat
                    go_wp2_with fail
                    go_roundw
                    case measure => simp [intOf] <;> omega
                    case rel =>
                      have h9 := HT3.out
                      rw [show rowOf c M ++ [.slice a18 l18 c18] = rowOf (c + 1) (upd M c (.slice a18 l18 c18)) from (rowOf_upd _ _ _).symm] at h9
                      exact ⟨c + 1, _, by simp, by omega, fun j hj => by rw [upd_ne _ _ _ (by omega)]; exact HMA.out j (by omega), HG3.out, h9, HB3.out, hws3⟩
              · obtain rfl : c = i := by omega
                have HDONE := Lib.hid HF.out.done
                clear HF
                go_wp2_with fail
                obtain ⟨gm, capm, rfl, _, _, hm3, hm4⟩ := tw_some HT.out.o5 hn1
                obtain ⟨wx, hwx⟩ : ∃ wx, wr = wx := ⟨_, rfl⟩
                rw [hwx] at HG HT HBW hsz4
                try rw [hwx]
                clear hwx
                go_loopw [20] (fun v20 wr => ∃ (i : Nat), v20 = .int .i64 i ∧ i ≤ c ∧ Below wx.heap.size wx wr) (fun v20 _ => c - (intOf v20).toNat)
                case atStart => exact ⟨0, rfl, Nat.zero_le _, Below.refl _ _⟩
                case round =>
                  obtain ⟨i, rfl, hi2, hbw⟩ := hrel
                  have hG := Twins.later HG.out hbw
                  have hT := Three.later HT.out hbw
                  have HBX := Lib.hid hbw
                  by_cases hlt : i < c
                  · obtain ⟨m, hm⟩ : ∃ m, mkV i = m := ⟨_, rfl⟩
                    have hms := mkV_size i (by omega)
                    have HM := Lib.hid (fun W => hm ▸ marked_any i (by omega) W)
                    rw [hm] at hms
                    have hadd : ¬ 9223372036854775807 < 5 + m.size := by omega
                    have hkv : keptS i = ⟨#[107, 101, 112, 116, 32]⟩ ++ m := by rw [keptS, hm]
                    have hmv : moreS i = ⟨#[109, 111, 114, 101, 32]⟩ ++ m := by rw [moreS, hm]
                    obtain ⟨l, hl⟩ : ∃ l, ka i = l := ⟨_, rfl⟩
                    have hll := HFEW.out i hlt
                    have hca := Twins.a hG i hlt
                    have hcm := Twins.m hG i hlt
                    simp only [cntS_lo hlt, hl] at hca hcm
                    obtain ⟨aa, cap2, hA, hA1, hA2⟩ := tw_slice hca
                    obtain ⟨gx, capx, hM, _, _, hM1, hM2⟩ := tw_some hcm (by omega)
                    have kA : wr.cell? ⟨K, i, none⟩ = some (.slice aa l cap2) := by rw [hT.a.cellAt i (by omega), rowOf_get _ _ _ hlt, hA]
                    have kM : wr.cell? ⟨gm, i, none⟩ = some (.slice (some ⟨gx, 0, none⟩) (l + 71) capx) := by rw [hT.o5.cellAt i (by omega), rowOf_get _ _ _ hlt, hM]
                    have HCA := Lib.hid (show ∀ q, q < l → ∃ gy, aa = some ⟨gy, 0, none⟩ ∧ wr.cell? ⟨gy, q, none⟩ = some (.string (⟨#[107, 101, 112, 116, 32]⟩ ++ m)) ∧ wr.cell? ⟨gx, q, none⟩ = some (.string (⟨#[107, 101, 112, 116, 32]⟩ ++ m)) from by
                      intro q hq
                      have hx := HDONE.out i hlt hlt q (by omega)
                      rw [hkv] at hx
                      have hca2 := hca
                      have hcm2 := hcm
                      rw [hA] at hca2
                      rw [hM] at hcm2
                      obtain ⟨gy, capy, hY, _, _, _, _⟩ := tw_some hca2 (by omega)
                      injection hY with hY3 _ hY4
                      subst hY3 hY4
                      refine ⟨gy, rfl, by rw [hca2.cellAt q (by omega)]; exact hx, ?_⟩
                      rw [hcm2.cellAt q (by omega), List.getElem?_append_left (by rw [hca2.1]; omega)]
                      exact hx)
                    have HCM := Lib.hid (show ∀ q, l ≤ q → q < l + 71 → wr.cell? ⟨gx, q, none⟩ = some (.string (⟨#[109, 111, 114, 101, 32]⟩ ++ m)) from by
                      intro q hq hq2
                      have hcm2 := hcm
                      rw [hM] at hcm2
                      rw [hcm2.cellAt q (by omega), List.getElem?_append_right (by rw [hca.1]; omega), hca.1, List.getElem?_replicate, if_pos (by omega), hmv])
                    have HBX := Lib.hid hbw
                    clear hbw hG hT hm hl hca hcm hA hM hkv hmv
                    obtain ⟨L, hL⟩ : ∃ L, l + 71 = L := ⟨_, rfl⟩
                    rw [hL] at kM HCM hM1
                    have hLl : l ≤ L := by omega
                    clear hL
                    obtain ⟨wy, hwy⟩ : ∃ wy, wr = wy := ⟨_, rfl⟩
                    rw [hwy] at kA kM HCA HCM HBX
                    try rw [hwy]
                    clear hwy
                    go_wp2_with fail
                    go_loopw [22] (fun v22 wr => ∃ (q : Nat), v22 = .int .i64 q ∧ q ≤ L ∧ Below wy.heap.size wy wr) (fun v22 _ => L - (intOf v22).toNat)
                    case atStart => exact ⟨0, rfl, Nat.zero_le _, Below.refl _ _⟩
                    case round =>
                      obtain ⟨q, rfl, hq, hbw⟩ := hrel
                      have kA2 := cellB kA hbw
                      have kM2 := cellB kM hbw
                      have HBQ := Lib.hid hbw
                      by_cases hlt2 : q < L
                      · by_cases hlt3 : q < l
                        · obtain ⟨gy, rfl, cA, cM⟩ := HCA.out q hlt3
                          have cA2 := cellB cA hbw
                          have cM2 := cellB cM hbw
                          clear hbw cA cM kA kM
                          have hq1 : decide (q < l) = true := by simp; omega
                          have hq2 : ¬ l ≤ q := by omega
                          have hq3 : decide (l ≤ q) = false := by simp; omega
                          go_wp2_with fail
                          go_region_held3 (fun w' => w'.cell? ⟨K, i, none⟩ = some (.slice (some ⟨gy, 0, none⟩) l cap2) ∧ w'.cell? ⟨gy, q, none⟩ = some (.string (⟨#[107, 101, 112, 116, 32]⟩ ++ m)) ∧ w'.cell? ⟨gm, i, none⟩ = some (.slice (some ⟨gx, 0, none⟩) L capx) ∧ w'.cell? ⟨gx, q, none⟩ = some (.string (⟨#[107, 101, 112, 116, 32]⟩ ++ m)))
                            (first | exact ⟨kA2, cA2, kM2, cM2⟩ | exact limbs5 (x := wr.drew) ⟨kA2, cA2, kM2, cM2⟩ hb2 | assumption)
                            (first | (go_at_call 16; refine (HM.out _).mono ?_; rintro e w2 ⟨rfl, hb2⟩))
                          have HBN := Lib.hid (HBQ.out.trans ((call_only hb2).mono HBQ.out.size))
                          clear hb2
                          go_wp2_with fail
                          go_quiet (fail)
                          go_wp2_with fail
                          go_roundw
                          case measure => simp [intOf] <;> omega
                          case rel => first | exact ⟨q + 1, by simp, by omega, HBN.out⟩ | exact ⟨q + 1, by simp, by omega, HBN.out.drew⟩ | exact ⟨q + 1, by simp, by omega, HBN.out.trans (drawn_below _ _)⟩
                        · have cM := HCM.out q (by omega) (by omega)
                          have cM2 := cellB cM hbw
                          clear hbw cM kA kM
                          have hq1 : decide (q < l) = false := by simp; omega
                          have hq2 : l ≤ q := by omega
                          have hq3 : decide (l ≤ q) = true := by simp; omega
                          go_wp2_with fail
                          go_quiet (fail)
                          go_wp2_with fail
                          go_region_held3 (fun w' => w'.cell? ⟨gm, i, none⟩ = some (.slice (some ⟨gx, 0, none⟩) L capx) ∧ w'.cell? ⟨gx, q, none⟩ = some (.string (⟨#[109, 111, 114, 101, 32]⟩ ++ m)))
                            (first | exact ⟨kM2, cM2⟩ | exact limbs2b hb2 ⟨kM2, cM2⟩ | assumption)
                            (first | (go_at_call 16; refine (HM.out _).mono ?_; rintro e w2 ⟨rfl, hb2⟩))
                          have HBN := Lib.hid (show Below wy.heap.size wy w2 from HBQ.out.trans ((call_drawn hb2).mono HBQ.out.size))
                          clear hb2
                          go_wp2_with fail
                          go_roundw
                          case measure => simp [intOf] <;> omega
                          case rel => first | exact ⟨q + 1, by simp, by omega, HBN.out⟩ | exact ⟨q + 1, by simp, by omega, HBN.out.drew⟩ | exact ⟨q + 1, by simp, by omega, HBN.out.trans (drawn_below _ _)⟩
                      · obtain rfl : q = L := by omega
                        clear hbw
                        go_wp2_with fail
                        go_roundw
                        case measure => simp [intOf] <;> omega
                        case rel => exact ⟨i + 1, by simp, by omega, HBX.out.trans (HBQ.out.mono HBX.out.size)⟩
                  · obtain rfl : i = c := by omega
                    go_wp2_with fail
                    go_ret
                    exact ⟨rfl, HBW.out.trans (HBX.out.mono HBW.out.size)⟩
end Go.Proofs.Ytiocgdegaabnmaa
