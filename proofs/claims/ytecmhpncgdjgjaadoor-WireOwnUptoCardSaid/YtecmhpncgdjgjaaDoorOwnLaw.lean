/-
  The statement WireOwn of package sigillaw2, walked. Conditions: the rows of characters lie as they are laid; no more than 1048576 numbers and texts.
-/
import Derived.Test.YtecmhpncgdjgjaaDoorGrownR
import Derived.Test.YtecmhpncgdjgjaaDoorWritten
import Derived.Test.YtecmhpncgdjgjaaDoorLaid
import Derived.Test.YtecmhpncgdjgjaaDoorTextsC
import Derived.Test.YtecmhpncgdjgjaaDoorRoundD
namespace Go.Proofs.YtecmhpncgdjgjaaDoor
open Go.RowKit
set_option linter.unusedVariables false
set_option linter.unusedSimpArgs false

/-- A row of texts among the arguments. -/
def IsTexts (w : World) (a : Option Addr) (len cap : Nat) (ss : List ByteArray) : Prop :=
  (a = none ∧ len = 0 ∧ cap = 0) ∨ ∃ x, a = some x ∧ len ≤ cap ∧ cap ≤ maxLen ∧ ss.length = cap ∧ (∀ i, i < ss.length → w.cell? (x.add i) = some (.string (ss.getD i ByteArray.empty))) ∧ ∀ s ∈ ss, s.size ≤ 140737488355328
theorem IsTexts.cap {w : World} {a : Option Addr} {len cap : Nat} {ss : List ByteArray} (h : IsTexts w a len cap ss) : len ≤ cap ∧ cap ≤ 9223372036854775807 := by
  rcases h with ⟨_, rfl, rfl⟩ | ⟨x, _, h1, h2, _⟩
  · exact ⟨Nat.le_refl _, by omega⟩
  · exact ⟨h1, by unfold maxLen at h2; omega⟩
theorem IsTexts.str {w : World} {a : Option Addr} {len cap : Nat} {ss : List ByteArray} (h : IsTexts w a len cap ss) (i : Nat) (hi : i < len) : ∃ g off s, a = some ⟨g, off, none⟩ ∧ w.cell? ⟨g, off + i, none⟩ = some (.string s) ∧ s.size ≤ 140737488355328 := by
  rcases h with ⟨_, rfl, _⟩ | ⟨x, rfl, h1, h2, h3, h4, h5⟩
  · omega
  · have hc := h4 i (by omega)
    obtain ⟨b, off, spot⟩ := x
    have hspot : spot = none := by simpa [Addr.add] using World.cell?_spot (h4 0 (by omega))
    subst hspot
    have e1 : (⟨b, off, none⟩ : Addr).add i = ⟨b, off + i, none⟩ := by unfold Addr.add; split <;> simp_all
    rw [e1] at hc
    refine ⟨b, off, _, rfl, hc, ?_⟩
    refine h5 _ ?_
    rw [List.getD_eq_getElem?_getD, List.getElem?_eq_getElem (by omega)]
    exact List.getElem_mem (by omega)

theorem own_lit (w : World) (n v : Int) (hn : Is64 n) (hv : Is64 v) (cs : Array Value) (h : cs = #[.int .i64 n, .int .i64 0, .int .i64 v, .string ⟨#[]⟩, .slice none 0 0]) :
    Reads (w.alloc (.cells cs 53)) (.slice (some ⟨w.heap.size, 0, none⟩) 1 1) [.mk n 0 v [] []] := by
  subst h
  refine lit_recs w [.mk n 0 v [] []] _ (fun _ => .slice none 0 0) (by simp) (fun k hk => ?_) (fun k hk => ?_)
  · have h : k = 0 := by simp at hk; omega
    subst h
    exact ⟨rfl, rfl, rfl, rfl, rfl, ⟨hn, by simp [Is64, Rec.kind], hv, by simp [Rec.text]⟩⟩
  · have h : k = 0 := by simp at hk; omega
    subst h
    exact .none _ _ (by omega)

/-- Answers, each a list of the call's own. -/
structure Kept (w : World) (B n : Nat) (A : Nat → Value) (cs : Nat → List UInt8) : Prop where
  herd : HerdB w B n A cs
  few : ∀ i, i < n → (cs i).length ≤ 2000000
theorem Kept.zero (w : World) (B : Nat) (A : Nat → Value) (cs : Nat → List UInt8) : Kept w B 0 A cs := ⟨Herd.zero _ _ _ _ _ _ _, fun i hi => by omega⟩
theorem Kept.later {w w' : World} {B n : Nat} {A : Nat → Value} {cs : Nat → List UInt8} (h : Kept w B n A cs) (hb : Below w.heap.size w w') : Kept w' B n A cs := ⟨Twins.later h.herd hb, h.few⟩
theorem Kept.add {w w' : World} {B n : Nat} {A : Nat → Value} {cs : Nat → List UInt8} {v : Value} {l : List UInt8} (h : Kept w B n A cs) (ho : OwnB w' w.heap.size v l) (hb : Below w.heap.size w w') (hB : B ≤ w.heap.size) (hl : l.length ≤ 2000000) :
    Kept w' B (n + 1) (upd A n v) (upd cs n l) := by
  have hbl : ∀ b, v.ownBlock = some b → w.heap.size ≤ b := fun b hb => (World.ownsRow.lt ho b hb).1
  refine ⟨Herd.fresh (w := w) (N := n) (Herd.congr h.herd (fun i hi => upd_ne _ _ _ (by omega)) (fun i hi => by simp only [upd_ne cs n l (show i ≠ n by omega)]) (fun i hi => by simp only [upd_ne cs n l (show i ≠ n by omega)])) hb ?_ ?_, fun i hi => ?_⟩
  · simp only [upd_at]
    exact tw_drop ho fun b hb => Nat.le_trans hB (hbl b hb)
  · rw [upd_at]; exact hbl
  · by_cases hin : i = n
    · subst hin; rw [upd_at]; exact hl
    · rw [upd_ne _ _ _ hin]; exact h.few i (by omega)
theorem rowOf_upd (n : Nat) (A : Nat → Value) (v : Value) : rowOf (n + 1) (upd A n v) = rowOf n A ++ [v] := by
  rw [rowOf_succ, upd_at, rowOf_congr n (upd A n v) A (fun i hi => upd_ne _ _ _ (by omega))]

def varB (v : Int) : List UInt8 := vb (u64 v)
theorem varB_any (x : Int) (w : World) : Calls Tryd.prog 16 #[.int .i64 x] w (News w (varB x)) := wVarint_any x w
theorem varB_few (v : Int) : (varB v).length ≤ 2000000 := by
  have h := (vb_len10 v).2
  unfold varB
  omega
theorem fixed_few (v : Int) : (fixedOf v 8).1.length ≤ 2000000 := by
  unfold fixedOf; split
  · simp
  · simp only [fx_len]; omega
theorem tag_few (n k : Int) : (tagOf n k).1.length ≤ 2000000 := by
  unfold tagOf; split
  · simp
  · split
    · simp
    · have h := (vb_len10 (n * 8 + k)).2
      show (vb (u64 (n * 8 + k))).length ≤ _
      omega
theorem join_few (l : List Rec) : (joinOf l).1.length ≤ 2000000 := by
  unfold joinOf
  split
  · simp
  · split
    · simp
    · split
      · simp
      · split
        · show (encL l).length ≤ _; omega
        · simp
theorem text_few (s : ByteArray) : (textOf s).1.length ≤ 2000000 := by
  unfold textOf; split
  · simp
  · rename_i h
    have h1 := (vb_len10 (s.size : Int)).2
    simp only [List.length_append]
    rw [str_len]
    omega
theorem split_few (st : Bool) (b : List UInt8) : countL (splitOf st b).1 ≤ 1048576 := by
  by_cases h : (splitOf st b).2.1 = 0
  · obtain ⟨_, h1, _, _, h2, h3, _⟩ := splitOf_back st b h
    have := count_le _ h1
    omega
  · rw [splitOf_nil st b h]; simp [countL]
theorem lens_few2_aux (N : Nat) : ∀ (l : List Rec), SizeOf.sizeOf l ≤ N → l.length ≤ countL l ∧ ∀ M, countL l ≤ M → lensS M l := by
  induction N with
  | zero => intro l h; cases l <;> simp at h
  | succ N ih =>
    intro l h
    cases l with
    | nil => exact ⟨Nat.le_refl _, fun _ _ => trivial⟩
    | cons r rs =>
      obtain ⟨n, k, x, t, i⟩ := r
      simp only [List.cons.sizeOf_spec, Rec.mk.sizeOf_spec] at h
      have h1 := ih rs (by omega)
      have h2 := ih i (by omega)
      rw [countL, countR, List.length_cons]
      refine ⟨by omega, fun M hM => ⟨⟨by omega, h2.2 M (by omega)⟩, h1.2 M (by omega)⟩⟩
theorem lens_few2 {l : List Rec} {M : Nat} (h : countL l ≤ M) : lensL M l := by
  have h1 := lens_few2_aux _ l (Nat.le_refl _)
  exact ⟨by omega, h1.2 M h⟩

set_option maxHeartbeats 16000000 in
set_option maxRecDepth 100000 in
theorem own_walk (a : Option Addr) (len cap : Nat) (zs : List Int) (a1 : Option Addr) (len1 cap1 : Nat) (ss : List ByteArray) (b : List UInt8) (bv : Value) (w : World) (hl0 : len ≤ 1048576) (hl1 : len1 ≤ 1048576) (hbl : b.length ≤ 1048576)
    (h0 : IsRow .i64 w a len cap zs) (h1 : IsTexts w a1 len1 cap1 ss) (hb : BytesAt (fun _ => True) w bv b) (hr : RowsAt w) :
    Calls Tryd.prog 12 #[.slice a len cap, .slice a1 len1 cap1, bv] w fun e w' => e = .returned (.bool true) ∧ Below w.heap.size w w' := by
  have HI := Lib.hid h0
  have HS := Lib.hid h1
  have HBV := Lib.hid hb
  have HR := Lib.hid hr
  obtain ⟨hc1, hc2⟩ := h0.cap
  obtain ⟨hc3, hc4⟩ := h1.cap
  obtain ⟨is, his, hsz0, hsz1, hsz2⟩ := info_parts infoSl
  clear h0 h1 hb hr
  go_enter Tryd.func12, Tryd.ntmps12
  go_wp2_with fail
  refine (known_any w HR.out).mono ?_
  rintro e w1 ⟨rfl, hb1⟩
  have HB1 := Lib.hid hb1
  clear hb1
  go_wp2_with fail
  go_loopw [7, 8] (fun v7 v8 wr => ∃ (k : Nat) (A : Nat → Value) (cs : Nat → List UInt8), v8 = .int .i64 k ∧ k ≤ len ∧ wr.ownsRow w.heap.size 24 1 v7 (4 * k) (rowOf (4 * k) A) ∧ Kept wr w.heap.size (4 * k) A cs ∧ Below w.heap.size w wr) (fun _ v8 _ => len - (intOf v8).toNat)
  case atStart => exact ⟨0, fun _ => .slice none 0 0, fun _ => [], rfl, Nat.zero_le _, World.ownsRow_nil _ _ _ _, Kept.zero _ _ _ _, HB1.out⟩
  case round =>
    obtain ⟨k, A, cs, rfl, hk, hown, hkept, hbw⟩ := hrel
    have hsz := hbw.size
    have HO := Lib.hid hown
    have HK := Lib.hid hkept
    have HB := Lib.hid hbw
    clear hown hkept hbw
    by_cases hlt : k < len
    · obtain ⟨g, off, rfl, hc, h64⟩ := HI.out.int k hlt
      have kc := (HB.out.cell (p := ⟨g, off + k, none⟩) (cell_lt hc)).trans hc
      obtain ⟨v, hv⟩ : ∃ v, zs.getD k 0 = v := ⟨_, rfl⟩
      rw [hv] at kc h64
      have H64 := Lib.hid h64
      clear hc hv h64
      go_wp2_with fail
      obtain ⟨x2, hx2⟩ : ∃ x, varB v = x := ⟨_, rfl⟩
      have hv2 := varB_any v wr
      rw [hx2] at hv2
      refine hv2.mono ?_
      rintro e w2 ⟨va, rfl, ho2, hb2⟩
      obtain ⟨aa, caa, rfl, _, _⟩ := tw_slice ho2
      have kc := (hb2.cell (p := ⟨g, off + k, none⟩) (cell_lt kc)).trans kc
      have HK2 := Lib.hid (HK.out.add ho2 hb2 hsz (by rw [← hx2]; exact varB_few v))
      have HO2 := Lib.hid (ownsRow_later HO.out hb2)
      have HB2 := Lib.hid (HB.out.trans (hb2.mono hsz))
      have hs2 := HB2.out.size
      clear ho2 hb2 hv2 hx2
      obtain ⟨n2, hn2⟩ : ∃ n, x2.length = n := ⟨_, rfl⟩
      rw [hn2] at HK2 ⊢
      clear hn2
      go_wp2_with fail
      obtain ⟨x3, hx3⟩ : ∃ x, fixedOf v 8 = x := ⟨_, rfl⟩
      have hv3 := wFixed_any v 8 H64.out w2
      rw [hx3] at hv3
      refine hv3.mono ?_
      rintro e w3 ⟨va3, rfl, ho3, hb3⟩
      obtain ⟨a3, c3, rfl, _, _⟩ := tw_slice ho3
      have kc := (hb3.cell (p := ⟨g, off + k, none⟩) (cell_lt kc)).trans kc
      have HK3 := Lib.hid (HK2.out.add ho3 hb3 hs2 (by rw [← hx3]; exact fixed_few v))
      have HO3 := Lib.hid (ownsRow_later HO2.out hb3)
      have HB3 := Lib.hid (HB2.out.trans (hb3.mono hs2))
      have hs3 := HB3.out.size
      clear ho3 hb3 hv3 hx3
      obtain ⟨n3, hn3⟩ : ∃ n, x3.1.length = n := ⟨_, rfl⟩
      rw [hn3] at HK3 ⊢
      clear hn3
      go_wp2_with fail
      refine (within_any v 1 536870911 (by omega) (by omega) (by omega) w3).mono ?_
      rintro e w3' ⟨rfl, rfl⟩
      go_wp2_with fail
      obtain ⟨x4, hx4⟩ : ∃ x, tagOf (withinV v 1 536870911) 1 = x := ⟨_, rfl⟩
      have hv4 := wTag_any (withinV v 1 536870911) 1 w3
      rw [hx4] at hv4
      refine hv4.mono ?_
      rintro e w4 ⟨va4, rfl, ho4, hb4⟩
      obtain ⟨a4, c4, rfl, _, _⟩ := tw_slice ho4
      have kc := (hb4.cell (p := ⟨g, off + k, none⟩) (cell_lt kc)).trans kc
      have HK4 := Lib.hid (HK3.out.add ho4 hb4 hs3 (by rw [← hx4]; exact tag_few _ _))
      have HO4 := Lib.hid (ownsRow_later HO3.out hb4)
      have HB4 := Lib.hid (HB3.out.trans (hb4.mono hs3))
      have hs4 := HB4.out.size
      clear ho4 hb4 hv4 hx4
      obtain ⟨n4, hn4⟩ : ∃ n, x4.1.length = n := ⟨_, rfl⟩
      rw [hn4] at HK4 ⊢
      clear hn4
      go_wp2_with fail
      obtain ⟨x5, hx5⟩ : ∃ x, joinOf [.mk 1 0 v [] []] = x := ⟨_, rfl⟩
      have hv5 := wJoin_any [.mk 1 0 v [] []] _ _ (own_lit w4 1 v (by unfold Is64; omega) H64.out _ rfl)
      rw [hx5] at hv5
      refine hv5.mono ?_
      rintro e w5 ⟨va5, rfl, ho5, hb5⟩
      obtain ⟨a5, c5, rfl, _, _⟩ := tw_slice ho5
      have hbA : Below w4.heap.size w4 (w4.alloc (.cells #[.int .i64 1, .int .i64 0, .int .i64 v, .string ⟨#[]⟩, .slice none 0 0] 53)) := new_below _ _
      have hbF := hbA.trans (hb5.mono hbA.size)
      have HK5 := Lib.hid ((HK4.out.later hbA).add ho5 hb5 (Nat.le_trans hs4 hbA.size) (by rw [← hx5]; exact join_few _))
      have HO5 := Lib.hid (ownsRow_later HO4.out hbF)
      have HB5 := Lib.hid (HB4.out.trans (hbF.mono hs4))
      have hs5 := HB5.out.size
      clear ho5 hb5 hv5 hx5 hbA hbF
      obtain ⟨n5, hn5⟩ : ∃ n, x5.1.length = n := ⟨_, rfl⟩
      rw [hn5] at HK5 ⊢
      clear hn5
      go_wp2_with (at_builtin; refine wpList_append_own_at _ rfl _ _ 42 rfl w.heap.size 24 is (.slice none 0 0) 1 24 Tryd.underlying42 his hsz0 hsz1 hsz2 rfl (by decide) _ _ _ rfl (World.ownsRow.alloc HO5.out _) ⟨w5.heap.size, 0, none⟩ 4 4 [.slice aa n2 caa, .slice a3 n3 c3, .slice a4 n4 c4, .slice a5 n5 c5] rfl rfl ?c1 ?c2 ?c3 ?c4 ?c5 ?_)
      case c1 => exact news_row (by simp)
      case c2 => intro u hu; simp at hu; rcases hu with hu | hu | hu | hu <;> rw [hu] <;> rfl
      case c3 => unfold maxLen; omega
      case c4 => omega
      case c5 => simp; omega
      intro v7' w6 hown' hgrow _ hat
      have HK6 := Lib.hid (show Kept w6 w.heap.size (4 * k + 1 + 1 + 1 + 1) _ _ from ⟨Twins.unlike (Twins.later HK5.out.herd (new_below w5 (.cells #[.slice aa n2 caa, .slice a3 n3 c3, .slice a4 n4 c4, .slice a5 n5 c5] 24))) (World.ownsRow.alloc HO5.out _) (by decide) hgrow, HK5.out.few⟩)
      have HB6 := Lib.hid (show Below w.heap.size w w6 from (HB5.out.alloc hs5 _).grown hgrow (by simp; omega) (tw_base HO5.out))
      have HO6 := Lib.hid (show w6.ownsRow w.heap.size 24 1 v7' (4 * k + 1 + 1 + 1 + 1) (rowOf (4 * k + 1 + 1 + 1 + 1) (upd (upd (upd (upd A (4 * k) (.slice aa n2 caa)) (4 * k + 1) (.slice a3 n3 c3)) (4 * k + 1 + 1) (.slice a4 n4 c4)) (4 * k + 1 + 1 + 1) (.slice a5 n5 c5))) from by
        rw [rowOf_upd, rowOf_upd, rowOf_upd, rowOf_upd]
        simpa using hown')
      clear hown' hgrow hat kc
      go_wp2_with fail
      go_roundw
      case measure => simp [intOf] <;> omega
      case rel =>
        have h6 := HK6.out
        have o6 := HO6.out
        rw [show 4 * k + 1 + 1 + 1 + 1 = 4 * (k + 1) by omega] at h6 o6
        exact ⟨k + 1, _, _, by simp, by omega, o6, h6, HB6.out⟩
    · obtain rfl : k = len := by omega
      go_wp2_with fail
      go_loopw [7, 16] (fun v7 v16 wr => ∃ (i : Nat) (A : Nat → Value) (cs : Nat → List UInt8), v16 = .int .i64 i ∧ i ≤ len1 ∧ wr.ownsRow w.heap.size 24 1 v7 (4 * k + i) (rowOf (4 * k + i) A) ∧ Kept wr w.heap.size (4 * k + i) A cs ∧ Below w.heap.size w wr) (fun _ v16 _ => len1 - (intOf v16).toNat)
      case atStart => exact ⟨0, A, cs, rfl, Nat.zero_le _, HO.out, HK.out, HB.out⟩
      case round =>
        obtain ⟨i, A, cs, rfl, hi, hown, hkept, hbw⟩ := hrel
        have hsz := hbw.size
        have HO := Lib.hid hown
        have HK := Lib.hid hkept
        have HB := Lib.hid hbw
        clear hown hkept hbw
        by_cases hlt : i < len1
        · obtain ⟨g, off, s, rfl, hc, hss⟩ := HS.out.str i hlt
          have kc := (HB.out.cell (p := ⟨g, off + i, none⟩) (cell_lt hc)).trans hc
          obtain ⟨x2, hx2⟩ : ∃ x, textOf s = x := ⟨_, rfl⟩
          have hv2 := wText_any s hss wr
          rw [hx2] at hv2
          have HV2 := Lib.hid hv2
          have HX2 := Lib.hid hx2
          clear hc hss hv2 hx2
          go_wp2_with fail
          refine HV2.out.mono ?_
          rintro e w2 ⟨va, rfl, ho2, hb2⟩
          obtain ⟨aa, caa, rfl, _, _⟩ := tw_slice ho2
          have HK2 := Lib.hid (HK.out.add ho2 hb2 hsz (by rw [← HX2.out]; exact text_few s))
          have HO2 := Lib.hid (ownsRow_later HO.out hb2)
          have HB2 := Lib.hid (HB.out.trans (hb2.mono hsz))
          have hs2 := HB2.out.size
          clear ho2 hb2
          obtain ⟨n2, hn2⟩ : ∃ n, x2.1.length = n := ⟨_, rfl⟩
          rw [hn2] at HK2 ⊢
          clear hn2
          go_wp2_with (at_builtin; refine wpList_append_own_at _ rfl _ _ 42 rfl w.heap.size 24 is (.slice none 0 0) 1 24 Tryd.underlying42 his hsz0 hsz1 hsz2 rfl (by decide) _ _ _ rfl (World.ownsRow.alloc HO2.out _) ⟨w2.heap.size, 0, none⟩ 1 1 [.slice aa n2 caa] rfl rfl ?c1 ?c2 ?c3 ?c4 ?c5 ?_)
          case c1 => exact news_row (by simp)
          case c2 => intro u hu; simp at hu; rw [hu]; rfl
          case c3 => unfold maxLen; omega
          case c4 => omega
          case c5 => simp; omega
          intro v7' w6 hown' hgrow _ hat
          have HK6 := Lib.hid (show Kept w6 w.heap.size (4 * k + i + 1) _ _ from ⟨Twins.unlike (Twins.later HK2.out.herd (new_below w2 (.cells #[.slice aa n2 caa] 24))) (World.ownsRow.alloc HO2.out _) (by decide) hgrow, HK2.out.few⟩)
          have HB6 := Lib.hid (show Below w.heap.size w w6 from (HB2.out.alloc hs2 _).grown hgrow (by simp; omega) (tw_base HO2.out))
          have HO6 := Lib.hid (show w6.ownsRow w.heap.size 24 1 v7' (4 * k + i + 1) (rowOf (4 * k + i + 1) (upd A (4 * k + i) (.slice aa n2 caa))) from by
            rw [rowOf_upd]; exact hown')
          clear hown' hgrow hat kc
          go_wp2_with fail
          go_roundw
          case measure => simp [intOf] <;> omega
          case rel => exact ⟨i + 1, _, _, by simp, by omega, HO6.out, HK6.out, HB6.out⟩
        · obtain rfl : i = len1 := by omega
          go_wp2_with fail
          refine (grown_any w.heap.size (4 * k + i) A cs _ wr (by omega) (fun j hj => Nat.le_trans (HK.out.few j hj) (by omega)) hsz HO.out HK.out.herd).mono ?_
          rintro e w2 ⟨rfl, hb2⟩
          have HB2 := Lib.hid (HB.out.trans hb2)
          have hs2 := HB2.out.size
          clear hb2
          have HBVA := Lib.hid (HBV.out.later HB2.out)
          go_wp2_with fail
          refine (twin_any w2 b bv HBVA.out (by omega)).mono ?_
          rintro e w3 ⟨v3, rfl, ho3, hb3⟩
          have HB3 := Lib.hid (HB2.out.trans (hb3.mono hs2))
          have hs3 := HB3.out.size
          have HX3 := Lib.hid (ho3.reads.mono fun _ _ => trivial : BytesAt (fun _ => True) w3 v3 b)
          clear ho3 hb3
          go_wp2_with fail
          obtain ⟨R, hR⟩ : ∃ R, splitOf false b = R := ⟨_, rfl⟩
          have HSP := Lib.hid (fun (W : World) (v : Value) (h : BytesAt (fun _ => True) W v b) => hR ▸ wSplitT_any W false b v h)
          have hcl := split_few false b
          rw [hR] at hcl
          clear hR
          obtain ⟨rl, re, rp⟩ := R
          simp only at hcl
          have HLN := Lib.hid (show lensL 1048576 rl from lens_few2 hcl)
          refine (HSP.out w3 _ HX3.out).mono ?_
          rintro e w4 ⟨v4, rfl, hr4, _, hb4⟩
          simp only at hr4
          have HT4 := Lib.hid hr4.lt
          have HB4 := Lib.hid (HB3.out.trans (hb4.mono hs3))
          have hs4 := hb4.size
          clear hr4 hb4
          go_wp2_with fail
          refine (twinRecs_any _ rl (Nat.le_refl _) (lens_few2 (by omega)) v4 w4 (HT4.out.reads.mono fun _ _ => trivial)).mono ?_
          rintro e w5 ⟨v5, rfl, hr5, hb5⟩
          have HT5 := Lib.hid (HT4.out.later hb5)
          have HW5 := Lib.hid hr5.lt
          have HB5 := Lib.hid (HB4.out.trans (hb5.mono (by omega)))
          have hs5 := hb5.size
          clear hr5 hb5
          have HBV5 := Lib.hid (HBV.out.later HB5.out)
          go_wp2_with fail
          refine (twin_any w5 b bv HBV5.out (by omega)).mono ?_
          rintro e w6 ⟨v6, rfl, ho6, hb6⟩
          have HT6 := Lib.hid (HT5.out.later hb6)
          have HW6 := Lib.hid (HW5.out.held fun j _ hj => hb6.block j hj)
          have HX6 := Lib.hid (ho6.reads.mono fun _ _ => trivial : BytesAt (fun _ => True) w6 v6 b)
          have HB6 := Lib.hid (HB5.out.trans (hb6.mono (by omega)))
          have hs6 := hb6.size
          clear ho6 hb6
          go_wp2_with fail
          refine (HSP.out w6 _ HX6.out).mono ?_
          rintro e w7 ⟨v7, rfl, hr7, _, hb7⟩
          simp only at hr7
          have HN7 := Lib.hid hr7
          have HT7 := Lib.hid (HT6.out.later hb7)
          have HW7 := Lib.hid (HW6.out.held fun j _ hj => hb7.block j hj)
          have HB7 := Lib.hid (HB6.out.trans (hb7.mono (by omega)))
          have hs7 := hb7.size
          clear hr7 hb7
          have hne1 : ((rp : Int) != (rp : Int)) = false := by simp
          have hne2 : (re != re) = false := by simp
          obtain ⟨a4, c4, rfl, _, _⟩ := HT7.out.form
          obtain ⟨a7, c7, rfl, _, _⟩ := HN7.out.form
          obtain ⟨l, hl⟩ : ∃ l, rl.length = l := ⟨_, rfl⟩
          rw [hl] at HT7 HN7 ⊢
          clear HT4 HT5 HT6
          clear hl
          go_wp2_with fail
          refine (sameRecs_any _ rl (Nat.le_refl _) rl _ v5 w7 (HN7.out.reads.mono fun _ _ => trivial) (HW7.out.mono fun _ _ => trivial)).mono ?_
          rintro e w8 ⟨rfl, hb8⟩
          rw [sameL_refl]
          have HT8 := Lib.hid (HT7.out.later hb8)
          have HN8 := Lib.hid (HN7.out.later hb8)
          have HW8 := Lib.hid (HW7.out.held fun j _ hj => hb8.block j hj)
          have HB8 := Lib.hid (HB7.out.trans (hb8.mono (by omega)))
          have hs8 := hb8.size
          clear hb8 HT7 HN7 HW7
          have hcn : cntN (fun _ => rl) 2 ≤ 4000000 := by
            show 0 + (1 + countL rl) + (1 + countL rl) ≤ 4000000
            omega
          have hbA := new_below w8 (.cells #[.slice a4 l c4, .slice a7 l c7] 36)
          have hG46 := grownRecords_any w.heap.size 2 (fun i => if i = 0 then .slice a4 l c4 else .slice a7 l c7) (fun _ => rl) (fun i b => (i = 0 ∧ w3.heap.size ≤ b ∧ b < w4.heap.size) ∨ (i = 1 ∧ w6.heap.size ≤ b)) (some ⟨w8.heap.size, 0, none⟩) 2 (w8.alloc (.cells #[.slice a4 l c4, .slice a7 l c7] 36))
            (fun j hj => by
              rcases (by omega : j = 0 ∨ j = 1) with rfl | rfl
              · exact (HT8.out.later hbA).mono fun b hb => .inl ⟨rfl, hb.1, hb.2⟩
              · exact (HN8.out.later hbA).mono fun b hb => .inr ⟨rfl, hb⟩)
            (fun j j2 b hne h1 h2 => by rcases h1 with h1 | h1 <;> rcases h2 with h2 | h2 <;> omega)
            (fun j b h => by rcases h with h | h <;> omega) (by rw [World.size_alloc]; omega) (Nat.le_refl _) (by omega)
            (.inr ⟨w8.heap.size, 0, rfl, fun j hj => by
              rcases (by omega : j = 0 ∨ j = 1) with rfl | rfl
              · rw [Lib.cell_of_heap (new_at w8 _)]; rfl
              · rw [Lib.cell_of_heap (new_at w8 _)]; rfl⟩) hcn (SizeOf.sizeOf rl) (fun _ _ => Nat.le_refl _)
            (fun b => (w3.heap.size ≤ b ∧ b < w4.heap.size) ∨ w6.heap.size ≤ b) (fun j b _ h => h.elim (fun h => .inl h.2) (fun h => .inr h.2))
          have HG46 := Lib.hid hG46
          clear hG46 hcn
          have HBA := Lib.hid (HB8.out.trans (hbA.mono (by omega)))
          have HWA := Lib.hid (HW8.out.held fun j _ hj => hbA.block j hj)
          have hsA : w8.heap.size < (w8.alloc (.cells #[.slice a4 l c4, .slice a7 l c7] 36)).heap.size := by rw [World.size_alloc]; omega
          have HSA := Lib.hid hsA
          clear hbA hsA
          go_wp2_with fail
          refine HG46.out.mono ?_
          rintro e w9 ⟨rfl, hfr⟩
          have HW9 := Lib.hid (HWA.out.held fun j hj hlt => hfr.kept j hlt (by simp; omega))
          have HB9 := Lib.hid (HBA.out.trans hfr.below)
          have hs9 : w8.heap.size < w9.heap.size := Nat.lt_of_lt_of_le HSA.out hfr.size
          clear hfr
          have HBV9 := Lib.hid (HBV.out.later HB9.out)
          go_wp2_with fail
          refine (twin_any w9 b bv HBV9.out (by omega)).mono ?_
          rintro e w10 ⟨v10, rfl, ho10, hb10⟩
          have HW10 := Lib.hid (HW9.out.held fun j _ hj => hb10.block j hj)
          have HX10 := Lib.hid (ho10.reads.mono fun _ _ => trivial : BytesAt (fun _ => True) w10 v10 b)
          have HB10 := Lib.hid (HB9.out.trans (hb10.mono (by omega)))
          have hs10 := hb10.size
          clear ho10 hb10
          go_wp2_with fail
          refine (HSP.out w10 _ HX10.out).mono ?_
          rintro e w11 ⟨v11, rfl, hr11, _, hb11⟩
          simp only at hr11
          have HR11 := Lib.hid (show Reads w11 v11 rl from hr11.reads.mono fun _ _ => trivial)
          have HW11 := Lib.hid (HW10.out.held fun j _ hj => hb11.block j hj)
          have HB11 := Lib.hid (HB10.out.trans (hb11.mono (by omega)))
          have hs11 := hb11.size
          clear hr11 hb11
          have heq1 : ((rp : Int) == (rp : Int)) = true := by simp
          have heq2 : (re == re) = true := by simp
          go_wp2_with fail
          refine (sameRecs_any _ rl (Nat.le_refl _) rl v11 v5 w11 HR11.out (HW11.out.mono fun _ _ => trivial)).mono ?_
          rintro e w12 ⟨rfl, hb12⟩
          rw [sameL_refl]
          have HW12 := Lib.hid (HW11.out.held fun j _ hj => hb12.block j hj)
          have HB12 := Lib.hid (HB11.out.trans (hb12.mono (by omega)))
          have hs12 := hb12.size
          clear hb12
          have HBV12 := Lib.hid (HBV.out.later HB12.out)
          go_wp2_with fail
          refine (twinX_any w12 b bv HBV12.out (by omega)).mono ?_
          rintro e w13 ⟨gb, rfl, ho13, hb13⟩
          have HW13 := Lib.hid (HW12.out.held fun j _ hj => hb13.block j hj)
          have HB13 := Lib.hid (HB12.out.trans (hb13.mono (by omega)))
          have hs13 := hb13.size
          have hgb : gb < w13.heap.size := (World.ownsRow.lt ho13 gb rfl).2
          have HO13 := Lib.hid (show w13.ownsRow w.heap.size 5 1 (.slice (some ⟨gb, 0, none⟩) b.length b.length) b.length (Lib.byteCells b) from tw_drop ho13 (fun j hj => Nat.le_trans (by omega) (World.ownsRow.lt ho13 j hj).1))
          clear ho13 hb13
          go_wp2_with fail
          refine (lentX_any rl HLN.out v5 w13 (HW13.out.mono fun _ _ => trivial)).mono ?_
          rintro e w14 ⟨g14, A14, Z14, rfl, hg14, hh14, hz14, hm14, hall14, hb14⟩
          obtain rfl : Z14 = [] := List.eq_nil_of_length_eq_zero hz14
          rw [List.append_nil] at hh14
          have HB14 := Lib.hid (HB13.out.trans (hb14.mono (by omega)))
          have hs14 := hb14.size
          have HWR := Lib.hid (written_any w.heap.size gb g14 b rl A14 w14 (by omega) (ownsRow_later HO13.out hb14) hbl hh14 hm14 (fun x hx => ⟨(hall14 x hx).1, (hall14 x hx).2.reads.mono fun j hj => ⟨hj.2, by have := hj.1; omega⟩⟩) (by omega) HLN.out)
          clear hh14 hm14 hall14 hb14 hz14
          go_wp2_with fail
          refine HWR.out.mono ?_
          rintro e w15 ⟨rfl, hb15⟩
          have HB15 := Lib.hid (HB14.out.trans hb15)
          clear hb15
          have HR15 := Lib.hid (HR.out.later HB15.out)
          go_wp2_with fail
          refine (known_any w15 HR15.out).mono ?_
          rintro e w16 ⟨rfl, hb16⟩
          go_wp2_with fail
          go_ret
          exact ⟨rfl, HB15.out.trans (hb16.mono HB15.out.size)⟩
end Go.Proofs.YtecmhpncgdjgjaaDoor
