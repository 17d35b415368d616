/-
  lists of the statements, walked: all lists of records that lie in lists, no two in one block. Conditions: no more than 4000000 of them.
-/
import Derived.Test.YtecmhpncgdjgjaaDoorRecsT
import Derived.Test.YtecmhpncgdjgjaaDoorGrown
namespace Go.Proofs.YtecmhpncgdjgjaaDoor
open Go.RowKit
set_option linter.unusedVariables false
set_option linter.unusedSimpArgs false

/-- Rows of records, no two in one block; the blocks are among P. -/
def HerdL (w : World) (P : Nat → Prop) (us : List Value) : Prop :=
  (∀ u ∈ us, ∃ n xs, w.ownsRow 0 53 5 u n xs ∧ (∀ b, u.ownBlock = some b → P b) ∧ n ≤ 4000000) ∧ us.Pairwise (fun u v => ∀ b, u.ownBlock = some b → v.ownBlock ≠ some b)
theorem HerdL.nil (w : World) (P : Nat → Prop) : HerdL w P [] := ⟨fun u hu => by simp at hu, .nil⟩
theorem HerdL.mono {w : World} {P Q : Nat → Prop} {us : List Value} (h : HerdL w P us) (hq : ∀ b, P b → Q b) : HerdL w Q us :=
  ⟨fun u hu => by obtain ⟨n, xs, h1, h2, h3⟩ := h.1 u hu; exact ⟨n, xs, h1, fun b hb => hq b (h2 b hb), h3⟩, h.2⟩
theorem HerdL.later {w w' : World} {P : Nat → Prop} {us : List Value} (h : HerdL w P us) (hb : Below w.heap.size w w') : HerdL w' P us :=
  ⟨fun u hu => by obtain ⟨n, xs, h1, h2⟩ := h.1 u hu; exact ⟨n, xs, ownsRow_later h1 hb, h2⟩, h.2⟩
theorem HerdL.append {w : World} {P Q : Nat → Prop} {us vs : List Value} (h : HerdL w P us) (k : HerdL w Q vs) (hd : ∀ b, P b → ¬ Q b) : HerdL w (fun b => P b ∨ Q b) (us ++ vs) := by
  refine ⟨fun u hu => ?_, List.pairwise_append.2 ⟨h.2, k.2, fun u hu v hv b hb e => ?_⟩⟩
  · rcases List.mem_append.1 hu with hu | hu
    · obtain ⟨n, xs, h1, h2, h3⟩ := h.1 u hu; exact ⟨n, xs, h1, fun b hb => .inl (h2 b hb), h3⟩
    · obtain ⟨n, xs, h1, h2, h3⟩ := k.1 u hu; exact ⟨n, xs, h1, fun b hb => .inr (h2 b hb), h3⟩
  · obtain ⟨_, _, _, h2, _⟩ := h.1 u hu
    obtain ⟨_, _, _, k2, _⟩ := k.1 v hv
    exact hd b (h2 b hb) (k2 b e)

theorem ownT_node {w : World} {P : Nat → Prop} {v : Value} {l : List Rec} (h : OwnT w P v l) : (v = .slice none 0 0 ∧ l = []) ∨
    ∃ (g cap : Nat) (L : List (Rec × Value)) (Ps : Nat → Nat → Prop), v = .slice (some ⟨g, 0, none⟩) L.length cap ∧ l = L.map (·.1) ∧ P g ∧ w.ownsRow 0 53 5 v L.length (rcells L) ∧ (∀ k b, Ps k b → P b ∧ b ≠ g) ∧ (∀ j k b, j ≠ k → Ps j b → ¬ Ps k b) ∧
      ∀ k (h : k < L.length), OwnT w (Ps k) (L[k]'h).2 (L[k]'h).1.inner := by
  cases h with
  | none => exact .inl ⟨rfl, rfl⟩
  | some _ g cap L Ps hP ho hok hin hap hk => exact .inr ⟨g, cap, L, Ps, rfl, rfl, hP, ho, hin, hap, hk⟩
/-- The list itself. -/
theorem ownT_herd {w : World} {P : Nat → Prop} {v : Value} {l : List Rec} (h : OwnT w P v l) (hl : l.length ≤ 4000000) : HerdL w (fun b => P b ∧ v.ownBlock = some b) [v] := by
  refine ⟨fun u hu => ?_, List.pairwise_singleton _ _⟩
  rw [List.mem_singleton] at hu
  subst hu
  rcases ownT_node h with ⟨rfl, rfl⟩ | ⟨g, cap, L, Ps, rfl, rfl, hP, ho, _⟩
  · exact ⟨0, [], World.ownsRow_nil _ _ _ _, (fun b hb => by cases hb), by omega⟩
  · exact ⟨_, _, ho, (fun b hb => ⟨by injection hb with e; subst e; exact hP, hb⟩), by rw [List.length_map] at hl; exact hl⟩

theorem HerdL.unlike {w w' : World} {P : Nat → Prop} {us : List Value} (h : HerdL w P us) {B2 : Nat} {e2 : TypeId} {s2 : Nat} {v2 : Value} {n2 : Nat} {xs2 : List Value} (h2 : w.ownsRow B2 e2 s2 v2 n2 xs2) (he : 53 ≠ e2) (hg : w.grownBy w' v2.ownBlock) : HerdL w' P us :=
  ⟨fun u hu => by obtain ⟨n, xs, h1, h3⟩ := h.1 u hu; exact ⟨n, xs, h1.kept hg (tw_unlike h1 h2 he), h3⟩, h.2⟩
/-- The lists in a list. -/
theorem ownT_kids {w : World} {P : Nat → Prop} {v : Value} {l : List Rec} (h : OwnT w P v l) : ∃ Ps : Nat → Nat → Prop, (∀ k b, Ps k b → P b ∧ v.ownBlock ≠ some b) ∧ (∀ j k b, j ≠ k → Ps j b → ¬ Ps k b) ∧
    ∀ k (h : k < l.length), ∃ g cap u, v = .slice (some ⟨g, 0, none⟩) l.length cap ∧ w.cell? ⟨g, k * 5 + 4, none⟩ = some u ∧ OwnT w (Ps k) u (l[k]'h).inner := by
  rcases ownT_node h with ⟨rfl, rfl⟩ | ⟨g, cap, L, Ps, rfl, rfl, hP, ho, hin, hap, hk⟩
  · exact ⟨fun _ _ => False, (fun _ _ h => h.elim), (fun _ _ _ _ h => h.elim), fun k h => by simp at h⟩
  · refine ⟨Ps, fun k b hb => ⟨(hin k b hb).1, fun e => (hin k b hb).2 (by injection e with e1; exact e1.symm)⟩, hap, fun k h => ?_⟩
    have h2 : k < L.length := by simpa using h
    refine ⟨g, cap, (L[k]'h2).2, by rw [List.length_map], ?_, by rw [List.getElem_map]; exact hk k h2⟩
    rw [ho.cellAt _ (by omega), rcells_at L k h2 4 (by omega)]
    rfl

/-- So many lists. -/
def cntN (ls : Nat → List Rec) : Nat → Nat
  | 0 => 0
  | n + 1 => cntN ls n + (1 + countL (ls n))
theorem cntN_le (ls : Nat → List Rec) {i n : Nat} (h : i ≤ n) : cntN ls i ≤ cntN ls n := by
  induction n with
  | zero => obtain rfl : i = 0 := by omega
            exact Nat.le_refl _
  | succ n ih =>
    by_cases h2 : i = n + 1
    · subst h2; exact Nat.le_refl _
    · have := ih (by omega); rw [cntN]; omega
theorem countL_take (l : List Rec) (k : Nat) (hk : k < l.length) : countL (l.take (k + 1)) = countL (l.take k) + (1 + countL (l[k]'hk).inner) := by
  induction l generalizing k with
  | nil => simp at hk
  | cons r rs ih =>
    cases k with
    | zero => obtain ⟨n, kd, x, t, i⟩ := r; simp [countL, countR, Rec.inner]
    | succ k =>
      have h2 : k < rs.length := by simpa using hk
      simp only [List.take_succ_cons, countL, List.getElem_cons_succ]
      rw [ih k h2]; omega
theorem countL_take_le (l : List Rec) (k : Nat) : countL (l.take k) ≤ countL l := by
  induction l generalizing k with
  | nil => simp
  | cons r rs ih =>
    cases k with
    | zero => simp [countL]
    | succ k => simp only [List.take_succ_cons, countL]; have := ih k; omega

theorem count_ge (l : List Rec) : l.length ≤ countL l := by
  induction l with
  | nil => simp
  | cons r rs ih => obtain ⟨n, kd, x, t, i⟩ := r; rw [List.length_cons, countL, countR]; omega

/-- What lists leaves. -/
def ListsOut (w : World) (n : Nat) (ls : Nat → List Rec) (Qs : Nat → Nat → Prop) (e : Ending) (w' : World) : Prop :=
  ∃ v us, e = .returned v ∧ w'.ownsRow w.heap.size 36 1 v us.length us ∧ us.length = cntN ls n ∧ HerdL w' (fun b => ∃ i, i < n ∧ Qs i b) us ∧ Below w.heap.size w w'

theorem infoRl : (Tryd.prog.info? 36).map (fun i => (i.zero, i.size, i.bytes)) = some (some (.slice none 0 0), 1, 24) := by kernel_rfl

set_option maxHeartbeats 4000000 in
set_option maxRecDepth 100000 in
theorem lists_any (N : Nat) : ∀ (n : Nat) (V : Nat → Value) (ls : Nat → List Rec) (Qs : Nat → Nat → Prop) (a : Option Addr) (cap : Nat) (w : World), (∀ i, i < n → SizeOf.sizeOf (ls i) ≤ N) → (∀ i, i < n → OwnT w (Qs i) (V i) (ls i)) →
    (∀ i j b, i ≠ j → Qs i b → ¬ Qs j b) → n ≤ cap → cap ≤ 9223372036854775807 → (n = 0 ∨ ∃ g off, a = some ⟨g, off, none⟩ ∧ ∀ i, i < n → w.cell? ⟨g, off + i, none⟩ = some (V i)) → cntN ls n ≤ 4000000 →
    Calls Tryd.prog 75 #[.slice a n cap] w (ListsOut w n ls Qs) := by
  induction N using Nat.strongRecOn with
  | _ N ih =>
    intro n V ls Qs a cap w hN hV hQ hc1 hc2 hin hcnt
    have IH := Lib.hid ih
    have HN := Lib.hid hN
    have HV := Lib.hid hV
    have HQ := Lib.hid hQ
    have HIN := Lib.hid hin
    have HC := Lib.hid hcnt
    obtain ⟨is, his, hsz0, hsz1, hsz2⟩ := info_parts infoRl
    clear ih hN hV hQ hin hcnt
    go_enter Tryd.func75, Tryd.ntmps75
    go_wp2_with fail
    go_loopw [3, 4] (fun v3 v4 wr => ∃ (i : Nat) (us : List Value), v4 = .int .i64 i ∧ i ≤ n ∧ wr.ownsRow w.heap.size 36 1 v3 us.length us ∧ us.length = cntN ls i ∧ HerdL wr (fun b => ∃ j, j < i ∧ Qs j b) us ∧ Below w.heap.size w wr) (fun _ v4 _ => n - (intOf v4).toNat)
    case atStart => exact ⟨0, [], rfl, Nat.zero_le _, World.ownsRow_nil _ _ _ _, rfl, HerdL.nil _ _, Below.refl _ _⟩
    case round =>
      obtain ⟨i, us, rfl, hi, hown, hul, hherd, hbw⟩ := hrel
      have hsz := hbw.size
      have HOW := Lib.hid hown
      have HUL := Lib.hid hul
      have HHE := Lib.hid hherd
      have HBW := Lib.hid hbw
      clear hown hul hherd hbw
      by_cases hlt : i < n
      · obtain ⟨g, off, rfl, hin0⟩ : ∃ g off, a = some ⟨g, off, none⟩ ∧ ∀ i, i < n → w.cell? ⟨g, off + i, none⟩ = some (V i) := by
          rcases HIN.out with h | h
          · omega
          · exact h
        have hVi := HV.out i hlt
        obtain ⟨ai, capi, hvi, hvi1, hvi2⟩ := hVi.form
        obtain ⟨l, hl⟩ : ∃ l, (ls i).length = l := ⟨_, rfl⟩
        rw [hl] at hvi hvi1
        have kA0 := hin0 i hlt
        rw [hvi] at kA0
        have kA := (HBW.out.cell (cell_lt kA0)).trans kA0
        have HVF := Lib.hid hvi
        have HLL := Lib.hid hl
        have hcn1 := cntN_le ls (show i + 1 ≤ n by omega)
        have hcn2 : cntN ls (i + 1) = cntN ls i + (1 + countL (ls i)) := rfl
        have hcn3 := HC.out
        have HCN := Lib.hid (show us.length + 1 + countL (ls i) ≤ 4000000 by rw [HUL.out]; omega)
        have hul4 : us.length + 1 ≤ 4000000 := by have := HCN.out; omega
        have HIN0 := Lib.hid kA0
        clear hVi hvi hl hin0 kA0 hcn1 hcn2 hcn3
        go_wp2_with (at_builtin; refine wpList_append_own_at _ rfl _ _ 34 rfl w.heap.size 36 is (.slice none 0 0) 1 24 Tryd.underlying34 his hsz0 hsz1 hsz2 rfl (by decide) _ _ _ rfl (World.ownsRow.alloc HOW.out _) ⟨wr.heap.size, 0, none⟩ 1 1 [.slice ai l capi] rfl rfl ?c1 ?c2 ?c3 ?c4 ?c5 ?_)
        case c1 => exact news_row (by simp)
        case c2 => intro u hu; simp at hu; rw [hu]; rfl
        case c3 => unfold maxLen; omega
        case c4 => omega
        case c5 => simp; omega
        intro v1 w2 hown' hgrow _ hat
        obtain ⟨Ps, hPs1, hPs2, hPs3⟩ := ownT_kids (HV.out i hlt)
        have HPS1 := Lib.hid hPs1
        have HPS2 := Lib.hid hPs2
        have HPS3 := Lib.hid hPs3
        have hb2 : Below w.heap.size w w2 := (HBW.out.alloc hsz _).grown hgrow (by simp; omega) (tw_base HOW.out)
        have HO2 := Lib.hid (show w2.ownsRow w.heap.size 36 1 v1 (us ++ [Value.slice ai l capi]).length (us ++ [.slice ai l capi]) from by rw [List.length_append]; exact hown')
        have HH2 := Lib.hid (show HerdL w2 (fun b => (∃ j, j < i ∧ Qs j b) ∨ (Qs i b ∧ (V i).ownBlock = some b)) (us ++ [.slice ai l capi]) from by
          refine HerdL.append ((HHE.out.later (new_below wr (.cells #[.slice ai l capi] 36))).unlike (World.ownsRow.alloc HOW.out _) (by decide) hgrow) ?_ (fun b hb hb2 => ?_)
          · rw [← HVF.out]; exact (ownT_herd (HV.out i hlt) (by have := count_ge (ls i); have := HCN.out; omega)).later hb2
          · obtain ⟨j, hj, hq⟩ := hb
            exact HQ.out j i b (by omega) hq hb2.1)
        have HB2 := Lib.hid hb2
        have HUL2 := Lib.hid (show (us ++ [Value.slice ai l capi]).length = cntN ls i + 1 + countL ((ls i).take 0) by rw [List.length_append, HUL.out]; simp [countL])
        obtain ⟨wo, hwo⟩ : ∃ wo, w2 = wo := ⟨_, rfl⟩
        rw [hwo] at HO2 HH2 HB2 ⊢
        clear hown' hgrow hat hb2 hPs1 hPs2 hPs3 hwo
        go_wp2_with fail
        go_loopw [3, 5] (fun v3 v5 wr => ∃ (k : Nat) (us : List Value), v5 = .int .i64 k ∧ k ≤ l ∧ wr.ownsRow w.heap.size 36 1 v3 us.length us ∧ us.length = cntN ls i + 1 + countL ((ls i).take k) ∧ HerdL wr (fun b => ((∃ j, j < i ∧ Qs j b) ∨ (Qs i b ∧ (V i).ownBlock = some b)) ∨ ∃ m, m < k ∧ Ps m b) us ∧ Below w.heap.size w wr) (fun _ v5 _ => l - (intOf v5).toNat)
        case atStart => exact ⟨0, _, rfl, Nat.zero_le _, HO2.out, HUL2.out, HH2.out.mono (fun b hb => .inl hb), HB2.out⟩
        case round =>
          obtain ⟨k, us2, rfl, hk, hown, hul, hherd, hbw⟩ := hrel
          have hszw := hbw.size
          have kA3 : wr.cell? ⟨g, off + i, none⟩ = some (.slice ai l capi) := (hbw.cell (cell_lt HIN0.out)).trans HIN0.out
          have HOW3 := Lib.hid hown
          have HUL3 := Lib.hid hul
          have HHE3 := Lib.hid hherd
          have HBW3 := Lib.hid hbw
          clear hown hul hherd hbw
          by_cases hlt2 : k < l
          · have hkl : k < (ls i).length := by rw [HLL.out]; exact hlt2
            obtain ⟨gk, capk, u, hvk, ku0, hu0⟩ := HPS3.out k hkl
            have hvk2 := HVF.out.symm.trans hvk
            injection hvk2 with hvk3 hvk4 hvk5
            clear hvk4 hvk5
            subst hvk3
            have ku := (HBW3.out.cell (cell_lt ku0)).trans ku0
            have hu := hu0.later HBW3.out
            obtain ⟨au, capu, rfl, hu1, hu2⟩ := hu.form
            obtain ⟨ri, hri⟩ : ∃ ri, ((ls i)[k]'hkl).inner = ri := ⟨_, rfl⟩
            have HCT := Lib.hid (countL_take (ls i) k hkl)
            have HSI := Lib.hid (Nat.lt_of_lt_of_le (inner_size k hkl) (HN.out i hlt))
            rw [hri] at ku hu hu1 HCT HSI
            obtain ⟨lu, hlu⟩ : ∃ lu, ri.length = lu := ⟨_, rfl⟩
            rw [hlu] at ku hu hu1
            have hcl : 1 + countL ri ≤ 4000000 ∧ us2.length + (1 + countL ri) ≤ 4000000 := by
              have h1 := HCN.out
              have h2 := HUL3.out
              have h3 := countL_take_le (ls i) (k + 1)
              have h4 := HCT.out
              have h5 := HUL.out
              omega
            obtain ⟨hcl1, hcl2⟩ := hcl
            have HIHC := Lib.hid (IH.out _ HSI.out 1 (fun _ => .slice au lu capu) (fun _ => ri) (fun j b => j = 0 ∧ Ps k b) (some ⟨wr.heap.size, 0, none⟩) 1 (wr.alloc (.cells #[.slice au lu capu] 36)) (fun _ _ => Nat.le_refl _)
              (fun j hj => by obtain rfl : j = 0 := by omega
                              exact (hu.later (new_below wr _)).mono fun b hb => ⟨rfl, hb⟩) (fun j j2 b hne h1 h2 => hne (by rw [h1.1, h2.1])) (Nat.le_refl _) (by omega) (.inr ⟨wr.heap.size, 0, rfl, fun j hj => by
                obtain rfl : j = 0 := by omega
                rw [Lib.cell_of_heap (new_at wr _)]; rfl⟩) (by show 0 + (1 + countL ri) ≤ 4000000; omega))
            clear hri hlu hvk hu0 hu ku0
            go_wp2_with fail
            refine HIHC.out.mono ?_
            rintro e w3 ⟨v2, us3, rfl, ho3, hl3, hh3, hb3⟩
            have hl3' : us3.length = 1 + countL ri := by rw [hl3]; show 0 + (1 + countL ri) = 1 + countL ri; omega
            obtain ⟨g2, cap2, rfl, _, _, _, _⟩ := tw_some ho3 (by rw [hl3']; omega)
            have hbr : Below wr.heap.size wr w3 := (new_below wr (.cells #[.slice au lu capu] 36)).trans (hb3.mono (by simp))
            have HO3 := Lib.hid (ownsRow_later HOW3.out hbr)
            have HH3 := Lib.hid (HHE3.out.later hbr)
            have HB3 := Lib.hid (HBW3.out.trans (hbr.mono hszw))
            have hs3 := HB3.out.size
            have HOI := Lib.hid ho3
            have HHI := Lib.hid (hh3.mono (Q := Ps k) fun b ⟨j, _, h⟩ => h.2)
            have HLI := Lib.hid hl3'
            clear hbr ho3 hh3 hl3 hl3' hb3 kA3 ku
            go_wp2_with (at_builtin; refine wpList_append_own_at _ rfl _ _ 34 rfl w.heap.size 36 is (.slice none 0 0) 1 24 Tryd.underlying34 his hsz0 hsz1 hsz2 rfl (by decide) _ _ _ rfl HO3.out ⟨g2, 0, none⟩ us3.length cap2 us3 rfl (Nat.mul_one _).symm ?d1 ?d2 ?d3 ?d4 ?d5 ?_)
            case d1 => exact HOI.out.cells rfl
            case d2 => intro u hu; obtain ⟨_, _, h1, _⟩ := HHI.out.1 u hu; exact tw_one h1
            case d3 => rw [HLI.out]; unfold maxLen; omega
            case d4 => rw [HLI.out]; omega
            case d5 => exact hs3
            intro v4 w4 hown' hgrow _ hat
            have HO4 := Lib.hid (show w4.ownsRow w.heap.size 36 1 v4 (us2 ++ us3).length (us2 ++ us3) from by rw [List.length_append]; exact hown')
            have HH4 := Lib.hid (HerdL.append (HH3.out.unlike HO3.out (by decide) hgrow) (HHI.out.unlike HO3.out (by decide) hgrow) (fun b hb hb2 => by
              have h2 := HPS1.out k b hb2
              rcases hb with (⟨j, hj, hq⟩ | h) | ⟨m, hm, hq⟩
              · exact HQ.out j i b (by omega) hq h2.1
              · exact h2.2 h.2
              · exact HPS2.out m k b (by omega) hq hb2))
            have HB4 := Lib.hid (HB3.out.grown hgrow hs3 (tw_base HO3.out))
            clear hown' hgrow hat
            go_wp2_with fail
            go_roundw
            case measure => simp [intOf] <;> omega
            case rel =>
              refine ⟨k + 1, us2 ++ us3, by simp, by omega, HO4.out, ?_, HH4.out.mono ?_, HB4.out⟩
              · rw [List.length_append, HUL3.out, HLI.out, HCT.out]; omega
              · rintro b (hb | hb)
                · rcases hb with hb | ⟨m, hm, hq⟩
                  · exact .inl hb
                  · exact .inr ⟨m, by omega, hq⟩
                · exact .inr ⟨k, by omega, hb⟩
          · obtain rfl : k = l := by omega
            go_wp2_with fail
            go_roundw
            case measure => simp [intOf] <;> omega
            case rel =>
              refine ⟨i + 1, us2, by simp, by omega, HOW3.out, ?_, HHE3.out.mono ?_, HBW3.out⟩
              · rw [HUL3.out, ← HLL.out, List.take_length, cntN]; omega
              · rintro b ((⟨j, hj, hq⟩ | h) | ⟨m, hm, hq⟩)
                · exact ⟨j, by omega, hq⟩
                · exact ⟨i, by omega, h.1⟩
                · exact ⟨i, by omega, (HPS1.out m b hq).1⟩
      · obtain rfl : i = n := by omega
        go_wp2_with fail
        go_ret
        exact ⟨_, us, rfl, HOW.out, HUL.out, HHE.out, HBW.out⟩
end Go.Proofs.YtecmhpncgdjgjaaDoor
