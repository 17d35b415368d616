/-
  The Go function ShellJoins, walked: of any words and any comment it returns true, and changes nothing that was there. Conditions: none.
-/
import Derived.Test.YtiocgdegaabnmaaShellQuotesWalk
import Derived.Deep.DeepCutAuto
import Derived.Lib.SlBytesConst
namespace Go.Proofs.Ytiocgdegaabnmaa
open Go.RowKit
set_option linter.unusedVariables false

/-- The line that is made of words. -/
def lineOf (ws : List (List UInt8)) : List UInt8 := ws.flatMap fun w => 32 :: quoteOf w

theorem lineOf_nil : lineOf [] = [] := rfl
theorem lineOf_snoc (ws : List (List UInt8)) (w : List UInt8) : lineOf (ws ++ [w]) = lineOf ws ++ (32 :: quoteOf w) := by simp [lineOf, List.flatMap_append]

theorem line_run (ws : List (List UInt8)) : ∀ (i : Nat) (w0 : List (List UInt8)) (d : Int), (i = 0 ∨ i = 6) → ∃ (i' : Nat) (d' : Int), (i' = 0 ∨ i' = 6) ∧ run ⟨i, [], w0, d, false⟩ (lineOf ws) = ⟨i', [], w0 ++ ws, d', false⟩ := by
  induction ws with
  | nil => intro i w0 d hi; exact ⟨i, d, hi, by simp [lineOf_nil, run_nil]⟩
  | cons w ws ih =>
    intro i w0 d hi
    have e : lineOf (w :: ws) = 32 :: quoteOf w ++ lineOf ws := by simp [lineOf]
    have h32 : step ⟨i, [], w0, d, false⟩ 32 = ⟨0, [], w0, d, false⟩ := by
      rcases hi with rfl | rfl
      · exact step_blank0 _ _ _ _ rfl
      · exact step_blank6 _ _ _ _ rfl
    obtain ⟨d1, h1⟩ := quote_run w w0 d
    obtain ⟨i2, d2, hi2, h2⟩ := ih 6 (w0 ++ [w]) d1 (.inr rfl)
    refine ⟨i2, d2, hi2, ?_⟩
    rw [e, run_append, run_cons, h32, h1, h2]
    simp

theorem line_words (ws : List (List UInt8)) (cm : List UInt8) (hl : (lineOf ws ++ ([9, 35] ++ cm)).length ≤ 65536) : resOf (lineOf ws ++ ([9, 35] ++ cm)) = (ws, 0) := by
  obtain ⟨i, d, hi, h⟩ := line_run ws 0 [] 0 (.inl rfl)
  have hw : wordsOf (lineOf ws ++ ([9, 35] ++ cm)) = some ws := by
    unfold wordsOf st0
    rw [run_append, h]
    have h9 : step ⟨i, [], [] ++ ws, d, false⟩ 9 = ⟨0, [], [] ++ ws, d, false⟩ := by
      rcases hi with rfl | rfl
      · exact step_blank0 _ _ _ _ rfl
      · exact step_blank6 _ _ _ _ rfl
    rw [show ([9, 35] ++ cm : List UInt8) = 9 :: 35 :: cm from rfl, run_cons, h9]
    have := fin_comment (35 :: cm) ([] ++ ws) d (.inr rfl)
    rw [this]
    simp
  unfold resOf
  rw [if_neg (by omega), hw]

theorem quoteOf_len (l : List UInt8) : (quoteOf l).length ≤ 4 * l.length + 2 := by
  have := qs_len l
  simp only [quoteOf, List.length_cons, List.length_append, List.length_nil]
  omega

/-- A slice of slices of bytes that came in; ws r: the first bytes of each, at most 4000. -/
def CameR (w : World) (a : Option Addr) (len : Nat) (ws : Nat → List UInt8) : Prop :=
  len = 0 ∨ ∃ b off, a = some ⟨b, off, none⟩ ∧ ∀ r, r < len → ∃ A L C, w.cell? ⟨b, off + r, none⟩ = some (.slice A L C) ∧ (ws r).length = min L 4000 ∧ L ≤ C ∧ C ≤ 9223372036854775807 ∧ ReadsB w (.slice A (ws r).length C) (ws r)

set_option maxHeartbeats 8000000 in
set_option maxRecDepth 100000 in
theorem shellJoins_walk (a : Option Addr) (len cap : Nat) (cm : ByteArray) (ws : Nat → List UInt8) (w : World) (hR : Hid (CameR w a len ws)) (hlen : len ≤ 9223372036854775807) (hcm : cm.size ≤ 9223372036854775807) :
    Calls Try.prog 11 #[.slice a len cap, .string cm] w fun e w' => e = .returned (.bool true) ∧ Below w.heap.size w w' := by
  obtain ⟨i0, hi, hz0, hz1, hz2⟩ := info_parts infoB
  go_enter Try.func11, Try.ntmps11
  go_wp2_with fail
  go_loopw [5, 6, 7] (fun v5 v6 v7 wr => ∃ (k : Nat) (ln : ByteArray), v5 = .string ln ∧ v6 = .int .i64 k ∧ v7 = .int .i64 k ∧ k ≤ len ∧ ln.size ≤ 36100 ∧ Below w.heap.size w wr ∧ ln.data.toList = lineOf ((List.range k).map ws)) (fun _ _ v7 _ => len - (intOf v7).toNat)
  case atStart => exact ⟨0, ⟨#[]⟩, rfl, rfl, rfl, Nat.zero_le _, by decide, Below.refl _ _, rfl⟩
  case round =>
    obtain ⟨k, ln, rfl, rfl, rfl, hk, hsz, hbw, hln⟩ := hrel
    have HLN := Lib.hid hln
    have hz := hbw.size
    clear hln
    by_cases hgo : k < len ∧ ln.size < 20000
    · obtain ⟨hk1, hk2⟩ := hgo
      obtain ⟨b, off, rfl, A, L, C, hcell, hwl, hLC, hC, hrd⟩ : ∃ b off, a = some ⟨b, off, none⟩ ∧ ∃ A L C, wr.cell? ⟨b, off + k, none⟩ = some (.slice A L C) ∧ (ws k).length = min L 4000 ∧ L ≤ C ∧ C ≤ 9223372036854775807 ∧ ReadsB wr (.slice A (ws k).length C) (ws k) := by
        rcases hR.out with h0 | ⟨b, off, h1, h2⟩
        · omega
        · obtain ⟨A, L, C, g1, g2, g3, g4, g5⟩ := h2 k hk1
          exact ⟨b, off, h1, A, L, C, (hbw.cell (p := ⟨b, off + k, none⟩) (cell_lt g1)).trans g1, g2, g3, g4, reads_later g5 hbw⟩
      obtain ⟨q, hq⟩ : ∃ q : ByteArray, (⟨(quoteOf (ws k)).toArray⟩ : ByteArray) = q := ⟨_, rfl⟩
      have hql : q.data.toList = quoteOf (ws k) := by rw [← hq]
      have hqs : q.size ≤ 16002 := by
        have h1 : q.data.toList.length = q.size := by simp
        have h2 := quoteOf_len (ws k)
        rw [hql] at h1
        omega
      have hcall := quote_any (.slice A (ws k).length C) (ws k) wr hrd (by omega)
      rw [hq] at hcall
      have HQL := Lib.hid hql
      clear hq hql hrd
      by_cases h4 : 4000 < L
      · have hw4 : (ws k).length = 4000 := by omega
        rw [hw4] at hcall
        have HCALL := Lib.hid hcall
        clear hcall hw4 hwl
        go_wp2_with fail
        refine HCALL.out.mono ?_
        rintro e w1 ⟨rfl, hb1⟩
        go_wp2
        go_roundw
        case rel =>
          refine ⟨k + 1, _, rfl, by go_num, by go_num, by omega, ?_, hbw.trans (hb1.mono hz), ?_⟩
          · simp only [ByteArray.size_append]
            show ln.size + 1 + q.size ≤ 36100
            omega
          · rw [List.range_succ, List.map_append, List.map_singleton, lineOf_snoc, ← HLN.out, ← HQL.out]
            simp
        case measure => simp [intOf]; omega
      · have hw4 : (ws k).length = L := by omega
        rw [hw4] at hcall
        have HCALL := Lib.hid hcall
        have h4' : L ≤ 4000 := by omega
        clear hcall hw4 hwl h4
        go_wp2_with fail
        refine HCALL.out.mono ?_
        rintro e w1 ⟨rfl, hb1⟩
        go_wp2
        go_roundw
        case rel =>
          refine ⟨k + 1, _, rfl, by go_num, by go_num, by omega, ?_, hbw.trans (hb1.mono hz), ?_⟩
          · simp only [ByteArray.size_append]
            show ln.size + 1 + q.size ≤ 36100
            omega
          · rw [List.range_succ, List.map_append, List.map_singleton, lineOf_snoc, ← HLN.out, ← HQL.out]
            simp
        case measure => simp [intOf]; omega
    · have hfin : ∀ (cc : ByteArray), cc.size ≤ 1000 → resOf (ln ++ ⟨#[9, 35]⟩ ++ cc).data.toList = ((List.range k).map ws, 0) := by
        intro cc hcc
        have e : (ln ++ ⟨#[9, 35]⟩ ++ cc).data.toList = lineOf ((List.range k).map ws) ++ ([9, 35] ++ cc.data.toList) := by rw [← HLN.out]; simp
        rw [e]
        refine line_words _ _ ?_
        rw [← HLN.out]
        simp
        omega
      have HFIN := Lib.hid hfin
      clear hfin
      obtain ⟨wo, rfl⟩ : ∃ wo : World, wo = wr := ⟨_, rfl⟩
      have hgo' : ¬ k < len ∨ (k < len ∧ 20000 ≤ ln.size) := by
        by_cases h : k < len
        · exact .inr ⟨h, by have : ¬ ln.size < 20000 := fun h2 => hgo ⟨h, h2⟩; omega⟩
        · exact .inl h
      clear hgo
      rcases hgo' with hgo | ⟨hgo, hgo2⟩
      all_goals
        go_upto_if 42 with fail
        go_cut [1] (fun v1 wx => ∃ cc : ByteArray, v1 = .string cc ∧ cc.size ≤ 1000 ∧ wx = wo)
        case first =>
          by_cases hc : 1000 < cm.size
          · go_wp2_with fail
            go_meet
            exact ⟨_, rfl, by rw [ByteArray.size_extract]; omega, rfl⟩
          · go_wp2_with fail
            go_meet
            exact ⟨_, rfl, by omega, rfl⟩
        obtain ⟨cc, rfl, hcc, hwc⟩ := hcut
        obtain rfl : wo = wc := hwc.symm
        have hres := HFIN.out cc hcc
        have HRES := Lib.hid hres
        clear hres hwc
        go_wp2_with fail
        refine (words_any _ wo).mono ?_
        rw [HRES.out]
        rintro e w5 ⟨⟨v, rfl, ho⟩, hb5⟩
        obtain ⟨va, vc, rfl, hkm⟩ := row_form ho
        have hkl : ((List.range k).map ws).length = k := by simp
        have HO := Lib.hid ho
        have hbX : Below w.heap.size w w5 := hbw.trans (hb5.mono hz)
        clear ho hb5
        rw [hkl] at hkm ⊢
        clear hkl
        go_wp2_with fail
        go_loopw [11] (fun v11 wx => ∃ j : Nat, v11 = .int .i64 j ∧ j ≤ k ∧ ∃ q, wx = w5.drewN q) (fun v11 _ => k - (intOf v11).toNat)
        case atStart => exact ⟨0, rfl, Nat.zero_le _, 0, rfl⟩
        case round =>
          obtain ⟨j, rfl, hj, q, hq⟩ := hrel
          have hbY : Below w.heap.size w wr := by rw [hq]; exact below_drawn hbX q
          have hsame : ∀ x, wr.cell? x = w5.cell? x := by rw [hq]; exact fun _ => rfl
          have HS := Lib.hid hsame
          have HQ := Lib.hid hq
          clear hsame hq
          by_cases hlt : j < k
          · obtain ⟨b, off, rfl, A, L, C, hcell, hwl, hLC, hC, hrd⟩ : ∃ b off, a = some ⟨b, off, none⟩ ∧ ∃ A L C, wr.cell? ⟨b, off + j, none⟩ = some (.slice A L C) ∧ (ws j).length = min L 4000 ∧ L ≤ C ∧ C ≤ 9223372036854775807 ∧ ReadsB wr (.slice A (ws j).length C) (ws j) := by
              rcases hR.out with h0 | ⟨b, off, h1, h2⟩
              · omega
              · obtain ⟨A, L, C, g1, g2, g3, g4, g5⟩ := h2 j (by omega)
                exact ⟨b, off, h1, A, L, C, (hbY.cell (p := ⟨b, off + j, none⟩) (cell_lt g1)).trans g1, g2, g3, g4, reads_later g5 hbY⟩
            obtain ⟨g, gc, hv, hm, _⟩ := row_cell HO.out j (by simpa using hlt)
            obtain rfl : va = some ⟨g, 0, none⟩ := by cases hv; rfl
            obtain ⟨t, ht⟩ : ∃ t : ByteArray, (⟨(ws j).toArray⟩ : ByteArray) = t := ⟨_, rfl⟩
            have hm' : wr.cell? ⟨g, j, none⟩ = some (.string t) := by
              rw [HS.out, hm, ← ht]
              simp
            have hconv : ∀ q, (convert 35 9 (.slice A (ws j).length C)).run Try.prog (wr.drewN q) = .ok (.string t) (wr.drewN q) := fun q => by rw [← ht]; exact conv_reads hrd _ fun _ => rfl
            clear hv hm ht hrd
            by_cases h4 : 4000 < L
            · have hw4 : (ws j).length = 4000 := by omega
              rw [hw4] at hconv
              clear hw4 hwl
              go_wp2
              go_quiet (fail)
              go_wp2
              go_roundw
              case rel => exact ⟨j + 1, by go_num, by omega, by rw [HQ.out]; exact ⟨q + nq, drewN_two w5 q nq⟩⟩
              case measure => simp [intOf]; omega
            · have hw4 : (ws j).length = L := by omega
              rw [hw4] at hconv
              have h4' : L ≤ 4000 := by omega
              clear hw4 hwl h4
              go_wp2
              go_quiet (fail)
              go_wp2
              go_roundw
              case rel => exact ⟨j + 1, by go_num, by omega, by rw [HQ.out]; exact ⟨q + nq, drewN_two w5 q nq⟩⟩
              case measure => simp [intOf]; omega
          · have hz2 := hbY.size
            have hnew : ReadsB (wr.alloc (.cells #[.int .u8 120] 5 (1, 2))) (.slice (some ⟨wr.heap.size, 0, none⟩) 1 1) [120] := by
              refine ⟨_, _, rfl, Nat.le_refl _, by omega, .inr ⟨wr.heap.size, 0, rfl, fun k hk => ?_⟩⟩
              obtain rfl : k = 0 := by simp at hk; omega
              have e1 : (wr.alloc (.cells #[.int .u8 120] 5 (1, 2))).heap[wr.heap.size]? = some (.cells #[.int .u8 120] 5 (1, 2)) := by
                show (wr.heap.push _)[wr.heap.size]? = _
                exact Array.getElem?_push_size
              rw [Nat.zero_add, Lib.cell_of_heap e1]
              rfl
            have hcid := Lib.run_convert_bytes_const (P := Try.prog) wr 35 5 #[.int .u8 120] 1 1 Try.underlying35 Try.underlying5
            have hcid : (convert 35 35 (.slice (some ⟨wr.heap.size, 0, none⟩) 1 1)).run Try.prog (wr.alloc (.cells #[.int .u8 120] 5)) = .ok (.slice (some ⟨wr.heap.size, 0, none⟩) 1 1) (wr.alloc (.cells #[.int .u8 120] 5 (1, 2))) := hcid
            have hcall := quote_any _ [120] _ hnew (by decide)
            have hq : (⟨(quoteOf [120]).toArray⟩ : ByteArray) = ⟨#[34, 120, 34]⟩ := by decide +kernel
            rw [hq] at hcall
            have HCALL := Lib.hid hcall
            have hbZ : Below w.heap.size w (wr.alloc (.cells #[.int .u8 120] 5 (1, 2))) := hbY.alloc hz2 _
            clear hcall hq hnew
            go_wp2_with fail
            refine HCALL.out.mono ?_
            rintro e w9 ⟨rfl, hb9⟩
            go_wp2
            go_ret
            exact ⟨rfl, hbZ.trans (hb9.mono hbZ.size)⟩
end Go.Proofs.Ytiocgdegaabnmaa
