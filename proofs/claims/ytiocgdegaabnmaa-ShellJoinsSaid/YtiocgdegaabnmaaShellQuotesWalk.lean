/-
  The Go function ShellQuotes, walked: of every bytes it returns true, and changes nothing that was there. Conditions: none.
-/
import Derived.Test.YtiocgdegaabnmaaQuoteWalk
import Derived.Test.YtiocgdegaabnmaaSame
import Derived.Laws.CopyOwn
import Derived.OpenShut
import Derived.Deep.DeepCutAuto
import Derived.Deep.CutBlock
namespace Go.Proofs.Ytiocgdegaabnmaa
open Go.RowKit
set_option linter.unusedVariables false

theorem below_drawn {B : Nat} {a w : World} (h : Below B a w) (q : Nat) : Below B a (w.drewN q) := h.trans ⟨rfl, rfl, rfl, Nat.le_refl _, fun _ _ => rfl⟩

/-- string(b) of a slice that reads as bytes. -/
theorem conv_reads {v : Value} {l : List UInt8} {w : World} (h : ReadsB w v l) (W : World) (hW : ∀ a, W.cell? a = w.cell? a) : (convert 35 9 v).run Try.prog W = .ok (.string ⟨l.toArray⟩) W := by
  obtain ⟨a, cap, rfl, _, _, hr⟩ := h
  cases a with
  | none =>
    have hl : l = [] := by
      rcases hr with h | ⟨b, off, h, _⟩
      · exact h
      · cases h
    subst hl
    exact run_convert_bytes_nil W 35 5 Try.underlying35 Try.underlying5 0 cap 9 Try.underlying9
  | some ad =>
    refine run_convert_bytes_back W 35 9 5 ad cap l Try.underlying35 Try.underlying5 Try.underlying9 fun j hj => ?_
    rcases hr with h | ⟨b, off, h, hc⟩
    · subst h; simp at hj
    · cases h
      have e1 : (⟨b, off, none⟩ : Addr).add j = ⟨b, off + j, none⟩ := by unfold Addr.add; split <;> simp_all
      rw [e1, hW]
      exact hc j hj

theorem reads_later {v : Value} {l : List UInt8} {w w' : World} (h : ReadsB w v l) (hb : Below w.heap.size w w') : ReadsB w' v l := by
  obtain ⟨a, cap, hv, h1, h2, hr⟩ := h
  refine ⟨a, cap, hv, h1, h2, ?_⟩
  rcases hr with h | ⟨b, off, h, hc⟩
  · exact .inl h
  · exact .inr ⟨b, off, h, fun k hk => (hb.cell (p := ⟨b, off + k, none⟩) (cell_lt (hc k hk))).trans (hc k hk)⟩

/-- A slice of bytes that came in. -/
def CameB (w : World) (a : Option Addr) (len cap : Nat) (zs : List Int) : Prop :=
  (a = none ∧ len = 0 ∧ cap = 0 ∧ zs = []) ∨
  ∃ x, a = some x ∧ len ≤ cap ∧ cap ≤ maxLen ∧ zs.length = cap ∧ (∀ i, i < zs.length → w.cell? (x.add i) = some (.int .u8 (zs.getD i 0))) ∧ ∀ n ∈ zs, (Lit.int .u8 n).wf = true

/-- Its first n bytes, n at most its length. -/
theorem reads_came {w : World} {a : Option Addr} {len cap : Nat} {zs : List Int} (h : CameB w a len cap zs) (n : Nat) (hn : n ≤ len) :
    ∃ l : List UInt8, l.length = n ∧ ReadsB w (.slice a n cap) l := by
  rcases h with ⟨rfl, rfl, rfl, rfl⟩ | ⟨x, rfl, hl, hm, hz, hc, hwf⟩
  · obtain rfl : n = 0 := by omega
    exact ⟨[], rfl, none, 0, rfl, by simp, by omega, .inl rfl⟩
  · unfold maxLen at hm
    refine ⟨(zs.take n).map fun z => UInt8.ofNat z.toNat, by rw [List.length_map, List.length_take]; omega, some x, cap, by rw [List.length_map, List.length_take, show min n zs.length = n by omega], by rw [List.length_map, List.length_take]; omega, hm, ?_⟩
    by_cases h0 : 0 < n
    · obtain ⟨b, off, rfl, hc2⟩ := ints_at hc (by omega)
      refine .inr ⟨b, off, rfl, fun k hk => ?_⟩
      have hk' : k < n := by rw [List.length_map, List.length_take] at hk; omega
      rw [hc2 k (by omega)]
      have hkz : k < zs.length := by omega
      have hw := bounds_u8 (hwf zs[k] (List.getElem_mem hkz))
      simp only [List.getElem_map, List.getElem_take, List.getD_eq_getElem?_getD, List.getElem?_eq_getElem hkz, Option.getD_some]
      congr 2
      rw [UInt8.toNat_ofNat']
      omega
    · obtain rfl : n = 0 := by omega
      exact .inl (by simp)

theorem resOf_quote (l : List UInt8) (hl : l.length ≤ 16000) : resOf (quoteOf l) = ([l], 0) := by
  have h1 := qs_len l
  have h2 : ¬ 65536 < (quoteOf l).length := by
    simp only [quoteOf, List.length_cons, List.length_append, List.length_nil]
    omega
  unfold resOf
  rw [if_neg h2, words_quote]

set_option maxHeartbeats 8000000 in
set_option maxRecDepth 100000 in
theorem shellQuotes_core (a : Option Addr) (len cap : Nat) (l : List UInt8) (w : World) (hR : Hid (ReadsB w (.slice a l.length cap) l)) (hl : l.length ≤ 16000) (hlen : Hid ((len = l.length ∧ len ≤ 16000) ∨ (16000 < len ∧ l.length = 16000 ∧ len ≤ cap ∧ cap ≤ 9223372036854775807))) :
    Calls Try.prog 10 #[.slice a len cap] w fun e w' => e = .returned (.bool true) ∧ Below w.heap.size w w' := by
  obtain ⟨i0, hi, hz0, hz1, hz2⟩ := info_parts infoB
  have hsz1 : (Try.prog.info? 5).map (·.size) = some 1 := by rw [hi]; simp [hz1]
  have hbl := Lib.byteCells_length l
  go_enter Try.func10, Try.ntmps10
  go_upto_if 12 with fail
  go_cut [0] (fun v0 wx => v0 = .slice a l.length cap ∧ wx = w)
  case first =>
    rcases hlen.out with ⟨rfl, h1⟩ | ⟨h1, h2, h3, h4⟩
    · go_wp2_with fail
      go_meet
      exact ⟨rfl, rfl⟩
    · have H2 := Lib.hid h2
      clear h2 hlen
      go_wp2_with fail
      go_meet
      exact ⟨by rw [H2.out], rfl⟩
  obtain ⟨rfl, hwc⟩ := hcut
  obtain rfl : w = wc := hwc.symm
  go_wp2_with (at_make; refine wpList_make_full _ rfl _ _ 35 rfl w.heap.size 5 i0 (.int .u8 0) 1 Try.underlying35 hi hz0 hz1 .i64 .i64 ((l.length : Int) + 70) ((l.length : Int) + 70) (l.length + 70) rfl rfl (by omega) (by omega) ?b2 (by unfold maxLen; omega) (Nat.le_refl _) ?_)
  case b2 => first | omega | (rw [hz2]; omega)
  intro w1 hown1 hg1
  obtain ⟨cur, hcur, hcsz⟩ : ∃ cur : Array Value, w1.heap[w.heap.size]? = some (.cells cur 5 (0, 0)) ∧ cur.size = l.length + 70 := by
    rcases hown1.2 with ⟨h0, _⟩ | ⟨g, c, cur, hv, _, hg, _, _, hs, _⟩
    · cases h0
    · cases hv
      exact ⟨cur, hg, by omega⟩
  have hb1 : Below w.heap.size w w1 := (Below.refl _ w).grown hg1 (Nat.le_refl _) (fun k hk => by cases hk)
  have hR1 : ReadsB w1 (.slice a l.length cap) l := reads_later hR.out hb1
  have HR1 := Lib.hid hR1
  have hpos : 0 < (Lib.byteCells l).length → ∃ ad, a = some ad ∧ ∀ j v, (Lib.byteCells l)[j]? = some v → w1.cell? (ad.add j) = some v := by
    intro h0
    obtain ⟨a', cap', hv, _, _, hr⟩ := hR1
    cases hv
    rcases hr with h | ⟨b, off, h, hc⟩
    · subst h; simp [Lib.byteCells] at h0
    · refine ⟨_, h, fun j v hj => ?_⟩
      have hjl : j < l.length := by
        have := (List.getElem?_eq_some_iff.1 hj).1
        omega
      have e1 : (⟨b, off, none⟩ : Addr).add j = ⟨b, off + j, none⟩ := by unfold Addr.add; split <;> simp_all
      rw [e1, hc j hjl]
      rw [← hj]
      simp [Lib.byteCells, List.getElem?_eq_getElem hjl]
  have HPOS := Lib.hid hpos
  have HCUR := Lib.hid hcur
  have HMIN : Hid ((Lib.byteCells l).length = Nat.min l.length (l.length + 70)) := by rw [hbl]; exact (Nat.min_eq_left (by omega)).symm
  have HFIT : Hid (0 + (Lib.byteCells l).length ≤ cur.toList.length) := by
    have h1 : cur.toList.length = cur.size := Array.length_toList
    show 0 + (Lib.byteCells l).length ≤ cur.toList.length
    omega
  have HONE : Hid (∀ v ∈ Lib.byteCells l, v.oneCell' = true) := by
    intro u hu
    simp only [Lib.byteCells, List.mem_map] at hu
    obtain ⟨c, _, rfl⟩ := hu
    rfl
  clear hR1 hpos hcur hown1 hg1
  go_wp2_with (refine wpList_copy_splice rfl _ _ 35 35 rfl 5 Try.underlying35 hsz1 (some ⟨w.heap.size, 0, none⟩) a (l.length + 70) (l.length + 70) l.length cap rfl rfl w.heap.size 0 cur.toList 5 HCUR.out (Lib.byteCells l) HMIN.out (fun h0 => ⟨rfl, HPOS.out h0⟩) HFIT.out HONE.out w.heap.size w hb1 (Nat.le_refl _) ?_)
  intro w2 hw2 hb2
  have hrow : ∃ cs : Array Value, w2.heap[w.heap.size]? = some (.cells cs 5 (0, 0)) ∧ cs.size = l.length + 70 ∧ (∀ j (hj : j < l.length), cs[j]? = some (.int .u8 (l[j]'hj).toNat)) := by
    refine ⟨_, hw2.out, ?_, fun j hj => ?_⟩
    · simp [splice, hcsz, hbl]
    · simp [splice, List.getElem?_append_left, hj, Lib.byteCells]
  have HROW := Lib.hid hrow
  clear hrow hw2
  go_wp2_with fail
  go_loopw [4] (fun v4 wr => ∃ k : Nat, v4 = .int .i64 k ∧ l.length ≤ k ∧ k ≤ l.length + 70 ∧ Below w.heap.size w wr ∧ ∃ cs : Array Value, wr.heap[w.heap.size]? = some (.cells cs 5 (0, 0)) ∧ cs.size = l.length + 70 ∧ (∀ j (hj : j < l.length), cs[j]? = some (.int .u8 (l[j]'hj).toNat)) ∧ ∀ j, l.length ≤ j → j < k → cs[j]? = some (.int .u8 7)) (fun v4 _ => l.length + 70 - (intOf v4).toNat)
  case atStart =>
    obtain ⟨cs, g1, g2, g3⟩ := HROW.out
    exact ⟨l.length, rfl, Nat.le_refl _, by omega, hb2, cs, g1, g2, g3, fun j h1 h2 => by omega⟩
  case round =>
    obtain ⟨k, rfl, hk1, hk2, hbw, cs, hcs, hcsz2, hlo, hhi⟩ := hrel
    by_cases hlt : k < l.length + 70
    · have hcell : wr.cell? ⟨w.heap.size, k, none⟩ = some (cs[k]'(by omega)) := by rw [Lib.cell_of_heap hcs]; exact Array.getElem?_eq_getElem (by omega)
      have hfz : wr.frozen? ⟨w.heap.size, k, none⟩ = false := Lib.frozen_of_heap hcs k
      obtain ⟨old, hold⟩ : ∃ x, cs[k]'(by omega) = x := ⟨_, rfl⟩
      rw [hold] at hcell
      have HS := Lib.hid (heap_store (i := k) hcs (.int .u8 7))
      have HLO := Lib.hid hlo
      have HHI := Lib.hid hhi
      have HSZ := Lib.hid hcsz2
      clear hold hlo hhi hcsz2 hcs
      go_wp2
      go_roundw
      case rel =>
        refine ⟨k + 1, by go_num, by omega, by omega, hbw.setCell (p := ⟨w.heap.size, k, none⟩) (Nat.le_refl _) _, _, HS.out, ?_, fun j hj => ?_, fun j h1 h2 => ?_⟩
        · rw [Array.size_setIfInBounds]; exact HSZ.out
        · rw [Array.getElem?_setIfInBounds_ne (by omega)]; exact HLO.out j hj
        · by_cases hjk : j = k
          · subst hjk
            rw [Array.getElem?_setIfInBounds_self_of_lt (by have := HSZ.out; omega)]
          · rw [Array.getElem?_setIfInBounds_ne (by omega)]; exact HHI.out j h1 (by omega)
      case measure => simp [intOf]; omega
    · obtain rfl : k = l.length + 70 := by omega
      obtain ⟨wo, rfl⟩ : ∃ wo : World, wo = wr := ⟨_, rfl⟩
      have hzw := hbw.size
      have HLO := Lib.hid hlo
      have HHI := Lib.hid hhi
      have HSZ := Lib.hid hcsz2
      have HCS := Lib.hid hcs
      have hG : w.heap.size < wo.heap.size := (Array.getElem?_eq_some_iff.1 hcs).1
      have hgiven : ReadsB wo (.slice (some ⟨w.heap.size, 0, none⟩) l.length (l.length + 70)) l := by
        refine ⟨_, _, rfl, by omega, by omega, .inr ⟨w.heap.size, 0, rfl, fun j hj => ?_⟩⟩
        rw [Lib.cell_of_heap hcs, Nat.zero_add]
        exact hlo j hj
      have hRw : ReadsB wo (.slice a l.length cap) l := reads_later hR.out hbw
      have HGV := Lib.hid hgiven
      have HRW := Lib.hid hRw
      obtain ⟨r, hr⟩ : ∃ r : ByteArray, (⟨(quoteOf l).toArray⟩ : ByteArray) = r := ⟨_, rfl⟩
      have HRR := Lib.hid hr
      clear hlo hhi hcsz2 hcs hgiven hRw hr
      go_wp2_with fail
      refine (quote_any _ l _ HGV.out (by omega)).mono ?_
      rw [HRR.out]
      rintro e w3 ⟨rfl, hb3⟩
      go_wp2_with fail
      refine (refQuote_any _ l _ (reads_later HRW.out hb3) (by omega)).mono ?_
      rw [HRR.out]
      rintro e w4 ⟨rfl, hb4⟩
      have hb34 : Below wo.heap.size wo w4 := hb3.trans (hb4.mono hb3.size)
      obtain ⟨t, ht⟩ : ∃ t : ByteArray, (⟨l.toArray⟩ : ByteArray) = t := ⟨_, rfl⟩
      have hc1 := conv_reads (reads_later HGV.out hb34) w4 (fun _ => rfl)
      have hc2 := conv_reads (reads_later HRW.out hb34) w4 (fun _ => rfl)
      rw [ht] at hc1 hc2
      have HTT := Lib.hid ht
      have HCS4 : Hid (w4.heap[w.heap.size]? = some (.cells cs 5 (0, 0))) := (hb34.block _ hG).trans HCS.out
      have hbX : Below w.heap.size w w4 := hbw.trans (hb34.mono hzw)
      have HB34 := Lib.hid hb34
      clear ht hb3 hb4 hb34
      go_wp2_with fail
      go_loop [7] (fun v7 => ∃ k : Nat, v7 = .int .i64 k ∧ l.length ≤ k ∧ k ≤ l.length + 70) (fun v7 => l.length + 70 - (intOf v7).toNat)
      case atStart => exact ⟨l.length, rfl, Nat.le_refl _, by omega⟩
      case round =>
        obtain ⟨k, rfl, hk1, hk2⟩ := hrel
        by_cases hlt : k < l.length + 70
        · have hcell : w4.cell? ⟨w.heap.size, k, none⟩ = some (.int .u8 7) := by rw [Lib.cell_of_heap HCS4.out]; exact HHI.out k hk1 hlt
          go_wp2
          go_round
          case rel => exact ⟨k + 1, by go_num, by omega, by omega⟩
          case measure => simp [intOf]; omega
        · obtain rfl : k = l.length + 70 := by omega
          have hres : resOf r.data.toList = ([l], 0) := by rw [← HRR.out]; exact resOf_quote l hl
          have HRES := Lib.hid hres
          clear hres
          go_wp2_with fail
          refine (words_any r w4).mono ?_
          rw [HRES.out]
          rintro e w5 ⟨⟨v, rfl, ho⟩, hb5⟩
          obtain ⟨g, gc, rfl, hc0, _⟩ := row_cell ho 0 (by simp)
          have hc0' : w5.cell? ⟨g, 0, none⟩ = some (.string t) := by rw [← HTT.out]; exact hc0
          have hR5 : ReadsB w5 (.slice a l.length cap) l := reads_later HRW.out (HB34.out.trans (hb5.mono HB34.out.size))
          have hc5 : ∀ q, (convert 35 9 (.slice a l.length cap)).run Try.prog (w5.drewN q) = .ok (.string t) (w5.drewN q) := fun q => by rw [← HTT.out]; exact conv_reads hR5 _ fun _ => rfl
          have hbY : Below w.heap.size w w5 := hbX.trans (hb5.mono hbX.size)
          clear hc0 ho hR5 hb5 hc1 hc2
          go_wp2
          go_quiet (fail)
          go_wp2
          go_ret
          exact ⟨rfl, below_drawn hbY _⟩

theorem shellQuotes_walk (a : Option Addr) (len cap : Nat) (zs : List Int) (w : World) (h : CameB w a len cap zs) :
    Calls Try.prog 10 #[.slice a len cap] w fun e w' => e = .returned (.bool true) ∧ Below w.heap.size w w' := by
  by_cases hn : len ≤ 16000
  · obtain ⟨l, hl, hr⟩ := reads_came h len (Nat.le_refl _)
    subst hl
    exact shellQuotes_core a _ cap l w hr hn (.inl ⟨rfl, hn⟩)
  · obtain ⟨l, hl, hr⟩ := reads_came h 16000 (by omega)
    rw [← hl] at hr
    refine shellQuotes_core a len cap l w hr (by omega) (.inr ⟨by omega, hl, ?_⟩)
    rcases h with ⟨_, h, _⟩ | ⟨x, _, h1, h2, _⟩
    · omega
    · exact ⟨h1, by unfold maxLen at h2; omega⟩
end Go.Proofs.Ytiocgdegaabnmaa
