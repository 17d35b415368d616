/-
  tame of the statements, walked: a right record made of any. Conditions: lists that a process can hold.
-/
import Derived.Test.YtecmhpncgdjgjaaDoorTamePlain
import Derived.Laws.ResultCell
import Derived.Test.YtecmhpncgdjgjaaDoorBeh
namespace Go.Proofs.YtecmhpncgdjgjaaDoor
open Go.RowKit
set_option linter.unusedVariables false
set_option linter.unusedSimpArgs false

theorem results_one_cell {fn : Func} {p : Tmp} {ty : TypeId} (h : fn.results = #[.cell p ty]) (tmps : Array Value) (P : Program) (w : World) :
    (results fn tmps).run P w = ((asAddr (tmps.getD p undef)).run P w).andThen fun a w₁ => (loadVar ty a).run P w₁ := by
  simp only [results, h]
  simp [Sem.run_bind, Result.andThen]
  try rfl

theorem tame_ok {r : Rec} {m : Nat} (h : RecOk r) : RecOk (tameR m r) := by
  obtain ⟨n, k, x, t, i⟩ := r
  obtain ⟨h0, h1, h2, h3⟩ := h
  have hn := withinV_le (v := n) (lo := 1) (hi := 536870911) (by omega)
  have hx := withinV_le (v := x) (lo := 0) (hi := 4294967295) (by omega)
  have h64 : ∀ z : Int, 0 ≤ z → z ≤ 5000000000 → Is64 z := fun z h1 h2 => ⟨by omega, by omega⟩
  have hnn := h64 _ (by omega) (Int.le_trans hn.2 (by omega))
  rw [tameR]
  split
  · exact ⟨hnn, h64 0 (by omega) (by omega), h2, by simp [Rec.text]⟩
  · split
    · exact ⟨hnn, h64 1 (by omega) (by omega), h2, by simp [Rec.text]⟩
    · split
      · exact ⟨hnn, h64 2 (by omega) (by omega), h64 0 (by omega) (by omega), h3⟩
      · split
        · exact ⟨hnn, h64 5 (by omega) (by omega), h64 _ hx.1 (Int.le_trans hx.2 (by omega)), by simp [Rec.text]⟩
        · exact ⟨hnn, h64 3 (by omega) (by omega), h64 0 (by omega) (by omega), by simp [Rec.text]⟩
theorem lensS_getR {M : Nat} {l : List Rec} (h : lensS M l) (k : Nat) (hk : k < l.length) : lensR M (l[k]'hk) := by
  induction l generalizing k with
  | nil => simp at hk
  | cons r rs ih =>
    cases k with
    | zero => exact h.1
    | succ k => exact ih h.2 k (by simpa using hk)
theorem wideL_get {l : List Rec} (h : wideL l) (k : Nat) (hk : k < l.length) : wideR (l[k]'hk) := by
  induction l generalizing k with
  | nil => simp at hk
  | cons r rs ih =>
    cases k with
    | zero => exact h.1
    | succ k => exact ih h.2 k (by simpa using hk)
theorem wide_inner {r : Rec} (h : wideR r) : wideL r.inner := by
  obtain ⟨n, k, x, t, i⟩ := r
  exact h.2.2

/-- A record's value, its list's value given. -/
def recV (r : Rec) (u : Value) : Value := .agg #[.int .i64 r.number, .int .i64 r.kind, .int .i64 r.num, .string ⟨r.text.toArray⟩, u]
/-- What tame leaves. -/
def TameOut (w : World) (r : Rec) (e : Ending) (w' : World) : Prop :=
  ∃ v, e = .returned (recV r v) ∧ ReadsR (fun k => w.heap.size ≤ k) w' v r.inner ∧ Below w.heap.size w w'

set_option maxHeartbeats 8000000 in
set_option maxRecDepth 100000 in
theorem tame_any (N : Nat) : ∀ (r : Rec), SizeOf.sizeOf r ≤ N → lensR 2199023255552 r → RecOk r → wideL r.inner → ∀ (m : Nat), 1 ≤ m → m ≤ 1000 → ∀ (u : Value) (w : World), Reads w u r.inner → Calls Tryd.prog 69 #[recV r u, .int .i64 m] w (TameOut w (tameR m r)) := by
  induction N with
  | zero => intro r hl; obtain ⟨n, k, x, t, i⟩ := r; simp at hl
  | succ N ih =>
    intro r hl hlen hok hwd m hm hm2 u w hu
    have IH := Lib.hid ih
    have HU := Lib.hid hu
    obtain ⟨i0, hi, hz0, hz1, hz2⟩ := infoRecP
    obtain ⟨a, cap, rfl, h1, h2, hu0⟩ := hu.form
    have HLEN := Lib.hid hlen
    have HOK := Lib.hid hok
    have HWD := Lib.hid hwd
    clear ih hu hu0 hlen hok hwd
    obtain ⟨n, kd, x, t, i⟩ := r
    simp only [recV, Rec.number, Rec.kind, Rec.num, Rec.text, Rec.inner] at h1 HU HWD ⊢
    have hkb := withinV_le (v := kd) (lo := 0) (hi := 4) (by omega)
    have hnb := withinV_le (v := n) (lo := 1) (hi := 536870911) (by omega)
    have HTM := Lib.hid (show tameR m (.mk n kd x t i) = _ by rw [tameR])
    obtain ⟨k', hk'⟩ : ∃ y, withinV kd 0 4 = y := ⟨_, rfl⟩
    obtain ⟨n', hn'⟩ : ∃ y, withinV n 1 536870911 = y := ⟨_, rfl⟩
    rw [hk', hn'] at HTM
    rw [hk'] at hkb
    rw [hn'] at hnb
    have HK := Lib.hid hk'
    have HN := Lib.hid hn'
    have hcs : k' = 0 ∨ k' = 1 ∨ k' = 2 ∨ k' = 3 ∨ k' = 4 := by omega
    clear hk' hn' hkb
    go_enter Tryd.func69, Tryd.ntmps69
    go_wp2_with fail
    refine (within_any kd 0 4 (by decide) (by decide) (by decide) _).mono ?_
    rintro e _ ⟨rfl, rfl⟩
    rw [HK.out]
    go_wp2_with fail
    refine (within_any n 1 536870911 (by decide) (by decide) (by decide) _).mono ?_
    rintro e _ ⟨rfl, rfl⟩
    rw [HN.out]
    rcases hcs with rfl | rfl | rfl | rfl | rfl
    · have HV := Lib.hid (HTM.out.trans (if_pos rfl))
      go_wp2_with fail
      refine bodyPost_ret (v := .agg #[.int .i64 n', .int .i64 0, .int .i64 x, .string ⟨#[]⟩, .slice none 0 0]) ?_ rfl ?_
      · rw [results_one_cell rfl]
        go_simp
      · rw [HV.out]
        exact ⟨_, rfl, .none _ _ (by omega), (((Below.refl _ w).alloc (Nat.le_refl _) _).alloc (by simp) _).alloc (by simp; omega) _⟩
    · have HV := Lib.hid (HTM.out.trans ((if_neg (by decide)).trans (if_pos rfl)))
      go_wp2_with fail
      refine bodyPost_ret (v := .agg #[.int .i64 n', .int .i64 1, .int .i64 x, .string ⟨#[]⟩, .slice none 0 0]) ?_ rfl ?_
      · rw [results_one_cell rfl]
        go_simp
      · rw [HV.out]
        exact ⟨_, rfl, .none _ _ (by omega), (((Below.refl _ w).alloc (Nat.le_refl _) _).alloc (by simp) _).alloc (by simp; omega) _⟩
    · have HV := Lib.hid (HTM.out.trans ((if_neg (by decide)).trans ((if_neg (by decide)).trans (if_pos rfl))))
      go_wp2_with fail
      refine bodyPost_ret (v := .agg #[.int .i64 n', .int .i64 2, .int .i64 0, .string ⟨t.toArray⟩, .slice none 0 0]) ?_ rfl ?_
      · rw [results_one_cell rfl]
        go_simp
      · rw [HV.out]
        exact ⟨_, rfl, .none _ _ (by omega), (((Below.refl _ w).alloc (Nat.le_refl _) _).alloc (by simp) _).alloc (by simp; omega) _⟩
    · have HV := Lib.hid (HTM.out.trans ((if_neg (by decide)).trans ((if_neg (by decide)).trans ((if_neg (by decide)).trans (if_pos rfl)))))
      obtain ⟨x', hx'⟩ : ∃ y, withinV x 0 4294967295 = y := ⟨_, rfl⟩
      rw [hx'] at HV
      have HX := Lib.hid hx'
      clear hx'
      go_wp2_with fail
      refine (within_any x 0 4294967295 (by decide) (by decide) (by decide) _).mono ?_
      rintro e _ ⟨rfl, rfl⟩
      rw [HX.out]
      go_wp2_with fail
      refine bodyPost_ret (v := .agg #[.int .i64 n', .int .i64 5, .int .i64 x', .string ⟨#[]⟩, .slice none 0 0]) ?_ rfl ?_
      · rw [results_one_cell rfl]
        go_simp
      · rw [HV.out]
        exact ⟨_, rfl, .none _ _ (by omega), (((Below.refl _ w).alloc (Nat.le_refl _) _).alloc (by simp) _).alloc (by simp; omega) _⟩
    · have HV := Lib.hid (HTM.out.trans ((if_neg (by decide)).trans ((if_neg (by decide)).trans ((if_neg (by decide)).trans (if_neg (by decide))))))
      go_wp2_with fail
      go_loopw [7] (fun vi wr => ∃ (k : Nat) (L : List (Rec × Value)) (v : Value), vi = .int .i64 k ∧ k ≤ i.length ∧ (¬ 1 < m → k = 0) ∧ L.length = k ∧ LOk wr (w.heap.size + 3) v L ∧ L.map (·.1) = tameS (m - 1) (i.take k) ∧
        wr.heap[w.heap.size]? = some (.cells #[.int .i64 n, .int .i64 kd, .int .i64 x, .string ⟨t.toArray⟩, .slice a i.length cap] 53 (0, 0)) ∧ wr.heap[w.heap.size + 1]? = some (.cells #[.int .i64 0, .int .i64 0, .int .i64 0, .string ⟨#[]⟩, .slice none 0 0] 53 (0, 0)) ∧ wr.heap[w.heap.size + 2]? = some (.cells #[.int .i64 n', .int .i64 3, .int .i64 0, .string ⟨#[]⟩, v] 53 (0, 0)) ∧ Below w.heap.size w wr) (fun vi _ => i.length - (intOf vi).toNat)
      case atStart =>
        refine ⟨0, [], .slice none 0 0, rfl, Nat.zero_le _, fun _ => rfl, rfl, LOk.nil _ _, rfl, ?_, ?_, ?_, ((alloc_below w _).trans ((alloc_below _ _).mono (by simp))).trans ((alloc_below _ _).mono (by simp; omega))⟩
        · exact ((alloc_below _ _).block _ (by simp; omega)).trans (((alloc_below _ _).block _ (by simp)).trans (alloc_at _ _))
        · exact ((alloc_below _ _).block _ (by simp)).trans (alloc2_at _ _ _)
        · have := alloc2_at (w.alloc (.cells #[.int .i64 n, .int .i64 kd, .int .i64 x, .string ⟨t.toArray⟩, .slice a i.length cap] 53)) (.cells #[.int .i64 0, .int .i64 0, .int .i64 0, .string ⟨#[]⟩, .slice none 0 0] 53) (.cells #[.int .i64 n', .int .i64 3, .int .i64 0, .string ⟨#[]⟩, .slice none 0 0] 53)
          rw [World.size_alloc] at this
          exact this
      case round =>
        obtain ⟨k, L, v, rfl, hk, hk0, hLk, hLO, hmap, hA, hB, hC, hbw⟩ := hrel
        obtain ⟨av, capv, hve, hvc, hvm, _⟩ := Reads.form (hLO.reads.mono fun _ _ => trivial)
        rw [List.length_map, hLk] at hve hvc
        subst hve
        have hXA := Lib.cell_of_heap hA
        have hXB := Lib.cell_of_heap hB
        have hXC := Lib.cell_of_heap hC
        have hZB : ∀ j, wr.frozen? ⟨w.heap.size + 1, j, none⟩ = false := fun j => frozen_of_row wr (w.heap.size + 1) j _ _ hB
        have hZC : ∀ j, wr.frozen? ⟨w.heap.size + 2, j, none⟩ = false := fun j => frozen_of_row wr (w.heap.size + 2) j _ _ hC
        have HLK := Lib.hid hLk
        have HLO := Lib.hid hLO
        have HMAP := Lib.hid hmap
        have HBW := Lib.hid hbw
        have HA := Lib.hid hA
        have HBX := Lib.hid hB
        have HC := Lib.hid hC
        have hsz : w.heap.size + 2 < wr.heap.size := (Array.getElem?_eq_some_iff.1 hC).1
        have HK0 := Lib.hid hk0
        clear hA hB hC hLk hLO hmap hbw hk0
        by_cases hlt : k < i.length ∧ 1 < m
        · obtain ⟨hlt, h1m⟩ := hlt
          obtain ⟨b, off, ui, rfl, hrec, hin⟩ := Reads.at (HU.out.later HBW.out) k hlt
          have hsk := List.sizeOf_lt_of_mem (List.getElem_mem hlt)
          have HNEXT := Lib.hid (tameS_take (m - 1) i k hlt)
          have HLR := Lib.hid (lensS_getR HLEN.out.2 k hlt)
          have HWR := Lib.hid (wideL_get HWD.out k hlt)
          have HLI := Lib.hid HLEN.out.1
          obtain ⟨r, hr⟩ : ∃ r, i[k]'hlt = r := ⟨_, rfl⟩
          have hbl := cell_lt hrec.c0
          rw [hr] at hrec hin hsk HNEXT HLR HWR
          clear hr
          have hrok : RecOk r := ⟨hrec.n0, hrec.n1, hrec.n2, hrec.n3⟩
          have HTK := Lib.hid (tame_ok (m := m - 1) hrok)
          have HCALL := Lib.hid (IH.out r (by simp only [Rec.mk.sizeOf_spec] at hl; omega) HLR.out hrok (wide_inner HWR.out) (m - 1) (by omega) (by omega) ui wr hin)
          obtain ⟨ai, capi, rfl, hci1, hci2, hi0⟩ := hin.form
          clear hi0 hrok hin
          obtain ⟨y, hy⟩ : ∃ y, tameR (m - 1) r = y := ⟨_, rfl⟩
          rw [hy] at HNEXT HTK HCALL
          clear hy
          obtain ⟨rn, rk, rx, rt, ri⟩ := r
          obtain ⟨yn, yk, yx, yt, yi⟩ := y
          obtain ⟨c0, c1, c2, c3, c4, n0, n1, n2, n3⟩ := hrec
          simp only [Rec.number, Rec.kind, Rec.num, Rec.text, Rec.inner] at c0 c1 c2 c3 c4 hci1 n0 n1 n2 n3
          simp only [recV, Rec.number, Rec.kind, Rec.num, Rec.text, Rec.inner] at HCALL
          clear n0 n1 n2 n3
          go_wp2_with fail
          rw [show ((m : Int) - 1) = ((m - 1 : Nat) : Int) by omega]
          refine HCALL.out.mono ?_
          rintro e w3 ⟨v3, rfl, hrd, hb3⟩
          simp only [recV, Rec.number, Rec.kind, Rec.num, Rec.text, Rec.inner] at hrd ⊢
          obtain ⟨a3, cap3, rfl, _, _⟩ := hrd.form
          have hs3 := hb3.size
          have hlt3 : w.heap.size + 2 < w3.heap.size := by omega
          have hlt4 : w.heap.size + 1 + 1 < w3.heap.size := by omega
          have HA3 := Lib.hid ((hb3.block _ (by omega)).trans HA.out)
          have HB3 := Lib.hid ((hb3.block _ (by omega)).trans HBX.out)
          have HC3 := Lib.hid ((hb3.block _ (by omega)).trans HC.out)
          have hXC := Lib.cell_of_heap HC3.out
          have hZC : ∀ j, w3.frozen? ⟨w.heap.size + 2, j, none⟩ = false := fun j => frozen_of_row w3 (w.heap.size + 2) j _ _ HC3.out
          have HRD := Lib.hid hrd
          have hbY := (hb3.trans ((alloc_below w3 (.cells #[.int .i64 yn, .int .i64 yk, .int .i64 yx, .string ⟨yt.toArray⟩, .slice a3 yi.length cap3] 53)).mono hs3)).trans ((alloc_below (w3.alloc (.cells #[.int .i64 yn, .int .i64 yk, .int .i64 yx, .string ⟨yt.toArray⟩, .slice a3 yi.length cap3] 53)) (.cells #[.int .i64 yn, .int .i64 yk, .int .i64 yx, .string ⟨yt.toArray⟩, .slice a3 yi.length cap3] 53)).mono (by simp; omega))
          have HBY := Lib.hid hbY
          have HLW := Lib.hid (HLO.out.turn (p := 0) (.of hbY) (by omega))
          clear hrd hb3 hbY hXA hXB hZB
          go_wp2_with (at_builtin; refine wpList_append_own_at _ rfl _ _ 36 rfl (w.heap.size + 3) 53 i0 (.agg #[.int .i64 0, .int .i64 0, .int .i64 0, .string ⟨#[]⟩, .slice none 0 0]) 5 64 Tryd.underlying36 hi hz0 hz1 hz2 rfl (by decide) _ _ _ rfl HLW.out.own ⟨w3.heap.size + 1, 0, none⟩ 1 1 (five (Rec.mk yn yk yx yt yi, .slice a3 yi.length cap3)) rfl rfl ?c1 ?c2 ?c3 ?c4 ?c5 ?_)
          case c1 => exact news_row (by simp)
          case c2 => intro u hu; simp [five] at hu; rcases hu with rfl | rfl | rfl | rfl | rfl <;> rfl
          case c3 => have := HLK.out; have := HLI.out; unfold maxLen; omega
          case c4 => have := HLK.out; have := HLI.out; omega
          case c5 => simp; omega
          intro v' w5 hown' hgrow _ hat
          have hput := LOk.put (x := (Rec.mk yn yk yx yt yi, .slice a3 yi.length cap3)) HLW.out hown' hgrow (by simpa using hat) HTK.out ((HRD.out.held (fun k hk hl => ((alloc_below _ _).block k (by simp; omega)).trans ((alloc_below _ _).block k hl))).mono fun k hk => ⟨by omega, own_new HLO.out.own hk⟩)
          obtain ⟨a5, cap5, hv5, _, _⟩ := Reads.form (hput.reads.mono fun _ _ => trivial)
          obtain ⟨L5, hL5⟩ : ∃ y, (List.map (fun x => x.1) (L ++ [(Rec.mk yn yk yx yt yi, Value.slice a3 yi.length cap3)])).length = y := ⟨_, rfl⟩
          rw [hL5] at hv5
          subst hv5
          clear hL5
          have hB5 := (Below.refl (w.heap.size + 3) _).grown hgrow (by simp; omega) (own_base HLW.out.own)
          have hs5 := hB5.size
          have hHC : w5.heap[w.heap.size + 2]? = some (.cells #[.int .i64 n', .int .i64 3, .int .i64 0, .string ⟨#[]⟩, .slice av k capv] 53 (0, 0)) := (hB5.block _ (by omega)).trans (((alloc_below _ _).block _ (by simp; omega)).trans (((alloc_below _ _).block _ (by omega)).trans HC3.out))
          have hHA : w5.heap[w.heap.size]? = some (.cells #[.int .i64 n, .int .i64 kd, .int .i64 x, .string ⟨t.toArray⟩, .slice (some ⟨b, off, none⟩) i.length cap] 53 (0, 0)) := (hB5.block _ (by omega)).trans (((alloc_below _ _).block _ (by simp; omega)).trans (((alloc_below _ _).block _ (by omega)).trans HA3.out))
          have hHB : w5.heap[w.heap.size + 1]? = some (.cells #[.int .i64 0, .int .i64 0, .int .i64 0, .string ⟨#[]⟩, .slice none 0 0] 53 (0, 0)) := (hB5.block _ (by omega)).trans (((alloc_below _ _).block _ (by simp; omega)).trans (((alloc_below _ _).block _ (by omega)).trans HB3.out))
          have hX5 := Lib.cell_of_heap hHC
          have hZ5 : ∀ j, w5.frozen? ⟨w.heap.size + 2, j, none⟩ = false := fun j => frozen_of_row w5 (w.heap.size + 2) j _ _ hHC
          have HL5 := Lib.hid (hput.turn (p := w.heap.size + 2) ((Turn.refl w5.heap.size (w.heap.size + 2) w5).set 4 (.slice a5 L5 cap5)) (by omega))
          have HB5 := Lib.hid (((HBW.out.trans (HBY.out.mono (by omega))).trans (hB5.mono (by omega))).setCell (p := ⟨w.heap.size + 2, 4, none⟩) (by show w.heap.size ≤ w.heap.size + 2; omega) (.slice a5 L5 cap5))
          have HHA := Lib.hid ((Below.heap_setCell w5 ⟨w.heap.size + 2, 4, none⟩ (.slice a5 L5 cap5) w.heap.size (by show w.heap.size ≠ w.heap.size + 2; omega)).trans hHA)
          have HHB := Lib.hid ((Below.heap_setCell w5 ⟨w.heap.size + 2, 4, none⟩ (.slice a5 L5 cap5) (w.heap.size + 1) (by show w.heap.size + 1 ≠ w.heap.size + 2; omega)).trans hHB)
          have HHC := Lib.hid (heap_setCell_same w5 (w.heap.size + 2) 4 _ 53 (.slice a5 L5 cap5) hHC)
          clear hown' hgrow hat hput hB5 hHA hHB hHC
          go_wp2_with fail
          go_roundw
          case rel => exact ⟨k + 1, L ++ [(Rec.mk yn yk yx yt yi, .slice a3 yi.length cap3)], _, by simp, by omega, fun h => absurd h1m h, by simp [HLK.out], HL5.out, by rw [HNEXT.out, List.map_append, HMAP.out]; rfl, HHA.out, HHB.out, HHC.out, HB5.out⟩
          case measure => simp [intOf] <;> omega
        · have HALL := Lib.hid (show tameR m (.mk n kd x t i) = .mk n' 3 0 [] (L.map (·.1)) by
            rw [HV.out, HMAP.out]
            congr 1
            by_cases h1m : 1 < m
            · rw [if_pos h1m, List.take_of_length_le (by omega)]
            · rw [if_neg h1m, HK0.out h1m]; rfl)
          have hge : k < i.length → ¬ 1 < m := fun h1 h2 => hlt ⟨h1, h2⟩
          by_cases hki : k < i.length
          · have h1m := hge hki
            clear hlt hge
            go_wp2_with fail
            refine bodyPost_ret (v := .agg #[.int .i64 n', .int .i64 3, .int .i64 0, .string ⟨#[]⟩, .slice av k capv]) ?_ rfl ?_
            · rw [results_one_cell rfl]
              go_simp
            · rw [HALL.out]
              have hW : ∀ W, Below w.heap.size wr W → (∀ k, k ≠ w.heap.size + 1 → W.heap[k]? = wr.heap[k]?) → TameOut w (.mk n' 3 0 [] (L.map (·.1))) (.returned (.agg #[.int .i64 n', .int .i64 3, .int .i64 0, .string ⟨#[]⟩, .slice av k capv])) W := fun W hW hk =>
                ⟨_, rfl, (HLO.out.reads.held (fun k hk1 _ => hk k (by omega))).mono fun k hk1 => by omega, HBW.out.trans hW⟩
              refine hW _ ?_ ?_
              · exact Below.setCell (Below.setCell (Below.setCell (Below.setCell (Below.setCell (Below.refl _ _) (by simp) _) (by simp) _) (by simp) _) (by simp) _) (by simp) _
              · intro k h1
                exact (Below.heap_setCell _ ⟨_, _, _⟩ _ k h1).trans ((Below.heap_setCell _ ⟨_, _, _⟩ _ k h1).trans ((Below.heap_setCell _ ⟨_, _, _⟩ _ k h1).trans ((Below.heap_setCell _ ⟨_, _, _⟩ _ k h1).trans (Below.heap_setCell _ ⟨_, _, _⟩ _ k h1))))
          · have hki' : i.length ≤ k := by omega
            clear hlt hge
            go_wp2_with fail
            refine bodyPost_ret (v := .agg #[.int .i64 n', .int .i64 3, .int .i64 0, .string ⟨#[]⟩, .slice av k capv]) ?_ rfl ?_
            · rw [results_one_cell rfl]
              go_simp
            · rw [HALL.out]
              have hW : ∀ W, Below w.heap.size wr W → (∀ k, k ≠ w.heap.size + 1 → W.heap[k]? = wr.heap[k]?) → TameOut w (.mk n' 3 0 [] (L.map (·.1))) (.returned (.agg #[.int .i64 n', .int .i64 3, .int .i64 0, .string ⟨#[]⟩, .slice av k capv])) W := fun W hW hk =>
                ⟨_, rfl, (HLO.out.reads.held (fun k hk1 _ => hk k (by omega))).mono fun k hk1 => by omega, HBW.out.trans hW⟩
              refine hW _ ?_ ?_
              · exact Below.setCell (Below.setCell (Below.setCell (Below.setCell (Below.setCell (Below.refl _ _) (by simp) _) (by simp) _) (by simp) _) (by simp) _) (by simp) _
              · intro k h1
                exact (Below.heap_setCell _ ⟨_, _, _⟩ _ k h1).trans ((Below.heap_setCell _ ⟨_, _, _⟩ _ k h1).trans ((Below.heap_setCell _ ⟨_, _, _⟩ _ k h1).trans ((Below.heap_setCell _ ⟨_, _, _⟩ _ k h1).trans (Below.heap_setCell _ ⟨_, _, _⟩ _ k h1))))
end Go.Proofs.YtecmhpncgdjgjaaDoor
