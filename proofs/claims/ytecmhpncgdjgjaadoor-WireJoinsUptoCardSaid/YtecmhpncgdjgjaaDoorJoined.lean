/-
  joined of the document's answer, walked. Conditions: the records may be (rightL = 0), their texts are no longer than 1048576 bytes, their blocks lie below the row's base. (Printed by gen_joined.py.)
-/
import Derived.Test.YtecmhpncgdjgjaaDoorJoinAll
import Derived.Test.YtecmhpncgdjgjaaDoorHand
import Derived.Test.YtecmhpncgdjgjaaDoorTextsC
namespace Go.Proofs.YtecmhpncgdjgjaaDoor
open Go.RowKit
set_option linter.unusedVariables false
set_option linter.unusedSimpArgs false

mutual
/-- Its texts, and those within, are no longer than M. -/
def shortR (M : Nat) : Rec → Prop
  | .mk _ _ _ t i => t.length ≤ M ∧ shortL M i
def shortL (M : Nat) : List Rec → Prop
  | [] => True
  | r :: rs => shortR M r ∧ shortL M rs
end
theorem shortL_get {M : Nat} {l : List Rec} (h : shortL M l) (k : Nat) (hk : k < l.length) : shortR M (l[k]'hk) := by
  induction l generalizing k with
  | nil => simp at hk
  | cons r rs ih =>
    rw [shortL] at h
    cases k with
    | zero => exact h.1
    | succ k => exact ih h.2 k (by simpa using hk)

/-- What joined leaves. -/
def JoinedOut (w : World) (B : Nat) (v : Value) (o : List UInt8) (l : List Rec) (e : Ending) (w' : World) : Prop :=
  ∃ v' J, e = .returned v' ∧ OwnB w' B v' J ∧ Grew w w' v v' ∧ J.length ≤ max o.length (2097200 + 10 * deepL l) ∧ (J = o ++ encL l ∨ (1048576 < J.length ∧ 1048576 < (o ++ encL l).length))

theorem Grew.call {w w1 w2 : World} {v v1 : Value} (h : Grew w w1 v v1) (hb : Below w1.heap.size w1 w2) : Grew w w2 v v1 :=
  h.trans ⟨⟨hb.os, hb.tape, hb.output, hb.size, fun k hk _ => hb.block k hk⟩, .inl rfl⟩

/-- A row that is not empty, as a source. -/
theorem own_src {w : World} {B : Nat} {v : Value} {l : List UInt8} (h : OwnB w B v l) (hl : 0 < l.length) :
    ∃ g cap, v = .slice (some ⟨g, 0, none⟩) l.length cap ∧ l.length ≤ cap ∧ cap ≤ 9223372036854775807 ∧ Hid (∀ j u, (Lib.byteCells l)[j]? = some u → w.cell? ((⟨g, 0, none⟩ : Addr).add j) = some u) := by
  have h0 := h
  unfold OwnB at h0
  rcases h.2 with ⟨rfl, h1⟩ | ⟨g, cap, cur, rfl, hbg, hg, hnc, hcm, rest⟩
  · omega
  · refine ⟨g, cap, rfl, hnc, by unfold maxLen at hcm; omega, fun j u hj => ?_⟩
    have e1 : (⟨g, 0, none⟩ : Addr).add j = ⟨g, j, none⟩ := by unfold Addr.add; split <;> simp_all
    have hjl : j < l.length := by
      rcases Nat.lt_or_ge j l.length with h2 | h2
      · exact h2
      · rw [List.getElem?_eq_none (by rw [Lib.byteCells_length]; exact h2)] at hj; cases hj
    rw [e1, h0.cellAt j (by omega)]
    exact hj

theorem enc_far {o : List UInt8} {l : List Rec} {k : Nat} (h : 1048576 < (o ++ encL (l.take k)).length) : 1048576 < (o ++ encL l).length := by
  have := encL_len (l := l) k
  rw [List.length_append] at h ⊢
  omega

/-- Amid a round: the row, what else turned, and the record's own block. -/
structure Mid (w : World) (B : Nat) (vo : Value) (r : Nat) (R : Obj) (W : World) (u : Value) (p : List UInt8) : Prop where
  own : OwnB W B u p
  grew : Grew w W vo u
  box : W.heap[r]? = some R
  ne : u.ownBlock ≠ some r
theorem Mid.lt {w : World} {B : Nat} {vo : Value} {r : Nat} {R : Obj} {W : World} {u : Value} {p : List UInt8} (h : Mid w B vo r R W u p) : r < W.heap.size := (Array.getElem?_eq_some_iff.1 h.box).1
theorem Mid.start {w : World} {B : Nat} {vo : Value} {W : World} {u : Value} {p : List UInt8} (ho : OwnB W B u p) (hg : Grew w W vo u) (R : Obj) (hne : u.ownBlock ≠ some W.heap.size) : Mid w B vo W.heap.size R (W.alloc R) u p :=
  ⟨World.ownsRow.alloc ho _, hg.alloc _, by show (W.heap.push _)[W.heap.size]? = _; exact Array.getElem?_push_size, hne⟩
theorem Mid.call {w : World} {B : Nat} {vo : Value} {r : Nat} {R : Obj} {W W' : World} {u : Value} {p : List UInt8} (h : Mid w B vo r R W u p) (hb : Below W.heap.size W W') : Mid w B vo r R W' u p :=
  ⟨ownsRow_later h.own hb, h.grew.call hb, (hb.block _ h.lt).trans h.box, h.ne⟩
theorem Mid.app {w : World} {B : Nat} {vo : Value} {r : Nat} {R : Obj} {W W' : World} {u u' : Value} {p C : List UInt8} {n : Nat} {news : List Value} (h : Mid w B vo r R W u p) (hown : W'.ownsRow B 5 1 u' n (Lib.byteCells p ++ news)) (hn : news = Lib.byteCells C) (hm : n = p.length + C.length)
    (hg : W.grownBy W' u.ownBlock) (hat : u'.ownBlock = u.ownBlock ∨ u'.ownBlock = some W.heap.size) : Mid w B vo r R W' u' (p ++ C) := by
  refine ⟨OwnB.put hown hn hm, h.grew.step hg hat (Nat.le_refl _), (hg.block r h.lt (fun e => h.ne e.symm)).trans h.box, ?_⟩
  have := h.lt
  rcases hat with e | e
  · rw [e]; exact h.ne
  · rw [e]; intro e2; cases e2; omega
theorem Mid.join {w : World} {B : Nat} {vo : Value} {r : Nat} {R : Obj} {W W' : World} {u u' : Value} {p J : List UInt8} (h : Mid w B vo r R W u p) (ho : OwnB W' B u' J) (hg : Grew W W' u u') : Mid w B vo r R W' u' J := by
  refine ⟨ho, h.grew.trans hg, (hg.by_.block r h.lt (fun e => h.ne e.symm)).trans h.box, ?_⟩
  have := h.lt
  rcases hg.own with e | ⟨b, e, hb⟩
  · rw [e]; exact h.ne
  · rw [e]; intro e2; cases e2; omega

set_option maxHeartbeats 8000000 in
set_option maxRecDepth 100000 in
theorem joined_any (N : Nat) : ∀ (l : List Rec), SizeOf.sizeOf l ≤ N → ∀ (o : List UInt8) (v u : Value) (B : Nat) (w : World), ReadsR (· < B) w u l → OwnB w B v o → B ≤ w.heap.size → rightL l = 0 → shortL 1048576 l → deepL l ≤ 100 → o.length ≤ 2099000 →
    Calls Tryd.prog 67 #[v, u] w (JoinedOut w B v o l) := by
  induction N with
  | zero => intro l hl; cases l <;> simp at hl
  | succ N ih =>
    intro l hl o v u B w h hv hB hright hshort hd hol
    obtain ⟨i0, hi, hz0, hz1, hz2⟩ := info_parts infoB
    obtain ⟨a, cap, rfl, hlc, hcm⟩ := h.form
    have H := Lib.hid h
    have IH := Lib.hid ih
    have HV := Lib.hid hv
    have HR := Lib.hid hright
    have HSH := Lib.hid hshort
    obtain ⟨n, hn⟩ : ∃ n, l.length = n := ⟨_, rfl⟩
    have HNL := Lib.hid hn
    rw [hn] at hlc ⊢
    obtain ⟨D, hD⟩ : ∃ D, deepL l = D := ⟨_, rfl⟩
    rw [hD] at hd
    have HDD := Lib.hid hD
    obtain ⟨ov, hov⟩ : ∃ ov, o.length = ov := ⟨_, rfl⟩
    rw [hov] at hol
    have HOV := Lib.hid hov
    obtain ⟨ao, co, rfl, hco1, hco2⟩ := own_slice hv
    have HOV2 := Lib.hid hov
    clear h ih hright hn hv hD hshort hov
    go_enter Tryd.func67, Tryd.ntmps67
    go_wp2_with fail
    go_loopw [0, 5] (fun v0 v5 wr => ∃ (k : Nat) (p : List UInt8), v5 = .int .i64 k ∧ k ≤ n ∧ OwnB wr B v0 p ∧ Grew w wr (.slice ao o.length co) v0 ∧ p.length ≤ max ov (2097200 + 10 * D) ∧ (p = o ++ encL (l.take k) ∨ (1048576 < p.length ∧ 1048576 < (o ++ encL (l.take k)).length))) (fun _ v5 _ => n - (intOf v5).toNat)
    case atStart => exact ⟨0, o, rfl, Nat.zero_le _, HV.out, Grew.refl _ _, by rw [HOV.out]; omega, .inl (by simp [encL])⟩
    case round =>
      obtain ⟨k, p, rfl, hk, hown, hgr, hpl, hor⟩ := hrel
      have hsz := hgr.size
      by_cases hlt : k < n
      · by_cases hfar : p.length ≤ 1048576
        · have hp : o ++ encL (l.take k) = p := by
            rcases hor with h | h
            · exact h.symm
            · omega
          have hlt2 : k < l.length := by rw [HNL.out]; exact hlt
          have hRd := H.out
          rw [HNL.out] at hRd
          obtain ⟨b, off, u, rfl, hbB, hrec0, hin⟩ := hRd.at k hlt2
          have hrec := hrec0.held (held_grew hgr (own_base HV.out) b hbB (cell_lt hrec0.c0))
          have hbl := cell_lt hrec.c0
          obtain ⟨ai, ci, rfl, hl2, hc2⟩ := hin.form
          have hrt := rightL_get HR.out k hlt2
          have hsh := shortL_get HSH.out k hlt2
          have hdp := deepL_get k hlt2
          have henc := encL_take k hlt2
          obtain ⟨r, hRr⟩ : ∃ r, l[k]'hlt2 = r := ⟨_, rfl⟩
          have hins := inner_size k hlt2
          rw [hRr] at hrec hin hins hrt hdp henc hsh
          obtain ⟨nr, kd, x, t, i⟩ := r
          obtain ⟨hr1, hr2, hkc, hfit, hri⟩ := rightR_parts hrt
          obtain ⟨c0, c1, c2, c3, c4, n0, n1, n2, n3⟩ := hrec
          simp only [Rec.number, Rec.kind, Rec.num, Rec.text, Rec.inner] at c0 c1 c2 c3 c4 n0 n1 n2 n3 hin hins
          rw [shortR] at hsh
          obtain ⟨hst, hsi⟩ := hsh
          have hnext : o ++ encL (l.take (k + 1)) = p ++ encR (.mk nr kd x t i) := by rw [henc, ← hp, List.append_assoc]
          obtain ⟨T, hT⟩ : ∃ T : ByteArray, (⟨t.toArray⟩ : ByteArray) = T := ⟨_, rfl⟩
          have hTl : T.toList = t := by rw [← hT, ByteArray.toList_eq]
          have hTs : T.size = t.length := by rw [← hT]; rfl
          rw [hT] at c3
          have hTb : T.size ≤ 1048576 := by omega
          have HTL := Lib.hid hTl
          have HTS := Lib.hid hTs
          have HIN := Lib.hid hin
          have HNX := Lib.hid hnext
          have HDP := Lib.hid hdp
          have HRI := Lib.hid hri
          have HSI := Lib.hid hsi
          have HOWN := Lib.hid hown
          have HGR := Lib.hid hgr
          have HPL := Lib.hid hfar
          have HN2 := Lib.hid n2
          have hpl1 : p.length ≤ 1048576 := hfar
          have hfarI : (p.length : Int) ≤ 1048576 := by omega
          have hne : u0.ownBlock ≠ some wr.heap.size := own_new hown (Nat.le_refl _)
          have HNE := Lib.hid hne
          obtain ⟨ap, cp, rfl, hcp1, hcp2⟩ := own_slice hown
          clear hrec0 hl2 hin hrt hRr hRd hT hTl hTs hnext henc hp hor hfit hdp hri hgr hne hown hst hsi hpl n0 n1 n2 n3
          rcases hkc with rfl | rfl | rfl | rfl | rfl
          · skip
            have M0 := Lib.hid (Mid.start HOWN.out HGR.out (.cells #[.int .i64 nr, .int .i64 0, .int .i64 x, .string T, .slice ai i.length ci] 53) HNE.out)
            obtain ⟨C1, hC⟩ : ∃ C, vb (YtecmhpncgdjgjaaDoor.u64 (8 * nr)) = C := ⟨_, rfl⟩
            have hCl : 1 ≤ C1.length ∧ C1.length ≤ 10 := by rw [← hC]; exact vb_len10 _
            have HC1 := Lib.hid hC
            obtain ⟨hCl1, hCl2⟩ := hCl
            clear hC
            go_wp2_with fail
            refine (rVarint_any (8 * nr) (by unfold Is64; omega) _).mono ?_
            rintro e w1b ⟨v1b, rfl, ho, hb⟩
            rw [HC1.out] at ho
            have M1b := Lib.hid (M0.out.call hb)
            have hX1b := Lib.cell_of_heap M1b.out.box
            obtain ⟨g1, s1, rfl, hs11, hs12, hsrc⟩ := own_src ho (by omega)
            have HS1 := Lib.hid hsrc.out
            clear ho hb hsrc
            go_wp2_with (at_builtin; refine wpList_append_own_at _ rfl _ _ 24 rfl B 5 i0 (.int .u8 0) 1 1 Tryd.underlying24 hi hz0 hz1 hz2 rfl (by decide) _ _ _ rfl M1b.out.own ⟨g1, 0, none⟩ C1.length s1 (Lib.byteCells C1) rfl (by rw [Lib.byteCells_length, Nat.mul_one]) HS1.out (byteCells_ones C1) ?c3 ?c4 ?c5 ?_)
            case c3 => unfold maxLen; omega
            case c4 => omega
            case c5 => have := M1b.out.grew.size; omega
            intro v1 w1 hown' hgrow _ hat
            have hm := M1b.out.app (C := C1) hown' rfl (rfl) hgrow hat
            obtain ⟨q1, hp⟩ : ∃ q, p ++ C1 = q := ⟨_, rfl⟩
            rw [hp] at hm
            have hpn : q1.length = p.length + C1.length := by rw [← hp, List.length_append]
            have HP1 := Lib.hid hp
            have HPN1 := Lib.hid hpn
            obtain ⟨a1, cap1, rfl, hc11, hc12⟩ := own_slice hm.own
            have M1 := Lib.hid hm
            have hX1 := Lib.cell_of_heap hm.box
            have hl1 : q1.length ≤ p.length + C1.length := by omega
            clear hown' hgrow hat hm hp hpn
            have HQ1 := Lib.hid (show p ++ vb (YtecmhpncgdjgjaaDoor.u64 (nr * 8 + 0)) = q1 by rw [← HP1.out, ← HC1.out]; congr 3; omega)
            obtain ⟨C2, hC⟩ : ∃ C, vb (YtecmhpncgdjgjaaDoor.u64 x) = C := ⟨_, rfl⟩
            have hCl : 1 ≤ C2.length ∧ C2.length ≤ 10 := by rw [← hC]; exact vb_len10 _
            have HC2 := Lib.hid hC
            obtain ⟨hCl1, hCl2⟩ := hCl
            clear hC
            go_wp2_with fail
            refine (rVarint_any x HN2.out _).mono ?_
            rintro e w2b ⟨v2b, rfl, ho, hb⟩
            rw [HC2.out] at ho
            have M2b := Lib.hid (M1.out.call hb)
            have hX2b := Lib.cell_of_heap M2b.out.box
            obtain ⟨g2, s2, rfl, hs21, hs22, hsrc⟩ := own_src ho (by omega)
            have HS2 := Lib.hid hsrc.out
            clear ho hb hsrc
            go_wp2_with (at_builtin; refine wpList_append_own_at _ rfl _ _ 24 rfl B 5 i0 (.int .u8 0) 1 1 Tryd.underlying24 hi hz0 hz1 hz2 rfl (by decide) _ _ _ rfl M2b.out.own ⟨g2, 0, none⟩ C2.length s2 (Lib.byteCells C2) rfl (by rw [Lib.byteCells_length, Nat.mul_one]) HS2.out (byteCells_ones C2) ?c3 ?c4 ?c5 ?_)
            case c3 => unfold maxLen; omega
            case c4 => omega
            case c5 => have := M2b.out.grew.size; omega
            intro v2 w2 hown' hgrow _ hat
            have hm := M2b.out.app (C := C2) hown' rfl (rfl) hgrow hat
            obtain ⟨q2, hp⟩ : ∃ q, q1 ++ C2 = q := ⟨_, rfl⟩
            rw [hp] at hm
            have hpn : q2.length = q1.length + C2.length := by rw [← hp, List.length_append]
            have HP2 := Lib.hid hp
            have HPN2 := Lib.hid hpn
            obtain ⟨a2, cap2, rfl, hc21, hc22⟩ := own_slice hm.own
            have M2 := Lib.hid hm
            have hX2 := Lib.cell_of_heap hm.box
            have hl2 : q2.length ≤ q1.length + C2.length := by omega
            clear hown' hgrow hat hm hp hpn
            have HQ := Lib.hid (show o ++ encL (l.take (k + 1)) = q2 by rw [HNX.out, encR_0, ← List.append_assoc, HQ1.out, HC2.out, HP2.out])
            go_wp2_with fail
            go_roundw
            case rel => exact ⟨k + 1, q2, by simp, by omega, M2.out.own, M2.out.grew, by omega, .inl HQ.out.symm⟩
            case measure => simp [intOf] <;> omega
          · skip
            have M0 := Lib.hid (Mid.start HOWN.out HGR.out (.cells #[.int .i64 nr, .int .i64 1, .int .i64 x, .string T, .slice ai i.length ci] 53) HNE.out)
            obtain ⟨C1, hC⟩ : ∃ C, vb (YtecmhpncgdjgjaaDoor.u64 (8 * nr + 1)) = C := ⟨_, rfl⟩
            have hCl : 1 ≤ C1.length ∧ C1.length ≤ 10 := by rw [← hC]; exact vb_len10 _
            have HC1 := Lib.hid hC
            obtain ⟨hCl1, hCl2⟩ := hCl
            clear hC
            go_wp2_with fail
            refine (rVarint_any (8 * nr + 1) (by unfold Is64; omega) _).mono ?_
            rintro e w1b ⟨v1b, rfl, ho, hb⟩
            rw [HC1.out] at ho
            have M1b := Lib.hid (M0.out.call hb)
            have hX1b := Lib.cell_of_heap M1b.out.box
            obtain ⟨g1, s1, rfl, hs11, hs12, hsrc⟩ := own_src ho (by omega)
            have HS1 := Lib.hid hsrc.out
            clear ho hb hsrc
            go_wp2_with (at_builtin; refine wpList_append_own_at _ rfl _ _ 24 rfl B 5 i0 (.int .u8 0) 1 1 Tryd.underlying24 hi hz0 hz1 hz2 rfl (by decide) _ _ _ rfl M1b.out.own ⟨g1, 0, none⟩ C1.length s1 (Lib.byteCells C1) rfl (by rw [Lib.byteCells_length, Nat.mul_one]) HS1.out (byteCells_ones C1) ?c3 ?c4 ?c5 ?_)
            case c3 => unfold maxLen; omega
            case c4 => omega
            case c5 => have := M1b.out.grew.size; omega
            intro v1 w1 hown' hgrow _ hat
            have hm := M1b.out.app (C := C1) hown' rfl (rfl) hgrow hat
            obtain ⟨q1, hp⟩ : ∃ q, p ++ C1 = q := ⟨_, rfl⟩
            rw [hp] at hm
            have hpn : q1.length = p.length + C1.length := by rw [← hp, List.length_append]
            have HP1 := Lib.hid hp
            have HPN1 := Lib.hid hpn
            obtain ⟨a1, cap1, rfl, hc11, hc12⟩ := own_slice hm.own
            have M1 := Lib.hid hm
            have hX1 := Lib.cell_of_heap hm.box
            have hl1 : q1.length ≤ p.length + C1.length := by omega
            clear hown' hgrow hat hm hp hpn
            have HQ1 := Lib.hid (show p ++ vb (YtecmhpncgdjgjaaDoor.u64 (nr * 8 + 1)) = q1 by rw [← HP1.out, ← HC1.out]; congr 3; omega)
            obtain ⟨C2, hC⟩ : ∃ C, fx 8 x = C := ⟨_, rfl⟩
            have hCl : 1 ≤ C2.length ∧ C2.length ≤ 10 := by rw [← hC]; rw [fx_len]; omega
            have HC2 := Lib.hid hC
            obtain ⟨hCl1, hCl2⟩ := hCl
            clear hC
            go_wp2_with fail
            refine (low_any x HN2.out 8 (by omega) _).mono ?_
            rintro e w2b ⟨v2b, rfl, ho, hb⟩
            rw [HC2.out] at ho
            have M2b := Lib.hid (M1.out.call hb)
            have hX2b := Lib.cell_of_heap M2b.out.box
            obtain ⟨g2, s2, rfl, hs21, hs22, hsrc⟩ := own_src ho (by omega)
            have HS2 := Lib.hid hsrc.out
            clear ho hb hsrc
            go_wp2_with (at_builtin; refine wpList_append_own_at _ rfl _ _ 24 rfl B 5 i0 (.int .u8 0) 1 1 Tryd.underlying24 hi hz0 hz1 hz2 rfl (by decide) _ _ _ rfl M2b.out.own ⟨g2, 0, none⟩ C2.length s2 (Lib.byteCells C2) rfl (by rw [Lib.byteCells_length, Nat.mul_one]) HS2.out (byteCells_ones C2) ?c3 ?c4 ?c5 ?_)
            case c3 => unfold maxLen; omega
            case c4 => omega
            case c5 => have := M2b.out.grew.size; omega
            intro v2 w2 hown' hgrow _ hat
            have hm := M2b.out.app (C := C2) hown' rfl (rfl) hgrow hat
            obtain ⟨q2, hp⟩ : ∃ q, q1 ++ C2 = q := ⟨_, rfl⟩
            rw [hp] at hm
            have hpn : q2.length = q1.length + C2.length := by rw [← hp, List.length_append]
            have HP2 := Lib.hid hp
            have HPN2 := Lib.hid hpn
            obtain ⟨a2, cap2, rfl, hc21, hc22⟩ := own_slice hm.own
            have M2 := Lib.hid hm
            have hX2 := Lib.cell_of_heap hm.box
            have hl2 : q2.length ≤ q1.length + C2.length := by omega
            clear hown' hgrow hat hm hp hpn
            have HQ := Lib.hid (show o ++ encL (l.take (k + 1)) = q2 by rw [HNX.out, encR_1, ← List.append_assoc, HQ1.out, HC2.out, HP2.out])
            go_wp2_with fail
            go_roundw
            case rel => exact ⟨k + 1, q2, by simp, by omega, M2.out.own, M2.out.grew, by omega, .inl HQ.out.symm⟩
            case measure => simp [intOf] <;> omega
          · skip
            have M0 := Lib.hid (Mid.start HOWN.out HGR.out (.cells #[.int .i64 nr, .int .i64 2, .int .i64 x, .string T, .slice ai i.length ci] 53) HNE.out)
            obtain ⟨C1, hC⟩ : ∃ C, vb (YtecmhpncgdjgjaaDoor.u64 (8 * nr + 2)) = C := ⟨_, rfl⟩
            have hCl : 1 ≤ C1.length ∧ C1.length ≤ 10 := by rw [← hC]; exact vb_len10 _
            have HC1 := Lib.hid hC
            obtain ⟨hCl1, hCl2⟩ := hCl
            clear hC
            go_wp2_with fail
            refine (rVarint_any (8 * nr + 2) (by unfold Is64; omega) _).mono ?_
            rintro e w1b ⟨v1b, rfl, ho, hb⟩
            rw [HC1.out] at ho
            have M1b := Lib.hid (M0.out.call hb)
            have hX1b := Lib.cell_of_heap M1b.out.box
            obtain ⟨g1, s1, rfl, hs11, hs12, hsrc⟩ := own_src ho (by omega)
            have HS1 := Lib.hid hsrc.out
            clear ho hb hsrc
            go_wp2_with (at_builtin; refine wpList_append_own_at _ rfl _ _ 24 rfl B 5 i0 (.int .u8 0) 1 1 Tryd.underlying24 hi hz0 hz1 hz2 rfl (by decide) _ _ _ rfl M1b.out.own ⟨g1, 0, none⟩ C1.length s1 (Lib.byteCells C1) rfl (by rw [Lib.byteCells_length, Nat.mul_one]) HS1.out (byteCells_ones C1) ?c3 ?c4 ?c5 ?_)
            case c3 => unfold maxLen; omega
            case c4 => omega
            case c5 => have := M1b.out.grew.size; omega
            intro v1 w1 hown' hgrow _ hat
            have hm := M1b.out.app (C := C1) hown' rfl (rfl) hgrow hat
            obtain ⟨q1, hp⟩ : ∃ q, p ++ C1 = q := ⟨_, rfl⟩
            rw [hp] at hm
            have hpn : q1.length = p.length + C1.length := by rw [← hp, List.length_append]
            have HP1 := Lib.hid hp
            have HPN1 := Lib.hid hpn
            obtain ⟨a1, cap1, rfl, hc11, hc12⟩ := own_slice hm.own
            have M1 := Lib.hid hm
            have hX1 := Lib.cell_of_heap hm.box
            have hl1 : q1.length ≤ p.length + C1.length := by omega
            clear hown' hgrow hat hm hp hpn
            have HQ1 := Lib.hid (show p ++ vb (YtecmhpncgdjgjaaDoor.u64 (nr * 8 + 2)) = q1 by rw [← HP1.out, ← HC1.out]; congr 3; omega)
            obtain ⟨C2, hC⟩ : ∃ C, vb (YtecmhpncgdjgjaaDoor.u64 T.size) = C := ⟨_, rfl⟩
            have hCl : 1 ≤ C2.length ∧ C2.length ≤ 10 := by rw [← hC]; exact vb_len10 _
            have HC2 := Lib.hid hC
            obtain ⟨hCl1, hCl2⟩ := hCl
            clear hC
            go_wp2_with fail
            refine (rVarint_any T.size (by unfold Is64; omega) _).mono ?_
            rintro e w2b ⟨v2b, rfl, ho, hb⟩
            rw [HC2.out] at ho
            have M2b := Lib.hid (M1.out.call hb)
            have hX2b := Lib.cell_of_heap M2b.out.box
            obtain ⟨g2, s2, rfl, hs21, hs22, hsrc⟩ := own_src ho (by omega)
            have HS2 := Lib.hid hsrc.out
            clear ho hb hsrc
            go_wp2_with (at_builtin; refine wpList_append_own_at _ rfl _ _ 24 rfl B 5 i0 (.int .u8 0) 1 1 Tryd.underlying24 hi hz0 hz1 hz2 rfl (by decide) _ _ _ rfl M2b.out.own ⟨g2, 0, none⟩ C2.length s2 (Lib.byteCells C2) rfl (by rw [Lib.byteCells_length, Nat.mul_one]) HS2.out (byteCells_ones C2) ?c3 ?c4 ?c5 ?_)
            case c3 => unfold maxLen; omega
            case c4 => omega
            case c5 => have := M2b.out.grew.size; omega
            intro v2 w2 hown' hgrow _ hat
            have hm := M2b.out.app (C := C2) hown' rfl (rfl) hgrow hat
            obtain ⟨q2, hp⟩ : ∃ q, q1 ++ C2 = q := ⟨_, rfl⟩
            rw [hp] at hm
            have hpn : q2.length = q1.length + C2.length := by rw [← hp, List.length_append]
            have HP2 := Lib.hid hp
            have HPN2 := Lib.hid hpn
            skip
            have M2 := Lib.hid hm
            have hX2 := Lib.cell_of_heap hm.box
            have hl2 : q2.length ≤ q1.length + C2.length := by omega
            clear hown' hgrow hat hm hp hpn
            go_wp2_with (at_builtin; refine wpList_append_text rfl _ _ _ _ rfl B 5 i0 Tryd.underlying24 Tryd.underlying9 hi hz0 hz1 hz2 _ _ _ rfl M2.out.own T rfl ?c1 ?c2 ?c3 ?_)
            case c1 => unfold maxLen; omega
            case c2 => omega
            case c3 => have := M2.out.grew.size; omega
            intro v3 w3 hown' hgrow hat
            have hm := M2.out.app (C := T.toList) hown' (str_cells T) (by rw [str_len]) hgrow hat
            obtain ⟨q3, hp⟩ : ∃ q, q2 ++ T.toList = q := ⟨_, rfl⟩
            rw [hp] at hm
            have hpn : q3.length = q2.length + T.size := by rw [← hp, List.length_append, str_len]
            have HP3 := Lib.hid hp
            obtain ⟨a3, cap3, rfl, hc31, hc32⟩ := own_slice hm.own
            have M3 := Lib.hid hm
            have hl3 : q3.length ≤ q2.length + T.size := by omega
            clear hown' hgrow hat hm hp hpn
            have HQ := Lib.hid (show o ++ encL (l.take (k + 1)) = q3 by rw [HNX.out, encR_2, ← List.append_assoc, HQ1.out, ← HTS.out, ← List.append_assoc, HC2.out, HP2.out, ← HTL.out, HP3.out])
            go_wp2_with fail
            go_roundw
            case rel => exact ⟨k + 1, q3, by simp, by omega, M3.out.own, M3.out.grew, by omega, .inl HQ.out.symm⟩
            case measure => simp [intOf] <;> omega
          · skip
            have M0 := Lib.hid (Mid.start HOWN.out HGR.out (.cells #[.int .i64 nr, .int .i64 3, .int .i64 x, .string T, .slice ai i.length ci] 53) HNE.out)
            obtain ⟨C1, hC⟩ : ∃ C, vb (YtecmhpncgdjgjaaDoor.u64 (8 * nr + 3)) = C := ⟨_, rfl⟩
            have hCl : 1 ≤ C1.length ∧ C1.length ≤ 10 := by rw [← hC]; exact vb_len10 _
            have HC1 := Lib.hid hC
            obtain ⟨hCl1, hCl2⟩ := hCl
            clear hC
            go_wp2_with fail
            refine (rVarint_any (8 * nr + 3) (by unfold Is64; omega) _).mono ?_
            rintro e w1b ⟨v1b, rfl, ho, hb⟩
            rw [HC1.out] at ho
            have M1b := Lib.hid (M0.out.call hb)
            have hX1b := Lib.cell_of_heap M1b.out.box
            obtain ⟨g1, s1, rfl, hs11, hs12, hsrc⟩ := own_src ho (by omega)
            have HS1 := Lib.hid hsrc.out
            clear ho hb hsrc
            go_wp2_with (at_builtin; refine wpList_append_own_at _ rfl _ _ 24 rfl B 5 i0 (.int .u8 0) 1 1 Tryd.underlying24 hi hz0 hz1 hz2 rfl (by decide) _ _ _ rfl M1b.out.own ⟨g1, 0, none⟩ C1.length s1 (Lib.byteCells C1) rfl (by rw [Lib.byteCells_length, Nat.mul_one]) HS1.out (byteCells_ones C1) ?c3 ?c4 ?c5 ?_)
            case c3 => unfold maxLen; omega
            case c4 => omega
            case c5 => have := M1b.out.grew.size; omega
            intro v1 w1 hown' hgrow _ hat
            have hm := M1b.out.app (C := C1) hown' rfl (rfl) hgrow hat
            obtain ⟨q1, hp⟩ : ∃ q, p ++ C1 = q := ⟨_, rfl⟩
            rw [hp] at hm
            have hpn : q1.length = p.length + C1.length := by rw [← hp, List.length_append]
            have HP1 := Lib.hid hp
            have HPN1 := Lib.hid hpn
            obtain ⟨a1, cap1, rfl, hc11, hc12⟩ := own_slice hm.own
            have M1 := Lib.hid hm
            have hX1 := Lib.cell_of_heap hm.box
            have hl1 : q1.length ≤ p.length + C1.length := by omega
            clear hown' hgrow hat hm hp hpn
            have HQ1 := Lib.hid (show p ++ vb (YtecmhpncgdjgjaaDoor.u64 (nr * 8 + 3)) = q1 by rw [← HP1.out, ← HC1.out]; congr 3; omega)
            have hdi : 10 * deepL i + 10 ≤ 10 * D := by
              have := HDP.out
              rw [deepR, if_pos (.inl rfl), HDD.out] at this
              omega
            have hin2 := HIN.out.held (held_grew M1.out.grew (own_base HV.out))
            have HC := Lib.hid (IH.out i (by omega) q1 _ _ B w1 hin2 M1.out.own (by have := M1.out.grew.size; omega) (HRI.out (by simp)) HSI.out (by omega) (by omega))
            clear hin2
            go_wp2_with fail
            refine HC.out.mono ?_
            rintro e w2 ⟨v2, J, rfl, ho, hg, hJl, hJo⟩
            obtain ⟨dp, hdp⟩ : ∃ d, deepL i = d := ⟨_, rfl⟩
            rw [hdp] at hJl hdi
            have hJl2 : J.length ≤ 2097200 + 10 * dp := by omega
            have M2 := Lib.hid (M1.out.join ho hg)
            have HJO := Lib.hid hJo
            obtain ⟨a2, cap2, rfl, hc21, hc22⟩ := own_slice ho
            have hX2 := Lib.cell_of_heap M2.out.box
            clear ho hg hJl hJo hdp
            obtain ⟨C3, hC⟩ : ∃ C, vb (YtecmhpncgdjgjaaDoor.u64 (8 * nr + 4)) = C := ⟨_, rfl⟩
            have hCl : 1 ≤ C3.length ∧ C3.length ≤ 10 := by rw [← hC]; exact vb_len10 _
            have HC3 := Lib.hid hC
            obtain ⟨hCl1, hCl2⟩ := hCl
            clear hC
            go_wp2_with fail
            refine (rVarint_any (8 * nr + 4) (by unfold Is64; omega) _).mono ?_
            rintro e w3b ⟨v3b, rfl, ho, hb⟩
            rw [HC3.out] at ho
            have M3b := Lib.hid (M2.out.call hb)
            have hX3b := Lib.cell_of_heap M3b.out.box
            obtain ⟨g3, s3, rfl, hs31, hs32, hsrc⟩ := own_src ho (by omega)
            have HS3 := Lib.hid hsrc.out
            clear ho hb hsrc
            go_wp2_with (at_builtin; refine wpList_append_own_at _ rfl _ _ 24 rfl B 5 i0 (.int .u8 0) 1 1 Tryd.underlying24 hi hz0 hz1 hz2 rfl (by decide) _ _ _ rfl M3b.out.own ⟨g3, 0, none⟩ C3.length s3 (Lib.byteCells C3) rfl (by rw [Lib.byteCells_length, Nat.mul_one]) HS3.out (byteCells_ones C3) ?c3 ?c4 ?c5 ?_)
            case c3 => unfold maxLen; omega
            case c4 => omega
            case c5 => have := M3b.out.grew.size; omega
            intro v3 w3 hown' hgrow _ hat
            have hm := M3b.out.app (C := C3) hown' rfl (rfl) hgrow hat
            obtain ⟨q3, hp⟩ : ∃ q, J ++ C3 = q := ⟨_, rfl⟩
            rw [hp] at hm
            have hpn : q3.length = J.length + C3.length := by rw [← hp, List.length_append]
            have HP3 := Lib.hid hp
            have HPN3 := Lib.hid hpn
            obtain ⟨a3, cap3, rfl, hc31, hc32⟩ := own_slice hm.own
            have M3 := Lib.hid hm
            have hX3 := Lib.cell_of_heap hm.box
            have hl3 : q3.length ≤ J.length + C3.length := by omega
            clear hown' hgrow hat hm hp hpn
            have HQ := Lib.hid (show q3 = o ++ encL (l.take (k + 1)) ∨ (1048576 < q3.length ∧ 1048576 < (o ++ encL (l.take (k + 1))).length) by
              have e1 : o ++ encL (l.take (k + 1)) = q1 ++ encL i ++ C3 := by
                rw [HNX.out, encR_3, ← List.append_assoc, HQ1.out, ← List.append_assoc, ← HC3.out]
                congr 3
                omega
              rcases HJO.out with e2 | ⟨e2, e3⟩
              · exact .inl (by rw [e1, ← e2, HP3.out])
              · refine .inr ⟨by have := HPN3.out; omega, ?_⟩
                rw [e1, List.length_append]
                exact Nat.lt_of_lt_of_le e3 (Nat.le_add_right _ _))
            go_wp2_with fail
            go_roundw
            case rel => exact ⟨k + 1, q3, by simp, by omega, M3.out.own, M3.out.grew, by omega, HQ.out⟩
            case measure => simp [intOf] <;> omega
          · skip
            have M0 := Lib.hid (Mid.start HOWN.out HGR.out (.cells #[.int .i64 nr, .int .i64 5, .int .i64 x, .string T, .slice ai i.length ci] 53) HNE.out)
            obtain ⟨C1, hC⟩ : ∃ C, vb (YtecmhpncgdjgjaaDoor.u64 (8 * nr + 5)) = C := ⟨_, rfl⟩
            have hCl : 1 ≤ C1.length ∧ C1.length ≤ 10 := by rw [← hC]; exact vb_len10 _
            have HC1 := Lib.hid hC
            obtain ⟨hCl1, hCl2⟩ := hCl
            clear hC
            go_wp2_with fail
            refine (rVarint_any (8 * nr + 5) (by unfold Is64; omega) _).mono ?_
            rintro e w1b ⟨v1b, rfl, ho, hb⟩
            rw [HC1.out] at ho
            have M1b := Lib.hid (M0.out.call hb)
            have hX1b := Lib.cell_of_heap M1b.out.box
            obtain ⟨g1, s1, rfl, hs11, hs12, hsrc⟩ := own_src ho (by omega)
            have HS1 := Lib.hid hsrc.out
            clear ho hb hsrc
            go_wp2_with (at_builtin; refine wpList_append_own_at _ rfl _ _ 24 rfl B 5 i0 (.int .u8 0) 1 1 Tryd.underlying24 hi hz0 hz1 hz2 rfl (by decide) _ _ _ rfl M1b.out.own ⟨g1, 0, none⟩ C1.length s1 (Lib.byteCells C1) rfl (by rw [Lib.byteCells_length, Nat.mul_one]) HS1.out (byteCells_ones C1) ?c3 ?c4 ?c5 ?_)
            case c3 => unfold maxLen; omega
            case c4 => omega
            case c5 => have := M1b.out.grew.size; omega
            intro v1 w1 hown' hgrow _ hat
            have hm := M1b.out.app (C := C1) hown' rfl (rfl) hgrow hat
            obtain ⟨q1, hp⟩ : ∃ q, p ++ C1 = q := ⟨_, rfl⟩
            rw [hp] at hm
            have hpn : q1.length = p.length + C1.length := by rw [← hp, List.length_append]
            have HP1 := Lib.hid hp
            have HPN1 := Lib.hid hpn
            obtain ⟨a1, cap1, rfl, hc11, hc12⟩ := own_slice hm.own
            have M1 := Lib.hid hm
            have hX1 := Lib.cell_of_heap hm.box
            have hl1 : q1.length ≤ p.length + C1.length := by omega
            clear hown' hgrow hat hm hp hpn
            have HQ1 := Lib.hid (show p ++ vb (YtecmhpncgdjgjaaDoor.u64 (nr * 8 + 5)) = q1 by rw [← HP1.out, ← HC1.out]; congr 3; omega)
            obtain ⟨C2, hC⟩ : ∃ C, fx 4 x = C := ⟨_, rfl⟩
            have hCl : 1 ≤ C2.length ∧ C2.length ≤ 10 := by rw [← hC]; rw [fx_len]; omega
            have HC2 := Lib.hid hC
            obtain ⟨hCl1, hCl2⟩ := hCl
            clear hC
            go_wp2_with fail
            refine (low_any x HN2.out 4 (by omega) _).mono ?_
            rintro e w2b ⟨v2b, rfl, ho, hb⟩
            rw [HC2.out] at ho
            have M2b := Lib.hid (M1.out.call hb)
            have hX2b := Lib.cell_of_heap M2b.out.box
            obtain ⟨g2, s2, rfl, hs21, hs22, hsrc⟩ := own_src ho (by omega)
            have HS2 := Lib.hid hsrc.out
            clear ho hb hsrc
            go_wp2_with (at_builtin; refine wpList_append_own_at _ rfl _ _ 24 rfl B 5 i0 (.int .u8 0) 1 1 Tryd.underlying24 hi hz0 hz1 hz2 rfl (by decide) _ _ _ rfl M2b.out.own ⟨g2, 0, none⟩ C2.length s2 (Lib.byteCells C2) rfl (by rw [Lib.byteCells_length, Nat.mul_one]) HS2.out (byteCells_ones C2) ?c3 ?c4 ?c5 ?_)
            case c3 => unfold maxLen; omega
            case c4 => omega
            case c5 => have := M2b.out.grew.size; omega
            intro v2 w2 hown' hgrow _ hat
            have hm := M2b.out.app (C := C2) hown' rfl (rfl) hgrow hat
            obtain ⟨q2, hp⟩ : ∃ q, q1 ++ C2 = q := ⟨_, rfl⟩
            rw [hp] at hm
            have hpn : q2.length = q1.length + C2.length := by rw [← hp, List.length_append]
            have HP2 := Lib.hid hp
            have HPN2 := Lib.hid hpn
            obtain ⟨a2, cap2, rfl, hc21, hc22⟩ := own_slice hm.own
            have M2 := Lib.hid hm
            have hX2 := Lib.cell_of_heap hm.box
            have hl2 : q2.length ≤ q1.length + C2.length := by omega
            clear hown' hgrow hat hm hp hpn
            have HQ := Lib.hid (show o ++ encL (l.take (k + 1)) = q2 by rw [HNX.out, encR_5, ← List.append_assoc, HQ1.out, HC2.out, HP2.out])
            go_wp2_with fail
            go_roundw
            case rel => exact ⟨k + 1, q2, by simp, by omega, M2.out.own, M2.out.grew, by omega, .inl HQ.out.symm⟩
            case measure => simp [intOf] <;> omega
        · have hfar2 : 1048576 < p.length := by omega
          have hfarI : (1048576 : Int) < (p.length : Int) := by omega
          have HOO := Lib.hid (show p = o ++ encL l ∨ (1048576 < p.length ∧ 1048576 < (o ++ encL l).length) from .inr ⟨hfar2, enc_far (k := k) (hor.elim (fun h => h ▸ hfar2) (fun h => h.2))⟩)
          have HOWN := Lib.hid hown
          have HGR := Lib.hid hgr
          have HPL := Lib.hid hpl
          obtain ⟨ap, cp, rfl, hcp1, hcp2⟩ := own_slice hown
          clear hor hfar hfar2 hown hgr hpl
          go_wp2_with fail
          go_ret
          exact ⟨_, p, rfl, HOWN.out, HGR.out, by rw [HOV.out, HDD.out]; exact HPL.out, HOO.out⟩
      · have hkn : k = n := by omega
        have HOO := Lib.hid (show p = o ++ encL l ∨ (1048576 < p.length ∧ 1048576 < (o ++ encL l).length) by rw [List.take_of_length_le (by rw [HNL.out]; omega)] at hor; exact hor)
        have HOWN := Lib.hid hown
        have HGR := Lib.hid hgr
        have HPL := Lib.hid hpl
        clear hor hown hgr hpl
        go_wp2_with fail
        go_ret
        exact ⟨_, p, rfl, HOWN.out, HGR.out, by rw [HOV.out, HDD.out]; exact HPL.out, HOO.out⟩
end Go.Proofs.YtecmhpncgdjgjaaDoor
