/-
  join of package wire, walked. Conditions: the records may be (rightL = 0), their blocks lie below the row's base. (Printed by gen_join.py.)
-/
import Derived.Test.YtecmhpncgdjgjaaDoorJoinPlain
import Derived.Test.YtecmhpncgdjgjaaDoorRight
namespace Go.Proofs.YtecmhpncgdjgjaaDoor
open Go.RowKit
set_option linter.unusedVariables false

/-- What join leaves. -/
def Joins (w : World) (B : Nat) (v : Value) (o : List UInt8) (l : List Rec) (e : Ending) (w' : World) : Prop :=
  ∃ v', e = .returned (.tuple #[v', .bool (joinOk o l)]) ∧ (joinOk o l = true → OwnB w' B v' (o ++ encL l) ∧ Grew w w' v v') ∧ (joinOk o l = false → v' = .slice none 0 0) ∧ ∃ v1, Grew w w' v v1

theorem own_slice {w : World} {B : Nat} {v : Value} {l : List UInt8} (h : OwnB w B v l) : ∃ a cap, v = .slice a l.length cap ∧ l.length ≤ cap ∧ cap ≤ 9223372036854775807 := by
  rcases h.2 with ⟨rfl, h0⟩ | ⟨g, cap, cur, rfl, hbg, hg, hnc, hcm, rest⟩
  · exact ⟨_, _, by rw [h0], by omega, by omega⟩
  · exact ⟨_, _, rfl, hnc, by unfold maxLen at hcm; omega⟩

theorem kinds_grew {w w' : World} {v v' : Value} (h : Grew (w.alloc kindsB) w' v v') (hv : v.ownBlock ≠ some w.heap.size) : w'.heap[w.heap.size]? = some kindsB := by
  rw [h.by_.block _ (by rw [World.size_alloc]; omega) (fun e => hv e.symm)]
  show (w.heap.push _)[w.heap.size]? = _
  exact Array.getElem?_push_size

theorem ReadsR.at {P : Nat → Prop} {w : World} {a : Option Addr} {n cap : Nat} {l : List Rec} (h : ReadsR P w (.slice a n cap) l) (k : Nat) (hk : k < l.length) :
    ∃ (b off : Nat) (u : Value), a = Option.some ⟨b, off, Option.none⟩ ∧ P b ∧ RecAt w b (off + k * 5) (l[k]'hk) u ∧ ReadsR P w u (l[k]'hk).inner := by
  cases h with
  | none a cap hc => simp at hk
  | some b off cap l us hP hl hc hr hi => exact ⟨b, off, us k, rfl, hP, hr k hk, hi k hk⟩

theorem ReadsR.form {P : Nat → Prop} {w : World} {v : Value} {l : List Rec} (h : ReadsR P w v l) : ∃ a cap, v = .slice a l.length cap ∧ l.length ≤ cap ∧ cap ≤ 9223372036854775807 := by
  cases h with
  | none a cap hc => exact ⟨a, cap, rfl, by simp, hc⟩
  | some b off cap l us hP hl hc hr hi => exact ⟨_, cap, rfl, hl, hc⟩

theorem held_grew {B : Nat} {w w' : World} {v v' : Value} (h : Grew w w' v v') (hv : ∀ k, v.ownBlock = some k → B ≤ k) : Held (· < B) w w' :=
  fun b hb hlt => h.by_.block b hlt (fun e => by have := hv b e.symm; omega)

theorem Grew.box {w w1 : World} {v v1 : Value} {o : Obj} (h : Grew (w.alloc o) w1 v v1) (hv : v.ownBlock ≠ some w.heap.size) : w1.heap[w.heap.size]? = some o := by
  rw [h.by_.block _ (by rw [World.size_alloc]; omega) (fun e => hv e.symm)]
  show (w.heap.push _)[w.heap.size]? = _
  exact Array.getElem?_push_size

theorem join_false {o : List UInt8} {l : List Rec} {w w' : World} {B : Nat} {v v1 : Value} (h : joinOk o l = false) (hg : Grew w w' v v1) : Joins w B v o l (.returned (.tuple #[.slice none 0 0, .bool false])) w' :=
  ⟨.slice none 0 0, by rw [h], fun e => (by rw [h] at e; cases e), fun _ => rfl, v1, hg⟩

theorem vb_tag (n k : Int) : (vb (u64 (n * 8 + k))).length ≤ 10 := (vb_len10 _).2

set_option maxHeartbeats 8000000 in
set_option maxRecDepth 100000 in
theorem join_any (n : Nat) : ∀ (l : List Rec), SizeOf.sizeOf l ≤ n → ∀ (o : List UInt8) (v u : Value) (B : Nat) (w : World), ReadsR (· < B) w u l → OwnB w B v o → B ≤ w.heap.size → rightL l = 0 → o.length + 10 * deepL l ≤ 1049576 → deepL l ≤ 100 →
    Calls Tryd.prog 64 #[v, u] w (Joins w B v o l) := by
  induction n with
  | zero => intro l hl; cases l <;> simp at hl
  | succ n ih =>
    intro l hl o v u B w h hv hB hright ho hd
    obtain ⟨a, cap, rfl, hlc, hcm⟩ := h.form
    have H := Lib.hid h
    have IH := Lib.hid ih
    have HV := Lib.hid hv
    have HR := Lib.hid hright
    have HNEW := Lib.hid (own_new hv (Nat.le_refl w.heap.size))
    clear h ih hright
    go_enter Tryd.func64, Tryd.ntmps64
    go_wp2_with fail
    refine (kinds_any w).mono ?_
    rintro e w1 ⟨rfl, rfl⟩
    go_wp2
    go_loopw [0, 13] (fun v0 vi wr => ∃ k : Nat, vi = .int .i64 k ∧ k ≤ l.length ∧ OwnB wr B v0 (o ++ encL (l.take k)) ∧ Grew (w.alloc kindsB) wr v v0 ∧ (k ≠ 0 → (o ++ encL (l.take k)).length ≤ 1048576)) (fun _ vi _ => l.length - (intOf vi).toNat)
    case atStart => exact ⟨0, rfl, Nat.zero_le _, by simpa [encL] using (show OwnB (w.alloc kindsB) B v o from World.ownsRow.alloc HV.out _), Grew.refl _ _, by omega⟩
    case round =>
      obtain ⟨k, rfl, hk, hown, hgr, hmax⟩ := hrel
      have hg0 : Grew w wr v u0 := ((Grew.refl w v).alloc _).trans hgr
      have hsz := hgr.size
      rw [World.size_alloc] at hsz
      by_cases hlt : k < l.length
      · have hRd := H.out.held (held_grew hg0 (own_base HV.out))
        obtain ⟨b, off, u, rfl, hbB, hrec, hin⟩ := hRd.at k hlt
        have hbl := cell_lt hrec.c0
        obtain ⟨a2, cap2, rfl, hl2, hc2⟩ := hin.form
        have hrt := rightL_get HR.out k hlt
        have hdp := deepL_get k hlt
        have henc := encL_take k hlt
        obtain ⟨r, hRr⟩ : ∃ r, l[k]'hlt = r := ⟨_, rfl⟩
        have hins := inner_size k hlt
        rw [hRr] at hrec hin hins hrt hdp henc
        obtain ⟨nr, kd, x, t, i⟩ := r
        obtain ⟨hr1, hr2, hkc, hfit, hri⟩ := rightR_parts hrt
        obtain ⟨c0, c1, c2, c3, c4, n0, n1, n2, n3⟩ := hrec
        simp only [Rec.number, Rec.kind, Rec.num, Rec.text, Rec.inner] at c0 c1 c2 c3 c4 n0 n1 n2 n3 hin hins
        obtain ⟨p, hp⟩ : ∃ p, o ++ encL (l.take k) = p := ⟨_, rfl⟩
        have hpl : p.length + 10 * deepL l ≤ 1049576 := by
          rcases Nat.eq_zero_or_pos k with h0 | h0
          · subst h0
            rw [← hp]
            simpa [encL] using ho
          · have := hmax (by omega)
            rw [hp] at this
            omega
        have hnext : o ++ encL (l.take (k + 1)) = p ++ encR (.mk nr kd x t i) := by rw [henc, ← hp, List.append_assoc]
        rw [hp] at hown
        obtain ⟨T, hT⟩ : ∃ T : ByteArray, (⟨t.toArray⟩ : ByteArray) = T := ⟨_, rfl⟩
        have hTl : T.toList = t := by rw [← hT, ByteArray.toList_eq]
        have hTs : T.size = t.length := by rw [← hT]; rfl
        rw [hT] at c3
        have hTb : T.size ≤ 140737488355328 := by omega
        have HTL := Lib.hid hTl
        have HTS := Lib.hid hTs
        have HK := Lib.hid (Lib.cell_of_heap (kinds_grew hgr HNEW.out))
        have hwl : w.heap.size < wr.heap.size := by omega
        have HIN := Lib.hid hin
        have HNX := Lib.hid hnext
        have HFIT := Lib.hid hfit
        have HDP := Lib.hid hdp
        have HRI := Lib.hid hri
        have HOWN := Lib.hid hown
        have HGR := Lib.hid hgr
        have HG0 := Lib.hid hg0
        have hne : u0.ownBlock ≠ some wr.heap.size := own_new hown (Nat.le_refl _)
        have hneK : u0.ownBlock ≠ some w.heap.size := by
          rcases hgr.own with e | ⟨g, e, hg⟩
          · rw [e]; exact HNEW.out
          · rw [e]; intro e2; cases e2; rw [World.size_alloc] at hg; omega
        have HNE := Lib.hid hne
        have HNEK := Lib.hid hneK
        clear hin hrt hRr hRd hT hTl hTs hnext henc hp hmax hfit hdp hri hgr hg0 hne hneK hown
        rcases hkc with rfl | rfl | rfl | rfl | rfl
        · have hK : wr.cell? ⟨w.heap.size, 1, none⟩ = some (.func (.func 88) #[] #[]) := HK.out 1
          have HOR := Lib.hid (or_kind nr 0 (by omega) hr2 (by omega) (by omega))
          go_wp2_with fail
          rw [HOR.out]
          refine (varint_any B u0 p (nr * 8 + 0) _ (World.ownsRow.alloc HOWN.out _) (by simp; omega) (by omega)).mono ?_
          rintro e w2 ⟨v2, rfl, hown2, hgr2⟩
          obtain ⟨p2, hp2⟩ : ∃ p2, p ++ vb (u64 (nr * 8 + 0)) = p2 := ⟨_, rfl⟩
          rw [hp2] at hown2
          have hp2l : p2.length ≤ p.length + 10 := by rw [← hp2, List.length_append]; have := vb_tag nr 0; omega
          have HP2 := Lib.hid hp2
          clear hp2
          obtain ⟨a3, cap3, rfl, hc3, hc3m⟩ := own_slice hown2
          have hX := Lib.cell_of_heap (hgr2.box HNE.out)
          have hsz2 := hgr2.size
          rw [World.size_alloc] at hsz2
          have hB2 : B ≤ w2.heap.size := by omega
          have HG2 := Lib.hid (HG0.out.trans (((Grew.refl wr u0).alloc _).trans hgr2))
          have HGK2 := Lib.hid (HGR.out.trans (((Grew.refl wr u0).alloc _).trans hgr2))
          have HOWN2 := Lib.hid hown2
          clear hown2 hgr2
          have hK2 : w2.cell? ⟨w.heap.size, 1, none⟩ = some (.func (.func 88) #[] #[]) := Lib.cell_of_heap (kinds_grew HGK2.out HNEW.out) 1
          by_cases hbig : 1048576 < p2.length + T.size
          · have HJ := Lib.hid (joinOk_big hlt HNX.out HP2.out HTS.out HFIT.out (by omega) hbig)
            go_wp2_with fail
            go_ret2
            exact join_false HJ.out HG2.out
          · have hok : p2.length + T.size ≤ 1048576 := by omega
            clear hbig
            obtain ⟨q, hq⟩ : ∃ q, p2 ++ vb (u64 x) = q := ⟨_, rfl⟩
            have HQ := Lib.hid (show o ++ encL (l.take (k + 1)) = q by rw [HNX.out, encR_0, ← List.append_assoc, HP2.out, ← hq])
            have HQ2 := Lib.hid hq
            have hql : q.length ≤ p2.length + T.size + 20 := by rw [← hq]; simp only [List.length_append]; have := vb_len10 x; omega
            clear hq
            by_cases hqb : 1048576 < q.length
            · have HJ := Lib.hid (joinOk_not hlt HQ.out hqb)
              go_wp2_with fail
              go_region_law (first | (refine step_call rfl 88 #[.slice a3 p2.length cap3, .agg #[.int .i64 nr, .int .i64 0, .int .i64 x, .string T, .slice a2 i.length cap2]] (by kernel_rfl) (write0_any nr 0 x T a2 i.length cap2 _ B _ p2 HOWN2.out hB2 (by omega)) ?_; rintro e w3 ⟨v3, rfl, hown3, hgr3⟩; refine ⟨_, rfl, ?_⟩; rw [HQ2.out] at hown3; obtain ⟨a4, cap4, rfl, hc4, hc4m⟩ := own_slice hown3))
              all_goals
                go_wp2_with fail
                go_ret2
                exact join_false HJ.out (HG2.out.drew.trans hgr3)
            · have hq3 : q.length ≤ 1048576 := by omega
              clear hqb
              go_wp2_with fail
              go_region_law (first | (refine step_call rfl 88 #[.slice a3 p2.length cap3, .agg #[.int .i64 nr, .int .i64 0, .int .i64 x, .string T, .slice a2 i.length cap2]] (by kernel_rfl) (write0_any nr 0 x T a2 i.length cap2 _ B _ p2 HOWN2.out hB2 (by omega)) ?_; rintro e w3 ⟨v3, rfl, hown3, hgr3⟩; refine ⟨_, rfl, ?_⟩; rw [HQ2.out] at hown3; obtain ⟨a4, cap4, rfl, hc4, hc4m⟩ := own_slice hown3))
              all_goals
                go_wp2_with fail
                go_roundw
                case rel => exact ⟨k + 1, by go_num, by omega, by rw [HQ.out]; exact hown3, HGK2.out.drew.trans hgr3, fun _ => by rw [HQ.out]; exact hq3⟩
                case measure => simp [intOf]; omega
        · have hK : wr.cell? ⟨w.heap.size, 4, none⟩ = some (.func (.func 91) #[] #[]) := HK.out 4
          have HOR := Lib.hid (or_kind nr 1 (by omega) hr2 (by omega) (by omega))
          go_wp2_with fail
          rw [HOR.out]
          refine (varint_any B u0 p (nr * 8 + 1) _ (World.ownsRow.alloc HOWN.out _) (by simp; omega) (by omega)).mono ?_
          rintro e w2 ⟨v2, rfl, hown2, hgr2⟩
          obtain ⟨p2, hp2⟩ : ∃ p2, p ++ vb (u64 (nr * 8 + 1)) = p2 := ⟨_, rfl⟩
          rw [hp2] at hown2
          have hp2l : p2.length ≤ p.length + 10 := by rw [← hp2, List.length_append]; have := vb_tag nr 1; omega
          have HP2 := Lib.hid hp2
          clear hp2
          obtain ⟨a3, cap3, rfl, hc3, hc3m⟩ := own_slice hown2
          have hX := Lib.cell_of_heap (hgr2.box HNE.out)
          have hsz2 := hgr2.size
          rw [World.size_alloc] at hsz2
          have hB2 : B ≤ w2.heap.size := by omega
          have HG2 := Lib.hid (HG0.out.trans (((Grew.refl wr u0).alloc _).trans hgr2))
          have HGK2 := Lib.hid (HGR.out.trans (((Grew.refl wr u0).alloc _).trans hgr2))
          have HOWN2 := Lib.hid hown2
          clear hown2 hgr2
          have hK2 : w2.cell? ⟨w.heap.size, 4, none⟩ = some (.func (.func 91) #[] #[]) := Lib.cell_of_heap (kinds_grew HGK2.out HNEW.out) 4
          by_cases hbig : 1048576 < p2.length + T.size
          · have HJ := Lib.hid (joinOk_big hlt HNX.out HP2.out HTS.out HFIT.out (by omega) hbig)
            go_wp2_with fail
            go_ret2
            exact join_false HJ.out HG2.out
          · have hok : p2.length + T.size ≤ 1048576 := by omega
            clear hbig
            obtain ⟨q, hq⟩ : ∃ q, p2 ++ fx 8 x = q := ⟨_, rfl⟩
            have HQ := Lib.hid (show o ++ encL (l.take (k + 1)) = q by rw [HNX.out, encR_1, ← List.append_assoc, HP2.out, ← hq])
            have HQ2 := Lib.hid hq
            have hql : q.length ≤ p2.length + T.size + 20 := by rw [← hq]; simp only [List.length_append, fx_len]; omega
            clear hq
            by_cases hqb : 1048576 < q.length
            · have HJ := Lib.hid (joinOk_not hlt HQ.out hqb)
              go_wp2_with fail
              go_region_law (first | (refine step_call rfl 91 #[.slice a3 p2.length cap3, .agg #[.int .i64 nr, .int .i64 1, .int .i64 x, .string T, .slice a2 i.length cap2]] (by kernel_rfl) (write1_any nr 1 x T a2 i.length cap2 _ B _ p2 HOWN2.out hB2 (by omega)) ?_; rintro e w3 ⟨v3, rfl, hown3, hgr3⟩; refine ⟨_, rfl, ?_⟩; rw [HQ2.out] at hown3; obtain ⟨a4, cap4, rfl, hc4, hc4m⟩ := own_slice hown3))
              all_goals
                go_wp2_with fail
                go_ret2
                exact join_false HJ.out (HG2.out.drew.trans hgr3)
            · have hq3 : q.length ≤ 1048576 := by omega
              clear hqb
              go_wp2_with fail
              go_region_law (first | (refine step_call rfl 91 #[.slice a3 p2.length cap3, .agg #[.int .i64 nr, .int .i64 1, .int .i64 x, .string T, .slice a2 i.length cap2]] (by kernel_rfl) (write1_any nr 1 x T a2 i.length cap2 _ B _ p2 HOWN2.out hB2 (by omega)) ?_; rintro e w3 ⟨v3, rfl, hown3, hgr3⟩; refine ⟨_, rfl, ?_⟩; rw [HQ2.out] at hown3; obtain ⟨a4, cap4, rfl, hc4, hc4m⟩ := own_slice hown3))
              all_goals
                go_wp2_with fail
                go_roundw
                case rel => exact ⟨k + 1, by go_num, by omega, by rw [HQ.out]; exact hown3, HGK2.out.drew.trans hgr3, fun _ => by rw [HQ.out]; exact hq3⟩
                case measure => simp [intOf]; omega
        · have hK : wr.cell? ⟨w.heap.size, 7, none⟩ = some (.func (.func 94) #[] #[]) := HK.out 7
          have HOR := Lib.hid (or_kind nr 2 (by omega) hr2 (by omega) (by omega))
          go_wp2_with fail
          rw [HOR.out]
          refine (varint_any B u0 p (nr * 8 + 2) _ (World.ownsRow.alloc HOWN.out _) (by simp; omega) (by omega)).mono ?_
          rintro e w2 ⟨v2, rfl, hown2, hgr2⟩
          obtain ⟨p2, hp2⟩ : ∃ p2, p ++ vb (u64 (nr * 8 + 2)) = p2 := ⟨_, rfl⟩
          rw [hp2] at hown2
          have hp2l : p2.length ≤ p.length + 10 := by rw [← hp2, List.length_append]; have := vb_tag nr 2; omega
          have HP2 := Lib.hid hp2
          clear hp2
          obtain ⟨a3, cap3, rfl, hc3, hc3m⟩ := own_slice hown2
          have hX := Lib.cell_of_heap (hgr2.box HNE.out)
          have hsz2 := hgr2.size
          rw [World.size_alloc] at hsz2
          have hB2 : B ≤ w2.heap.size := by omega
          have HG2 := Lib.hid (HG0.out.trans (((Grew.refl wr u0).alloc _).trans hgr2))
          have HGK2 := Lib.hid (HGR.out.trans (((Grew.refl wr u0).alloc _).trans hgr2))
          have HOWN2 := Lib.hid hown2
          clear hown2 hgr2
          have hK2 : w2.cell? ⟨w.heap.size, 7, none⟩ = some (.func (.func 94) #[] #[]) := Lib.cell_of_heap (kinds_grew HGK2.out HNEW.out) 7
          by_cases hbig : 1048576 < p2.length + T.size
          · have HJ := Lib.hid (joinOk_big hlt HNX.out HP2.out HTS.out HFIT.out (by omega) hbig)
            go_wp2_with fail
            go_ret2
            exact join_false HJ.out HG2.out
          · have hok : p2.length + T.size ≤ 1048576 := by omega
            clear hbig
            obtain ⟨q, hq⟩ : ∃ q, p2 ++ vb (u64 T.size) ++ T.toList = q := ⟨_, rfl⟩
            have HQ := Lib.hid (show o ++ encL (l.take (k + 1)) = q by rw [HNX.out, encR_2, ← List.append_assoc, HP2.out, ← hq, HTS.out, HTL.out, List.append_assoc])
            have HQ2 := Lib.hid hq
            have hql : q.length ≤ p2.length + T.size + 20 := by rw [← hq]; simp only [List.length_append, str_len]; have := vb_len10 (T.size : Int); omega
            clear hq
            by_cases hqb : 1048576 < q.length
            · have HJ := Lib.hid (joinOk_not hlt HQ.out hqb)
              go_wp2_with fail
              go_region_law (first | (refine step_call rfl 94 #[.slice a3 p2.length cap3, .agg #[.int .i64 nr, .int .i64 2, .int .i64 x, .string T, .slice a2 i.length cap2]] (by kernel_rfl) (write2_any nr 2 x T a2 i.length cap2 _ B _ p2 HOWN2.out hB2 (by omega)) ?_; rintro e w3 ⟨v3, rfl, hown3, hgr3⟩; refine ⟨_, rfl, ?_⟩; rw [HQ2.out] at hown3; obtain ⟨a4, cap4, rfl, hc4, hc4m⟩ := own_slice hown3))
              all_goals
                go_wp2_with fail
                go_ret2
                exact join_false HJ.out (HG2.out.drew.trans hgr3)
            · have hq3 : q.length ≤ 1048576 := by omega
              clear hqb
              go_wp2_with fail
              go_region_law (first | (refine step_call rfl 94 #[.slice a3 p2.length cap3, .agg #[.int .i64 nr, .int .i64 2, .int .i64 x, .string T, .slice a2 i.length cap2]] (by kernel_rfl) (write2_any nr 2 x T a2 i.length cap2 _ B _ p2 HOWN2.out hB2 (by omega)) ?_; rintro e w3 ⟨v3, rfl, hown3, hgr3⟩; refine ⟨_, rfl, ?_⟩; rw [HQ2.out] at hown3; obtain ⟨a4, cap4, rfl, hc4, hc4m⟩ := own_slice hown3))
              all_goals
                go_wp2_with fail
                go_roundw
                case rel => exact ⟨k + 1, by go_num, by omega, by rw [HQ.out]; exact hown3, HGK2.out.drew.trans hgr3, fun _ => by rw [HQ.out]; exact hq3⟩
                case measure => simp [intOf]; omega
        · skip
          have HOR := Lib.hid (or_kind nr 3 (by omega) hr2 (by omega) (by omega))
          go_wp2_with fail
          rw [HOR.out]
          refine (varint_any B u0 p (nr * 8 + 3) _ (World.ownsRow.alloc HOWN.out _) (by simp; omega) (by omega)).mono ?_
          rintro e w2 ⟨v2, rfl, hown2, hgr2⟩
          obtain ⟨p2, hp2⟩ : ∃ p2, p ++ vb (u64 (nr * 8 + 3)) = p2 := ⟨_, rfl⟩
          rw [hp2] at hown2
          have hp2l : p2.length ≤ p.length + 10 := by rw [← hp2, List.length_append]; have := vb_tag nr 3; omega
          have HP2 := Lib.hid hp2
          clear hp2
          obtain ⟨a3, cap3, rfl, hc3, hc3m⟩ := own_slice hown2
          have hX := Lib.cell_of_heap (hgr2.box HNE.out)
          have hsz2 := hgr2.size
          rw [World.size_alloc] at hsz2
          have hB2 : B ≤ w2.heap.size := by omega
          have HG2 := Lib.hid (HG0.out.trans (((Grew.refl wr u0).alloc _).trans hgr2))
          have HGK2 := Lib.hid (HGR.out.trans (((Grew.refl wr u0).alloc _).trans hgr2))
          have HOWN2 := Lib.hid hown2
          have HGX := Lib.hid hgr2
          clear hown2 hgr2
          have hin2 := HIN.out.held (held_grew (((Grew.refl wr u0).alloc _).trans HGX.out) (own_base HOWN.out))
          have hdp2 : 1 + deepL i ≤ deepL l := by have := HDP.out; rw [deepR, if_pos (.inl rfl)] at this; exact this
          have hc := IH.out i (by omega) p2 (.slice a3 p2.length cap3) (.slice a2 i.length cap2) B w2 hin2 HOWN2.out hB2 (HRI.out (by simp)) (by omega) (by omega)
          have HC := Lib.hid hc
          obtain ⟨q, hq⟩ : ∃ q, p2 ++ encL i ++ vb (u64 (nr * 8 + 4)) = q := ⟨_, rfl⟩
          have HQ := Lib.hid (show o ++ encL (l.take (k + 1)) = q by rw [HNX.out, encR_3, ← List.append_assoc, HP2.out, ← List.append_assoc, hq])
          have HQ2 := Lib.hid hq
          have HOR4 := Lib.hid (or_kind nr 4 (by omega) hr2 (by omega) (by omega))
          clear hc hin2 hq
          cases hj : joinOk p2 i
          · have hqb : 1048576 < q.length := by
              rw [← HQ2.out, List.length_append]
              unfold joinOk at hj
              simp only [Bool.or_eq_false_iff, decide_eq_false_iff_not] at hj
              omega
            have HJ := Lib.hid (joinOk_not hlt HQ.out hqb)
            have HJ2 := Lib.hid hj
            clear hj hqb
            go_wp2_with fail
            refine HC.out.mono ?_
            rintro e w3 ⟨v3, rfl, _, h4, v1, h5⟩
            rw [HJ2.out]
            obtain rfl := h4 HJ2.out
            go_wp2
            go_ret2
            exact join_false HJ.out (HG2.out.trans h5)
          · have hq0 : (p2 ++ encL i).length ≤ 1049600 := by
              unfold joinOk at hj
              simp only [Bool.or_eq_true, decide_eq_true_eq] at hj
              rcases hj with hj | hj
              · have : i = [] := by simpa using hj
                rw [this]
                simp [encL]
                omega
              · omega
            have HJ2 := Lib.hid hj
            have HQ0 := Lib.hid hq0
            clear hj hq0
            by_cases hqb : 1048576 < q.length
            · have HJ := Lib.hid (joinOk_not hlt HQ.out hqb)
              go_wp2_with fail
              refine HC.out.mono ?_
              rintro e w3 ⟨v3, rfl, h4, _, _⟩
              rw [HJ2.out]
              obtain ⟨hown3, hgr3⟩ := h4 HJ2.out
              have hX3 := Lib.cell_of_heap ((HGX.out.trans hgr3).box HNE.out)
              have hsz3 := hgr3.size
              have HGR3 := Lib.hid (HG2.out.trans hgr3)
              have HOWN3 := Lib.hid hown3
              clear h4 hown3 hgr3
              go_wp2_with fail
              rw [HOR4.out]
              refine (varint_any B v3 (p2 ++ encL i) (nr * 8 + 4) _ HOWN3.out (by omega) (by have := HQ0.out; omega)).mono ?_
              rintro e w4 ⟨v4, rfl, hown4, hgr4⟩
              rw [HQ2.out] at hown4
              obtain ⟨a4, cap4, rfl, hc4, hc4m⟩ := own_slice hown4
              go_wp2_with fail
              go_ret2
              exact join_false HJ.out (HGR3.out.trans hgr4)
            · have hq3 : q.length ≤ 1048576 := by omega
              clear hqb
              go_wp2_with fail
              refine HC.out.mono ?_
              rintro e w3 ⟨v3, rfl, h4, _, _⟩
              rw [HJ2.out]
              obtain ⟨hown3, hgr3⟩ := h4 HJ2.out
              have hX3 := Lib.cell_of_heap ((HGX.out.trans hgr3).box HNE.out)
              have hsz3 := hgr3.size
              have HGR3 := Lib.hid (HGK2.out.trans hgr3)
              have HOWN3 := Lib.hid hown3
              clear h4 hown3 hgr3
              go_wp2_with fail
              rw [HOR4.out]
              refine (varint_any B v3 (p2 ++ encL i) (nr * 8 + 4) _ HOWN3.out (by omega) (by have := HQ0.out; omega)).mono ?_
              rintro e w4 ⟨v4, rfl, hown4, hgr4⟩
              rw [HQ2.out] at hown4
              obtain ⟨a4, cap4, rfl, hc4, hc4m⟩ := own_slice hown4
              go_wp2_with fail
              go_roundw
              case rel => exact ⟨k + 1, by go_num, by omega, by rw [HQ.out]; exact hown4, HGR3.out.trans hgr4, fun _ => by rw [HQ.out]; exact hq3⟩
              case measure => simp [intOf]; omega
        · have hK : wr.cell? ⟨w.heap.size, 16, none⟩ = some (.func (.func 98) #[] #[]) := HK.out 16
          have HOR := Lib.hid (or_kind nr 5 (by omega) hr2 (by omega) (by omega))
          go_wp2_with fail
          rw [HOR.out]
          refine (varint_any B u0 p (nr * 8 + 5) _ (World.ownsRow.alloc HOWN.out _) (by simp; omega) (by omega)).mono ?_
          rintro e w2 ⟨v2, rfl, hown2, hgr2⟩
          obtain ⟨p2, hp2⟩ : ∃ p2, p ++ vb (u64 (nr * 8 + 5)) = p2 := ⟨_, rfl⟩
          rw [hp2] at hown2
          have hp2l : p2.length ≤ p.length + 10 := by rw [← hp2, List.length_append]; have := vb_tag nr 5; omega
          have HP2 := Lib.hid hp2
          clear hp2
          obtain ⟨a3, cap3, rfl, hc3, hc3m⟩ := own_slice hown2
          have hX := Lib.cell_of_heap (hgr2.box HNE.out)
          have hsz2 := hgr2.size
          rw [World.size_alloc] at hsz2
          have hB2 : B ≤ w2.heap.size := by omega
          have HG2 := Lib.hid (HG0.out.trans (((Grew.refl wr u0).alloc _).trans hgr2))
          have HGK2 := Lib.hid (HGR.out.trans (((Grew.refl wr u0).alloc _).trans hgr2))
          have HOWN2 := Lib.hid hown2
          clear hown2 hgr2
          have hK2 : w2.cell? ⟨w.heap.size, 16, none⟩ = some (.func (.func 98) #[] #[]) := Lib.cell_of_heap (kinds_grew HGK2.out HNEW.out) 16
          by_cases hbig : 1048576 < p2.length + T.size
          · have HJ := Lib.hid (joinOk_big hlt HNX.out HP2.out HTS.out HFIT.out (by omega) hbig)
            go_wp2_with fail
            go_ret2
            exact join_false HJ.out HG2.out
          · have hok : p2.length + T.size ≤ 1048576 := by omega
            clear hbig
            obtain ⟨q, hq⟩ : ∃ q, p2 ++ fx 4 x = q := ⟨_, rfl⟩
            have HQ := Lib.hid (show o ++ encL (l.take (k + 1)) = q by rw [HNX.out, encR_5, ← List.append_assoc, HP2.out, ← hq])
            have HQ2 := Lib.hid hq
            have hql : q.length ≤ p2.length + T.size + 20 := by rw [← hq]; simp only [List.length_append, fx_len]; omega
            clear hq
            by_cases hqb : 1048576 < q.length
            · have HJ := Lib.hid (joinOk_not hlt HQ.out hqb)
              go_wp2_with fail
              go_region_law (first | (refine step_call rfl 98 #[.slice a3 p2.length cap3, .agg #[.int .i64 nr, .int .i64 5, .int .i64 x, .string T, .slice a2 i.length cap2]] (by kernel_rfl) (write5_any nr 5 x T a2 i.length cap2 _ B _ p2 HOWN2.out hB2 (by omega)) ?_; rintro e w3 ⟨v3, rfl, hown3, hgr3⟩; refine ⟨_, rfl, ?_⟩; rw [HQ2.out] at hown3; obtain ⟨a4, cap4, rfl, hc4, hc4m⟩ := own_slice hown3))
              all_goals
                go_wp2_with fail
                go_ret2
                exact join_false HJ.out (HG2.out.drew.trans hgr3)
            · have hq3 : q.length ≤ 1048576 := by omega
              clear hqb
              go_wp2_with fail
              go_region_law (first | (refine step_call rfl 98 #[.slice a3 p2.length cap3, .agg #[.int .i64 nr, .int .i64 5, .int .i64 x, .string T, .slice a2 i.length cap2]] (by kernel_rfl) (write5_any nr 5 x T a2 i.length cap2 _ B _ p2 HOWN2.out hB2 (by omega)) ?_; rintro e w3 ⟨v3, rfl, hown3, hgr3⟩; refine ⟨_, rfl, ?_⟩; rw [HQ2.out] at hown3; obtain ⟨a4, cap4, rfl, hc4, hc4m⟩ := own_slice hown3))
              all_goals
                go_wp2_with fail
                go_roundw
                case rel => exact ⟨k + 1, by go_num, by omega, by rw [HQ.out]; exact hown3, HGK2.out.drew.trans hgr3, fun _ => by rw [HQ.out]; exact hq3⟩
                case measure => simp [intOf]; omega
      · have HJ := Lib.hid (joinOk_end (by omega) hmax)
        have HOWN := Lib.hid (show OwnB wr B u0 (o ++ encL l) by rw [List.take_of_length_le (by omega)] at hown; exact hown)
        have HG0 := Lib.hid hg0
        clear hown hgr hmax hg0
        go_wp2
        go_ret2
        exact ⟨_, by rw [HJ.out]; rfl, fun _ => ⟨HOWN.out, HG0.out⟩, fun e => (by rw [HJ.out] at e; cases e), _, HG0.out⟩
end Go.Proofs.YtecmhpncgdjgjaaDoor
