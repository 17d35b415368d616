/-
  counted of package wire, walked. Conditions: at most so many cells as a row may have.
-/
import Derived.Test.YtecmhpncgdjgjaaDoorCountPlain
import Derived.Test.YtecmhpncgdjgjaaDoorRight
import Derived.Test.YtecmhpncgdjgjaaDoorRdr
import Derived.Deep.LoopGhost
import Derived.BigQuiet
import Derived.Laws.OwnMore
namespace Go.Proofs.YtecmhpncgdjgjaaDoor
open Go.RowKit
set_option linter.unusedVariables false

theorem infoLevel : (Tryd.prog.info? 122).map (fun i => (i.zero, i.size, i.bytes)) = some (some (.agg #[.slice none 0 0, .int .i64 0]), 2, 32) := by kernel_rfl
theorem infoLevelP : ∃ i, Tryd.prog.info? 122 = some i ∧ i.zero = some (.agg #[.slice none 0 0, .int .i64 0]) ∧ i.size = 2 ∧ i.bytes = 32 := by
  obtain ⟨i, hi, h⟩ := Option.map_eq_some_iff.1 infoLevel
  simp only [Prod.mk.injEq] at h
  exact ⟨i, hi, h.1, h.2.1, h.2.2⟩

/-- Of the records: too many, or too deep. -/
def countE (l : List Rec) : Int := if 1048576 < countL l then 2 else if 63 < deepL l then 4 else 0

/-- The row without its last element. -/
theorem own_shrink {w : World} {B size n : Nat} {e : TypeId} {g cap : Nat} {xs ys : List Value} (h : w.ownsRow B e size (.slice (some ⟨g, 0, none⟩) (n + 1) cap) (n + 1) (xs ++ ys)) (hx : xs.length = n * size) : w.ownsRow B e size (.slice (some ⟨g, 0, none⟩) n cap) n xs := by
  refine ⟨hx, ?_⟩
  rcases h.2 with ⟨h', _⟩ | ⟨g', cap', cur, h', hb, hg, hnc, hcm, hcs, htake⟩
  · simp at h'
  · injection h' with e1 e2 e3
    injection e1 with e4
    injection e4 with e5
    subst e5 e3
    refine .inr ⟨_, _, cur, rfl, hb, hg, by omega, hcm, hcs, ?_⟩
    have h2 := congrArg (List.take (n * size)) htake
    rw [List.take_take, List.take_left' hx] at h2
    rw [← h2]
    congr 1
    rw [Nat.add_mul]
    omega

theorem own_cap {w : World} {B size n : Nat} {e : TypeId} {g cap : Nat} {xs : List Value} (h : w.ownsRow B e size (.slice (some ⟨g, 0, none⟩) n cap) n xs) : n ≤ cap ∧ cap ≤ 9223372036854775807 := by
  rcases h.2 with ⟨h', _⟩ | ⟨g', cap', cur, h', hb, hg, hnc, hcm, hcs, htake⟩
  · simp at h'
  · injection h' with e1 e2 e3
    subst e3
    unfold maxLen at hcm
    exact ⟨hnc, by omega⟩

/-- A row of levels. -/
def OwnL (w : World) (B : Nat) (v : Value) (st : List Lv) : Prop := w.ownsRow B 122 2 v st.length (lvCells st)

set_option maxHeartbeats 8000000 in
set_option maxRecDepth 100000 in
theorem counted_any (l : List Rec) (v : Value) (w : World) (h : Reads w v l) : Calls Tryd.prog 62 #[v] w (Says w (.int .i64 (countE l))) := by
  obtain ⟨a, cap, rfl, hlc, hcm, _⟩ := h.form
  have H := Lib.hid h
  obtain ⟨i0, hi, hz0, hz1, hz2⟩ := infoLevelP
  clear h
  go_enter Tryd.func62, Tryd.ntmps62
  go_wp2_with fail
  go_loopg [3, 4, 5] (2 * countL l + 1) (fun g v3 v4 v5 wr => ∃ (n m : Nat) (st : List Lv), v3 = .int .i64 n ∧ v4 = .int .i64 m ∧ OwnL wr w.heap.size v5 st ∧ Below w.heap.size w wr ∧ (∀ s ∈ st, Reads w s.v s.l ∧ s.at_ ≤ s.l.length) ∧ n + rem st = countL l ∧ max m (dp 0 st) = deepL l ∧ st.length ≤ m + 1 ∧ n ≤ 1048576 ∧ m ≤ n ∧ g = 2 * rem st + st.length)
  case atStart =>
    refine ⟨0, 0, [⟨.slice a l.length cap, l, 0⟩], rfl, rfl, ?_, (Below.refl _ w).alloc (Nat.le_refl _) _, ?_, by simp [rem], by simp [dp], by simp, by omega, by omega, by simp [rem]⟩
    · exact World.ownsRow_lit w #[.slice a l.length cap, .int .i64 0] 1 (Nat.le_refl _) (by unfold maxLen; omega) rfl
    · intro s hs
      rw [List.mem_singleton.1 hs]
      exact ⟨H.out, Nat.zero_le _⟩
  case round =>
    obtain ⟨n, m, st, rfl, rfl, hown, hbw, hst, hn, hm, hlen, hn2, hmn, rfl⟩ := hrel
    have hsz := hbw.size
    rcases List.eq_nil_or_concat st with rfl | ⟨st', s, rfl⟩
    · have hv5 : ∃ a5 c5, u5 = .slice a5 0 c5 := by
        rcases hown.2 with ⟨rfl, _⟩ | ⟨g5, c5, _, rfl, _⟩
        · exact ⟨_, _, rfl⟩
        · exact ⟨_, _, rfl⟩
      obtain ⟨a5, c5, rfl⟩ := hv5
      have hn0 : n = countL l := by simpa [rem] using hn
      have hm0 : m = deepL l := by simpa [dp] using hm
      have hE := Lib.hid (show countE l = if 63 < m then 4 else 0 by unfold countE; rw [if_neg (by omega), hm0])
      have hm63 : m ≤ 9223372036854775807 := by omega
      clear hn hm hown hst hn0 hm0 hlen hmn hn2
      by_cases h63 : 63 < m
      · have h63' : (63 : Int) < (m : Int) := by omega
        go_wp2_with fail
        go_ret
        exact ⟨by rw [hE.out, if_pos h63]; rfl, hbw⟩
      · have h63' : (m : Int) ≤ 63 := by omega
        go_wp2_with fail
        go_ret
        exact ⟨by rw [hE.out, if_neg h63]; rfl, hbw⟩
    · rw [List.concat_eq_append] at hown hst hn hm hlen
      have hlen1 : (st' ++ [s]).length = st'.length + 1 := by simp
      unfold OwnL at hown
      rw [hlen1] at hown hlen
      obtain ⟨g, capS, rfl, hgB, hgl⟩ := World.ownsRow.form hown (by omega)
      obtain ⟨hcap1, hcap2⟩ := own_cap hown
      have hcells : lvCells (st' ++ [s]) = lvCells st' ++ [s.v, .int .i64 s.at_] := by rw [lvCells_append]; rfl
      have k0 : wr.cell? ⟨g, st'.length * 2, none⟩ = some s.v := by
        rw [hown.cellAt _ (by omega), hcells, List.getElem?_append_right (by rw [lvCells_len]; omega), lvCells_len]; simp
      have k1 : wr.cell? ⟨g, st'.length * 2 + 1, none⟩ = some (.int .i64 s.at_) := by
        rw [hown.cellAt _ (by omega), hcells, List.getElem?_append_right (by rw [lvCells_len]; omega), lvCells_len]; simp
      obtain ⟨hsR, hsA⟩ := hst s (by simp)
      obtain ⟨av, capv, hve, hvl, hvc, hv0⟩ := hsR.form
      clear hv0
      rw [hve] at k0
      have hfz := hown.frozenAt
      by_cases hend : s.at_ = s.l.length
      · have hE : ((s.at_ : Int) == (s.l.length : Int)) = true := by rw [hend]; simp
        go_wp2_with fail
        go_quiet (fail)
        have HM := Lib.hid (show max m (dp 0 st') = deepL l by
          rw [← hm, dp_append]
          simp only [dp, hend, List.drop_length, deepL]
          omega)
        have HN := Lib.hid (show n + rem st' = countL l by
          rw [← hn, rem_append]
          simp only [rem, hend, List.drop_length, countL]
          omega)
        have HS := Lib.hid (show ∀ x ∈ st', Reads w x.v x.l ∧ x.at_ ≤ x.l.length from fun x hx => hst x (by simp [hx]))
        have HO := Lib.hid (own_shrink (hcells ▸ hown) (lvCells_len st'))
        have HG : Hid (2 * rem st' + st'.length < 2 * rem (st'.concat s) + (st'.concat s).length) := by
          refine Lib.hid ?_
          rw [List.concat_eq_append, rem_append]
          simp
          omega
        clear hm hn hst hcells
        go_wp2
        go_roundg (2 * rem st' + st'.length)
        case measure => exact HG.out
        case rel => exact ⟨n, m, st', rfl, rfl, HO.out, below_drawn hbw _, HS.out, HN.out, HM.out, by omega, hn2, hmn, rfl⟩
      · have hlt : s.at_ < s.l.length := by omega
        have hE : ((s.at_ : Int) == (s.l.length : Int)) = false := by simp; omega
        have hb1 := below_drawn hbw
        have hRd := hsR
        rw [hve] at hRd
        obtain ⟨b, off, u, rfl, hrec0, hin⟩ := Reads.at hRd s.at_ hlt
        have hrec := hrec0.held (hbw.block b (cell_lt hrec0.c0))
        clear hrec0
        have hbl := cell_lt hrec.c0
        obtain ⟨a2, cap2, rfl, hl2, hc2, hin0⟩ := hin.form
        clear hin0
        obtain ⟨r, hRr⟩ : ∃ r, s.l[s.at_]'hlt = r := ⟨_, rfl⟩
        rw [hRr] at hrec hin
        obtain ⟨nr, kd, x, t, i⟩ := r
        obtain ⟨c0, c1, c2, c3, c4, n0, n1, n2, n3⟩ := hrec
        simp only [Rec.number, Rec.kind, Rec.num, Rec.text, Rec.inner] at c0 c1 c2 c3 c4 n0 n1 n2 n3 hin
        go_wp2_with fail
        go_quiet (fail)
        obtain ⟨wx, hwx⟩ : ∃ wx, wr.drewN nq = wx := ⟨_, rfl⟩
        have hcx : ∀ a, wx.cell? a = wr.cell? a := by rw [← hwx]; intro a; rfl
        have hsx : wx.heap.size = wr.heap.size := by rw [← hwx]; rfl
        have hheap : wx.heap = wr.heap := by rw [← hwx]; rfl
        have hbx : Below w.heap.size w wx := by rw [← hwx]; exact below_drawn hbw _
        have hox : wx.ownsRow w.heap.size 122 2 (.slice (some ⟨g, 0, none⟩) (st'.length + 1) capS) (st'.length + 1) (lvCells (st' ++ [s])) := by rw [← hwx]; exact hown
        rw [hwx]
        rw [← hcx] at k0 k1 c0 c1 c2 c3 c4
        rw [← hsx] at hgl hbl hsz
        have hfx := hox.frozenAt
        clear hwx hcx hfz hown hbw hsx
        have HM := Lib.hid hm
        have HN := Lib.hid hn
        have HST := Lib.hid hst
        have HIN := Lib.hid hin
        have hdc := countL_drop s.at_ hlt
        have hdd := deepL_drop s.at_ hlt
        rw [hRr] at hdc hdd
        simp only [Rec.kind, Rec.inner] at hdc hdd
        replace hdd : deepL (s.l.drop s.at_) = max (if kd = 3 ∨ i.isEmpty = false then 1 + deepL i else 0) (deepL (s.l.drop (s.at_ + 1))) := hdd
        have HDC := Lib.hid hdc
        have HDD := Lib.hid hdd
        clear hm hn hst hin hdc hdd hRr hRd hsR hb1 hE hheap
        go_wp2
        go_region
        obtain ⟨W, hW⟩ : ∃ W, (wx.alloc (Obj.cells #[.int .i64 nr, .int .i64 kd, .int .i64 x, .string ⟨t.toArray⟩, .slice a2 i.length cap2] 53)).drew = W := ⟨_, rfl⟩
        have hbel : Below wx.heap.size wx W := by rw [← hW]; exact ((Below.refl _ wx).alloc (Nat.le_refl _) _).drew
        have hbox : W.heap[wx.heap.size]? = some (Obj.cells #[.int .i64 nr, .int .i64 kd, .int .i64 x, .string ⟨t.toArray⟩, .slice a2 i.length cap2] 53) := by
          rw [← hW]
          show (wx.heap.push _)[wx.heap.size]? = _
          exact Array.getElem?_push_size
        have hbW : Below w.heap.size w W := hbx.trans (hbel.mono hsz)
        have howW := ownsRow_later hox hbel
        have hsW : W.heap.size = wx.heap.size + 1 := by rw [← hW]; show (wx.heap.push _).size = _; simp
        rw [hW]
        obtain ⟨o, ho⟩ : ∃ o, wx.heap.size = o := ⟨_, rfl⟩
        have hk1 : W.cell? ⟨g, st'.length * 2 + 1, none⟩ = some (.int .i64 s.at_) := (World.cell?_of_block (w := wx) (hbel.block g hgl)).trans k1
        have hfz : W.frozen? ⟨g, st'.length * 2 + 1, none⟩ = false := howW.frozenAt _
        rw [ho] at hgl hbox hsW hsz hbl ⊢
        have hgo : ¬ g = o := by omega
        have hog : ¬ o = g := by omega
        have hbox' := Lib.cell_of_heap hbox
        have HOW := Lib.hid howW
        have HBW := Lib.hid hbW
        clear hbx hox hfx hW hbel k0 k1 c0 c1 c2 c3 c4 ho howW hbW hbox
        have hcc : countL (s.l.drop s.at_) = 1 + countL i + countL (s.l.drop (s.at_ + 1)) := HDC.out
        have hremo : rem (st' ++ [s]) = rem st' + (1 + countL i + countL (s.l.drop (s.at_ + 1))) := by
          rw [rem_append]
          show rem st' + (countL (s.l.drop s.at_) + 0) = _
          omega
        have hstO := (HOW.out.stored (st'.length * 2 + 1) (.int .i64 ((s.at_ : Int) + 1))).1
        have hcs : (lvCells (st' ++ [s])).set (st'.length * 2 + 1) (.int .i64 ((s.at_ : Int) + 1)) = lvCells (st' ++ [⟨s.v, s.l, s.at_ + 1⟩]) := by
          rw [hcells, List.set_append_right _ _ (by rw [lvCells_len]; omega), lvCells_len, lvCells_append]
          simp [lvCells]
        rw [hcs] at hstO
        have HSTO := Lib.hid hstO
        have HREM := Lib.hid hremo
        have HCNT := Lib.hid (show n + (rem st' + (1 + countL i + countL (s.l.drop (s.at_ + 1)))) = countL l by rw [← hremo]; exact HN.out)
        clear hcells hstO hcs hremo hcc hlen1 hve hl2 hend
        by_cases hbig : 1048576 ≤ n
        · have hV := Lib.hid (show countE l = 2 from if_pos (by have := HCNT.out; omega))
          obtain ⟨nn, hn1⟩ : ∃ nn : Nat, n + 1 = nn := ⟨_, rfl⟩
          have hni : (n : Int) + 1 = (nn : Int) := by omega
          have hni2 : (1048576 : Int) < (nn : Int) := by omega
          have hni3 : (nn : Int) < 2000000 := by omega
          clear hn2 hmn hbig hn1
          go_wp2_with fail
          go_ret
          exact ⟨by rw [hV.out]; rfl, HBW.out.trans ((Below.refl _ _).setCell (by show w.heap.size ≤ g; omega) _)⟩
        · have hnb : n + 1 ≤ 1048576 := by omega
          obtain ⟨nn, hn1⟩ : ∃ nn : Nat, n + 1 = nn := ⟨_, rfl⟩
          have hni : (n : Int) + 1 = (nn : Int) := by omega
          have hni2 : (nn : Int) ≤ 1048576 := by omega
          have HN1 := Lib.hid hn1
          have HN2 := Lib.hid (And.intro hn2 hmn)
          have HL := Lib.hid hlen
          have HRS := Lib.hid (show rem (st' ++ [⟨s.v, s.l, s.at_ + 1⟩]) = rem st' + countL (s.l.drop (s.at_ + 1)) by rw [rem_append]; rfl)
          have HDO := Lib.hid (show max m (max (dp 0 st') (st'.length + deepL (s.l.drop s.at_))) = deepL l by rw [← HM.out, dp_append]; simp [dp])
          have HDS := Lib.hid (show dp 0 (st' ++ [⟨s.v, s.l, s.at_ + 1⟩]) = max (dp 0 st') (st'.length + deepL (s.l.drop (s.at_ + 1))) by rw [dp_append]; simp [dp])
          have HB2 := Lib.hid (show Below w.heap.size w (W.setCell ⟨g, st'.length * 2 + 1, none⟩ (.int .i64 ((s.at_ : Int) + 1))) from HBW.out.trans ((Below.refl _ _).setCell (by show w.heap.size ≤ g; omega) _))
          have HS2 := Lib.hid (show ∀ y ∈ st' ++ [⟨s.v, s.l, s.at_ + 1⟩], Reads w y.v y.l ∧ y.at_ ≤ y.l.length from fun y hy => by
            rcases List.mem_append.1 hy with h1 | h1
            · exact HST.out y (List.mem_append.2 (.inl h1))
            · rw [List.mem_singleton.1 h1]
              exact ⟨(HST.out s (by simp)).1, hlt⟩)
          clear hn2 hmn hbig hnb hn1 hlen
          cases hk3 : (kd == 3 : Bool)
          · by_cases hin0 : 0 < i.length
            · have HD1 := Lib.hid (show deepL (s.l.drop s.at_) = max (1 + deepL i) (deepL (s.l.drop (s.at_ + 1))) by rw [HDD.out, if_pos (.inr (by cases i <;> simp at hin0 ⊢))])
              have hsz2 : w.heap.size ≤ W.heap.size := by omega
              have hin1 : (0 : Int) < (i.length : Int) := by omega
              have hin2 : decide ((0 : Int) < (i.length : Int)) = true := by simp; omega
              obtain ⟨mx, hmxe⟩ : ∃ mx, max m (st'.length + 1) = mx := ⟨_, rfl⟩
              have hmx : (if (m : Int) < (st'.length : Int) + 1 then (st'.length : Int) + 1 else (m : Int)) = (mx : Int) := by split <;> omega
              have HMX := Lib.hid hmxe
              clear hmxe
              have hgs : st'.length ≤ 1048576 := by have := HL.out; have := HN2.out; omega
              go_wp2_with (at_builtin; refine wpList_append_own_at _ rfl _ _ 123 rfl w.heap.size 122 i0 (.agg #[.slice none 0 0, .int .i64 0]) 2 32 Tryd.underlying123 hi hz0 hz1 hz2 rfl (by decide) _ _ _ rfl (World.ownsRow.alloc HSTO.out _) ⟨o + 1, 0, none⟩ 1 1 [.slice a2 i.length cap2, .int .i64 0] rfl rfl ?c1 ?c2 ?c3 ?c4 ?c5 ?_)
              case c1 => exact news_row (by simp [hsW])
              case c2 => intro u hu; simp at hu; rcases hu with rfl | rfl <;> rfl
              case c3 => unfold maxLen; omega
              case c4 => omega
              case c5 => simp; omega
              intro v' w5 hown' hgrow _ hat
              have HOW5 := Lib.hid (show OwnL w5 w.heap.size v' (st' ++ [⟨s.v, s.l, s.at_ + 1⟩] ++ [⟨.slice a2 i.length cap2, i, 0⟩]) by
                unfold OwnL
                rw [List.length_append, List.length_append, lvCells_append (st' ++ [_])]
                exact hown')
              have HB5 := Lib.hid (HB2.out.trans (((Below.refl w.heap.size _).alloc (by rw [World.size_setCell]; exact hsz2) _).grown hgrow (by simp; omega) (own_base HSTO.out)))
              clear hown' hgrow hat
              go_wp2
              go_roundg (2 * rem (st' ++ [⟨s.v, s.l, s.at_ + 1⟩] ++ [⟨.slice a2 i.length cap2, i, 0⟩]) + (st'.length + 2))
              case measure =>
                have e1 := HREM.out
                have e2 := HRS.out
                rw [List.concat_eq_append, e1, rem_append (st' ++ [_]), e2]
                simp only [List.length_append, List.length_cons, List.length_nil, rem, List.drop_zero]
                omega
              case rel =>
                have hme := HMX.out
                refine ⟨nn, mx, st' ++ [⟨s.v, s.l, s.at_ + 1⟩] ++ [⟨.slice a2 i.length cap2, i, 0⟩], rfl, rfl, HOW5.out, HB5.out, ?_, ?_, ?_, ?_, by omega, ?_, ?_⟩
                · intro y hy
                  rcases List.mem_append.1 hy with h1 | h1
                  · exact HS2.out y h1
                  · rw [List.mem_singleton.1 h1]
                    exact ⟨HIN.out, Nat.zero_le _⟩
                · have e1 := HCNT.out
                  have e2 := HRS.out
                  have e3 := HN1.out
                  rw [rem_append (st' ++ [_]), e2]
                  simp only [rem, List.drop_zero]
                  omega
                · have e1 := HDO.out
                  have e2 := HDS.out
                  have e3 := HD1.out
                  rw [dp_append (st' ++ [_]), e2, ← e1, e3]
                  simp only [dp, List.drop_zero, List.length_append, List.length_cons, List.length_nil]
                  omega
                · simp only [List.length_append, List.length_cons, List.length_nil]; omega
                · have e1 := HN2.out; have e2 := HN1.out; have e3 := HL.out; omega
                · simp only [List.length_append, List.length_cons, List.length_nil]
            · have hie : i = [] := List.eq_nil_of_length_eq_zero (by omega)
              subst hie
              have HD0 := Lib.hid (show deepL (s.l.drop s.at_) = deepL (s.l.drop (s.at_ + 1)) by rw [HDD.out, if_neg (by simp at hk3; simp [hk3])]; simp)
              go_wp2_with fail
              go_roundg (2 * rem (st' ++ [⟨s.v, s.l, s.at_ + 1⟩]) + (st'.length + 1))
              case measure =>
                have e1 := HREM.out
                have e2 := HRS.out
                rw [List.concat_eq_append, e1, e2]
                simp only [List.length_append, List.length_cons, List.length_nil, countL]
                omega
              case rel =>
                refine ⟨nn, m, st' ++ [⟨s.v, s.l, s.at_ + 1⟩], rfl, rfl, ?_, HB2.out, HS2.out, ?_, ?_, ?_, by omega, ?_, ?_⟩
                · have := HSTO.out
                  unfold OwnL
                  rw [List.length_append]
                  exact this
                · have e1 := HCNT.out
                  have e2 := HRS.out
                  have e3 := HN1.out
                  simp only [countL] at e1
                  omega
                · have e1 := HDO.out
                  have e2 := HDS.out
                  have e3 := HD0.out
                  rw [e2, ← e1, e3]
                · have := HL.out; simp only [List.length_append, List.length_cons, List.length_nil]; omega
                · have := HN2.out; have := HN1.out; omega
                · simp only [List.length_append, List.length_cons, List.length_nil]
          · have HD1 := Lib.hid (show deepL (s.l.drop s.at_) = max (1 + deepL i) (deepL (s.l.drop (s.at_ + 1))) by rw [HDD.out, if_pos (.inl (by simpa using hk3))])
            have hsz2 : w.heap.size ≤ W.heap.size := by omega
            obtain ⟨mx, hmxe⟩ : ∃ mx, max m (st'.length + 1) = mx := ⟨_, rfl⟩
            have hmx : (if (m : Int) < (st'.length : Int) + 1 then (st'.length : Int) + 1 else (m : Int)) = (mx : Int) := by split <;> omega
            have HMX := Lib.hid hmxe
            clear hmxe
            have hgs : st'.length ≤ 1048576 := by have := HL.out; have := HN2.out; omega
            go_wp2_with (at_builtin; refine wpList_append_own_at _ rfl _ _ 123 rfl w.heap.size 122 i0 (.agg #[.slice none 0 0, .int .i64 0]) 2 32 Tryd.underlying123 hi hz0 hz1 hz2 rfl (by decide) _ _ _ rfl (World.ownsRow.alloc HSTO.out _) ⟨o + 1, 0, none⟩ 1 1 [.slice a2 i.length cap2, .int .i64 0] rfl rfl ?c1 ?c2 ?c3 ?c4 ?c5 ?_)
            case c1 => exact news_row (by simp [hsW])
            case c2 => intro u hu; simp at hu; rcases hu with rfl | rfl <;> rfl
            case c3 => unfold maxLen; omega
            case c4 => omega
            case c5 => simp; omega
            intro v' w5 hown' hgrow _ hat
            have HOW5 := Lib.hid (show OwnL w5 w.heap.size v' (st' ++ [⟨s.v, s.l, s.at_ + 1⟩] ++ [⟨.slice a2 i.length cap2, i, 0⟩]) by
              unfold OwnL
              rw [List.length_append, List.length_append, lvCells_append (st' ++ [_])]
              exact hown')
            have HB5 := Lib.hid (HB2.out.trans (((Below.refl w.heap.size _).alloc (by rw [World.size_setCell]; exact hsz2) _).grown hgrow (by simp; omega) (own_base HSTO.out)))
            clear hown' hgrow hat
            go_wp2
            go_roundg (2 * rem (st' ++ [⟨s.v, s.l, s.at_ + 1⟩] ++ [⟨.slice a2 i.length cap2, i, 0⟩]) + (st'.length + 2))
            case measure =>
              have e1 := HREM.out
              have e2 := HRS.out
              rw [List.concat_eq_append, e1, rem_append (st' ++ [_]), e2]
              simp only [List.length_append, List.length_cons, List.length_nil, rem, List.drop_zero]
              omega
            case rel =>
              have hme := HMX.out
              refine ⟨nn, mx, st' ++ [⟨s.v, s.l, s.at_ + 1⟩] ++ [⟨.slice a2 i.length cap2, i, 0⟩], rfl, rfl, HOW5.out, HB5.out, ?_, ?_, ?_, ?_, by omega, ?_, ?_⟩
              · intro y hy
                rcases List.mem_append.1 hy with h1 | h1
                · exact HS2.out y h1
                · rw [List.mem_singleton.1 h1]
                  exact ⟨HIN.out, Nat.zero_le _⟩
              · have e1 := HCNT.out
                have e2 := HRS.out
                have e3 := HN1.out
                rw [rem_append (st' ++ [_]), e2]
                simp only [rem, List.drop_zero]
                omega
              · have e1 := HDO.out
                have e2 := HDS.out
                have e3 := HD1.out
                rw [dp_append (st' ++ [_]), e2, ← e1, e3]
                simp only [dp, List.drop_zero, List.length_append, List.length_cons, List.length_nil]
                omega
              · simp only [List.length_append, List.length_cons, List.length_nil]; omega
              · have e1 := HN2.out; have e2 := HN1.out; have e3 := HL.out; omega
              · simp only [List.length_append, List.length_cons, List.length_nil]
end Go.Proofs.YtecmhpncgdjgjaaDoor
