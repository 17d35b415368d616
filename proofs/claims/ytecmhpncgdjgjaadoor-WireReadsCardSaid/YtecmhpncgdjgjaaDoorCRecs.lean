/-
  records of the reference's cursor, walked. Conditions: as for the cursor; the group number is 0 just where none is open.
-/
import Derived.Test.YtecmhpncgdjgjaaDoorBeh
namespace Go.Proofs.YtecmhpncgdjgjaaDoor
open Go.RowKit
set_option linter.unusedVariables false
set_option linter.unusedSimpArgs false

theorem recsR_beh (st : Bool) (b : List UInt8) (most f : Nat) (number : Int) (op p : Nat) (h : ¬ b.length ≤ p) (h1 : (gRd st b p).2.2.1 = 0) (h4 : (gRd st b p).2.1 ≠ 4) (h3 : (gRd st b p).2.1 = 3 → op ≠ most) (acc : List Rec) :
    pre acc (recsR st b most (f + 1) number op p) = (if (behR st b most f (gRd st b p).1 (gRd st b p).2.1 op (gRd st b p).2.2.2).2.1 ≠ 0 then ([], (behR st b most f (gRd st b p).1 (gRd st b p).2.1 op (gRd st b p).2.2.2).2) else pre (acc ++ [(behR st b most f (gRd st b p).1 (gRd st b p).2.1 op (gRd st b p).2.2.2).1]) (recsR st b most f number op (behR st b most f (gRd st b p).1 (gRd st b p).2.1 op (gRd st b p).2.2.2).2.2)) := by
  by_cases hk : (gRd st b p).2.1 = 3
  · rw [recsR_3 _ _ _ _ _ _ _ h h1 hk (h3 hk)]
    unfold behR
    rw [if_pos hk]
  · rw [recsR_c _ _ _ _ _ _ _ h h1 hk h4]
    unfold behR
    rw [if_neg hk]
theorem behR_facts (st : Bool) (b : List UInt8) (most f : Nat) (n k : Int) (op q : Nat) (hq : q ≤ b.length) (hn : 1 ≤ n ∧ n ≤ 536870911) (hk : 0 ≤ k ∧ k ≤ 5) (hb : b.length ≤ 1048576) :
    q ≤ (behR st b most f n k op q).2.2 ∧ (behR st b most f n k op q).2.2 ≤ b.length ∧ RecOk (behR st b most f n k op q).1 := by
  unfold behR
  split
  · have h := recsR_facts st b most f n (op + 1) q hq
    exact ⟨h.2.1, h.2.2.1, ⟨⟨by show _ ≤ n; omega, by show n < _; omega⟩, ⟨by show _ ≤ (3 : Int); omega, by show (3 : Int) < _; omega⟩, ⟨by show _ ≤ (0 : Int); omega, by show (0 : Int) < _; omega⟩, by simp [Rec.text]⟩⟩
  · have h := cRd_place st k b q hq
    exact ⟨h.2.1, h.1, ⟨⟨by show _ ≤ n; omega, by show n < _; omega⟩, ⟨by show _ ≤ k; omega, by show k < _; omega⟩, h.2.2.2, by show (cRd st k b q).2.1.length ≤ _; have := h.2.2.1; omega⟩⟩

theorem cout_err {w w' : World} {p : Nat} {st : Bool} {b : List UInt8} {a : Option Addr} {cap : Nat} {R : List Rec × Int × Nat} {er : Int} {q2 : Nat} (hV : R = ([], er, q2)) (h1 : CrAt w' p st b q2 a cap) (h2 : Turn w.heap.size p w w') :
    CrecsOut w p st b a cap R (.returned (.tuple #[.slice none 0 0, .int .i64 er])) w' := by
  subst hV
  exact ⟨_, rfl, .none _ _ (by omega), fun _ => rfl, h1, h2⟩
theorem cout_ok {w w' : World} {p : Nat} {st : Bool} {b : List UInt8} {a : Option Addr} {cap : Nat} {R : List Rec × Int × Nat} {v : Value} {L : List (Rec × Value)} {q2 : Nat} (hV : R = (L.map (·.1), 0, q2)) (hL : LOk w' w.heap.size v L) (h1 : CrAt w' p st b q2 a cap) (h2 : Turn w.heap.size p w w') :
    CrecsOut w p st b a cap R (.returned (.tuple #[v, .int .i64 0])) w' := by
  subst hV
  exact ⟨_, rfl, hL.reads, fun e => absurd rfl e, h1, h2⟩

set_option maxHeartbeats 16000000 in
set_option maxRecDepth 100000 in
theorem crecs_any (st : Bool) (b : List UInt8) (most : Nat) (N : Nat) : ∀ (F : Nat), F ≤ N → ∀ (number : Int) (op : Nat) (w : World) (p : Nat) (q : Nat) (a : Option Addr) (cap : Nat), CrAt w p st b q a cap → b.length < q + F → (op = 0 ↔ number = 0) → op + F ≤ 2000000 →
    Calls Tryd.prog 85 #[.pointer (some ⟨p, 0, none⟩), .int .i64 number, .int .i64 op, .int .i64 most] w (CrecsOut w p st b a cap (recsR st b most F number op q)) := by
  induction N with
  | zero => intro F hF number op w p q a cap h hf; have := h.hq; omega
  | succ N ih =>
    intro F hF number op w p q a cap h hf hon hopF
    have IH := Lib.hid ih
    have HON := Lib.hid hon
    obtain ⟨i0, hi, hz0, hz1, hz2⟩ := infoRecP
    obtain ⟨R, hR⟩ : ∃ R, recsR st b most F number op q = R := ⟨_, rfl⟩
    have hR0 : pre [] R = R := pre_nil (by rw [← hR]; exact (recsR_facts st b most F number op q h.hq).1)
    rw [hR]
    have HR := Lib.hid hR
    have HR0 := Lib.hid hR0
    have HP := Lib.hid h
    have hpl := h.lt
    have hbl := h.hb
    clear ih hR hR0 h hon
    go_enter Tryd.func85, Tryd.ntmps85
    go_wp2_with fail
    go_loopg [10] F (fun f v10 wr => ∃ (L : List (Rec × Value)) (q' : Nat), LOk wr w.heap.size v10 L ∧ CrAt wr p st b q' a cap ∧ Turn w.heap.size p w wr ∧ b.length < q' + f ∧ L.length ≤ q' ∧ f ≤ F ∧ R = pre (L.map (·.1)) (recsR st b most f number op q'))
    case atStart => exact ⟨[], q, LOk.nil _ _, HP.out, Turn.refl _ _ _, hf, Nat.zero_le _, Nat.le_refl _, by rw [← HR0.out, ← HR.out]; rfl⟩
    case round =>
      obtain ⟨L, q', hL, hRd, ht, hfq, hLq, hfF, hRR⟩ := hrel
      have hq' := hRd.hq
      have hsz := ht.size
      obtain ⟨f', rfl⟩ : ∃ f', gk = f' + 1 := ⟨gk - 1, by omega⟩
      have k1 := hRd.c1
      have k2 := hRd.c2
      by_cases hlt : q' < b.length
      · have hge : ¬ b.length ≤ q' := by omega
        have hqe : ((q' : Int) == (b.length : Int)) = false := by simp; omega
        have hgp := gRd_place st b q' hq'
        have hgn := gRd_nums st b q'
        obtain ⟨⟨n, k, er, q1⟩, hg⟩ : ∃ r, gRd st b q' = r := ⟨_, rfl⟩
        have HTAG := Lib.hid (fun (W : World) (hW : CrAt W p st b q' a cap) => hg ▸ crTag_any W p st b q' a cap hW)
        rw [hg] at hgp hgn
        simp only at hgp hgn
        have HG := Lib.hid hg
        have HRR := Lib.hid hRR
        have HT := Lib.hid ht
        have HL := Lib.hid hL
        have HRD := Lib.hid hRd
        obtain ⟨hg1, hg2, hg3, hg4⟩ := hgp
        clear hg hRR ht hL hRd
        cases her : (er != 0 : Bool)
        · have he0 : er = 0 := by simpa using her
          obtain ⟨hn1, hn2, hk0, hk5⟩ := hgn he0
          have hg5 := hg3 he0
          subst he0
          clear hg3 hg4 hgn
          cases hk4 : (k == 4 : Bool)
          · cases hdeep : (k == 3 && (op : Int) == (most : Int) : Bool)
            · have hk4' : k ≠ 4 := by simpa using hk4
              have hd3 : k = 3 → op ≠ most := by
                intro e1 e2
                rw [e1, e2] at hdeep
                simp at hdeep
              have hbf := behR_facts st b most f' n k op q1 hg1 ⟨hn1, hn2⟩ ⟨hk0, hk5⟩ hbl
              obtain ⟨B, hB⟩ : ∃ B, behR st b most f' n k op q1 = B := ⟨_, rfl⟩
              have HS2 := Lib.hid (show R = if B.2.1 ≠ 0 then ([], B.2) else pre (L.map (·.1) ++ [B.1]) (recsR st b most f' number op B.2.2) from HRR.out.trans ((recsR_beh st b most f' number op q' hge (by rw [HG.out]) (by rw [HG.out]; exact hk4') (by rw [HG.out]; exact hd3) (L.map (·.1))).trans (by rw [HG.out]; simp only [hB])))
              have HBEH := Lib.hid (fun (W : World) (hW : CrAt W p st b q1 a cap) => hB ▸ behind_any st b most f' n k op q1 W p a cap hW (by omega) (by omega) (fun hk3 W2 hW2 => IH.out f' (by omega) n (op + 1) W2 p q1 a cap hW2 (by omega) (by constructor <;> intro e <;> omega) (by omega)))
              rw [hB] at hbf
              clear hB
              obtain ⟨br, be, bq⟩ := B
              simp only at hbf
              obtain ⟨hb1, hb2, hbok⟩ := hbf
              have HOK := Lib.hid hbok
              clear hbok hd3
              have hg3 : ∀ x : Bool, (k == 3) = x → (x && ((op : Int) == (most : Int))) = false := by intro x hx; rw [← hx]; exact hdeep
              cases hk3 : (k == 3 : Bool)
              · cases hie : (be != 0 : Bool)
                · have hie0 : be = 0 := by simpa using hie
                  subst hie0
                  have HV := Lib.hid (HS2.out.trans (if_neg (by simp)))
                  go_wp2_with fail
                  go_quiet (fail)
                  obtain ⟨w1, hw1⟩ : ∃ w1, wr.drewN nq = w1 := ⟨_, rfl⟩
                  have hb1 : Below wr.heap.size wr w1 := by rw [← hw1]; exact below_drawn (Below.refl _ _) _
                  rw [hw1]
                  clear hw1 k1 k2
                  have hR1 := HRD.out.later hb1
                  have k1 := hR1.c1
                  go_wp2_with fail
                  refine (HTAG.out w1 hR1).mono ?_
                  rintro e w2 ⟨rfl, hR2, ht2⟩
                  have k1 := hR2.c1
                  have kz := hR2.fz
                  have hs2 : wr.heap.size ≤ w2.heap.size := by have := hb1.size; have := ht2.size; omega
                  have HT2 := Lib.hid (((HT.out.trans (.of (hb1.mono hsz))).trans (ht2.mono (by have := hb1.size; omega))))
                  have HL2 := Lib.hid ((HL.out.turn (.of hb1) hpl).turn ht2 hpl)
                  have HR2 := Lib.hid hR2
                  clear hb1 ht2 hR1 hR2
                  go_wp2_with fail
                  refine (HBEH.out w2 HR2.out).mono ?_
                  rintro e w3 ⟨v, rfl, hrd, hR3, ht3⟩
                  simp only at hR3 hrd
                  obtain ⟨a2, cap2, rfl, _, _⟩ := hrd.form
                  have hs3 := ht3.size
                  obtain ⟨bn, bk, bx, bt, bi⟩ := br
                  simp only [Rec.number, Rec.kind, Rec.num, Rec.text, Rec.inner] at hrd
                  have HT3 := Lib.hid ht3
                  have HRD3 := Lib.hid hrd
                  have HR3 := Lib.hid hR3
                  clear hrd hR3 ht3
                  have hTW := (HT3.out.trans ((Turn.of (alloc_below w3 (.cells #[.int .i64 bn, .int .i64 bk, .int .i64 bx, .string ⟨bt.toArray⟩, .slice a2 bi.length cap2] 53))).mono hs3)).trans ((Turn.of (alloc_below _ (.cells #[.int .i64 bn, .int .i64 bk, .int .i64 bx, .string ⟨bt.toArray⟩, .slice a2 bi.length cap2] 53))).mono (by simp; omega))
                  have hLW := HL2.out.turn hTW hpl
                  have hRW := HP.out.stay HR3.out (((alloc_below w3 (.cells #[.int .i64 bn, .int .i64 bk, .int .i64 bx, .string ⟨bt.toArray⟩, .slice a2 bi.length cap2] 53)).mono (by omega)).trans ((alloc_below _ (.cells #[.int .i64 bn, .int .i64 bk, .int .i64 bx, .string ⟨bt.toArray⟩, .slice a2 bi.length cap2] 53)).mono (by simp; omega)))
                  have HTW := Lib.hid hTW
                  have HLW := Lib.hid hLW
                  have HRW := Lib.hid hRW
                  clear hTW hLW hRW
                  go_wp2_with (at_builtin; refine wpList_append_own_at _ rfl _ _ 36 rfl w.heap.size 53 i0 (.agg #[.int .i64 0, .int .i64 0, .int .i64 0, .string ⟨#[]⟩, .slice none 0 0]) 5 64 Tryd.underlying36 hi hz0 hz1 hz2 rfl (by decide) _ _ _ rfl HLW.out.own ⟨w3.heap.size + 1, 0, none⟩ 1 1 (five (.mk bn bk bx bt bi, .slice a2 bi.length cap2)) rfl rfl ?c1 ?c2 ?c3 ?c4 ?c5 ?_)
                  case c1 => exact news_row (by simp)
                  case c2 => intro u hu; simp [five] at hu; rcases hu with rfl | rfl | rfl | rfl | rfl <;> rfl
                  case c3 => unfold maxLen; omega
                  case c4 => omega
                  case c5 => simp; omega
                  intro v' w5 hown' hgrow _ hat
                  have hput := LOk.put (x := (.mk bn bk bx bt bi, .slice a2 bi.length cap2)) HLW.out hown' hgrow (by simpa using hat) HOK.out ((HRD3.out.held (fun k hk hl => ((alloc_below _ _).block k (by simp; omega)).trans ((alloc_below _ _).block k hl))).mono fun k hk => ⟨by omega, own_new HL2.out.own hk⟩)
                  have hB5 := (Below.refl w.heap.size _).grown hgrow (by simp; omega) (own_base HLW.out.own)
                  have HL5 := Lib.hid hput
                  have HR5 := Lib.hid (HP.out.stay HRW.out hB5)
                  have HT5 := Lib.hid ((HT2.out.trans (HTW.out.mono (by omega))).trans (.of hB5))
                  clear hown' hgrow hat hput hB5
                  go_wp2
                  go_roundg f'
                  case measure => omega
                  case rel => exact ⟨L ++ [(.mk bn bk bx bt bi, .slice a2 bi.length cap2)], bq, HL5.out, HR5.out, HT5.out, by omega, by simp; omega, by omega, by rw [HV.out]; simp⟩
                · have HV := Lib.hid (HS2.out.trans (if_pos (by simpa using hie)))
                  go_wp2_with fail
                  go_quiet (fail)
                  obtain ⟨w1, hw1⟩ : ∃ w1, wr.drewN nq = w1 := ⟨_, rfl⟩
                  have hb1 : Below wr.heap.size wr w1 := by rw [← hw1]; exact below_drawn (Below.refl _ _) _
                  rw [hw1]
                  clear hw1 k1 k2
                  have hR1 := HRD.out.later hb1
                  have k1 := hR1.c1
                  go_wp2_with fail
                  refine (HTAG.out w1 hR1).mono ?_
                  rintro e w2 ⟨rfl, hR2, ht2⟩
                  have k1 := hR2.c1
                  have kz := hR2.fz
                  have hs2 : wr.heap.size ≤ w2.heap.size := by have := hb1.size; have := ht2.size; omega
                  have HT2 := Lib.hid (((HT.out.trans (.of (hb1.mono hsz))).trans (ht2.mono (by have := hb1.size; omega))))
                  have HL2 := Lib.hid ((HL.out.turn (.of hb1) hpl).turn ht2 hpl)
                  have HR2 := Lib.hid hR2
                  clear hb1 ht2 hR1 hR2
                  go_wp2_with fail
                  refine (HBEH.out w2 HR2.out).mono ?_
                  rintro e w3 ⟨v, rfl, hrd, hR3, ht3⟩
                  simp only at hR3 hrd
                  obtain ⟨a2, cap2, rfl, _, _⟩ := hrd.form
                  have hs3 := ht3.size
                  have HT3 := Lib.hid (HT2.out.trans (ht3.mono (by omega)))
                  have HR3 := Lib.hid hR3
                  clear hrd hR3 ht3
                  go_wp2_with fail
                  go_ret2
                  exact cout_err HV.out (HR3.out.later (alloc_below _ _)) (HT3.out.trans (.of ((alloc_below _ _).mono (by omega))))
              · have hom : ((op : Int) == (most : Int)) = false := by rw [hk3] at hdeep; simpa using hdeep
                cases hie : (be != 0 : Bool)
                · have hie0 : be = 0 := by simpa using hie
                  subst hie0
                  have HV := Lib.hid (HS2.out.trans (if_neg (by simp)))
                  go_wp2_with fail
                  go_quiet (fail)
                  obtain ⟨w1, hw1⟩ : ∃ w1, wr.drewN nq = w1 := ⟨_, rfl⟩
                  have hb1 : Below wr.heap.size wr w1 := by rw [← hw1]; exact below_drawn (Below.refl _ _) _
                  rw [hw1]
                  clear hw1 k1 k2
                  have hR1 := HRD.out.later hb1
                  have k1 := hR1.c1
                  go_wp2_with fail
                  refine (HTAG.out w1 hR1).mono ?_
                  rintro e w2 ⟨rfl, hR2, ht2⟩
                  have k1 := hR2.c1
                  have kz := hR2.fz
                  have hs2 : wr.heap.size ≤ w2.heap.size := by have := hb1.size; have := ht2.size; omega
                  have HT2 := Lib.hid (((HT.out.trans (.of (hb1.mono hsz))).trans (ht2.mono (by have := hb1.size; omega))))
                  have HL2 := Lib.hid ((HL.out.turn (.of hb1) hpl).turn ht2 hpl)
                  have HR2 := Lib.hid hR2
                  clear hb1 ht2 hR1 hR2
                  go_wp2_with fail
                  refine (HBEH.out w2 HR2.out).mono ?_
                  rintro e w3 ⟨v, rfl, hrd, hR3, ht3⟩
                  simp only at hR3 hrd
                  obtain ⟨a2, cap2, rfl, _, _⟩ := hrd.form
                  have hs3 := ht3.size
                  obtain ⟨bn, bk, bx, bt, bi⟩ := br
                  simp only [Rec.number, Rec.kind, Rec.num, Rec.text, Rec.inner] at hrd
                  have HT3 := Lib.hid ht3
                  have HRD3 := Lib.hid hrd
                  have HR3 := Lib.hid hR3
                  clear hrd hR3 ht3
                  have hTW := (HT3.out.trans ((Turn.of (alloc_below w3 (.cells #[.int .i64 bn, .int .i64 bk, .int .i64 bx, .string ⟨bt.toArray⟩, .slice a2 bi.length cap2] 53))).mono hs3)).trans ((Turn.of (alloc_below _ (.cells #[.int .i64 bn, .int .i64 bk, .int .i64 bx, .string ⟨bt.toArray⟩, .slice a2 bi.length cap2] 53))).mono (by simp; omega))
                  have hLW := HL2.out.turn hTW hpl
                  have hRW := HP.out.stay HR3.out (((alloc_below w3 (.cells #[.int .i64 bn, .int .i64 bk, .int .i64 bx, .string ⟨bt.toArray⟩, .slice a2 bi.length cap2] 53)).mono (by omega)).trans ((alloc_below _ (.cells #[.int .i64 bn, .int .i64 bk, .int .i64 bx, .string ⟨bt.toArray⟩, .slice a2 bi.length cap2] 53)).mono (by simp; omega)))
                  have HTW := Lib.hid hTW
                  have HLW := Lib.hid hLW
                  have HRW := Lib.hid hRW
                  clear hTW hLW hRW
                  go_wp2_with (at_builtin; refine wpList_append_own_at _ rfl _ _ 36 rfl w.heap.size 53 i0 (.agg #[.int .i64 0, .int .i64 0, .int .i64 0, .string ⟨#[]⟩, .slice none 0 0]) 5 64 Tryd.underlying36 hi hz0 hz1 hz2 rfl (by decide) _ _ _ rfl HLW.out.own ⟨w3.heap.size + 1, 0, none⟩ 1 1 (five (.mk bn bk bx bt bi, .slice a2 bi.length cap2)) rfl rfl ?c1 ?c2 ?c3 ?c4 ?c5 ?_)
                  case c1 => exact news_row (by simp)
                  case c2 => intro u hu; simp [five] at hu; rcases hu with rfl | rfl | rfl | rfl | rfl <;> rfl
                  case c3 => unfold maxLen; omega
                  case c4 => omega
                  case c5 => simp; omega
                  intro v' w5 hown' hgrow _ hat
                  have hput := LOk.put (x := (.mk bn bk bx bt bi, .slice a2 bi.length cap2)) HLW.out hown' hgrow (by simpa using hat) HOK.out ((HRD3.out.held (fun k hk hl => ((alloc_below _ _).block k (by simp; omega)).trans ((alloc_below _ _).block k hl))).mono fun k hk => ⟨by omega, own_new HL2.out.own hk⟩)
                  have hB5 := (Below.refl w.heap.size _).grown hgrow (by simp; omega) (own_base HLW.out.own)
                  have HL5 := Lib.hid hput
                  have HR5 := Lib.hid (HP.out.stay HRW.out hB5)
                  have HT5 := Lib.hid ((HT2.out.trans (HTW.out.mono (by omega))).trans (.of hB5))
                  clear hown' hgrow hat hput hB5
                  go_wp2
                  go_roundg f'
                  case measure => omega
                  case rel => exact ⟨L ++ [(.mk bn bk bx bt bi, .slice a2 bi.length cap2)], bq, HL5.out, HR5.out, HT5.out, by omega, by simp; omega, by omega, by rw [HV.out]; simp⟩
                · have HV := Lib.hid (HS2.out.trans (if_pos (by simpa using hie)))
                  go_wp2_with fail
                  go_quiet (fail)
                  obtain ⟨w1, hw1⟩ : ∃ w1, wr.drewN nq = w1 := ⟨_, rfl⟩
                  have hb1 : Below wr.heap.size wr w1 := by rw [← hw1]; exact below_drawn (Below.refl _ _) _
                  rw [hw1]
                  clear hw1 k1 k2
                  have hR1 := HRD.out.later hb1
                  have k1 := hR1.c1
                  go_wp2_with fail
                  refine (HTAG.out w1 hR1).mono ?_
                  rintro e w2 ⟨rfl, hR2, ht2⟩
                  have k1 := hR2.c1
                  have kz := hR2.fz
                  have hs2 : wr.heap.size ≤ w2.heap.size := by have := hb1.size; have := ht2.size; omega
                  have HT2 := Lib.hid (((HT.out.trans (.of (hb1.mono hsz))).trans (ht2.mono (by have := hb1.size; omega))))
                  have HL2 := Lib.hid ((HL.out.turn (.of hb1) hpl).turn ht2 hpl)
                  have HR2 := Lib.hid hR2
                  clear hb1 ht2 hR1 hR2
                  go_wp2_with fail
                  refine (HBEH.out w2 HR2.out).mono ?_
                  rintro e w3 ⟨v, rfl, hrd, hR3, ht3⟩
                  simp only at hR3 hrd
                  obtain ⟨a2, cap2, rfl, _, _⟩ := hrd.form
                  have hs3 := ht3.size
                  have HT3 := Lib.hid (HT2.out.trans (ht3.mono (by omega)))
                  have HR3 := Lib.hid hR3
                  clear hrd hR3 ht3
                  go_wp2_with fail
                  go_ret2
                  exact cout_err HV.out (HR3.out.later (alloc_below _ _)) (HT3.out.trans (.of ((alloc_below _ _).mono (by omega))))
            · have hk3e : k = 3 ∧ (op : Int) = (most : Int) := by simpa using hdeep
              obtain ⟨rfl, hom⟩ := hk3e
              have hom' : op = most := by omega
              have homb : ((op : Int) == (most : Int)) = true := by simp; exact hom
              have HV := Lib.hid (HRR.out.trans (by rw [recsR_deep st b most f' number op q' hge (by rw [HG.out]) (by rw [HG.out]) hom', pre_e _ _ _ (by omega)]))
              clear hom hom' hdeep
              go_wp2_with fail
              go_quiet (fail)
              obtain ⟨w1, hw1⟩ : ∃ w1, wr.drewN nq = w1 := ⟨_, rfl⟩
              have hb1 : Below wr.heap.size wr w1 := by rw [← hw1]; exact below_drawn (Below.refl _ _) _
              rw [hw1]
              clear hw1 k1 k2
              have hR1 := HRD.out.later hb1
              have k1 := hR1.c1
              go_wp2_with fail
              refine (HTAG.out w1 hR1).mono ?_
              rintro e w2 ⟨rfl, hR2, ht2⟩
              have k1 := hR2.c1
              have kz := hR2.fz
              have hs2 : wr.heap.size ≤ w2.heap.size := by have := hb1.size; have := ht2.size; omega
              have HT2 := Lib.hid (((HT.out.trans (.of (hb1.mono hsz))).trans (ht2.mono (by have := hb1.size; omega))))
              have HL2 := Lib.hid ((HL.out.turn (.of hb1) hpl).turn ht2 hpl)
              have HR2 := Lib.hid hR2
              clear hb1 ht2 hR1 hR2
              go_wp2_with fail
              go_ret2
              exact cout_err HV.out (HR2.out.set q' hq') (HT2.out.set 1 _)
          · have hk4' : k = 4 := by simpa using hk4
            subst hk4'
            have HS := Lib.hid (recsR_4 st b most f' number op q' hge (by rw [HG.out]) (by rw [HG.out]))
            cases hnn : (n == number : Bool)
            · have hne : n ≠ number := by simpa using hnn
              have HV := Lib.hid (HRR.out.trans (by rw [HS.out, HG.out, if_pos (.inr hne), pre_e _ _ _ (by omega)]))
              clear hne
              go_wp2_with fail
              go_quiet (fail)
              obtain ⟨w1, hw1⟩ : ∃ w1, wr.drewN nq = w1 := ⟨_, rfl⟩
              have hb1 : Below wr.heap.size wr w1 := by rw [← hw1]; exact below_drawn (Below.refl _ _) _
              rw [hw1]
              clear hw1 k1 k2
              have hR1 := HRD.out.later hb1
              have k1 := hR1.c1
              go_wp2_with fail
              refine (HTAG.out w1 hR1).mono ?_
              rintro e w2 ⟨rfl, hR2, ht2⟩
              have k1 := hR2.c1
              have kz := hR2.fz
              have hs2 : wr.heap.size ≤ w2.heap.size := by have := hb1.size; have := ht2.size; omega
              have HT2 := Lib.hid (((HT.out.trans (.of (hb1.mono hsz))).trans (ht2.mono (by have := hb1.size; omega))))
              have HL2 := Lib.hid ((HL.out.turn (.of hb1) hpl).turn ht2 hpl)
              have HR2 := Lib.hid hR2
              clear hb1 ht2 hR1 hR2
              go_wp2_with fail
              go_ret2
              exact cout_err HV.out (HR2.out.set q' hq') (HT2.out.set 1 _)
            · have hne : n = number := by simpa using hnn
              have hop0 : op ≠ 0 := fun e => by have := HON.out.1 e; omega
              have HV := Lib.hid (HRR.out.trans (by rw [HS.out, HG.out, if_neg (by simp [hop0, hne]), pre_0]))
              clear hne
              go_wp2_with fail
              go_quiet (fail)
              obtain ⟨w1, hw1⟩ : ∃ w1, wr.drewN nq = w1 := ⟨_, rfl⟩
              have hb1 : Below wr.heap.size wr w1 := by rw [← hw1]; exact below_drawn (Below.refl _ _) _
              rw [hw1]
              clear hw1 k1 k2
              have hR1 := HRD.out.later hb1
              have k1 := hR1.c1
              go_wp2_with fail
              refine (HTAG.out w1 hR1).mono ?_
              rintro e w2 ⟨rfl, hR2, ht2⟩
              have k1 := hR2.c1
              have kz := hR2.fz
              have hs2 : wr.heap.size ≤ w2.heap.size := by have := hb1.size; have := ht2.size; omega
              have HT2 := Lib.hid (((HT.out.trans (.of (hb1.mono hsz))).trans (ht2.mono (by have := hb1.size; omega))))
              have HL2 := Lib.hid ((HL.out.turn (.of hb1) hpl).turn ht2 hpl)
              have HR2 := Lib.hid hR2
              clear hb1 ht2 hR1 hR2
              go_wp2_with fail
              go_ret2
              exact cout_ok HV.out HL2.out HR2.out HT2.out
        · have hq1 : q1 = q' := hg4 (by simpa using her)
          subst hq1
          have HV := Lib.hid (HRR.out.trans (by rw [recsR_tag st b most f' number op q1 hge (by rw [HG.out]; simpa using her), HG.out, pre_e _ _ _ (by simpa using her)]))
          go_wp2_with fail
          go_quiet (fail)
          obtain ⟨w1, hw1⟩ : ∃ w1, wr.drewN nq = w1 := ⟨_, rfl⟩
          have hb1 : Below wr.heap.size wr w1 := by rw [← hw1]; exact below_drawn (Below.refl _ _) _
          rw [hw1]
          clear hw1 k1 k2
          have hR1 := HRD.out.later hb1
          have k1 := hR1.c1
          go_wp2_with fail
          refine (HTAG.out w1 hR1).mono ?_
          rintro e w2 ⟨rfl, hR2, ht2⟩
          have k1 := hR2.c1
          have kz := hR2.fz
          have hs2 : wr.heap.size ≤ w2.heap.size := by have := hb1.size; have := ht2.size; omega
          have HT2 := Lib.hid (((HT.out.trans (.of (hb1.mono hsz))).trans (ht2.mono (by have := hb1.size; omega))))
          have HL2 := Lib.hid ((HL.out.turn (.of hb1) hpl).turn ht2 hpl)
          have HR2 := Lib.hid hR2
          clear hb1 ht2 hR1 hR2
          go_wp2_with fail
          go_ret2
          exact cout_err HV.out HR2.out HT2.out
      · have hge : b.length ≤ q' := by omega
        have hqe : ((q' : Int) == (b.length : Int)) = true := by simp; omega
        have HT := Lib.hid ht
        have HL := Lib.hid hL
        cases hn0 : (number == 0 : Bool)
        · have hop0 : 0 < op := Nat.pos_of_ne_zero fun e => by have := HON.out.1 e; simp [this] at hn0
          have HV := Lib.hid (hRR.trans (by rw [recsR_end _ _ _ _ _ _ _ hge, if_pos hop0, pre_e _ _ _ (by omega)]))
          clear hRR ht hL hop0
          go_wp2_with fail
          go_quiet (fail)
          go_wp2_with fail
          go_ret2
          exact cout_err HV.out (hRd.later (below_drawn (Below.refl _ _) _)) (HT.out.trans (.of (below_drawn (Below.refl _ _) _)))
        · have hop0 : op = 0 := HON.out.2 (by simpa using hn0)
          have HV := Lib.hid (hRR.trans (by rw [recsR_end _ _ _ _ _ _ _ hge, if_neg (by omega), pre_0]))
          clear hRR ht hL hop0
          go_wp2_with fail
          go_quiet (fail)
          go_wp2_with fail
          go_ret2
          exact cout_ok HV.out (HL.out.turn (.of (below_drawn (Below.refl _ _) _)) hpl) (hRd.later (below_drawn (Below.refl _ _) _)) (HT.out.trans (.of (below_drawn (Below.refl _ _) _)))
end Go.Proofs.YtecmhpncgdjgjaaDoor
