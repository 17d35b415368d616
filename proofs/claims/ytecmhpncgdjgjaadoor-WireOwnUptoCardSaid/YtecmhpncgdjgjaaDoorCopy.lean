/-
  TwinRecords of the statements, walked: the records again, in new memory. Conditions: lists that a process can hold.
-/
import Derived.Test.YtecmhpncgdjgjaaDoorRecs
import Derived.Test.YtecmhpncgdjgjaaDoorRight
import Derived.Test.YtecmhpncgdjgjaaDoorKnownA
namespace Go.Proofs.YtecmhpncgdjgjaaDoor
open Go.RowKit
set_option linter.unusedVariables false
set_option linter.unusedSimpArgs false

mutual
/-- No list in it is longer than M. -/
def lensR (M : Nat) : Rec → Prop
  | .mk _ _ _ _ i => i.length ≤ M ∧ lensS M i
def lensS (M : Nat) : List Rec → Prop
  | [] => True
  | r :: rs => lensR M r ∧ lensS M rs
end
def lensL (M : Nat) (l : List Rec) : Prop := l.length ≤ M ∧ lensS M l
theorem lensS_get {M : Nat} {l : List Rec} (h : lensS M l) (k : Nat) (hk : k < l.length) : lensL M (l[k]'hk).inner := by
  induction l generalizing k with
  | nil => simp at hk
  | cons r rs ih =>
    cases k with
    | zero => obtain ⟨n, kd, x, t, i⟩ := r; exact h.1
    | succ k => exact ih h.2 k (by simpa using hk)

/-- What a copy leaves. -/
def CopyOut (w : World) (l : List Rec) (e : Ending) (w' : World) : Prop :=
  ∃ v, e = .returned v ∧ ReadsR (fun k => w.heap.size ≤ k) w' v l ∧ Below w.heap.size w w'

theorem take_map {l : List Rec} {L : List (Rec × Value)} {k : Nat} {r : Rec} {u : Value} (hk : k < l.length) (h : L.map (·.1) = l.take k) (hr : l[k]'hk = r) : (L ++ [(r, u)]).map (·.1) = l.take (k + 1) := by
  rw [List.map_append, h, List.take_add_one, List.getElem?_eq_getElem hk, hr]
  rfl

set_option maxHeartbeats 8000000 in
set_option maxRecDepth 100000 in
theorem twinRecs_any (N : Nat) : ∀ (l : List Rec), SizeOf.sizeOf l ≤ N → lensL 2199023255552 l → ∀ (v : Value) (w : World), Reads w v l → Calls Tryd.prog 34 #[v] w (CopyOut w l) := by
  induction N with
  | zero => intro l hl; cases l <;> simp at hl
  | succ N ih =>
    intro l hl hlen v w hv
    have IH := Lib.hid ih
    have HV := Lib.hid hv
    obtain ⟨i0, hi, hz0, hz1, hz2⟩ := infoRecP
    obtain ⟨a, cap, rfl, h1, h2, hv0⟩ := hv.form
    have HLN := Lib.hid hlen
    have hll := hlen.1
    clear ih hv hv0 hlen
    go_enter Tryd.func34, Tryd.ntmps34
    go_wp2_with fail
    go_loopw [3, 4] (fun v3 v4 wr => ∃ (k : Nat) (L : List (Rec × Value)), v4 = .int .i64 k ∧ k ≤ l.length ∧ L.length = k ∧ LOk wr w.heap.size v3 L ∧ L.map (·.1) = l.take k ∧ Below w.heap.size w wr) (fun _ v4 _ => l.length - (intOf v4).toNat)
    case atStart => exact ⟨0, [], rfl, Nat.zero_le _, rfl, LOk.nil _ _, rfl, Below.refl _ _⟩
    case round =>
      obtain ⟨k, L, rfl, hk, hLk, hLO, hmap, hbw⟩ := hrel
      have HLK := Lib.hid hLk
      have HLO := Lib.hid hLO
      have HMAP := Lib.hid hmap
      have HBW := Lib.hid hbw
      have hsz := hbw.size
      by_cases hlt : k < l.length
      · obtain ⟨b, off, ui, rfl, hrec, hin⟩ := Reads.at (HV.out.later hbw) k hlt
        have hins := inner_size k hlt
        have HLI := Lib.hid (lensS_get HLN.out.2 k hlt)
        have HNEXT := Lib.hid (fun u => take_map (u := u) hlt HMAP.out rfl)
        have hbl0 : 0 < w.heap.size := by
          obtain ⟨b0, off0, u0, e0, hr0, _⟩ := Reads.at HV.out k hlt
          have := cell_lt hr0.c0
          omega
        obtain ⟨r, hr⟩ : ∃ r, l[k]'hlt = r := ⟨_, rfl⟩
        have hbl := cell_lt hrec.c0
        rw [hr] at hrec hin hins HLI HNEXT
        clear hr hLk hLO hmap hbw
        obtain ⟨ai, capi, rfl, hci1, hci2, hi0⟩ := hin.form
        clear hi0
        have HOK := Lib.hid (show RecOk r from ⟨hrec.n0, hrec.n1, hrec.n2, hrec.n3⟩)
        obtain ⟨n, kd, q, t, i⟩ := r
        obtain ⟨c0, c1, c2, c3, c4, n0, n1, n2, n3⟩ := hrec
        simp only [Rec.number, Rec.kind, Rec.num, Rec.text, Rec.inner] at c0 c1 c2 c3 c4 hci1 hin hins n0 n1 n2 n3 HLI
        have HIN := Lib.hid hin
        clear hin n0 n1 n2 n3
        go_wp2_with fail
        refine (IH.out i (by omega) HLI.out _ _ (HIN.out.later (alloc_below _ _))).mono ?_
        rintro e w3 ⟨v2, rfl, hrd, hb3⟩
        obtain ⟨a2, cap2, rfl, _, _⟩ := hrd.form
        have hs3 := hb3.size
        rw [World.size_alloc] at hs3 hb3
        have hblk := (hb3.block wr.heap.size (by omega)).trans (alloc_at _ _)
        have hX := Lib.cell_of_heap hblk
        have hZ := frozen_of_row w3 wr.heap.size 4 _ _ hblk
        have HRD := Lib.hid hrd
        have HTX := Lib.hid ((alloc_below wr _).trans (hb3.mono (by omega)))
        clear hrd hblk hb3
        have hTW := HTX.out.trans (((Below.refl wr.heap.size w3).setCell (p := ⟨wr.heap.size, 4, none⟩) (Nat.le_refl _) (.slice a2 i.length cap2)).trans ((alloc_below _ (.cells #[.int .i64 n, .int .i64 kd, .int .i64 q, .string ⟨t.toArray⟩, .slice a2 i.length cap2] 53)).mono (by rw [World.size_setCell]; omega)))
        have hLW := HLO.out.turn (p := 0) (.of hTW) hbl0
        have HTW := Lib.hid hTW
        have HLW := Lib.hid hLW
        clear hTW hLW
        go_wp2_with (at_builtin; refine wpList_append_own_at _ rfl _ _ 36 rfl w.heap.size 53 i0 (.agg #[.int .i64 0, .int .i64 0, .int .i64 0, .string ⟨#[]⟩, .slice none 0 0]) 5 64 Tryd.underlying36 hi hz0 hz1 hz2 rfl (by decide) _ _ _ rfl HLW.out.own ⟨w3.heap.size, 0, none⟩ 1 1 (five (Rec.mk n kd q t i, .slice a2 i.length cap2)) rfl rfl ?c1 ?c2 ?c3 ?c4 ?c5 ?_)
        case c1 => exact news_row (by simp)
        case c2 => intro u hu; simp [five] at hu; rcases hu with rfl | rfl | rfl | rfl | rfl <;> rfl
        case c3 => have := HLK.out; unfold maxLen; omega
        case c4 => have := HLK.out; omega
        case c5 => simp; omega
        intro v' w5 hown' hgrow _ hat
        have hput := LOk.put (x := (Rec.mk n kd q t i, .slice a2 i.length cap2)) HLW.out hown' hgrow (by simpa using hat) HOK.out ((HRD.out.held (fun k hk hl => ((alloc_below _ _).block k (by rw [World.size_setCell]; exact hl)).trans (Below.heap_setCell _ _ _ _ (by intro e; rw [World.size_alloc] at hk; have : k = wr.heap.size := e; omega)))).mono fun k hk => ⟨by rw [World.size_alloc] at hk; omega, own_new HLO.out.own (by rw [World.size_alloc] at hk; omega)⟩)
        have hB5 := (Below.refl w.heap.size _).grown hgrow (by simp; omega) (own_base HLW.out.own)
        have HL5 := Lib.hid hput
        have HB5 := Lib.hid ((HBW.out.trans (HTW.out.mono hsz)).trans hB5)
        clear hown' hgrow hat hput hB5
        go_wp2_with fail
        go_roundw
        case rel => exact ⟨k + 1, L ++ [(Rec.mk n kd q t i, .slice a2 i.length cap2)], by simp, by omega, by simp [HLK.out], HL5.out, HNEXT.out _, HB5.out⟩
        case measure => simp [intOf] <;> omega
      · have hk' : k = l.length := by omega
        have HALL := Lib.hid (show L.map (·.1) = l by rw [HMAP.out, hk', List.take_length])
        clear hk' hLk hLO hmap hbw
        go_wp2_with fail
        go_ret
        exact ⟨_, rfl, by have := HLO.out.reads; rw [HALL.out] at this; exact this, HBW.out⟩
end Go.Proofs.YtecmhpncgdjgjaaDoor
