/-
  tames and large of the statements, walked. Conditions: lists that a process can hold.
-/
import Derived.Test.YtecmhpncgdjgjaaDoorTame
import Derived.Deep.RegionHeld3
namespace Go.Proofs.YtecmhpncgdjgjaaDoor
open Go.RowKit
set_option linter.unusedVariables false
set_option linter.unusedSimpArgs false

set_option maxHeartbeats 8000000 in
set_option maxRecDepth 100000 in
theorem tames_any (l : List Rec) (hlen : lensL 2199023255552 l) (hwd : wideL l) (v : Value) (w : World) (hv : Reads w v l) : Calls Tryd.prog 33 #[v] w (CopyOut w (tameS 60 l)) := by
  have HV := Lib.hid hv
  obtain ⟨i0, hi, hz0, hz1, hz2⟩ := infoRecP
  obtain ⟨a, cap, rfl, h1, h2, hv0⟩ := hv.form
  have HLN := Lib.hid hlen
  have HWD := Lib.hid hwd
  have hll := hlen.1
  clear hv hv0 hlen hwd
  go_enter Tryd.func33, Tryd.ntmps33
  go_wp2_with fail
  go_loopw [3, 4] (fun v3 v4 wr => ∃ (k : Nat) (L : List (Rec × Value)), v4 = .int .i64 k ∧ k ≤ l.length ∧ L.length = k ∧ LOk wr w.heap.size v3 L ∧ L.map (·.1) = tameS 60 (l.take k) ∧ Below w.heap.size w wr) (fun _ v4 _ => l.length - (intOf v4).toNat)
  case atStart => exact ⟨0, [], rfl, Nat.zero_le _, rfl, LOk.nil _ _, rfl, Below.refl _ _⟩
  case round =>
    obtain ⟨k, L, rfl, hk, hLk, hLO, hmap, hbw⟩ := hrel
    have HLK := Lib.hid hLk
    have HLO := Lib.hid hLO
    have HMAP := Lib.hid hmap
    have HBW := Lib.hid hbw
    have hsz := hbw.size
    by_cases hlt : k < l.length
    · obtain ⟨b, off, ui, rfl, hrec, hin⟩ := Reads.at (HV.out.later hbw) k hlt
      have HNEXT := Lib.hid (tameS_take 60 l k hlt)
      have HLR := Lib.hid (lensS_getR HLN.out.2 k hlt)
      have HWR := Lib.hid (wideL_get HWD.out k hlt)
      have hbl0 : 0 < w.heap.size := by
        obtain ⟨b0, off0, u0, e0, hr0, _⟩ := Reads.at HV.out k hlt
        have := cell_lt hr0.c0
        omega
      obtain ⟨r, hr⟩ : ∃ r, l[k]'hlt = r := ⟨_, rfl⟩
      have hbl := cell_lt hrec.c0
      rw [hr] at hrec hin HNEXT HLR HWR
      clear hr hLk hLO hmap hbw
      have hrok : RecOk r := ⟨hrec.n0, hrec.n1, hrec.n2, hrec.n3⟩
      have HTK := Lib.hid (tame_ok (m := 60) hrok)
      have HCALL := Lib.hid (tame_any _ r (Nat.le_refl _) HLR.out hrok (wide_inner HWR.out) 60 (by omega) (by omega) ui wr hin)
      obtain ⟨ai, capi, rfl, hci1, hci2, hi0⟩ := hin.form
      clear hi0 hrok hin
      obtain ⟨y, hy⟩ : ∃ y, tameR 60 r = y := ⟨_, rfl⟩
      rw [hy] at HNEXT HTK HCALL
      clear hy
      obtain ⟨rn, rk, rx, rt, ri⟩ := r
      obtain ⟨yn, yk, yx, yt, yi⟩ := y
      obtain ⟨c0, c1, c2, c3, c4, n0, n1, n2, n3⟩ := hrec
      simp only [Rec.number, Rec.kind, Rec.num, Rec.text, Rec.inner] at c0 c1 c2 c3 c4 hci1 n0 n1 n2 n3
      simp only [recV, Rec.number, Rec.kind, Rec.num, Rec.text, Rec.inner] at HCALL
      clear n0 n1 n2 n3
      go_wp2_with fail
      refine HCALL.out.mono ?_
      rintro e w3 ⟨v3, rfl, hrd, hb3⟩
      simp only [recV, Rec.number, Rec.kind, Rec.num, Rec.text, Rec.inner] at hrd ⊢
      obtain ⟨a3, cap3, rfl, _, _⟩ := hrd.form
      have hs3 := hb3.size
      have HRD := Lib.hid hrd
      have hbY := (hb3.trans ((alloc_below w3 (.cells #[.int .i64 yn, .int .i64 yk, .int .i64 yx, .string ⟨yt.toArray⟩, .slice a3 yi.length cap3] 53)).mono hs3)).trans ((alloc_below (w3.alloc (.cells #[.int .i64 yn, .int .i64 yk, .int .i64 yx, .string ⟨yt.toArray⟩, .slice a3 yi.length cap3] 53)) (.cells #[.int .i64 yn, .int .i64 yk, .int .i64 yx, .string ⟨yt.toArray⟩, .slice a3 yi.length cap3] 53)).mono (by simp; omega))
      have HBY := Lib.hid hbY
      have HLW := Lib.hid (HLO.out.turn (p := 0) (.of hbY) hbl0)
      clear hrd hb3 hbY
      go_wp2_with (at_builtin; refine wpList_append_own_at _ rfl _ _ 36 rfl w.heap.size 53 i0 (.agg #[.int .i64 0, .int .i64 0, .int .i64 0, .string ⟨#[]⟩, .slice none 0 0]) 5 64 Tryd.underlying36 hi hz0 hz1 hz2 rfl (by decide) _ _ _ rfl HLW.out.own ⟨w3.heap.size + 1, 0, none⟩ 1 1 (five (Rec.mk yn yk yx yt yi, .slice a3 yi.length cap3)) rfl rfl ?c1 ?c2 ?c3 ?c4 ?c5 ?_)
      case c1 => exact news_row (by simp)
      case c2 => intro u hu; simp [five] at hu; rcases hu with rfl | rfl | rfl | rfl | rfl <;> rfl
      case c3 => have := HLK.out; unfold maxLen; omega
      case c4 => have := HLK.out; omega
      case c5 => simp; omega
      intro v' w5 hown' hgrow _ hat
      have hput := LOk.put (x := (Rec.mk yn yk yx yt yi, .slice a3 yi.length cap3)) HLW.out hown' hgrow (by simpa using hat) HTK.out ((HRD.out.held (fun k hk hl => ((alloc_below _ _).block k (by simp; omega)).trans ((alloc_below _ _).block k hl))).mono fun k hk => ⟨by omega, own_new HLO.out.own hk⟩)
      have hB5 := (Below.refl w.heap.size _).grown hgrow (by simp; omega) (own_base HLW.out.own)
      have HL5 := Lib.hid hput
      have HB5 := Lib.hid ((HBW.out.trans (HBY.out.mono hsz)).trans hB5)
      clear hown' hgrow hat hput hB5
      go_wp2_with fail
      go_roundw
      case rel => exact ⟨k + 1, L ++ [(Rec.mk yn yk yx yt yi, .slice a3 yi.length cap3)], by simp, by omega, by simp [HLK.out], HL5.out, by rw [HNEXT.out, List.map_append, HMAP.out]; rfl, HB5.out⟩
      case measure => simp [intOf] <;> omega
    · have hk' : k = l.length := by omega
      have HALL := Lib.hid (show L.map (·.1) = tameS 60 l by rw [HMAP.out, hk', List.take_length])
      clear hk' hLk hLO hmap hbw
      go_wp2_with fail
      go_ret
      exact ⟨_, rfl, by have := HLO.out.reads; rw [HALL.out] at this; exact this, HBW.out⟩

theorem cellAt2_lt {w : World} {p : Addr} {v : Value} (h : w.cell? p = some v) : p.block < w.heap.size := by
  obtain ⟨b, o, s⟩ := p
  have hs : s = none := World.cell?_spot h
  subst hs
  exact cell_lt h
theorem keep_large {X wq xn : World} {a b : Addr} {x y : Value} (hS : wq.cell? a = some x ∧ wq.cell? b = some y ∧ Below X.heap.size X wq) (hb : Below wq.heap.size wq xn) : xn.cell? a = some x ∧ xn.cell? b = some y ∧ Below X.heap.size X xn :=
  ⟨(hb.cell (cellAt2_lt hS.1)).trans hS.1, (hb.cell (cellAt2_lt hS.2.1)).trans hS.2.1, hS.2.2.trans (hb.mono hS.2.2.size)⟩
theorem wrap_small {z : Int} (h0 : 0 ≤ z) (h1 : z < 9223372036854775808) : IntKind.i64.wrap z = z := by rw [IntKind.wrap_i64]; omega
theorem wrap3 {m s y : Nat} (h : m + 20 + s + y < 9223372036854775808) : IntKind.i64.wrap (IntKind.i64.wrap (IntKind.i64.wrap ((m : Int) + 20) + (s : Int)) + (y : Int)) = ((m + 20 + s + y : Nat) : Int) := by
  rw [wrap_small (z := (m : Int) + 20) (by omega) (by omega), wrap_small (z := (m : Int) + 20 + s) (by omega) (by omega), wrap_small (by omega) (by omega)]
  omega
theorem large_step {l : List Rec} {k m : Nat} {r : Rec} (hk : k < l.length) (hr : l[k]'hk = r) (hm : m ≤ 1048576) (h : largeS m (l.drop k) = largeS 0 l) : largeS (m + largeR r) (l.drop (k + 1)) = largeS 0 l := by
  rw [List.drop_eq_getElem_cons hk, large_more _ _ hm, hr] at h
  exact h
theorem large_inner {l : List Rec} {D : Nat} (hw : wideL l) (hd : deepL l ≤ D) (k : Nat) (hk : k < l.length) : wideL (l[k]'hk).inner ∧ ((l[k]'hk).inner = [] ∨ 1 ≤ D ∧ deepL (l[k]'hk).inner ≤ D - 1) := by
  refine ⟨wide_inner (wideL_get hw k hk), ?_⟩
  have h1 := deepL_get k hk
  obtain ⟨r, hr⟩ : ∃ r, l[k]'hk = r := ⟨_, rfl⟩
  rw [hr] at h1 ⊢
  obtain ⟨n, kd, x, t, i⟩ := r
  simp only [Rec.inner]
  cases i with
  | nil => exact .inl rfl
  | cons a b =>
    right
    rw [deepR, if_pos (.inr rfl)] at h1
    omega

set_option maxHeartbeats 8000000 in
set_option maxRecDepth 100000 in
theorem large_any (N : Nat) : ∀ (l : List Rec), SizeOf.sizeOf l ≤ N → wideL l → ∀ D : Nat, D ≤ 1000 → deepL l ≤ D → ∀ (v : Value) (w : World), Reads w v l → Calls Tryd.prog 35 #[v] w (Says w (.int .i64 (largeS 0 l : Nat))) := by
  induction N with
  | zero => intro l hl; cases l <;> simp at hl
  | succ N ih =>
    intro l hl hwd D hD hdl v w hv
    have IH := Lib.hid ih
    have HV := Lib.hid hv
    obtain ⟨a, cap, rfl, h1, h2, hv0⟩ := hv.form
    have HWD := Lib.hid hwd
    have HDL := Lib.hid hdl
    clear ih hv hv0 hwd hdl
    go_enter Tryd.func35, Tryd.ntmps35
    go_wp2_with fail
    go_loopw [3, 4] (fun v3 v4 wr => ∃ (m k : Nat), v3 = .int .i64 m ∧ v4 = .int .i64 k ∧ k ≤ l.length ∧ largeS m (l.drop k) = largeS 0 l ∧ Below w.heap.size w wr) (fun _ v4 _ => l.length - (intOf v4).toNat)
    case atStart => exact ⟨0, 0, rfl, rfl, Nat.zero_le _, rfl, Below.refl _ _⟩
    case round =>
      obtain ⟨m, k, rfl, rfl, hk, hm, hbw⟩ := hrel
      have hsz := hbw.size
      by_cases hlt : k < l.length ∧ m ≤ 1048576
      · obtain ⟨hlt, hm1⟩ := hlt
        obtain ⟨b, off, ui, rfl, hrec, hin⟩ := Reads.at (HV.out.later hbw) k hlt
        have hins := inner_size k hlt
        have HNEXT := Lib.hid (large_step hlt rfl hm1 hm)
        have HLI := Lib.hid (large_inner HWD.out HDL.out k hlt)
        obtain ⟨r, hr⟩ : ∃ r, l[k]'hlt = r := ⟨_, rfl⟩
        have hbl := cell_lt hrec.c0
        rw [hr] at hrec hin hins HNEXT HLI
        obtain ⟨n, kd, x, t, i⟩ := r
        obtain ⟨c0, c1, c2, c3, c4, n0, n1, n2, n3⟩ := hrec
        simp only [Rec.number, Rec.kind, Rec.num, Rec.text, Rec.inner] at c3 c4 hin hins n3 HLI
        obtain ⟨T, hT⟩ : ∃ T : ByteArray, (⟨t.toArray⟩ : ByteArray) = T := ⟨_, rfl⟩
        have hTs : T.size = t.length := by rw [← hT]; simp [ByteArray.size]
        rw [hT] at c3
        obtain ⟨y, hy⟩ : ∃ y, largeS 0 i = y := ⟨_, rfl⟩
        have hy2 : y ≤ 281756740612390912 := by
          rw [← hy]
          rcases HLI.out.2 with h | ⟨h, h'⟩
          · rw [h, large_nil]; exact Nat.zero_le _
          · have := large_le HLI.out.1 h'
            have : (D - 1 + 1) * 281474976710656 ≤ 1000 * 281474976710656 := Nat.mul_le_mul_right _ (by omega)
            omega
        have HC := Lib.hid (show ∀ (W : World), Below wr.heap.size wr W → Calls Tryd.prog 35 #[ui] W (Says W (.int .i64 (y : Nat))) from fun W hW => by
          have hd : deepL i ≤ D := by
            rcases HLI.out.2 with h | ⟨h, h'⟩
            · rw [h]; exact Nat.zero_le _
            · omega
          rw [← hy]
          exact IH.out i (by omega) HLI.out.1 D hD hd ui W (hin.later hW))
        have HMN := Lib.hid (show largeS (m + 20 + T.size + y) (l.drop (k + 1)) = largeS 0 l by
          have := HNEXT.out
          rw [largeR, hy] at this
          rw [hTs, show m + 20 + t.length + y = m + (20 + t.length + y) by omega]
          exact this)
        obtain ⟨ai, capi, rfl, hci1, hci2, hi0⟩ := hin.form
        have hT47 : T.size ≤ 140737488355328 := by omega
        have HBW := Lib.hid hbw
        have HR := Lib.hid hr
        clear hi0 hr hin n0 n1 n2 n3 c0 c1 c2 hT hTs hy hm hbw HNEXT hins
        have hda : decide (m ≤ 1048576) = true := by simp; omega
        go_wp2_with fail
        go_region_held3 (fun w' => w'.cell? ⟨b, off + k * 5 + 3, none⟩ = some (.string T) ∧ w'.cell? ⟨b, off + k * 5 + 4, none⟩ = some (.slice ai i.length capi) ∧ Below wr.heap.size wr w')
          (first | exact ⟨c3, c4, (Below.refl _ _).drew⟩ | exact keep_large (by assumption) (by assumption))
          (first | (go_at_call 35; refine (HC.out _ ((by assumption : _ ∧ _ ∧ _).2.2)).mono ?_; rintro e x1 ⟨rfl, hbx⟩))
        have hS : x1.cell? ⟨b, off + k * 5 + 3, none⟩ = some (.string T) ∧ x1.cell? ⟨b, off + k * 5 + 4, none⟩ = some (.slice ai i.length capi) ∧ Below wr.heap.size wr x1 := by assumption
        have HB1 := Lib.hid (HBW.out.trans (hS.2.2.mono hsz))
        rw [wrap3 (by omega)]
        clear hS hbx
        go_wp2_with fail
        go_roundw
        case rel => exact ⟨m + 20 + T.size + y, k + 1, rfl, by simp, by omega, HMN.out, HB1.out⟩
        case measure => simp [intOf] <;> omega
      · have HE := Lib.hid (show largeS 0 l = m by
          rw [← hm]
          by_cases hkl : k < l.length
          · exact large_stop _ (fun h => hlt ⟨hkl, h⟩)
          · rw [List.drop_eq_nil_of_le (by omega), large_nil])
        by_cases hkl : k < l.length
        · have hm1 : 1048576 < m := by omega
          clear hlt hm
          go_wp2_with fail
          go_ret
          rw [HE.out]
          exact ⟨rfl, hbw⟩
        · have hm1 : l.length ≤ k := by omega
          clear hlt hm
          go_wp2_with fail
          go_ret
          rw [HE.out]
          exact ⟨rfl, hbw⟩
end Go.Proofs.YtecmhpncgdjgjaaDoor
