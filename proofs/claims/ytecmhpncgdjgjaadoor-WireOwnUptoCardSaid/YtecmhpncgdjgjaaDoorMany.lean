/-
  many of the statements, count of the reference, walked. Conditions: no more records than there may be.
-/
import Derived.Test.YtecmhpncgdjgjaaDoorRight
import Derived.Test.YtecmhpncgdjgjaaDoorJoinPlain
import Derived.Test.YtecmhpncgdjgjaaDoorRead
namespace Go.Proofs.YtecmhpncgdjgjaaDoor
open Go.RowKit
set_option linter.unusedVariables false
set_option linter.unusedSimpArgs false

/-- How many records lie in these, they themselves not counted. -/
def inC : List Rec → Nat
  | [] => 0
  | r :: rs => countL r.inner + inC rs
theorem count_inC (l : List Rec) : countL l = l.length + inC l := by
  induction l with
  | nil => rfl
  | cons r rs ih =>
    obtain ⟨n, k, x, t, i⟩ := r
    rw [countL, countR, ih, inC, List.length_cons]
    simp only [Rec.inner]
    omega
theorem inC_take (l : List Rec) (k : Nat) (hk : k < l.length) : inC (l.take (k + 1)) = inC (l.take k) + countL (l[k]'hk).inner := by
  induction l generalizing k with
  | nil => simp at hk
  | cons r rs ih =>
    cases k with
    | zero => simp [inC]
    | succ k =>
      have := ih k (by simpa using hk)
      simp only [List.take_succ_cons, inC, this]
      simp only [List.getElem_cons_succ]
      omega
theorem inC_le (l : List Rec) (k : Nat) : inC (l.take k) ≤ inC l := by
  induction l generalizing k with
  | nil => simp [inC]
  | cons r rs ih =>
    cases k with
    | zero => simp [inC]
    | succ k =>
      have := ih k
      simp only [List.take_succ_cons, inC]
      omega
theorem inC_all (l : List Rec) (k : Nat) (hk : l.length ≤ k) : inC (l.take k) = inC l := by rw [List.take_of_length_le hk]

set_option maxHeartbeats 8000000 in
set_option maxRecDepth 100000 in
theorem many_any (N : Nat) : ∀ (l : List Rec), SizeOf.sizeOf l ≤ N → ∀ (most : Nat), most ≤ 4611686018427387904 → countL l ≤ most → ∀ (v : Value) (w : World), Reads w v l → Calls Tryd.prog 27 #[v, .int .i64 most] w (Says w (.int .i64 (countL l : Nat))) := by
  induction N with
  | zero => intro l hl; cases l <;> simp at hl
  | succ N ih =>
    intro l hl most hm hcl v w hv
    have IH := Lib.hid ih
    have HV := Lib.hid hv
    obtain ⟨a, cap, rfl, h1, h2, hv0⟩ := hv.form
    have HC := Lib.hid (count_inC l)
    clear ih hv hv0
    go_enter Tryd.func27, Tryd.ntmps27
    go_wp2_with fail
    go_loopw [5, 6] (fun v5 v6 wr => ∃ (m k : Nat), v5 = .int .i64 m ∧ v6 = .int .i64 k ∧ k ≤ l.length ∧ m = l.length + inC (l.take k) ∧ Below w.heap.size w wr) (fun _ v6 _ => l.length - (intOf v6).toNat)
    case atStart => exact ⟨l.length, 0, rfl, rfl, Nat.zero_le _, by simp [inC], Below.refl _ _⟩
    case round =>
      obtain ⟨m, k, rfl, rfl, hk, hmk, hbw⟩ := hrel
      have hsz := hbw.size
      have hmm : m ≤ most := by
        have := inC_le l k
        have := HC.out
        omega
      by_cases hlt : k < l.length
      · obtain ⟨b, off, ui, rfl, hrec, hin⟩ := Reads.at (HV.out.later hbw) k hlt
        have hins := inner_size k hlt
        have hnx := inC_take l k hlt
        have hle := inC_le l (k + 1)
        obtain ⟨r, hr⟩ : ∃ r, l[k]'hlt = r := ⟨_, rfl⟩
        have hbl := cell_lt hrec.c0
        have c4 := hrec.c4
        rw [hr] at hin hins hnx
        have hcr : countL r.inner ≤ most - m := by
          have := HC.out
          omega
        have HCALL := Lib.hid (IH.out r.inner (by omega) (most - m) (by omega) hcr ui wr hin)
        obtain ⟨ai, capi, rfl, hci1, hci2, hi0⟩ := hin.form
        obtain ⟨y, hy⟩ : ∃ y, countL r.inner = y := ⟨_, rfl⟩
        rw [hy] at hnx hcr HCALL
        have HMK := Lib.hid (show m + y = l.length + inC (l.take (k + 1)) by omega)
        have HBW := Lib.hid hbw
        clear hi0 hr hin hmk hnx hle hrec hins hy hbw
        have hsub : ((most : Int) - (m : Int)) = ((most - m : Nat) : Int) := by omega
        have HSUB := Lib.hid hsub
        clear hsub
        go_wp2_with fail
        rw [HSUB.out]
        refine HCALL.out.mono ?_
        rintro e w1 ⟨rfl, hb1⟩
        have HB1 := Lib.hid (HBW.out.trans (hb1.mono hsz))
        clear hb1
        go_wp2_with fail
        go_roundw
        case rel => exact ⟨m + y, k + 1, by simp, by simp, by omega, HMK.out, HB1.out⟩
        case measure => simp [intOf] <;> omega
      · have HE := Lib.hid (show countL l = m by rw [HC.out, hmk, inC_all l k (by omega)])
        have hge : l.length ≤ k := by omega
        clear hmk
        go_wp2_with fail
        go_ret
        rw [HE.out]
        exact ⟨rfl, hbw⟩

theorem deepL_take (l : List Rec) (k : Nat) (hk : k < l.length) : deepL (l.take (k + 1)) = max (deepL (l.take k)) (deepR (l[k]'hk)) := by
  induction l generalizing k with
  | nil => simp at hk
  | cons r rs ih =>
    cases k with
    | zero => simp [deepL]
    | succ k =>
      have := ih k (by simpa using hk)
      simp only [List.take_succ_cons, deepL, this]
      simp only [List.getElem_cons_succ]
      omega
theorem deep_count_aux (N : Nat) : ∀ l : List Rec, SizeOf.sizeOf l ≤ N → deepL l ≤ countL l := by
  induction N with
  | zero => intro l h; cases l <;> simp at h
  | succ N ih =>
    intro l h
    cases l with
    | nil => exact Nat.le_refl _
    | cons r rs =>
      obtain ⟨n, k, x, t, i⟩ := r
      simp only [List.cons.sizeOf_spec, Rec.mk.sizeOf_spec] at h
      have := ih rs (by omega)
      have := ih i (by omega)
      rw [deepL, deepR, countL, countR]
      split <;> omega

set_option maxHeartbeats 8000000 in
set_option maxRecDepth 100000 in
theorem count_any (N : Nat) : ∀ (l : List Rec), SizeOf.sizeOf l ≤ N → countL l ≤ 1048576 → ∀ (v : Value) (w : World), Reads w v l → Calls Tryd.prog 65 #[v] w (Says w (.tuple #[.int .i64 (countL l : Nat), .int .i64 (deepL l : Nat)])) := by
  induction N with
  | zero => intro l hl; cases l <;> simp at hl
  | succ N ih =>
    intro l hl hcl v w hv
    have IH := Lib.hid ih
    have HV := Lib.hid hv
    obtain ⟨a, cap, rfl, h1, h2, hv0⟩ := hv.form
    have HC := Lib.hid (count_inC l)
    have hdl := deep_count_aux _ l (Nat.le_refl _)
    clear ih hv hv0
    go_enter Tryd.func65, Tryd.ntmps65
    go_wp2_with fail
    go_loopw [4, 5, 6] (fun v4 v5 v6 wr => ∃ (m d k : Nat), v4 = .int .i64 m ∧ v5 = .int .i64 d ∧ v6 = .int .i64 k ∧ k ≤ l.length ∧ m = l.length + inC (l.take k) ∧ d = deepL (l.take k) ∧ Below w.heap.size w wr) (fun _ _ v6 _ => l.length - (intOf v6).toNat)
    case atStart => exact ⟨l.length, 0, 0, rfl, rfl, rfl, Nat.zero_le _, by simp [inC], by simp [deepL], Below.refl _ _⟩
    case round =>
      obtain ⟨m, d, k, rfl, rfl, rfl, hk, hmk, hdk, hbw⟩ := hrel
      have hsz := hbw.size
      have hmm : m ≤ 1048576 := by
        have := inC_le l k
        have := HC.out
        omega
      by_cases hlt : k < l.length
      · obtain ⟨b, off, ui, rfl, hrec, hin⟩ := Reads.at (HV.out.later hbw) k hlt
        have hins := inner_size k hlt
        have hnx := inC_take l k hlt
        have hdx := deepL_take l k hlt
        have hle := inC_le l (k + 1)
        obtain ⟨r, hr⟩ : ∃ r, l[k]'hlt = r := ⟨_, rfl⟩
        have hbl := cell_lt hrec.c0
        rw [hr] at hin hins hnx hdx hrec
        obtain ⟨n, kd, x, t, i⟩ := r
        have c1 := hrec.c1
        have c4 := hrec.c4
        simp only [Rec.kind, Rec.inner] at c1 c4 hin hins hnx
        have hcr : countL i ≤ 1048576 := by
          have := HC.out
          omega
        have hdi := deep_count_aux _ i (Nat.le_refl _)
        have HCALL := Lib.hid (IH.out i (by omega) hcr ui wr hin)
        obtain ⟨ai, capi, rfl, hci1, hci2, hi0⟩ := hin.form
        obtain ⟨y, hy⟩ : ∃ y, countL i = y := ⟨_, rfl⟩
        obtain ⟨z, hz⟩ : ∃ z, deepL i = z := ⟨_, rfl⟩
        have hdr : deepR (.mk n kd x t i) = if kd = 3 ∨ 0 < i.length then 1 + z else 0 := by
          rw [deepR, hz]
          cases i <;> simp
        have hz0 : ¬ 0 < i.length → z = 0 := fun h => by
          have : i = [] := List.eq_nil_of_length_eq_zero (by omega)
          rw [← hz, this]; rfl
        rw [hy] at hnx hcr HCALL hdi
        rw [hz] at HCALL hdi
        rw [hdr] at hdx
        have HMK := Lib.hid (show m + y = l.length + inC (l.take (k + 1)) by omega)
        have HBW := Lib.hid hbw
        obtain ⟨il, hil⟩ : ∃ il, i.length = il := ⟨_, rfl⟩
        rw [hil] at hdx hz0 hci1 c4
        rw [hil] at HCALL
        have HDX := Lib.hid hdx
        have HDK := Lib.hid hdk
        have HZ0 := Lib.hid hz0
        clear hi0 hr hin hmk hnx hle hrec hins hy hz hbw hil hdr hdx hdk hz0
        have HTAIL := Lib.hid (fun (w1 : World) (hb1 : Below wr.heap.size wr w1) => HBW.out.trans (hb1.mono hsz))
        cases hk3 : (kd == 3 : Bool)
        · have hkn : kd ≠ 3 := by simpa using hk3
          by_cases hi0 : 0 < il
          · have hdz : deepL (l.take (k + 1)) = max d (1 + z) := by rw [HDX.out, if_pos (.inr hi0), HDK.out]
            have HDZ := Lib.hid hdz
            clear hdz
            by_cases hgt : d < 1 + z
            · have hmx : max d (1 + z) = z + 1 := by omega
              have HMX := Lib.hid hmx
              clear hmx
              go_wp2_with fail
              refine HCALL.out.mono ?_
              rintro e w1 ⟨rfl, hb1⟩
              have HB1 := Lib.hid (HTAIL.out w1 hb1)
              have k1 := (hb1.cell (p := ⟨b, off + k * 5 + 1, none⟩) hbl).trans c1
              have k4 := (hb1.cell (p := ⟨b, off + k * 5 + 4, none⟩) hbl).trans c4
              clear hb1
              go_wp2_with fail
              go_roundw
              case rel => exact ⟨m + y, z + 1, k + 1, by simp, by simp, by simp, by omega, HMK.out, by rw [HDZ.out, HMX.out], HB1.out⟩
              case measure => simp [intOf] <;> omega
            · have hmx : max d (1 + z) = d := by omega
              have HMX := Lib.hid hmx
              clear hmx
              go_wp2_with fail
              refine HCALL.out.mono ?_
              rintro e w1 ⟨rfl, hb1⟩
              have HB1 := Lib.hid (HTAIL.out w1 hb1)
              have k1 := (hb1.cell (p := ⟨b, off + k * 5 + 1, none⟩) hbl).trans c1
              have k4 := (hb1.cell (p := ⟨b, off + k * 5 + 4, none⟩) hbl).trans c4
              clear hb1
              go_wp2_with fail
              go_roundw
              case rel => exact ⟨m + y, d, k + 1, by simp, by simp, by simp, by omega, HMK.out, by rw [HDZ.out, HMX.out], HB1.out⟩
              case measure => simp [intOf] <;> omega
          · obtain rfl : z = 0 := HZ0.out hi0
            have hdz : deepL (l.take (k + 1)) = d := by rw [HDX.out, if_neg (by omega), HDK.out]; omega
            have HDZ := Lib.hid hdz
            clear hdz
            have hil0 : il = 0 := by omega
            subst hil0
            go_wp2_with fail
            refine HCALL.out.mono ?_
            rintro e w1 ⟨rfl, hb1⟩
            have HB1 := Lib.hid (HTAIL.out w1 hb1)
            have k1 := (hb1.cell (p := ⟨b, off + k * 5 + 1, none⟩) hbl).trans c1
            have k4 := (hb1.cell (p := ⟨b, off + k * 5 + 4, none⟩) hbl).trans c4
            clear hb1
            go_wp2_with fail
            go_roundw
            case rel => exact ⟨m + y, d, k + 1, by simp, by simp, by simp, by omega, HMK.out, HDZ.out.symm, HB1.out⟩
            case measure => simp [intOf] <;> omega
        · obtain rfl : kd = 3 := by simpa using hk3
          have hdz : deepL (l.take (k + 1)) = max d (1 + z) := by rw [HDX.out, if_pos (.inl rfl), HDK.out]
          have HDZ := Lib.hid hdz
          clear hdz
          by_cases hgt : d < 1 + z
          · have hmx : max d (1 + z) = z + 1 := by omega
            have HMX := Lib.hid hmx
            clear hmx
            go_wp2_with fail
            refine HCALL.out.mono ?_
            rintro e w1 ⟨rfl, hb1⟩
            have HB1 := Lib.hid (HTAIL.out w1 hb1)
            have k1 := (hb1.cell (p := ⟨b, off + k * 5 + 1, none⟩) hbl).trans c1
            have k4 := (hb1.cell (p := ⟨b, off + k * 5 + 4, none⟩) hbl).trans c4
            clear hb1
            go_wp2_with fail
            go_roundw
            case rel => exact ⟨m + y, z + 1, k + 1, by simp, by simp, by simp, by omega, HMK.out, by rw [HDZ.out, HMX.out], HB1.out⟩
            case measure => simp [intOf] <;> omega
          · have hmx : max d (1 + z) = d := by omega
            have HMX := Lib.hid hmx
            clear hmx
            go_wp2_with fail
            refine HCALL.out.mono ?_
            rintro e w1 ⟨rfl, hb1⟩
            have HB1 := Lib.hid (HTAIL.out w1 hb1)
            have k1 := (hb1.cell (p := ⟨b, off + k * 5 + 1, none⟩) hbl).trans c1
            have k4 := (hb1.cell (p := ⟨b, off + k * 5 + 4, none⟩) hbl).trans c4
            clear hb1
            go_wp2_with fail
            go_roundw
            case rel => exact ⟨m + y, d, k + 1, by simp, by simp, by simp, by omega, HMK.out, by rw [HDZ.out, HMX.out], HB1.out⟩
            case measure => simp [intOf] <;> omega
      · have HE := Lib.hid (show countL l = m by rw [HC.out, hmk, inC_all l k (by omega)])
        have HD := Lib.hid (show deepL l = d by rw [hdk, List.take_of_length_le (by omega)])
        have hge : l.length ≤ k := by omega
        clear hmk hdk
        go_wp2_with fail
        go_ret2
        rw [HE.out, HD.out]
        exact ⟨rfl, hbw⟩
end Go.Proofs.YtecmhpncgdjgjaaDoor
