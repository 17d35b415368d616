/-
  The functions of package wire and of the reference on numbers, walked, part three. Conditions: none.
-/
import Derived.Test.YtecmhpncgdjgjaaDoorNums2
namespace Go.Proofs.YtecmhpncgdjgjaaDoor
open Go.RowKit
set_option linter.unusedVariables false

set_option maxHeartbeats 1000000 in
theorem rZig_any (v : Int) (hv : Is64 v) (w : World) : Calls Tryd.prog 21 #[.int .i64 v] w fun e w' => e = .returned (.int .i64 (zigV v)) ∧ w = w' := by
  obtain ⟨h1, h2⟩ := hv
  by_cases h0 : v < 0
  · go_enter Tryd.func21, Tryd.ntmps21
    go_wp2
    all_goals
      go_ret
      refine ⟨ret_int ?_, rfl⟩
      unfold zigV wrap64
      rw [if_pos h0]
      omega
  · go_enter Tryd.func21, Tryd.ntmps21
    go_wp2
    all_goals
      go_ret
      refine ⟨ret_int ?_, rfl⟩
      unfold zigV wrap64
      rw [if_neg (by omega)]
      omega

set_option maxHeartbeats 1000000 in
theorem rZag_any (v : Int) (hv : Is64 v) (w : World) : Calls Tryd.prog 22 #[.int .i64 v] w fun e w' => e = .returned (.int .i64 (zagV v)) ∧ w = w' := by
  have hu := u64_lt v
  have he : (u64 v : Int) = v % 18446744073709551616 := by unfold u64; omega
  go_enter Tryd.func22, Tryd.ntmps22
  go_wp2_with fail
  refine (halves_any v hv w).mono ?_
  rintro e w1 ⟨rfl, rfl⟩
  obtain ⟨up, hup⟩ : ∃ up : Int, ((u64 v / 128 : Nat) : Int) = up := ⟨_, rfl⟩
  obtain ⟨low, hlow⟩ : ∃ low : Int, ((u64 v % 128 : Nat) : Int) = low := ⟨_, rfl⟩
  rw [hup, hlow]
  have hl1 : 0 ≤ low ∧ low < 128 := by omega
  have hu1 : 0 ≤ up ∧ up < 144115188075855872 := by omega
  obtain ⟨hl1, hl2⟩ := hl1
  obtain ⟨hu1, hu2⟩ := hu1
  have ht : low.tdiv 2 = low / 2 := Int.tdiv_eq_ediv_of_nonneg hl1
  have htm : low.tmod 2 = low % 2 := Int.tmod_eq_emod_of_nonneg hl1
  have HUP := Lib.hid hup
  have HLO := Lib.hid hlow
  have HE := Lib.hid he
  clear hup hlow he
  go_wp2
  all_goals
    go_ret
    rename_i hq
    simp only [beq_iff_eq, beq_eq_false_iff_ne, ne_eq] at hq
    have h7 := HUP.out
    have h8 := HLO.out
    have h9 := HE.out
    refine ⟨ret_int ?_, rfl⟩
    unfold zagV
    try unfold wrap64
    split <;> omega

set_option maxHeartbeats 2000000 in
set_option maxRecDepth 100000 in
theorem low_any (x : Int) (hx : Is64 x) (n : Nat) (hn : n ≤ 8) (w : World) : Calls Tryd.prog 61 #[.int .i64 x, .int .i64 n] w (News w (fx n x)) := by
  obtain ⟨i0, hi, hz0, hz1, hz2⟩ := info_parts infoB
  go_enter Tryd.func61, Tryd.ntmps61
  go_wp2_with fail
  go_loopw [0, 5, 6] (fun v0 v5 v6 wr => ∃ (p : List UInt8) (y : Int) (k : Nat), v0 = .int .i64 y ∧ v6 = .int .i64 k ∧ k ≤ n ∧ Is64 y ∧ OwnB wr w.heap.size v5 p ∧ Below w.heap.size w wr ∧ p ++ fx (n - k) y = fx n x) (fun _ _ v6 _ => n - (intOf v6).toNat)
  case atStart => exact ⟨[], x, 0, rfl, rfl, by omega, hx, OwnB.nil _ _, Below.refl _ _, rfl⟩
  case round =>
    obtain ⟨p, y, k, rfl, rfl, hk, hy, hown, hbw, hp⟩ := hrel
    have hsz := hbw.size
    have hpl : p.length ≤ 8 := by
      have h1 := congrArg List.length hp
      rw [List.length_append, fx_len, fx_len] at h1
      omega
    by_cases hs : k < n
    · have hyl := u64_lt y
      go_wp2_with fail
      refine (halves_any y hy wr).mono ?_
      rintro e w1 ⟨rfl, rfl⟩
      obtain ⟨u, hu⟩ : ∃ u, u64 y = u := ⟨_, rfl⟩
      have hX : p ++ (UInt8.ofNat (u % 256) :: fx (n - (k + 1)) ((u / 256 : Nat) : Int)) = fx n x := by
        have h1 : fx (n - k) y = fx (n - k) (u : Int) := by rw [← hu, fx_u64 _ (by omega)]
        rw [← hp, h1, show n - k = (n - (k + 1)) + 1 by omega]
        simp only [fx]
        congr 3
      obtain ⟨up, hup⟩ : ∃ up : Int, ((u64 y / 128 : Nat) : Int) = up := ⟨_, rfl⟩
      obtain ⟨low, hlow⟩ : ∃ low : Int, ((u64 y % 128 : Nat) : Int) = low := ⟨_, rfl⟩
      rw [hup, hlow]
      have hl1 : 0 ≤ low ∧ low < 128 := by omega
      have hu1 : 0 ≤ up ∧ up < 144115188075855872 := by omega
      obtain ⟨hl1, hl2⟩ := hl1
      obtain ⟨hu1, hu2⟩ := hu1
      have ht : up.tdiv 2 = up / 2 := Int.tdiv_eq_ediv_of_nonneg hu1
      have htm : up.tmod 2 = up % 2 := Int.tmod_eq_emod_of_nonneg hu1
      obtain ⟨c, hc⟩ : ∃ c, c = UInt8.ofNat (u % 256) := ⟨_, rfl⟩
      have hb : low + 128 * (up % 2) = (c.toNat : Int) := by rw [hc, UInt8.toNat_ofNat', ← hlow, ← hup, hu]; omega
      rw [← hc, show ((u / 256 : Nat) : Int) = up / 2 by omega, ← List.singleton_append, ← List.append_assoc] at hX
      have HX := Lib.hid hX
      have hI : Is64 (up / 2) := by unfold Is64; omega
      clear hp hc hX hup hlow hu
      go_wp2_with (at_builtin; refine wpList_append_own_at _ rfl _ _ 24 rfl w.heap.size 5 i0 (.int .u8 0) 1 1 Tryd.underlying24 hi hz0 hz1 hz2 rfl (by decide) _ _ _ rfl (World.ownsRow.alloc hown _) ⟨wr.heap.size, 0, none⟩ 1 1 [.int .u8 c.toNat] rfl rfl ?c1 ?c2 ?c3 ?c4 ?c5 ?_)
      case c1 => exact news_row (by simp)
      case c2 => intro u hu; simp at hu; rw [hu]; rfl
      case c3 => unfold maxLen; omega
      case c4 => omega
      case c5 => simp; omega
      intro v' w2 hown' hgrow _ hat
      have hY : OwnB w2 w.heap.size v' (p ++ [c]) := OwnB.put hown' rfl (by simp)
      have hG : Below w.heap.size w w2 := (hbw.alloc hsz _).grown hgrow (by simp; omega) (own_base hown)
      clear hown' hgrow hat
      go_wp2
      go_roundw
      case rel => exact ⟨p ++ [c], up / 2, k + 1, by simp, by go_num, by omega, hI, hY, hG, HX.out⟩
      case measure => simp [intOf]; omega
    · have hX : p = fx n x := by rw [← hp, show n - k = 0 by omega]; simp [fx]
      have HX := Lib.hid hX
      rw [hX] at hown
      clear hp hX
      go_wp2
      go_ret
      exact ⟨_, rfl, hown, hbw⟩

/-- What Fixed answers: bytes and error. -/
def fixedOf (x size : Int) : List UInt8 × Int :=
  if (size ≠ 4 ∧ size ≠ 8) ∨ (size = 4 ∧ (x < 0 ∨ x > 4294967295)) then ([], 1) else (fx size.toNat x, 0)

set_option maxHeartbeats 2000000 in
set_option maxRecDepth 100000 in
theorem wFixed_any (x size : Int) (hx : Is64 x) (w : World) : Calls Tryd.prog 23 #[.int .i64 x, .int .i64 size] w (News2 w (fixedOf x size)) := by
  by_cases hok : (size ≠ 4 ∧ size ≠ 8) ∨ (size = 4 ∧ (x < 0 ∨ x > 4294967295))
  · have hr : fixedOf x size = ([], 1) := if_pos hok
    rw [hr]
    by_cases h4 : size = 4
    · subst h4
      have hx : x < 0 ∨ x > 4294967295 := by omega
      clear hok hr
      rcases hx with h5 | h5
      · go_enter Tryd.func23, Tryd.ntmps23
        go_wp2
        go_ret2
        exact ⟨_, rfl, OwnB.nil _ _, Below.refl _ _⟩
      · have h6 : ¬ x < 0 := by omega
        go_enter Tryd.func23, Tryd.ntmps23
        go_wp2
        go_ret2
        exact ⟨_, rfl, OwnB.nil _ _, Below.refl _ _⟩
    · have h8 : (size != 8) = true := by simp; omega
      have h4 : (size != 4) = true := by simp; omega
      clear hok hr
      go_enter Tryd.func23, Tryd.ntmps23
      go_wp2
      go_ret2
      exact ⟨_, rfl, OwnB.nil _ _, Below.refl _ _⟩
  · have hr : fixedOf x size = (fx size.toNat x, 0) := if_neg hok
    rw [hr]
    have hs : size = 4 ∨ size = 8 := by omega
    rcases hs with rfl | rfl
    · have h5 : 0 ≤ x := by omega
      have h6 : x ≤ 4294967295 := by omega
      clear hok hr
      go_enter Tryd.func23, Tryd.ntmps23
      go_wp2_with fail
      refine (fixed_any w.heap.size _ [] x 4 (by omega) w (OwnB.nil _ _) (Nat.le_refl _) (by simp)).mono ?_
      rintro e w1 ⟨v, rfl, h1, h2'⟩
      have h2 := h2'.nil_below
      go_wp2
      go_ret2
      exact ⟨_, rfl, h1, h2⟩
    · clear hok hr
      go_enter Tryd.func23, Tryd.ntmps23
      go_wp2_with fail
      refine (fixed_any w.heap.size _ [] x 8 (by omega) w (OwnB.nil _ _) (Nat.le_refl _) (by simp)).mono ?_
      rintro e w1 ⟨v, rfl, h1, h2'⟩
      have h2 := h2'.nil_below
      go_wp2
      go_ret2
      exact ⟨_, rfl, h1, h2⟩

set_option maxHeartbeats 2000000 in
set_option maxRecDepth 100000 in
theorem rFixed_any (x size : Int) (hx : Is64 x) (w : World) : Calls Tryd.prog 24 #[.int .i64 x, .int .i64 size] w (News2 w (fixedOf x size)) := by
  by_cases hok : (size ≠ 4 ∧ size ≠ 8) ∨ (size = 4 ∧ (x < 0 ∨ x > 4294967295))
  · have hr : fixedOf x size = ([], 1) := if_pos hok
    rw [hr]
    by_cases h4 : size = 4
    · subst h4
      have hx : x < 0 ∨ x > 4294967295 := by omega
      clear hok hr
      rcases hx with h5 | h5
      · go_enter Tryd.func24, Tryd.ntmps24
        go_wp2
        go_ret2
        exact ⟨_, rfl, OwnB.nil _ _, Below.refl _ _⟩
      · have h6 : ¬ x < 0 := by omega
        go_enter Tryd.func24, Tryd.ntmps24
        go_wp2
        go_ret2
        exact ⟨_, rfl, OwnB.nil _ _, Below.refl _ _⟩
    · have h8 : (size != 8) = true := by simp; omega
      have h4 : (size != 4) = true := by simp; omega
      clear hok hr
      go_enter Tryd.func24, Tryd.ntmps24
      go_wp2
      go_ret2
      exact ⟨_, rfl, OwnB.nil _ _, Below.refl _ _⟩
  · have hr : fixedOf x size = (fx size.toNat x, 0) := if_neg hok
    rw [hr]
    have hs : size = 4 ∨ size = 8 := by omega
    rcases hs with rfl | rfl
    · have h5 : 0 ≤ x := by omega
      have h6 : x ≤ 4294967295 := by omega
      clear hok hr
      go_enter Tryd.func24, Tryd.ntmps24
      go_wp2_with fail
      refine (low_any x hx 4 (by omega) w).mono ?_
      rintro e w1 ⟨v, rfl, h1, h2⟩
      go_wp2
      go_ret2
      exact ⟨_, rfl, h1, h2⟩
    · clear hok hr
      go_enter Tryd.func24, Tryd.ntmps24
      go_wp2_with fail
      refine (low_any x hx 8 (by omega) w).mono ?_
      rintro e w1 ⟨v, rfl, h1, h2⟩
      go_wp2
      go_ret2
      exact ⟨_, rfl, h1, h2⟩


/-- What Tag answers. -/
def tagOf (n k : Int) : List UInt8 × Int :=
  if n < 1 ∨ n > 536870911 then ([], 24) else if k < 0 ∨ k > 5 then ([], 23) else (vb (u64 (n * 8 + k)), 0)

theorem or_kind (n k : Int) (hn : 0 ≤ n) (hn2 : n ≤ 536870911) (hk : 0 ≤ k) (hk2 : k < 8) : bits BinOp.or IntKind.i64 (n * 8) k = n * 8 + k := by
  show IntKind.i64.wrap ((BitVec.ofInt 64 (n * 8) ||| BitVec.ofInt 64 k).toNat : Int) = _
  rw [BitVec.toNat_or, ofInt_toNat, ofInt_toNat, IntKind.wrap_i64]
  have e1 : u64 (n * 8) = 2 ^ 3 * n.toNat := by unfold u64; omega
  have e2 : u64 k = k.toNat := by unfold u64; omega
  rw [e1, e2, ← Nat.two_pow_add_eq_or_of_lt (by omega)]
  omega

set_option maxHeartbeats 2000000 in
set_option maxRecDepth 100000 in
theorem wTag_any (n k : Int) (w : World) : Calls Tryd.prog 25 #[.int .i64 n, .int .i64 k] w (News2 w (tagOf n k)) := by
  unfold tagOf
  split
  · rename_i h
    rcases h with h1 | h1
    · go_enter Tryd.func25, Tryd.ntmps25
      go_wp2
      go_ret2
      exact ⟨_, rfl, OwnB.nil _ _, Below.refl _ _⟩
    · have h2 : ¬ n < 1 := by omega
      go_enter Tryd.func25, Tryd.ntmps25
      go_wp2
      go_ret2
      exact ⟨_, rfl, OwnB.nil _ _, Below.refl _ _⟩
  · have h1 : 1 ≤ n := by omega
    have h2 : n ≤ 536870911 := by omega
    split
    · rename_i h0 h
      clear h0
      rcases h with h3 | h3
      · go_enter Tryd.func25, Tryd.ntmps25
        go_wp2
        go_ret2
        exact ⟨_, rfl, OwnB.nil _ _, Below.refl _ _⟩
      · have h4 : ¬ k < 0 := by omega
        go_enter Tryd.func25, Tryd.ntmps25
        go_wp2
        go_ret2
        exact ⟨_, rfl, OwnB.nil _ _, Below.refl _ _⟩
    · rename_i h3 h4
      have h5 : 0 ≤ k := by omega
      have h6 : k ≤ 5 := by omega
      clear h3 h4
      have hor := or_kind n k (by omega) h2 h5 (by omega)
      have HOR := Lib.hid hor
      clear hor
      go_enter Tryd.func25, Tryd.ntmps25
      go_wp2_with fail
      rw [HOR.out]
      refine (wVarint_any _ w).mono ?_
      rintro e w1 ⟨v, rfl, h1, h2⟩
      go_wp2
      go_ret2
      exact ⟨_, rfl, h1, h2⟩

set_option maxHeartbeats 2000000 in
set_option maxRecDepth 100000 in
theorem rTag_any (n k : Int) (w : World) : Calls Tryd.prog 26 #[.int .i64 n, .int .i64 k] w (News2 w (tagOf n k)) := by
  unfold tagOf
  split
  · rename_i h
    rcases h with h1 | h1
    · go_enter Tryd.func26, Tryd.ntmps26
      go_wp2
      go_ret2
      exact ⟨_, rfl, OwnB.nil _ _, Below.refl _ _⟩
    · have h2 : ¬ n < 1 := by omega
      go_enter Tryd.func26, Tryd.ntmps26
      go_wp2
      go_ret2
      exact ⟨_, rfl, OwnB.nil _ _, Below.refl _ _⟩
  · have h1 : 1 ≤ n := by omega
    have h2 : n ≤ 536870911 := by omega
    split
    · rename_i h0 h
      clear h0
      rcases h with h3 | h3
      · go_enter Tryd.func26, Tryd.ntmps26
        go_wp2
        go_ret2
        exact ⟨_, rfl, OwnB.nil _ _, Below.refl _ _⟩
      · have h4 : ¬ k < 0 := by omega
        go_enter Tryd.func26, Tryd.ntmps26
        go_wp2
        go_ret2
        exact ⟨_, rfl, OwnB.nil _ _, Below.refl _ _⟩
    · rename_i h3 h4
      have h5 : 0 ≤ k := by omega
      have h6 : k ≤ 5 := by omega
      clear h3 h4
      go_enter Tryd.func26, Tryd.ntmps26
      go_wp2_with fail
      rw [show (8 * n + k) = n * 8 + k by omega]
      refine (rVarint_any _ (by unfold Is64; omega) w).mono ?_
      rintro e w1 ⟨v, rfl, h1, h2⟩
      go_wp2
      go_ret2
      exact ⟨_, rfl, h1, h2⟩
end Go.Proofs.YtecmhpncgdjgjaaDoor
