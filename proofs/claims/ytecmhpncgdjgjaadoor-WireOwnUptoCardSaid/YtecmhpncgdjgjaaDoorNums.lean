/-
  The functions of package wire and of the reference on numbers (Varint, Zig, Zag, Fixed, Tag, halves, Low), walked. Conditions: none.
-/
import Derived.Test.YtecmhpncgdjgjaaDoorGrow
namespace Go.Proofs.YtecmhpncgdjgjaaDoor
open Go.RowKit
set_option linter.unusedVariables false

/-- Bytes of the caller's own. -/
def News (w : World) (l : List UInt8) (e : Ending) (w' : World) : Prop :=
  ∃ v, e = .returned v ∧ OwnB w' w.heap.size v l ∧ Below w.heap.size w w'
/-- Bytes of the caller's own, and an error's number. -/
def News2 (w : World) (r : List UInt8 × Int) (e : Ending) (w' : World) : Prop :=
  ∃ v, e = .returned (.tuple #[v, .int .i64 r.2]) ∧ OwnB w' w.heap.size v r.1 ∧ Below w.heap.size w w'

theorem ret_int {k : IntKind} {a b : Int} (h : a = b) : Ending.returned (.int k a) = .returned (.int k b) := by rw [h]
theorem ret_two {k j : IntKind} {a a' b b' : Int} (h : a = a') (h2 : b = b') : Ending.returned (.tuple #[.int k a, .int j b]) = .returned (.tuple #[.int k a', .int j b']) := by rw [h, h2]

set_option maxHeartbeats 2000000 in
set_option maxRecDepth 100000 in
theorem wVarint_any (x : Int) (w : World) : Calls Tryd.prog 16 #[.int .i64 x] w (News w (vb (u64 x))) := by
  go_enter Tryd.func16, Tryd.ntmps16
  go_wp2_with fail
  refine (varint_any w.heap.size _ [] x w (OwnB.nil _ _) (Nat.le_refl _) (by simp)).mono ?_
  rintro e w1 ⟨v, rfl, h1, h2⟩
  go_wp2
  go_ret
  exact ⟨_, rfl, h1, h2.nil_below⟩

set_option maxHeartbeats 400000 in
theorem zig_any (v : Int) (hv : Is64 v) (w : World) : Calls Tryd.prog 17 #[.int .i64 v] w fun e w' => e = .returned (.int .i64 (zigV v)) ∧ w = w' := by
  have H := Lib.hid (zig_eq v hv)
  go_enter Tryd.func17, Tryd.ntmps17
  go_wp2
  go_ret
  exact ⟨by rw [← H.out]; rfl, rfl⟩

set_option maxHeartbeats 400000 in
theorem zag_any (v : Int) (w : World) : Calls Tryd.prog 18 #[.int .i64 v] w fun e w' => e = .returned (.int .i64 (zagV v)) ∧ w = w' := by
  have H := Lib.hid (zag_eq v)
  go_enter Tryd.func18, Tryd.ntmps18
  go_wp2
  go_ret
  exact ⟨by rw [← H.out]; rfl, rfl⟩

set_option maxHeartbeats 400000 in
theorem halves_any (v : Int) (hv : Is64 v) (w : World) : Calls Tryd.prog 59 #[.int .i64 v] w fun e w' => e = .returned (.tuple #[.int .i64 (u64 v / 128 : Nat), .int .i64 (u64 v % 128 : Nat)]) ∧ w = w' := by
  obtain ⟨h1, h2⟩ := hv
  have e1 : v.tmod 128 = if v < 0 then -((-v) % 128) else v % 128 := by
    split
    · rw [show v = -(-v) by omega, Int.neg_tmod, Int.tmod_eq_emod_of_nonneg (by omega)]; simp
    · exact Int.tmod_eq_emod_of_nonneg (by omega)
  have e2 : v.tdiv 128 = if v < 0 then -((-v) / 128) else v / 128 := by
    split
    · rw [show v = -(-v) by omega, Int.neg_tdiv, Int.tdiv_eq_ediv_of_nonneg (by omega)]; simp
    · exact Int.tdiv_eq_ediv_of_nonneg (by omega)
  obtain ⟨m, hm⟩ : ∃ m, v.tmod 128 = m := ⟨_, rfl⟩
  obtain ⟨d, hd⟩ : ∃ d, v.tdiv 128 = d := ⟨_, rfl⟩
  have hu : (u64 v : Int) = v % 18446744073709551616 := by unfold u64; omega
  rw [hm] at e1
  rw [hd] at e2
  have H : Hid ((m = if v < 0 then -((-v) % 128) else v % 128) ∧ (d = if v < 0 then -((-v) / 128) else v / 128) ∧ (u64 v : Int) = v % 18446744073709551616) := Lib.hid ⟨e1, e2, hu⟩
  clear e1 e2 hu
  go_enter Tryd.func59, Tryd.ntmps59
  go_wp2
  all_goals
    go_ret2
    obtain ⟨h3, h4, h5⟩ := H.out
    refine ⟨ret_two ?_ ?_, rfl⟩
    all_goals
      try unfold wrap64
      split at h3 <;> split at h4 <;> omega

/-- The lowest n bytes. -/
def fx : Nat → Int → List UInt8
  | 0, _ => []
  | n + 1, v => UInt8.ofNat (v % 256).toNat :: fx n (v / 256)
theorem fx_len (n : Nat) : ∀ v, (fx n v).length = n := by
  induction n with
  | zero => intro v; rfl
  | succ n ih => intro v; simp [fx, ih]
theorem fx_mod (n : Nat) : ∀ v v' : Int, (v - v') % (256 ^ n : Int) = 0 → fx n v = fx n v' := by
  induction n with
  | zero => intro v v' h; rfl
  | succ n ih =>
    intro v v' h
    have h1 : (v - v') % 256 = 0 := by
      have : (256 : Int) ∣ (256 : Int) ^ (n + 1) := ⟨256 ^ n, by rw [Int.pow_succ, Int.mul_comm]⟩
      exact Int.emod_eq_zero_of_dvd (Int.dvd_trans this (Int.dvd_of_emod_eq_zero h))
    have h2 : v % 256 = v' % 256 := by omega
    have h3 : (v / 256 - v' / 256) % (256 ^ n : Int) = 0 := by
      obtain ⟨q, hq⟩ := Int.dvd_of_emod_eq_zero h
      rw [Int.pow_succ, Int.mul_comm (256 ^ n), Int.mul_assoc] at hq
      refine Int.emod_eq_zero_of_dvd ⟨q, ?_⟩
      omega
    simp only [fx, h2, ih _ _ h3]
theorem fx_u64 (n : Nat) (hn : n ≤ 8) (v : Int) : fx n (u64 v) = fx n v := by
  refine fx_mod n _ _ (Int.emod_eq_zero_of_dvd ?_)
  refine Int.dvd_trans (b := (256 : Int) ^ 8) ⟨256 ^ (8 - n), by rw [← Int.pow_add]; congr 1; omega⟩ ⟨-(v / 18446744073709551616), ?_⟩
  have hu : (u64 v : Int) = v % 18446744073709551616 := by unfold u64; omega
  have : (256 : Int) ^ 8 = 18446744073709551616 := by decide
  rw [hu, this]
  omega

set_option maxHeartbeats 2000000 in
set_option maxRecDepth 100000 in
theorem fixed_any (B : Nat) (v : Value) (l : List UInt8) (x : Int) (n : Nat) (hn : n ≤ 8) (w : World) (h : OwnB w B v l) (hB : B ≤ w.heap.size) (hl : l.length ≤ 1099511627776) :
    Calls Tryd.prog 60 #[v, .int .i64 x, .int .i64 n] w (Appends w B v (l ++ fx n x)) := by
  obtain ⟨i0, hi, hz0, hz1, hz2⟩ := info_parts infoB
  go_enter Tryd.func60, Tryd.ntmps60
  go_wp2_with fail
  go_loopw [0, 1, 8] (fun v0 v1 v8 wr => ∃ (p : List UInt8) (u : Int) (k : Nat), v1 = .int .i64 u ∧ v8 = .int .i64 k ∧ k ≤ n ∧ OwnB wr B v0 (l ++ p) ∧ Grew w wr v v0 ∧ p ++ fx (n - k) u = fx n x) (fun _ _ v8 _ => n - (intOf v8).toNat)
  case atStart =>
    refine ⟨[], x, 0, rfl, rfl, by omega, by simpa using h, .refl _ _, rfl⟩
  case round =>
    obtain ⟨p, u, k, rfl, rfl, hk, hown, hgr, hp⟩ := hrel
    have hsz := hgr.size
    have hpl : p.length ≤ 8 := by
      have h1 := congrArg List.length hp
      rw [List.length_append, fx_len, fx_len] at h1
      omega
    by_cases hs : k < n
    · obtain ⟨c, hc⟩ : ∃ c, c = UInt8.ofNat (u % 256).toNat := ⟨_, rfl⟩
      have hb : u % 256 = (c.toNat : Int) := by rw [hc, UInt8.toNat_ofNat']; omega
      have hX : p ++ [c] ++ fx (n - (k + 1)) (u / 256) = fx n x := by
        rw [← hp, show n - k = (n - (k + 1)) + 1 by omega, hc, List.append_assoc]; rfl
      have HX := Lib.hid hX
      have HP := Lib.hid hp
      clear hp hc hX
      go_wp2_with (at_builtin; refine wpList_append_own_at _ rfl _ _ 24 rfl B 5 i0 (.int .u8 0) 1 1 Tryd.underlying24 hi hz0 hz1 hz2 rfl (by decide) _ _ _ rfl (World.ownsRow.alloc hown _) ⟨wr.heap.size, 0, none⟩ 1 1 [.int .u8 c.toNat] rfl rfl ?c1 ?c2 ?c3 ?c4 ?c5 ?_)
      case c1 => exact news_row (by simp)
      case c2 => intro u hu; simp at hu; rw [hu]; rfl
      case c3 => simp only [List.length_append]; unfold maxLen; omega
      case c4 => simp only [List.length_append]; omega
      case c5 => simp; omega
      intro v' w2 hown' hgrow _ hat
      have hY : OwnB w2 B v' (l ++ p ++ [c]) := OwnB.put hown' rfl (by simp)
      rw [List.append_assoc] at hY
      have hG := (hgr.alloc _).step hgrow hat (by simp)
      clear hown' hgrow hat
      go_wp2
      go_roundw
      case rel => exact ⟨p ++ [c], u / 256, k + 1, by simp, by go_num, by omega, hY, hG, HX.out⟩
      case measure => simp [intOf]; omega
    · have hX : l ++ p = l ++ fx n x := by rw [← hp, show n - k = 0 by omega]; simp [fx]
      have HX := Lib.hid hX
      clear hp hX
      rw [HX.out] at hown
      go_wp2
      go_ret
      exact ⟨_, rfl, hown, hgr⟩
end Go.Proofs.YtecmhpncgdjgjaaDoor
