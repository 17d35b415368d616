/-
  The functions of package wire and of the reference on numbers, walked, part two. Conditions: none.
-/
import Derived.Test.YtecmhpncgdjgjaaDoorNums
namespace Go.Proofs.YtecmhpncgdjgjaaDoor
open Go.RowKit
set_option linter.unusedVariables false

theorem is64_u64 (u : Nat) (h : u < 9223372036854775808) : Is64 (u : Int) := by unfold Is64; omega
theorem u64_nat (u : Nat) (h : u < 18446744073709551616) : u64 (u : Int) = u := by unfold u64; omega

set_option maxHeartbeats 2000000 in
set_option maxRecDepth 100000 in
theorem rVarint_any (x : Int) (hx : Is64 x) (w : World) : Calls Tryd.prog 20 #[.int .i64 x] w (News w (vb (u64 x))) := by
  obtain ⟨i0, hi, hz0, hz1, hz2⟩ := info_parts infoB
  go_enter Tryd.func20, Tryd.ntmps20
  go_wp2_with fail
  go_loopw [0, 3] (fun v0 v3 wr => ∃ (p : List UInt8) (y : Int), v0 = .int .i64 y ∧ Is64 y ∧ OwnB wr w.heap.size v3 p ∧ Below w.heap.size w wr ∧ p ++ vb (u64 y) = vb (u64 x)) (fun v0 _ _ => u64 (intOf v0))
  case atStart => exact ⟨[], x, rfl, hx, OwnB.nil _ _, Below.refl _ _, rfl⟩
  case round =>
    obtain ⟨p, y, rfl, hy, hown, hbw, hp⟩ := hrel
    have hsz := hbw.size
    have h10 := (vb_len10 x).2
    have hy1 := (vb_len10 y).1
    rw [← hp, List.length_append] at h10
    have hyl := u64_lt y
    go_wp2_with fail
    refine (halves_any y hy wr).mono ?_
    rintro e w1 ⟨rfl, rfl⟩
    obtain ⟨up, hup⟩ : ∃ up : Int, ((u64 y / 128 : Nat) : Int) = up := ⟨_, rfl⟩
    obtain ⟨low, hlow⟩ : ∃ low : Int, ((u64 y % 128 : Nat) : Int) = low := ⟨_, rfl⟩
    rw [hup, hlow]
    obtain ⟨u, hu⟩ : ∃ u, u64 y = u := ⟨_, rfl⟩
    rw [hu] at hup hlow hp hyl hy1 h10
    have HU := Lib.hid hu
    clear hu
    by_cases hs : u < 128
    · obtain ⟨c, hc⟩ : ∃ c, c = UInt8.ofNat u := ⟨_, rfl⟩
      have hb : low % 256 = (c.toNat : Int) := by rw [hc, UInt8.toNat_ofNat', ← hlow]; omega
      have hle : (up == 0) = true := by simp; omega
      have hX : p ++ [c] = vb (u64 x) := by rw [← hp, vb_small hs, hc]
      have HX := Lib.hid hX
      clear hp hs hc hX hup hlow
      go_wp2_with (at_builtin; refine wpList_append_own_at _ rfl _ _ 24 rfl w.heap.size 5 i0 (.int .u8 0) 1 1 Tryd.underlying24 hi hz0 hz1 hz2 rfl (by decide) _ _ _ rfl (World.ownsRow.alloc hown _) ⟨wr.heap.size, 0, none⟩ 1 1 [.int .u8 c.toNat] rfl rfl ?c1 ?c2 ?c3 ?c4 ?c5 ?_)
      case c1 => exact news_row (by simp)
      case c2 => intro u hu; simp at hu; rw [hu]; rfl
      case c3 => unfold maxLen; omega
      case c4 => omega
      case c5 => simp; omega
      intro v' w2 hown' hgrow _ hat
      have hY : OwnB w2 w.heap.size v' (p ++ [c]) := OwnB.put hown' rfl (by simp)
      have hG : Below w.heap.size w w2 := (hbw.alloc hsz _).grown hgrow (by simp; omega) (own_base hown)
      clear hown' hgrow hat
      rw [HX.out] at hY
      go_wp2
      go_ret
      exact ⟨_, rfl, hY, hG⟩
    · obtain ⟨c, hc⟩ : ∃ c, c = UInt8.ofNat (u % 128 + 128) := ⟨_, rfl⟩
      have hb : low + 128 = (c.toNat : Int) := by rw [hc, UInt8.toNat_ofNat', ← hlow]; omega
      have hle : (up == 0) = false := by simp; omega
      have hX : p ++ [c] ++ vb (u64 up) = vb (u64 x) := by rw [← hp, vb_more hs, hc, ← hup, u64_nat _ (by omega), List.append_assoc]; rfl
      have hI : Is64 up := by rw [← hup]; exact is64_u64 _ (by omega)
      have HX := Lib.hid hX
      have HL : Hid (u64 up < u) := by rw [← hup, u64_nat _ (by omega)]; exact (by omega : u / 128 < u)
      have hlow2 : 0 ≤ low ∧ low < 128 := by omega
      obtain ⟨hl1, hl2⟩ := hlow2
      clear hp hs hc hX hup hlow
      have hwl : wrap64 (low + 128) = low + 128 := by unfold wrap64; omega
      go_wp2_with (at_builtin; refine wpList_append_own_at _ rfl _ _ 24 rfl w.heap.size 5 i0 (.int .u8 0) 1 1 Tryd.underlying24 hi hz0 hz1 hz2 rfl (by decide) _ _ _ rfl (World.ownsRow.alloc hown _) ⟨wr.heap.size, 0, none⟩ 1 1 [.int .u8 c.toNat] rfl rfl ?c1 ?c2 ?c3 ?c4 ?c5 ?_)
      case c1 => exact news_row (by simp)
      case c2 => intro u hu; simp at hu; rw [hu]; rfl
      case c3 => unfold maxLen; omega
      case c4 => omega
      case c5 => simp; omega
      intro v' w2 hown' hgrow _ hat
      have hY : OwnB w2 w.heap.size v' (p ++ [c]) := OwnB.put hown' rfl (by simp)
      have hG : Below w.heap.size w w2 := (hbw.alloc hsz _).grown hgrow (by simp; omega) (own_base hown)
      clear hown' hgrow hat
      go_wp2
      go_roundw
      case rel => exact ⟨p ++ [c], up, rfl, hI, hY, hG, HX.out⟩
      case measure => have := HL.out; rw [← HU.out] at this; exact this
end Go.Proofs.YtecmhpncgdjgjaaDoor
