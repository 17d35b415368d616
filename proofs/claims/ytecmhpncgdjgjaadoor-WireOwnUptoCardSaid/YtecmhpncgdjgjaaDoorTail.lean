/-
  mark and tail of the statements, walked. Conditions: numbers that are no less than 0.
  tail of the statements, walked. Conditions: numbers that are no less than 0.
-/
import Derived.Test.YtecmhpncgdjgjaaDoorTwins
import Derived.Test.YtecmhpncgdjgjaaDoorKinds
import Derived.Test.YtecmhpncgdjgjaaDoorRead
namespace Go.Proofs.YtecmhpncgdjgjaaDoor
open Go.RowKit
set_option linter.unusedVariables false
set_option linter.unusedSimpArgs false

/-- Byte k of the mark of number i. -/
def markV (i k : Nat) : UInt8 := UInt8.ofNat (if k % 4 = 0 then i else if k % 4 = 1 then i / 256 else if k % 4 = 2 then i / 65536 else i / 16777216)

theorem byte_of (u : Nat) : IntKind.u8.wrap (u : Int) = ((UInt8.ofNat u).toNat : Int) := by rw [wrap_u8, UInt8.toNat_ofNat']

set_option maxHeartbeats 1000000 in
theorem mark_any (i k : Nat) (w : World) (hi : i ≤ 4611686018427387904) (hk : k ≤ 4611686018427387904) : Calls Tryd.prog 73 #[.int .i64 i, .int .i64 k] w fun e w' => e = .returned (.int .u8 ((markV i k).toNat : Int)) ∧ w = w' := by
  rcases (by omega : k % 4 = 0 ∨ k % 4 = 1 ∨ k % 4 = 2 ∨ k % 4 = 3) with h | h | h | h
  · have hV := Lib.hid (show markV i k = UInt8.ofNat i by simp [markV, h])
    have h0 : ((k : Int) % 4 == 0) = true := by simp; omega
    have HH := Lib.hid h
    clear h
    go_enter Tryd.func73, Tryd.ntmps73
    go_wp2_with fail
    go_ret
    rw [hV.out, ← byte_of]
    exact ⟨rfl, rfl⟩
  · have hV := Lib.hid (show markV i k = UInt8.ofNat (i / 256) by simp [markV, h])
    have h0 : ((k : Int) % 4 == 0) = false := by simp; omega
    have h1 : ((k : Int) % 4 == 1) = true := by simp; omega
    clear h
    go_enter Tryd.func73, Tryd.ntmps73
    go_wp2_with fail
    go_ret
    rw [hV.out, ← byte_of]
    exact ⟨rfl, rfl⟩
  · have hV := Lib.hid (show markV i k = UInt8.ofNat (i / 65536) by simp [markV, h])
    have h0 : ((k : Int) % 4 == 0) = false := by simp; omega
    have h1 : ((k : Int) % 4 == 1) = false := by simp; omega
    have h2 : ((k : Int) % 4 == 2) = true := by simp; omega
    clear h
    go_enter Tryd.func73, Tryd.ntmps73
    go_wp2_with fail
    go_ret
    rw [hV.out, ← byte_of]
    exact ⟨rfl, rfl⟩
  · have hV := Lib.hid (show markV i k = UInt8.ofNat (i / 16777216) by simp [markV, h])
    have h0 : ((k : Int) % 4 == 0) = false := by simp; omega
    have h1 : ((k : Int) % 4 == 1) = false := by simp; omega
    have h2 : ((k : Int) % 4 == 2) = false := by simp; omega
    clear h
    go_enter Tryd.func73, Tryd.ntmps73
    go_wp2_with fail
    go_ret
    rw [hV.out, ← byte_of]
    exact ⟨rfl, rfl⟩
end Go.Proofs.YtecmhpncgdjgjaaDoor

namespace Go.Proofs.YtecmhpncgdjgjaaDoor
open Go.RowKit
set_option linter.unusedVariables false
set_option linter.unusedSimpArgs false

/-- Three bytes of the tail of number i. -/
def threeV (i k : Nat) : List UInt8 := [255 - markV i (k / 4 + k), UInt8.ofNat k, 195]
def tailR (i : Nat) : Nat → List UInt8
  | 0 => []
  | k + 1 => tailR i k ++ threeV i k
theorem tailR_len (i k : Nat) : (tailR i k).length = 3 * k := by
  induction k with
  | zero => rfl
  | succ k ih => rw [tailR, List.length_append, ih]; simp [threeV]; omega
/-- The 700 bytes of list i. -/
@[irreducible] def tailV (i : Nat) : List UInt8 := (tailR i 700).take 700
theorem tailV_eq (i : Nat) : tailV i = (tailR i 700).take 700 := by unfold tailV; exact Eq.refl _
theorem tailV_len (i : Nat) : (tailV i).length = 700 := by
  have h1 := tailR_len i 700
  have h2 := tailV_eq i
  generalize tailR i 700 = l at h1 h2
  rw [h2, List.length_take, h1]
  omega

theorem tail_own {w : World} {B : Nat} {v : Value} {i : Nat} (h : OwnB w B v (tailV i)) : w.ownsRow B 5 1 v 700 (Lib.byteCells (tailV i)) := by
  unfold OwnB at h
  rwa [tailV_len] at h

theorem sub_byte (m : UInt8) : (255 : Int) - (m.toNat : Int) = ((255 - m : UInt8).toNat : Int) := by
  have h : m ≤ 255 := by rw [UInt8.le_iff_toNat_le]; have := m.toNat_lt; simp; omega
  rw [UInt8.toNat_sub_of_le _ _ h]
  have := m.toNat_lt
  simp; omega

theorem tw_base {w : World} {base : Nat} {e : TypeId} {size : Nat} {v : Value} {n : Nat} {xs : List Value} (h : w.ownsRow base e size v n xs) : ∀ k, v.ownBlock = some k → base ≤ k := fun k hk => (h.lt k hk).1

set_option maxHeartbeats 1000000 in
set_option maxRecDepth 100000 in
theorem tail_any (i : Nat) (w : World) (hi : i ≤ 4611686018427387904) : Calls Tryd.prog 74 #[.int .i64 i] w fun e w' => ∃ v, e = .returned v ∧ OwnB w' w.heap.size v (tailV i) ∧ Below w.heap.size w w' := by
  obtain ⟨i0, hi0, hz0, hz1, hz2⟩ := info_parts infoB
  go_enter Tryd.func74, Tryd.ntmps74
  go_wp2_with fail
  go_loopw [3, 4] (fun v3 v4 wr => ∃ (k : Nat), v4 = .int .i64 k ∧ k ≤ 700 ∧ OwnB wr w.heap.size v3 (tailR i k) ∧ Below w.heap.size w wr) (fun _ v4 _ => 700 - (intOf v4).toNat)
  case atStart => exact ⟨0, rfl, Nat.zero_le _, OwnB.nil _ _, Below.refl _ _⟩
  case round =>
    obtain ⟨k, rfl, hk, hown, hbw⟩ := hrel
    have hl3 := tailR_len i k
    have HL := Lib.hid hl3
    have HB := Lib.hid hbw
    have HO := Lib.hid hown
    clear hl3 hbw hown
    by_cases hlt : k < 700
    · have hM := mark_any i (k / 4 + k) wr hi (by omega)
      rw [show ((k / 4 + k : Nat) : Int) = (k : Int) / 4 + (k : Int) by omega] at hM
      obtain ⟨m, hm⟩ : ∃ m, markV i (k / 4 + k) = m := ⟨_, rfl⟩
      rw [hm] at hM
      have HM := Lib.hid hM
      have hml := m.toNat_lt
      have HN := Lib.hid (show Lib.byteCells (threeV i k) = [.int .u8 (255 - (m.toNat : Int)), .int .u8 ((k : Int) % 256), .int .u8 195] by
        have h8 : (k : Int) % 256 = ((UInt8.ofNat k).toNat : Int) := by rw [← byte_of, wrap_u8]; omega
        rw [h8, sub_byte, threeV, hm]; rfl)
      clear hM hm
      go_wp2_with fail
      refine HM.out.mono ?_
      rintro e w1 ⟨rfl, rfl⟩
      go_wp2_with (at_builtin; refine wpList_append_own_at _ rfl _ _ 24 rfl w.heap.size 5 i0 (.int .u8 0) 1 1 Tryd.underlying24 hi0 hz0 hz1 hz2 rfl (by decide) _ _ _ rfl (World.ownsRow.alloc HO.out _) ⟨wr.heap.size, 0, none⟩ 3 3 [.int .u8 (255 - (m.toNat : Int)), .int .u8 ((k : Int) % 256), .int .u8 195] rfl rfl ?c1 ?c2 ?c3 ?c4 ?c5 ?_)
      case c1 => exact news_row (by simp)
      case c2 => intro u hu; simp at hu; rcases hu with hu | hu | hu <;> rw [hu] <;> rfl
      case c3 => rw [HL.out]; unfold maxLen; omega
      case c4 => rw [HL.out]; omega
      case c5 => have := HB.out.size; simp; omega
      intro v' w2 hown' hgrow _ hat
      have hY := Lib.hid (show OwnB w2 w.heap.size v' (tailR i (k + 1)) from OwnB.put hown' HN.out.symm (by simp [threeV]))
      have hbe := Lib.hid (show Below w.heap.size w w2 from (HB.out.alloc HB.out.size _).grown hgrow (by have := HB.out.size; simp; omega) (tw_base HO.out))
      clear hown' hgrow hat
      go_wp2_with fail
      go_roundw
      case rel => exact ⟨k + 1, by simp, by omega, hY.out, hbe.out⟩
      case measure => simp [intOf]; omega
    · obtain rfl : k = 700 := by omega
      have h9 := HO.out
      unfold OwnB at h9
      rw [HL.out] at h9
      obtain ⟨g, cap, rfl, _, _, hc1, hc2⟩ := tw_some h9 (by omega)
      have HT := Lib.hid (tw_take h9 700 (by omega) (by omega))
      clear h9
      go_wp2_with fail
      go_ret
      refine ⟨_, rfl, ?_, HB.out⟩
      have h8 := HT.out
      unfold OwnB
      rw [tailV_len]
      have h7 := tailV_eq i
      generalize tailR i 700 = l at h7 h8
      rw [h7]
      simpa [Lib.byteCells, List.map_take] using h8
end Go.Proofs.YtecmhpncgdjgjaaDoor
