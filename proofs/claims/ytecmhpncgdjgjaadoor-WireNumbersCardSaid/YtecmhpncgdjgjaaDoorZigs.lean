/-
  The statement WireZigs of package sigillaw2, walked. Conditions: the rows of characters lie as they are laid.
-/
import Derived.Test.YtecmhpncgdjgjaaDoorLaid
namespace Go.Proofs.YtecmhpncgdjgjaaDoor
open Go.RowKit
set_option linter.unusedVariables false
set_option linter.unusedSimpArgs false

theorem is64_zig (v : Int) : Is64 (zigV v) := by unfold Is64 zigV wrap64; split <;> omega
theorem is64_zag (v : Int) : Is64 (zagV v) := by have := u64_lt v; unfold Is64 zagV; split <;> omega
theorem zag_zig (v : Int) (h : Is64 v) : zagV (zigV v) = v := by
  obtain ⟨h1, h2⟩ := h
  unfold zagV u64 zigV wrap64
  split <;> split <;> omega
theorem zig_zag (v : Int) (h : Is64 v) : zigV (zagV v) = v := by
  obtain ⟨h1, h2⟩ := h
  unfold zigV zagV u64 wrap64
  split <;> split <;> omega
theorem zig_pos (v : Int) (h0 : 0 ≤ v) (h1 : v < 2305843009213693952) : zigV v = 2 * v := by unfold zigV wrap64; rw [if_neg (by omega)]; omega
theorem zig_neg (v : Int) (h0 : v < 0) (h1 : -2305843009213693952 ≤ v) : zigV v = -2 * v - 1 := by unfold zigV wrap64; rw [if_pos h0]; omega

set_option maxHeartbeats 8000000 in
set_option maxRecDepth 100000 in
theorem zigs_walk (a : Option Addr) (len cap : Nat) (zs : List Int) (w : World) (h : IsRow .i64 w a len cap zs) (hr : RowsAt w) : Calls Tryd.prog 9 #[.slice a len cap] w fun e w' => e = .returned (.bool true) ∧ Below w.heap.size w w' := by
  have HH := Lib.hid h
  obtain ⟨hc1, hc2⟩ := h.cap
  clear h
  go_enter Tryd.func9, Tryd.ntmps9
  go_wp2_with fail
  refine (known_any w hr).mono ?_
  rintro e w1 ⟨rfl, hb1⟩
  go_wp2_with fail
  go_loopw [3] (fun vi wr => ∃ k : Nat, vi = .int .i64 k ∧ k ≤ len ∧ Below w.heap.size w wr) (fun vi _ => len - (intOf vi).toNat)
  case atStart => exact ⟨0, rfl, Nat.zero_le _, hb1⟩
  case round =>
    obtain ⟨k, rfl, hk, hbw⟩ := hrel
    by_cases hlt : k < len
    · obtain ⟨g, off, rfl, hc, h64⟩ := HH.out.int k hlt
      have kc := hbw.cell (p := ⟨g, off + k, none⟩) (cell_lt hc)
      rw [hc] at kc
      obtain ⟨v, hv⟩ : ∃ v, zs.getD k 0 = v := ⟨_, rfl⟩
      rw [hv] at kc h64
      have H64 := Lib.hid h64
      have hz1 := zag_zig v h64
      have hz2 := zig_zag v h64
      obtain ⟨z, hz⟩ : ∃ z, zigV v = z := ⟨_, rfl⟩
      obtain ⟨y, hy⟩ : ∃ y, zagV v = y := ⟨_, rfl⟩
      have hz64 : Is64 z := hz ▸ is64_zig v
      have hy64 : Is64 y := hy ▸ is64_zag v
      rw [hz] at hz1
      rw [hy] at hz2
      have HZ := Lib.hid hz
      have HY := Lib.hid hy
      have HZ1 := Lib.hid hz1
      have HZ2 := Lib.hid hz2
      have HZ64 := Lib.hid hz64
      have HY64 := Lib.hid hy64
      have hvv : (v != v) = false := by simp
      obtain ⟨h1, h2⟩ := h64
      clear hc hv hz hy hz1 hz2 hz64 hy64
      by_cases hlo : v < -2305843009213693952
      · go_wp2_with fail
        refine (zig_any v H64.out wr).mono ?_
        rintro e _ ⟨rfl, rfl⟩
        rw [HZ.out]
        go_wp2_with fail
        refine (zag_any v wr).mono ?_
        rintro e _ ⟨rfl, rfl⟩
        rw [HY.out]
        go_wp2_with fail
        refine (zag_any z wr).mono ?_
        rintro e _ ⟨rfl, rfl⟩
        rw [HZ1.out]
        go_wp2_with fail
        refine (zig_any y HY64.out wr).mono ?_
        rintro e _ ⟨rfl, rfl⟩
        rw [HZ2.out]
        go_wp2_with fail
        go_roundw
        case rel => exact ⟨k + 1, by simp, by omega, hbw⟩
        case measure => simp [intOf]; omega
      by_cases hhi : 2305843009213693952 ≤ v
      · have hlo' : -2305843009213693952 ≤ v := by omega
        go_wp2_with fail
        refine (zig_any v H64.out wr).mono ?_
        rintro e _ ⟨rfl, rfl⟩
        rw [HZ.out]
        go_wp2_with fail
        refine (zag_any v wr).mono ?_
        rintro e _ ⟨rfl, rfl⟩
        rw [HY.out]
        go_wp2_with fail
        refine (zag_any z wr).mono ?_
        rintro e _ ⟨rfl, rfl⟩
        rw [HZ1.out]
        go_wp2_with fail
        refine (zig_any y HY64.out wr).mono ?_
        rintro e _ ⟨rfl, rfl⟩
        rw [HZ2.out]
        go_wp2_with fail
        go_roundw
        case rel => exact ⟨k + 1, by simp, by omega, hbw⟩
        case measure => simp [intOf]; omega
      have hlo' : -2305843009213693952 ≤ v := by omega
      have hhi' : v < 2305843009213693952 := by omega
      by_cases hneg : v < 0
      · have hze : z = -2 * v - 1 := by rw [← HZ.out]; exact zig_neg v hneg hlo'
        have hz0 : 0 ≤ z := by omega
        have ht : z.tdiv 2 = -v - 1 := by rw [Int.tdiv_eq_ediv_of_nonneg hz0]; omega
        have htm : z.tmod 2 = 1 := by rw [Int.tmod_eq_emod_of_nonneg hz0]; omega
        have htv : (-v - 1 != v) = true := by simp; omega
        clear hze hlo hhi
        go_wp2_with fail
        refine (zig_any v H64.out wr).mono ?_
        rintro e _ ⟨rfl, rfl⟩
        rw [HZ.out]
        go_wp2_with fail
        refine (zag_any v wr).mono ?_
        rintro e _ ⟨rfl, rfl⟩
        rw [HY.out]
        go_wp2_with fail
        refine (zag_any z wr).mono ?_
        rintro e _ ⟨rfl, rfl⟩
        rw [HZ1.out]
        go_wp2_with fail
        refine (zig_any y HY64.out wr).mono ?_
        rintro e _ ⟨rfl, rfl⟩
        rw [HZ2.out]
        go_wp2_with fail
        go_roundw
        case rel => exact ⟨k + 1, by simp, by omega, hbw⟩
        case measure => simp [intOf]; omega
      · have hze : z = 2 * v := by rw [← HZ.out]; exact zig_pos v (by omega) hhi'
        have hz0 : 0 ≤ z := by omega
        have hv0 : 0 ≤ v := by omega
        have ht : z.tdiv 2 = v := by rw [Int.tdiv_eq_ediv_of_nonneg hz0]; omega
        have htm : z.tmod 2 = 0 := by rw [Int.tmod_eq_emod_of_nonneg hz0]; omega
        clear hze hlo hhi hneg
        go_wp2_with fail
        refine (zig_any v H64.out wr).mono ?_
        rintro e _ ⟨rfl, rfl⟩
        rw [HZ.out]
        go_wp2_with fail
        refine (zag_any v wr).mono ?_
        rintro e _ ⟨rfl, rfl⟩
        rw [HY.out]
        go_wp2_with fail
        refine (zag_any z wr).mono ?_
        rintro e _ ⟨rfl, rfl⟩
        rw [HZ1.out]
        go_wp2_with fail
        refine (zig_any y HY64.out wr).mono ?_
        rintro e _ ⟨rfl, rfl⟩
        rw [HZ2.out]
        go_wp2_with fail
        go_roundw
        case rel => exact ⟨k + 1, by simp, by omega, hbw⟩
        case measure => simp [intOf]; omega
    · go_wp2_with fail
      go_ret
      exact ⟨rfl, hbw⟩
end Go.Proofs.YtecmhpncgdjgjaaDoor
