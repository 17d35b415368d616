/-
  The Go function escape of package shell, walked: the byte that an escape stands for and how many bytes it has, or 0 and 0. Conditions: none.
-/
import Derived.Test.YtiocgdegaabnmaaSmall
import Derived.Deep.QuietTactic
import Derived.BigQuiet
namespace Go.Proofs.Ytiocgdegaabnmaa
open Go.RowKit

def escV (l : List UInt8) : UInt8 × Nat := (escOf l).getD (0, 0)

theorem at_list {s : ByteArray} {j : Nat} (h : j < s.size) : s.data.toList[j]? = some (s[j]'h) := by
  have h' : j < s.data.toList.length := by simpa using h
  rw [List.getElem?_eq_getElem h']
  rfl

theorem list_two {s : ByteArray} (h : 2 ≤ s.size) : ∃ a r, s.data.toList = a :: s[1] :: r := by
  have h0 := at_list (s := s) (j := 0) (by omega)
  have h1 := at_list (s := s) (j := 1) (by omega)
  match hl : s.data.toList, h0, h1 with
  | [], h0, _ => simp at h0
  | [_], _, h1 => simp at h1
  | a :: c :: r, _, h1 => simp at h1; exact ⟨a, r, by rw [h1]⟩

theorem list_four {s : ByteArray} (h : 4 ≤ s.size) : ∃ a r, s.data.toList = a :: s[1] :: s[2] :: s[3] :: r := by
  have h0 := at_list (s := s) (j := 0) (by omega)
  have h1 := at_list (s := s) (j := 1) (by omega)
  have h2 := at_list (s := s) (j := 2) (by omega)
  have h3 := at_list (s := s) (j := 3) (by omega)
  match hl : s.data.toList, h0, h1, h2, h3 with
  | [], h0, _, _, _ => simp at h0
  | [_], _, h1, _, _ => simp at h1
  | [_, _], _, _, h2, _ => simp at h2
  | [_, _, _], _, _, _, h3 => simp at h3
  | a :: c :: d :: e :: r, _, h1, h2, h3 => simp at h1 h2 h3; exact ⟨a, r, by rw [h1, h2, h3]⟩

theorem plainV_ne (c : UInt8) (h : plainV c ≠ 0) (a : UInt8) (r : List UInt8) : escV (a :: c :: r) = (plainV c, 2) := by
  unfold plainV at h ⊢
  unfold escV escOf
  cases h1 : (c == 92 || c == 34) <;> simp [h1] at h ⊢
  by_cases h2 : c = 110
  · simp [h2]
  · by_cases h3 : c = 116
    · simp [h3]
    · simp [h2, h3] at h

theorem plainV_zero (c : UInt8) (h : plainV c = 0) : (c == 92 || c == 34) = false ∧ (c == 110) = false ∧ (c == 116) = false := by
  unfold plainV at h
  cases h1 : (c == 92 || c == 34)
  · simp [h1] at h
    by_cases h2 : c = 110
    · simp [h2] at h
    · by_cases h3 : c = 116
      · simp [h3] at h
      · simp [h2, h3]
  · simp [h1] at h
    subst h
    simp at h1

theorem escV_not (c : UInt8) (h : plainV c = 0) (h120 : c ≠ 120) (a : UInt8) (r : List UInt8) : escV (a :: c :: r) = (0, 0) := by
  obtain ⟨h1, h2, h3⟩ := plainV_zero c h
  simp [escV, escOf, h1, h2, h3, h120]

theorem escV_short (c : UInt8) (h : plainV c = 0) (a : UInt8) (r : List UInt8) (hr : r.length < 2) : escV (a :: c :: r) = (0, 0) := by
  obtain ⟨h1, h2, h3⟩ := plainV_zero c h
  match r, hr with
  | [], _ => simp [escV, escOf, h1, h2, h3]
  | [_], _ => simp [escV, escOf, h1, h2, h3]

theorem escV_hex (a x y : UInt8) (r : List UInt8) : escV (a :: 120 :: x :: y :: r) = if hexv x < 0 ∨ hexv y < 0 then (0, 0) else (low8 (hexv x) (hexv y), 4) := by
  simp only [escV, escOf]
  by_cases h : hexv x < 0 ∨ hexv y < 0 <;> simp [h]

theorem low8_toNat (d e : Int) (h : 0 ≤ d ∧ d ≤ 15) (h' : 0 ≤ e ∧ e ≤ 15) : ((low8 d e).toNat : Int) = 16 * d + e := by
  unfold low8
  rw [UInt8.toNat_ofNat']
  omega

theorem hexv_le (a : UInt8) : -1 ≤ hexv a ∧ hexv a ≤ 15 := by
  unfold hexv
  (repeat' split) <;> omega

theorem drew0 (w : World) : w = w.drewN 0 := rfl

set_option maxHeartbeats 1000000 in
theorem escape_short (s : ByteArray) (w : World) (h2 : s.size < 2) :
    Calls Try.prog 27 #[.string s] w fun e w' => e = .returned (.tuple #[.int .u8 0, .int .i64 0]) ∧ w = w' := by
  go_enter Try.func27, Try.ntmps27
  go_wp2
  go_ret2
  exact ⟨rfl, rfl⟩

set_option maxHeartbeats 1000000 in
theorem escape_plain (s : ByteArray) (w : World) (hs : s.size ≤ 9223372036854775807) (h2 : 2 ≤ s.size) (c : UInt8) (hc : s[1] = c) (hp : ((plainV c).toNat : Int) != 0) :
    Calls Try.prog 27 #[.string s] w fun e w' => e = .returned (.tuple #[.int .u8 (plainV c).toNat, .int .i64 2]) ∧ w = w' := by
  go_enter Try.func27, Try.ntmps27
  go_wp2_with fail
  refine (plainly_any _ _).mono ?_
  rintro e w1 ⟨rfl, rfl⟩
  go_wp2
  go_ret2
  exact ⟨rfl, rfl⟩

set_option maxHeartbeats 1000000 in
theorem escape_not (s : ByteArray) (w : World) (hs : s.size ≤ 9223372036854775807) (h2 : 2 ≤ s.size) (c : UInt8) (hc : s[1] = c) (hp : (((plainV c).toNat : Int) != 0) = false) (h120 : ((c.toNat : Int) != 120) = true) :
    Calls Try.prog 27 #[.string s] w fun e w' => e = .returned (.tuple #[.int .u8 0, .int .i64 0]) ∧ w = w' := by
  go_enter Try.func27, Try.ntmps27
  go_wp2_with fail
  refine (plainly_any _ _).mono ?_
  rintro e w1 ⟨rfl, rfl⟩
  go_wp2
  go_ret2
  exact ⟨rfl, rfl⟩

set_option maxHeartbeats 1000000 in
theorem escape_three (s : ByteArray) (w : World) (h2 : 2 ≤ s.size) (h4 : s.size < 4) (c : UInt8) (hc : s[1] = c) (hp : (((plainV c).toNat : Int) != 0) = false) (h120 : ((c.toNat : Int) != 120) = false) :
    Calls Try.prog 27 #[.string s] w fun e w' => e = .returned (.tuple #[.int .u8 0, .int .i64 0]) ∧ w = w' := by
  go_enter Try.func27, Try.ntmps27
  go_wp2_with fail
  refine (plainly_any _ _).mono ?_
  rintro e w1 ⟨rfl, rfl⟩
  go_wp2
  go_ret2
  exact ⟨rfl, rfl⟩

set_option maxHeartbeats 1000000 in
theorem escape_first (s : ByteArray) (w : World) (hs : s.size ≤ 9223372036854775807) (h4 : 4 ≤ s.size) (c x : UInt8) (hc : s[1] = c) (hx : s[2] = x) (hp : (((plainV c).toNat : Int) != 0) = false) (h120 : ((c.toNat : Int) != 120) = false) (hn : hexv x < 0) :
    Calls Try.prog 27 #[.string s] w fun e w' => e = .returned (.tuple #[.int .u8 0, .int .i64 0]) ∧ w = w' := by
  go_enter Try.func27, Try.ntmps27
  go_wp2_with fail
  refine (plainly_any _ _).mono ?_
  rintro e w1 ⟨rfl, rfl⟩
  go_wp2_with fail
  refine (digit_any _ _).mono ?_
  rintro e w1 ⟨rfl, rfl⟩
  go_wp2
  go_ret2
  exact ⟨rfl, rfl⟩

set_option maxHeartbeats 1000000 in
theorem escape_second (s : ByteArray) (w : World) (hs : s.size ≤ 9223372036854775807) (h4 : 4 ≤ s.size) (c x y : UInt8) (hc : s[1] = c) (hx : s[2] = x) (hy : s[3] = y) (hp : (((plainV c).toNat : Int) != 0) = false) (h120 : ((c.toNat : Int) != 120) = false) (hn : 0 ≤ hexv x) (hm : hexv y < 0) :
    Calls Try.prog 27 #[.string s] w fun e w' => e = .returned (.tuple #[.int .u8 0, .int .i64 0]) ∧ w = w' := by
  go_enter Try.func27, Try.ntmps27
  go_wp2_with fail
  refine (plainly_any _ _).mono ?_
  rintro e w1 ⟨rfl, rfl⟩
  go_wp2_with fail
  refine (digit_any _ _).mono ?_
  rintro e w1 ⟨rfl, rfl⟩
  go_wp2_with fail
  refine (digit_any _ _).mono ?_
  rintro e w1 ⟨rfl, rfl⟩
  go_wp2
  go_ret2
  exact ⟨rfl, rfl⟩

theorem digit_same (c : UInt8) (w : World) : Calls Try.prog 37 #[.int .u8 c.toNat] w fun e w' => e = .returned (.int .i64 (hexv c)) ∧ w' = w :=
  (digit_any c w).mono fun _ _ h => ⟨h.1, h.2.symm⟩

set_option maxHeartbeats 1000000 in
theorem escape_hex (s : ByteArray) (w : World) (hs : s.size ≤ 9223372036854775807) (h4 : 4 ≤ s.size) (c x y : UInt8) (hc : s[1] = c) (hx : s[2] = x) (hy : s[3] = y) (hp : (((plainV c).toNat : Int) != 0) = false) (h120 : ((c.toNat : Int) != 120) = false) (hn : 0 ≤ hexv x) (hm : 0 ≤ hexv y) :
    Calls Try.prog 27 #[.string s] w fun e w' => e = .returned (.tuple #[.int .u8 (low8 (hexv x) (hexv y)).toNat, .int .i64 4]) ∧ ∃ q, w' = w.drewN q := by
  have hx15 := hexv_le x
  have hy15 := hexv_le y
  have HL := Lib.hid (low8_toNat (hexv x) (hexv y) ⟨hn, hx15.2⟩ ⟨hm, hy15.2⟩)
  go_enter Try.func27, Try.ntmps27
  go_wp2_with fail
  refine (plainly_any _ _).mono ?_
  rintro e w1 ⟨rfl, rfl⟩
  go_wp2_with fail
  refine (digit_any _ _).mono ?_
  rintro e w1 ⟨rfl, rfl⟩
  go_wp2_with fail
  refine (digit_any _ _).mono ?_
  rintro e w1 ⟨rfl, rfl⟩
  go_wp2_with fail
  go_quiet ((go_at_call 37; exact Calls.quiet_of_same (digit_same _ _)))
  go_wp2
  go_ret2
  exact ⟨congrArg (fun z => Ending.returned (Value.tuple #[Value.int IntKind.u8 z, Value.int IntKind.i64 4])) HL.out.symm, ⟨_, rfl⟩⟩

theorem escape_any (s : ByteArray) (w : World) (hs : s.size ≤ 9223372036854775807) :
    Calls Try.prog 27 #[.string s] w fun e w' => e = .returned (.tuple #[.int .u8 (escV s.data.toList).1.toNat, .int .i64 (escV s.data.toList).2]) ∧ ∃ q, w' = w.drewN q := by
  have zero : ∀ {f : Ending → World → Prop}, (∀ e w', f e w' → e = .returned (.tuple #[.int .u8 0, .int .i64 0]) ∧ w = w') → escV s.data.toList = (0, 0) → ∀ e w', f e w' → e = .returned (.tuple #[.int .u8 (escV s.data.toList).1.toNat, .int .i64 (escV s.data.toList).2]) ∧ ∃ q, w' = w.drewN q := by
    intro f hf he e w' h
    obtain ⟨rfl, rfl⟩ := hf e w' h
    rw [he]
    exact ⟨rfl, 0, rfl⟩
  by_cases h2 : s.size < 2
  · refine (escape_short s w h2).mono (zero (fun _ _ h => h) ?_)
    have hl : s.data.toList.length = s.size := by simp
    match hL : s.data.toList with
    | [] => rfl
    | [_] => rfl
    | _ :: _ :: _ => rw [hL] at hl; simp at hl; omega
  · have h2' : 2 ≤ s.size := by omega
    obtain ⟨a, r, hL⟩ := list_two h2'
    obtain ⟨c, hc⟩ : ∃ c, s[1] = c := ⟨_, rfl⟩
    by_cases hp : plainV c = 0
    · have hp' : (((plainV c).toNat : Int) != 0) = false := by rw [hp]; rfl
      by_cases h120 : c = 120
      · have h120' : ((c.toNat : Int) != 120) = false := by rw [h120]; rfl
        by_cases h4 : s.size < 4
        · refine (escape_three s w h2' h4 c hc hp' h120').mono (zero (fun _ _ h => h) ?_)
          rw [hL, hc]
          refine escV_short c hp a r ?_
          have hl : s.data.toList.length = s.size := by simp
          rw [hL] at hl
          simp at hl
          omega
        · have h4' : 4 ≤ s.size := by omega
          obtain ⟨a, r, hL⟩ := list_four h4'
          obtain ⟨x, hx⟩ : ∃ x, s[2] = x := ⟨_, rfl⟩
          obtain ⟨y, hy⟩ : ∃ y, s[3] = y := ⟨_, rfl⟩
          rw [hc, hx, hy, h120] at hL
          by_cases hn : hexv x < 0
          · refine (escape_first s w hs h4' c x hc hx hp' h120' hn).mono (zero (fun _ _ h => h) ?_)
            rw [hL, escV_hex, if_pos (.inl hn)]
          · by_cases hm : hexv y < 0
            · refine (escape_second s w hs h4' c x y hc hx hy hp' h120' (by omega) hm).mono (zero (fun _ _ h => h) ?_)
              rw [hL, escV_hex, if_pos (.inr hm)]
            · rw [hL, escV_hex, if_neg (by omega)]
              exact escape_hex s w hs h4' c x y hc hx hy hp' h120' (by omega) (by omega)
      · refine (escape_not s w hs h2' c hc hp' ?_).mono (zero (fun _ _ h => h) ?_)
        · rw [bne_iff_ne]
          intro h
          exact h120 (UInt8.toNat_inj.1 (show c.toNat = 120 by omega))
        · rw [hL, hc]
          exact escV_not c hp h120 a r
    · refine (escape_plain s w hs h2' c hc ?_).mono ?_
      · rw [bne_iff_ne]
        intro h
        exact hp (UInt8.toNat_inj.1 (show (plainV c).toNat = 0 by omega))
      · rintro e w' ⟨rfl, rfl⟩
        rw [hL, hc, plainV_ne c hp a r]
        exact ⟨rfl, 0, rfl⟩
end Go.Proofs.Ytiocgdegaabnmaa
