/-
  How many words a line has at most; marked of the statements, walked. Conditions: numbers that are no less than 0.
-/
import Derived.Test.YtiocgdegaabnmaaWords
import Derived.Test.YtiocgdegaabnmaaTwins
import Derived.Deep.RegionHeld3
namespace Go.Proofs.Ytiocgdegaabnmaa
open Go.RowKit
set_option linter.unusedVariables false
set_option linter.unusedSimpArgs false

theorem step_few (s : St) (c : UInt8) : (step s c).words.length ≤ s.words.length + 1 := by
  simp only [step, stFirst, stInside, stEscaped, stPlain, stEnds]
  repeat' split
  all_goals simp
theorem run_few (l : List UInt8) : ∀ s : St, (run s l).words.length ≤ s.words.length + l.length := by
  induction l with
  | nil => intro s; exact Nat.le_refl _
  | cons c l ih =>
    intro s
    rw [run_cons]
    have h1 := ih (step s c)
    have h2 := step_few s c
    rw [List.length_cons]
    omega
theorem res_few (l : List UInt8) : (resOf l).1.length ≤ 65537 := by
  unfold resOf
  split
  · simp
  · rename_i h
    have h1 := run_few l (st0 [])
    have h0 : (st0 []).words.length = 0 := rfl
    cases hw : wordsOf l with
    | none => simp
    | some ws =>
      unfold wordsOf fin at hw
      split at hw
      · cases hw
      · split at hw
        · injection hw with hw
          subst hw
          simp only [List.length_append, List.length_cons, List.length_nil]
          omega
        · injection hw with hw
          subst hw
          simp only
          omega

/-- A digit. -/
def dg (n : Nat) : UInt8 := UInt8.ofNat (48 + n)
/-- The letters of a number. -/
def mkB (n : Nat) : List UInt8 := if n < 10 then [dg n] else mkB (n / 10) ++ [dg (n % 10)]
termination_by n
decreasing_by omega
theorem mkB_small {n : Nat} (h : n < 10) : mkB n = [dg n] := by rw [mkB, if_pos h]
theorem mkB_more {n : Nat} (h : ¬ n < 10) : mkB n = mkB (n / 10) ++ [dg (n % 10)] := by rw [mkB, if_neg h]
def mkV (n : Nat) : ByteArray := ⟨(mkB n).toArray⟩

theorem mkB_len (k : Nat) : ∀ n, n < 10 ^ (k + 1) → (mkB n).length ≤ k + 1 := by
  induction k with
  | zero => intro n h; rw [mkB_small (by simpa using h)]; simp
  | succ k ih =>
    intro n h
    by_cases h10 : n < 10
    · rw [mkB_small h10]; simp
    · rw [mkB_more h10, List.length_append]
      have h2 := ih (n / 10) (by rw [Nat.pow_succ] at h; omega)
      simp only [List.length_cons, List.length_nil]
      omega
theorem mkV_size (n : Nat) (h : n ≤ 4611686018427387904) : (mkV n).size ≤ 20 := by
  have h1 := mkB_len 19 n (by omega)
  show (mkB n).toArray.size ≤ 20
  simpa using h1

theorem bytes_snoc (l : List UInt8) (c : UInt8) : (⟨l.toArray⟩ ++ ⟨#[c]⟩ : ByteArray) = ⟨(l ++ [c]).toArray⟩ := by
  apply ByteArray.ext
  simp [ByteArray.data_append]

theorem conv_at (W : World) (g : Nat) (x : Nat) (hc : W.cell? ⟨g, 0, none⟩ = some (.int .u8 (x : Int))) : (convert 35 9 (.slice (some ⟨g, 0, none⟩) 1 1)).run Try.prog W = .ok (.string ⟨#[UInt8.ofNat x]⟩) W := by
  have h1 := run_convert_bytes_arg (P := Try.prog) W 35 5 Try.underlying35 Try.underlying5 g 0 1 1 [(x : Int)] rfl (fun i hi => by
    obtain rfl : i = 0 := by omega
    simpa using hc) 9 Try.underlying9
  rw [h1]
  simp [strOfNums]
theorem conv_new (W : World) (x : Nat) : (convert 35 9 (.slice (some ⟨W.heap.size, 0, none⟩) 1 1)).run Try.prog (W.alloc (.cells #[.int .u8 (48 + (x : Int))] 5)) = .ok (.string ⟨#[dg x]⟩) (W.alloc (.cells #[.int .u8 (48 + (x : Int))] 5)) := by
  rw [show (48 : Int) + (x : Int) = ((48 + x : Nat) : Int) by omega]
  refine conv_at _ _ (48 + x) ?_
  have h : (W.alloc (.cells #[.int .u8 ((48 + x : Nat) : Int)] 5)).heap[W.heap.size]? = some (.cells #[.int .u8 ((48 + x : Nat) : Int)] 5 (0, 0)) := heap_alloc_new W _
  rw [cell_of_row _ _ _ _ _ _ h]
  rfl
theorem conv_drew (W : World) (x : Nat) : (convert 35 9 (.slice (some ⟨W.heap.size, 0, none⟩) 1 1)).run Try.prog (W.alloc (.cells #[.int .u8 (48 + (x : Int))] 5)).drew = .ok (.string ⟨#[dg x]⟩) (W.alloc (.cells #[.int .u8 (48 + (x : Int))] 5)).drew := by
  rw [show (48 : Int) + (x : Int) = ((48 + x : Nat) : Int) by omega]
  refine conv_at _ _ (48 + x) ?_
  have h : (W.alloc (.cells #[.int .u8 ((48 + x : Nat) : Int)] 5)).drew.heap[W.heap.size]? = some (.cells #[.int .u8 ((48 + x : Nat) : Int)] 5 (0, 0)) := heap_alloc_new W _
  rw [cell_of_row _ _ _ _ _ _ h]
  rfl
theorem conv_late {w x1 : World} {z : Int} (k : Nat) (hz : z = 48 + (k : Int)) (h : Below (w.alloc (.cells #[.int .u8 z] 5)).drew.heap.size (w.alloc (.cells #[.int .u8 z] 5)).drew x1) : (convert 35 9 (.slice (some ⟨w.heap.size, 0, none⟩) 1 1)).run Try.prog x1 = .ok (.string ⟨#[dg k]⟩) x1 := by
  subst hz
  rw [show (48 : Int) + (k : Int) = ((48 + k : Nat) : Int) by omega] at h
  refine conv_at _ _ (48 + k) ?_
  have h1 : (w.alloc (.cells #[.int .u8 ((48 + k : Nat) : Int)] 5)).heap[w.heap.size]? = some (.cells #[.int .u8 ((48 + k : Nat) : Int)] 5 (0, 0)) := heap_alloc_new w _
  have h2 := (h.block w.heap.size (by simp)).trans h1
  rw [cell_of_row _ _ _ _ _ _ h2]
  rfl

set_option maxHeartbeats 2000000 in
set_option maxRecDepth 100000 in
theorem marked_any (n : Nat) : n ≤ 4611686018427387904 → ∀ (w : World), Calls Try.prog 16 #[.int .i64 n] w fun e w' => e = .returned (.string (mkV n)) ∧ Below w.heap.size w w' := by
  induction n using Nat.strongRecOn with
  | _ n ih =>
    intro hn w
    have IH := Lib.hid ih
    clear ih
    by_cases h10 : n < 10
    · have HV := Lib.hid (show mkV n = ⟨#[dg n]⟩ by rw [mkV, mkB_small h10])
      have hd : decide ((n : Int) < 10) = true := by simp; omega
      have hcv := fun W : World => conv_new W n
      go_enter Try.func16, Try.ntmps16
      go_wp2_with fail
      go_ret
      rw [HV.out]
      exact ⟨rfl, (Below.refl _ w).alloc (Nat.le_refl _) _⟩
    · have HV := Lib.hid (show mkV n = ⟨(mkB (n / 10) ++ [dg (n % 10)]).toArray⟩ by rw [mkV, mkB_more h10])
      have hd : decide ((n : Int) < 10) = false := by simp; omega
      have hcv := fun W : World => conv_new W (n % 10)
      have hcvd := fun W : World => conv_drew W (n % 10)
      rw [show ((n % 10 : Nat) : Int) = (n : Int) % 10 by omega] at hcv hcvd
      have HI := Lib.hid (fun W => IH.out (n / 10) (by omega) (by omega) W)
      have hdiv : ((n / 10 : Nat) : Int) = (n : Int) / 10 := by omega
      rw [hdiv] at HI
      clear hdiv
      have hms := mkV_size (n / 10) (by omega)
      obtain ⟨m, hm⟩ : ∃ m, mkV (n / 10) = m := ⟨_, rfl⟩
      rw [hm] at HI hms
      have HM := Lib.hid hm
      clear hm
      go_enter Try.func16, Try.ntmps16
      go_wp2_with fail
      have hw1 : IntKind.i64.wrap ((n : Int) / 10) = (n : Int) / 10 := by rw [IntKind.wrap_i64]; omega
      have hw2 : (n : Int).tmod 10 = (n : Int) % 10 := Int.tmod_eq_emod_of_nonneg (by omega)
      have hw3 : IntKind.i64.wrap (48 + (n : Int) % 10) = 48 + (n : Int) % 10 := by rw [IntKind.wrap_i64]; omega
      have hw4 : IntKind.u8.wrap (48 + (n : Int) % 10) = 48 + (n : Int) % 10 := by
        simp only [IntKind.wrap, IntKind.bits, IntKind.signed, Bool.false_and, Bool.false_eq_true, if_false]
        omega
      go_region_with (first | (go_at_call 16; refine (HI.out _).mono ?_; rintro e x1 ⟨rfl, hx1⟩; try (have hcv2 := conv_late (n % 10) (by omega) hx1)))
      all_goals
        go_wp2_with fail
        go_ret
        refine ⟨?_, ?_⟩
        · rw [HV.out, ← HM.out]
          show Ending.returned (.string (mkV (n / 10) ++ ⟨#[dg (n % 10)]⟩)) = _
          rw [mkV, bytes_snoc]
        · first
            | exact (hx1.alloc (by have := hx1.size; simpa using this) _)
            | exact (((Below.refl _ w).alloc (Nat.le_refl _) _).drew).trans (hx1.mono (by simp))
            | exact ((((Below.refl _ w).drew).trans (hx1.mono (by simp))).alloc (by have := hx1.size; simpa using this) _)
end Go.Proofs.Ytiocgdegaabnmaa
