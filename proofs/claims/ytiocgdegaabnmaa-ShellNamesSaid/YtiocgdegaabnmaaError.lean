/-
  The Go method (api.Errno).Error, walked: of a number that stands in its table it answers that row's word; it lays new blocks and changes nothing that was there. Conditions: none.
-/
import Derived.Test.YtiocgdegaabnmaaRows
import Derived.WalkKit
import Derived.WalkSpells
import Derived.WalkLawsBesides
import Derived.Laws.Tables
import Derived.Lib.Hide
import Derived.Deep.DeepCutAuto
import Derived.Deep.CutBlock
namespace Go.Proofs.Ytiocgdegaabnmaa
open Go.RowKit

/-- The table's rows: number and word. -/
def errRows : List (Nat × List UInt8) := [(0, [111, 107]), (1, [97, 114, 103]), (2, [108, 111, 110, 103]), (3, [110, 97, 109, 101]), (4, [100, 101, 112, 116, 104]), (5, [115, 105, 122, 101]), (6, [116, 121, 112, 101]), (7, [110, 111, 114, 109, 97, 108]), (20, [101, 110, 100, 115]), (21, [111, 118, 101, 114]), (22, [108, 111, 110, 103, 101, 114]), (23, [107, 105, 110, 100]), (24, [110, 117, 109, 98, 101, 114]), (25, [103, 114, 111, 117, 112]), (26, [117, 116, 102, 56]), (30, [102, 114, 97, 109, 101]), (31, [104, 101, 120]), (32, [108, 101, 97, 102]), (40, [99, 104, 97, 114]), (41, [100, 105, 103, 105, 116, 115]), (42, [115, 116, 114, 105, 110, 103]), (43, [99, 111, 109, 109, 101, 110, 116]), (44, [99, 111, 100, 105, 110, 103]), (45, [116, 111, 107, 101, 110, 115]), (46, [112, 108, 97, 99, 101]), (50, [115, 121, 110, 116, 97, 120]), (51, [101, 110, 100]), (52, [119, 111, 114, 100]), (53, [110, 101, 115, 116]), (54, [100, 101, 99, 108, 115]), (55, [114, 97, 110, 103, 101]), (60, [100, 101, 99, 108]), (70, [105, 109, 112, 111, 114, 116]), (71, [116, 119, 105, 99, 101]), (72, [117, 110, 107, 110, 111, 119, 110]), (73, [110, 111, 116, 121, 112, 101]), (74, [102, 105, 101, 108, 100, 110, 117, 109, 98, 101, 114]), (75, [101, 110, 117, 109, 118, 97, 108, 117, 101]), (76, [109, 97, 112, 107, 101, 121]), (77, [106, 115, 111, 110, 110, 97, 109, 101]), (78, [114, 101, 115, 101, 114, 118, 101, 100]), (79, [116, 121, 112, 101, 115]), (80, [107, 101, 121, 116, 121, 112, 101]), (90, [102, 105, 101, 108, 100]), (100, [111, 114, 100, 101, 114]), (101, [115, 116, 114, 97, 110, 103, 101, 114]), (102, [119, 105, 114, 101]), (103, [122, 101, 114, 111]), (104, [102, 111, 114, 109]), (106, [112, 97, 105, 114]), (107, [107, 101, 121, 115]), (108, [98, 111, 116, 104]), (109, [101, 109, 112, 116, 121]), (120, [106, 115, 111, 110]), (121, [109, 101, 109, 98, 101, 114]), (122, [115, 104, 97, 112, 101]), (123, [106, 115, 111, 110, 110, 117, 109, 98, 101, 114]), (124, [98, 97, 115, 101, 54, 52]), (125, [106, 115, 111, 110, 116, 101, 120, 116]), (126, [106, 115, 111, 110, 101, 110, 117, 109]), (127, [106, 115, 111, 110, 111, 110, 101, 111, 102]), (130, [115, 116, 101, 112]), (131, [110, 111, 102, 105, 101, 108, 100]), (132, [105, 110, 100, 101, 120]), (133, [107, 101, 121, 116, 101, 120, 116]), (134, [105, 110, 116, 111]), (135, [109, 97, 115, 107]), (136, [97, 98, 115, 101, 110, 116]), (140, [98, 114, 101, 97, 107, 115]), (150, [99, 111, 109, 112, 97, 116]), (160, [112, 114, 111, 111, 102]), (161, [102, 111, 114, 103, 101, 100]), (162, [110, 111, 116, 104, 105, 110, 103]), (170, [109, 97, 103, 105, 99]), (171, [104, 101, 97, 100]), (172, [115, 117, 109]), (173, [98, 108, 111, 99, 107]), (174, [114, 101, 99, 111, 114, 100, 115]), (180, [115, 117, 98, 106, 101, 99, 116]), (181, [118, 101, 114, 115, 105, 111, 110]), (182, [114, 117, 108, 101]), (183, [114, 101, 102, 117, 115, 101, 100]), (184, [108, 111, 103]), (185, [102, 117, 108, 108]), (186, [103, 111, 110, 101]), (190, [101, 100, 105, 116]), (191, [98, 97, 115, 101]), (200, [99, 111, 109, 109, 97, 110, 100]), (201, [110, 111, 110, 101]), (210, [119, 104, 111, 108, 101]), (211, [110, 111, 109, 101, 115, 115, 97, 103, 101]), (220, [99, 108, 97, 117, 115, 101]), (221, [111, 112, 101, 114, 97, 110, 100]), (222, [105, 116, 101, 109]), (223, [116, 111, 116, 97, 108]), (224, [111, 116, 104, 101, 114]), (225, [111, 112, 101, 110]), (226, [116, 101, 114, 109, 115])]
def errCells : Array Value := #[.int .i64 0, .string ⟨#[111, 107]⟩, .int .i64 1, .string ⟨#[97, 114, 103]⟩, .int .i64 2, .string ⟨#[108, 111, 110, 103]⟩, .int .i64 3, .string ⟨#[110, 97, 109, 101]⟩, .int .i64 4, .string ⟨#[100, 101, 112, 116, 104]⟩, .int .i64 5, .string ⟨#[115, 105, 122, 101]⟩, .int .i64 6, .string ⟨#[116, 121, 112, 101]⟩, .int .i64 7, .string ⟨#[110, 111, 114, 109, 97, 108]⟩, .int .i64 20, .string ⟨#[101, 110, 100, 115]⟩, .int .i64 21, .string ⟨#[111, 118, 101, 114]⟩, .int .i64 22, .string ⟨#[108, 111, 110, 103, 101, 114]⟩, .int .i64 23, .string ⟨#[107, 105, 110, 100]⟩, .int .i64 24, .string ⟨#[110, 117, 109, 98, 101, 114]⟩, .int .i64 25, .string ⟨#[103, 114, 111, 117, 112]⟩, .int .i64 26, .string ⟨#[117, 116, 102, 56]⟩, .int .i64 30, .string ⟨#[102, 114, 97, 109, 101]⟩, .int .i64 31, .string ⟨#[104, 101, 120]⟩, .int .i64 32, .string ⟨#[108, 101, 97, 102]⟩, .int .i64 40, .string ⟨#[99, 104, 97, 114]⟩, .int .i64 41, .string ⟨#[100, 105, 103, 105, 116, 115]⟩, .int .i64 42, .string ⟨#[115, 116, 114, 105, 110, 103]⟩, .int .i64 43, .string ⟨#[99, 111, 109, 109, 101, 110, 116]⟩, .int .i64 44, .string ⟨#[99, 111, 100, 105, 110, 103]⟩, .int .i64 45, .string ⟨#[116, 111, 107, 101, 110, 115]⟩, .int .i64 46, .string ⟨#[112, 108, 97, 99, 101]⟩, .int .i64 50, .string ⟨#[115, 121, 110, 116, 97, 120]⟩, .int .i64 51, .string ⟨#[101, 110, 100]⟩, .int .i64 52, .string ⟨#[119, 111, 114, 100]⟩, .int .i64 53, .string ⟨#[110, 101, 115, 116]⟩, .int .i64 54, .string ⟨#[100, 101, 99, 108, 115]⟩, .int .i64 55, .string ⟨#[114, 97, 110, 103, 101]⟩, .int .i64 60, .string ⟨#[100, 101, 99, 108]⟩, .int .i64 70, .string ⟨#[105, 109, 112, 111, 114, 116]⟩, .int .i64 71, .string ⟨#[116, 119, 105, 99, 101]⟩, .int .i64 72, .string ⟨#[117, 110, 107, 110, 111, 119, 110]⟩, .int .i64 73, .string ⟨#[110, 111, 116, 121, 112, 101]⟩, .int .i64 74, .string ⟨#[102, 105, 101, 108, 100, 110, 117, 109, 98, 101, 114]⟩, .int .i64 75, .string ⟨#[101, 110, 117, 109, 118, 97, 108, 117, 101]⟩, .int .i64 76, .string ⟨#[109, 97, 112, 107, 101, 121]⟩, .int .i64 77, .string ⟨#[106, 115, 111, 110, 110, 97, 109, 101]⟩, .int .i64 78, .string ⟨#[114, 101, 115, 101, 114, 118, 101, 100]⟩, .int .i64 79, .string ⟨#[116, 121, 112, 101, 115]⟩, .int .i64 80, .string ⟨#[107, 101, 121, 116, 121, 112, 101]⟩, .int .i64 90, .string ⟨#[102, 105, 101, 108, 100]⟩, .int .i64 100, .string ⟨#[111, 114, 100, 101, 114]⟩, .int .i64 101, .string ⟨#[115, 116, 114, 97, 110, 103, 101, 114]⟩, .int .i64 102, .string ⟨#[119, 105, 114, 101]⟩, .int .i64 103, .string ⟨#[122, 101, 114, 111]⟩, .int .i64 104, .string ⟨#[102, 111, 114, 109]⟩, .int .i64 106, .string ⟨#[112, 97, 105, 114]⟩, .int .i64 107, .string ⟨#[107, 101, 121, 115]⟩, .int .i64 108, .string ⟨#[98, 111, 116, 104]⟩, .int .i64 109, .string ⟨#[101, 109, 112, 116, 121]⟩, .int .i64 120, .string ⟨#[106, 115, 111, 110]⟩, .int .i64 121, .string ⟨#[109, 101, 109, 98, 101, 114]⟩, .int .i64 122, .string ⟨#[115, 104, 97, 112, 101]⟩, .int .i64 123, .string ⟨#[106, 115, 111, 110, 110, 117, 109, 98, 101, 114]⟩, .int .i64 124, .string ⟨#[98, 97, 115, 101, 54, 52]⟩, .int .i64 125, .string ⟨#[106, 115, 111, 110, 116, 101, 120, 116]⟩, .int .i64 126, .string ⟨#[106, 115, 111, 110, 101, 110, 117, 109]⟩, .int .i64 127, .string ⟨#[106, 115, 111, 110, 111, 110, 101, 111, 102]⟩, .int .i64 130, .string ⟨#[115, 116, 101, 112]⟩, .int .i64 131, .string ⟨#[110, 111, 102, 105, 101, 108, 100]⟩, .int .i64 132, .string ⟨#[105, 110, 100, 101, 120]⟩, .int .i64 133, .string ⟨#[107, 101, 121, 116, 101, 120, 116]⟩, .int .i64 134, .string ⟨#[105, 110, 116, 111]⟩, .int .i64 135, .string ⟨#[109, 97, 115, 107]⟩, .int .i64 136, .string ⟨#[97, 98, 115, 101, 110, 116]⟩, .int .i64 140, .string ⟨#[98, 114, 101, 97, 107, 115]⟩, .int .i64 150, .string ⟨#[99, 111, 109, 112, 97, 116]⟩, .int .i64 160, .string ⟨#[112, 114, 111, 111, 102]⟩, .int .i64 161, .string ⟨#[102, 111, 114, 103, 101, 100]⟩, .int .i64 162, .string ⟨#[110, 111, 116, 104, 105, 110, 103]⟩, .int .i64 170, .string ⟨#[109, 97, 103, 105, 99]⟩, .int .i64 171, .string ⟨#[104, 101, 97, 100]⟩, .int .i64 172, .string ⟨#[115, 117, 109]⟩, .int .i64 173, .string ⟨#[98, 108, 111, 99, 107]⟩, .int .i64 174, .string ⟨#[114, 101, 99, 111, 114, 100, 115]⟩, .int .i64 180, .string ⟨#[115, 117, 98, 106, 101, 99, 116]⟩, .int .i64 181, .string ⟨#[118, 101, 114, 115, 105, 111, 110]⟩, .int .i64 182, .string ⟨#[114, 117, 108, 101]⟩, .int .i64 183, .string ⟨#[114, 101, 102, 117, 115, 101, 100]⟩, .int .i64 184, .string ⟨#[108, 111, 103]⟩, .int .i64 185, .string ⟨#[102, 117, 108, 108]⟩, .int .i64 186, .string ⟨#[103, 111, 110, 101]⟩, .int .i64 190, .string ⟨#[101, 100, 105, 116]⟩, .int .i64 191, .string ⟨#[98, 97, 115, 101]⟩, .int .i64 200, .string ⟨#[99, 111, 109, 109, 97, 110, 100]⟩, .int .i64 201, .string ⟨#[110, 111, 110, 101]⟩, .int .i64 210, .string ⟨#[119, 104, 111, 108, 101]⟩, .int .i64 211, .string ⟨#[110, 111, 109, 101, 115, 115, 97, 103, 101]⟩, .int .i64 220, .string ⟨#[99, 108, 97, 117, 115, 101]⟩, .int .i64 221, .string ⟨#[111, 112, 101, 114, 97, 110, 100]⟩, .int .i64 222, .string ⟨#[105, 116, 101, 109]⟩, .int .i64 223, .string ⟨#[116, 111, 116, 97, 108]⟩, .int .i64 224, .string ⟨#[111, 116, 104, 101, 114]⟩, .int .i64 225, .string ⟨#[111, 112, 101, 110]⟩, .int .i64 226, .string ⟨#[116, 101, 114, 109, 115]⟩]
def errNo (k : Nat) : Int := ((errRows[k]?.getD (0, [])).1 : Nat)
def errWd (k : Nat) : ByteArray := ⟨(errRows[k]?.getD (0, [])).2.toArray⟩
def errTab : Value := .agg errCells

theorem errCells_eq : errCells.toList = errRows.flatMap fun r => [.int .i64 (r.1 : Int), .string ⟨r.2.toArray⟩] := by kernel_rfl

theorem err_index : ∀ (k : Nat), k < 98 → ∀ (w : World), (Instr.index 41 errTab (.int .i64 (k : Int))).run Try.prog w = .ok (.agg #[.int .i64 (errNo k), .string (errWd k)]) w
  | 0, _, w => by kernel_rfl
  | 1, _, w => by kernel_rfl
  | 2, _, w => by kernel_rfl
  | 3, _, w => by kernel_rfl
  | 4, _, w => by kernel_rfl
  | 5, _, w => by kernel_rfl
  | 6, _, w => by kernel_rfl
  | 7, _, w => by kernel_rfl
  | 8, _, w => by kernel_rfl
  | 9, _, w => by kernel_rfl
  | 10, _, w => by kernel_rfl
  | 11, _, w => by kernel_rfl
  | 12, _, w => by kernel_rfl
  | 13, _, w => by kernel_rfl
  | 14, _, w => by kernel_rfl
  | 15, _, w => by kernel_rfl
  | 16, _, w => by kernel_rfl
  | 17, _, w => by kernel_rfl
  | 18, _, w => by kernel_rfl
  | 19, _, w => by kernel_rfl
  | 20, _, w => by kernel_rfl
  | 21, _, w => by kernel_rfl
  | 22, _, w => by kernel_rfl
  | 23, _, w => by kernel_rfl
  | 24, _, w => by kernel_rfl
  | 25, _, w => by kernel_rfl
  | 26, _, w => by kernel_rfl
  | 27, _, w => by kernel_rfl
  | 28, _, w => by kernel_rfl
  | 29, _, w => by kernel_rfl
  | 30, _, w => by kernel_rfl
  | 31, _, w => by kernel_rfl
  | 32, _, w => by kernel_rfl
  | 33, _, w => by kernel_rfl
  | 34, _, w => by kernel_rfl
  | 35, _, w => by kernel_rfl
  | 36, _, w => by kernel_rfl
  | 37, _, w => by kernel_rfl
  | 38, _, w => by kernel_rfl
  | 39, _, w => by kernel_rfl
  | 40, _, w => by kernel_rfl
  | 41, _, w => by kernel_rfl
  | 42, _, w => by kernel_rfl
  | 43, _, w => by kernel_rfl
  | 44, _, w => by kernel_rfl
  | 45, _, w => by kernel_rfl
  | 46, _, w => by kernel_rfl
  | 47, _, w => by kernel_rfl
  | 48, _, w => by kernel_rfl
  | 49, _, w => by kernel_rfl
  | 50, _, w => by kernel_rfl
  | 51, _, w => by kernel_rfl
  | 52, _, w => by kernel_rfl
  | 53, _, w => by kernel_rfl
  | 54, _, w => by kernel_rfl
  | 55, _, w => by kernel_rfl
  | 56, _, w => by kernel_rfl
  | 57, _, w => by kernel_rfl
  | 58, _, w => by kernel_rfl
  | 59, _, w => by kernel_rfl
  | 60, _, w => by kernel_rfl
  | 61, _, w => by kernel_rfl
  | 62, _, w => by kernel_rfl
  | 63, _, w => by kernel_rfl
  | 64, _, w => by kernel_rfl
  | 65, _, w => by kernel_rfl
  | 66, _, w => by kernel_rfl
  | 67, _, w => by kernel_rfl
  | 68, _, w => by kernel_rfl
  | 69, _, w => by kernel_rfl
  | 70, _, w => by kernel_rfl
  | 71, _, w => by kernel_rfl
  | 72, _, w => by kernel_rfl
  | 73, _, w => by kernel_rfl
  | 74, _, w => by kernel_rfl
  | 75, _, w => by kernel_rfl
  | 76, _, w => by kernel_rfl
  | 77, _, w => by kernel_rfl
  | 78, _, w => by kernel_rfl
  | 79, _, w => by kernel_rfl
  | 80, _, w => by kernel_rfl
  | 81, _, w => by kernel_rfl
  | 82, _, w => by kernel_rfl
  | 83, _, w => by kernel_rfl
  | 84, _, w => by kernel_rfl
  | 85, _, w => by kernel_rfl
  | 86, _, w => by kernel_rfl
  | 87, _, w => by kernel_rfl
  | 88, _, w => by kernel_rfl
  | 89, _, w => by kernel_rfl
  | 90, _, w => by kernel_rfl
  | 91, _, w => by kernel_rfl
  | 92, _, w => by kernel_rfl
  | 93, _, w => by kernel_rfl
  | 94, _, w => by kernel_rfl
  | 95, _, w => by kernel_rfl
  | 96, _, w => by kernel_rfl
  | 97, _, w => by kernel_rfl
  | k + 98, h, _ => absurd h (by omega)

def ErrFits (e : Int) (s : ByteArray) : Prop := (∀ k, k < 98 → errNo k = e → errWd k = s) ∧ ∃ k, k < 98 ∧ errNo k = e

set_option maxRecDepth 100000 in
set_option maxHeartbeats 4000000 in
theorem error_any (e : Int) (s : ByteArray) (w : World) (H : ErrFits e s) :
    Calls Try.prog 12 #[.int .i64 e] w fun r w' => r = .returned (.string s) ∧ Below w.heap.size w w' := by
  go_enter Try.func12, Try.ntmps12
  go_upto_region 1 with fail
  go_cut [103, 104] (fun t103 t104 wx => t103 = errTab ∧ t104 = .int .i64 0 ∧ wx = w)
  case first =>
    go_wp2_with (refine wpList_build rfl 41 _ rfl (by kernel_rfl) ?_)
    go_meet
    exact ⟨rfl, rfl, rfl⟩
  case rest =>
    obtain ⟨rfl, rfl, rfl⟩ := hcut
    go_wp2_with fail
    go_loopw [104] (fun t wr => ∃ k : Nat, k ≤ 98 ∧ t = .int .i64 k ∧ (∀ j, j < k → errNo j ≠ e) ∧ Below wc.heap.size wc wr) (fun t _ => 98 - (intOf t).toNat)
    case atStart => exact ⟨0, by omega, rfl, fun j h => absurd h (by omega), Below.refl _ _⟩
    case round =>
      obtain ⟨k, hk, rfl, hno, hb⟩ := hrel
      have HN := Lib.hid hno
      clear hno
      by_cases hlt : k < 98
      · have hx := err_index k hlt
        by_cases he : errNo k = e
        · have heb : (errNo k == e) = true := by simp [he]
          have HE := Lib.hid he
          clear he
          have HW := Lib.hid (H.1 k hlt HE.out)
          go_wp2
          go_ret
          exact ⟨congrArg (fun x => Ending.returned (Value.string x)) HW.out, hb.alloc hb.size _⟩
        · have heb : (errNo k == e) = false := by simp [he]
          have HE := Lib.hid he
          clear he
          go_wp2
          go_roundw
          case rel =>
            refine ⟨k + 1, by omega, by go_num, ?_, hb.alloc hb.size _⟩
            intro j hj hje
            by_cases hjk : j = k
            · subst hjk; exact HE.out hje
            · exact HN.out j (by omega) hje
          case measure => simp [intOf]; omega
      · obtain ⟨j, hj, hje⟩ := H.2
        exact absurd hje (HN.out j (by omega))

theorem fits_of (e : Int) (s : ByteArray) (h : (List.range 98).all (fun k => decide (errNo k = e → errWd k = s)) = true) (h' : (List.range 98).any (fun k => decide (errNo k = e)) = true) : ErrFits e s :=
  ⟨fun k hk he => of_decide_eq_true (List.all_eq_true.1 h k (List.mem_range.2 hk)) he, let ⟨k, hk, he⟩ := List.any_eq_true.1 h'; ⟨k, List.mem_range.1 hk, of_decide_eq_true he⟩⟩

theorem fits200 : ErrFits 200 ⟨#[99, 111, 109, 109, 97, 110, 100]⟩ := fits_of _ _ (by decide +kernel) (by decide +kernel)
theorem fits201 : ErrFits 201 ⟨#[110, 111, 110, 101]⟩ := fits_of _ _ (by decide +kernel) (by decide +kernel)
theorem fits2 : ErrFits 2 ⟨#[108, 111, 110, 103]⟩ := fits_of _ _ (by decide +kernel) (by decide +kernel)
theorem fits0 : ErrFits 0 ⟨#[111, 107]⟩ := fits_of _ _ (by decide +kernel) (by decide +kernel)
end Go.Proofs.Ytiocgdegaabnmaa
