/-
  The Go functions Quote of package shell and of the reference, walked: both write the bytes as one quoted word. Conditions: at most 2 to the 20th bytes.
-/
import Derived.Test.YtiocgdegaabnmaaQuotePlain
import Derived.Test.YtiocgdegaabnmaaReader
namespace Go.Proofs.Ytiocgdegaabnmaa
open Go.RowKit
set_option linter.unusedVariables false

/-- A slice value reads as the bytes l. -/
def ReadsB (w : World) (v : Value) (l : List UInt8) : Prop :=
  ∃ a cap, v = .slice a l.length cap ∧ l.length ≤ cap ∧ cap ≤ 9223372036854775807 ∧ (l = [] ∨ ∃ b off, a = some ⟨b, off, none⟩ ∧ ∀ k (hk : k < l.length), w.cell? ⟨b, off + k, none⟩ = some (.int .u8 (l[k]'hk).toNat))

theorem cell_lt {w : World} {b o : Nat} {v : Value} (h : w.cell? ⟨b, o, none⟩ = some v) : b < w.heap.size := by
  rcases Nat.lt_or_ge b w.heap.size with h1 | h1
  · exact h1
  · simp [World.cell?, Array.getElem?_eq_none h1] at h

theorem news_many {w1 : World} {g : Nat} {us : List Value} {e : TypeId} {fr : Nat × Nat} (h : w1.heap[g]? = some (.cells us.toArray e fr)) : ∀ j x, us[j]? = some x → w1.cell? ((⟨g, 0, none⟩ : Addr).add j) = some x := by
  intro j x hj
  have e1 : (⟨g, 0, none⟩ : Addr).add j = ⟨g, j, none⟩ := by unfold Addr.add; split <;> simp_all
  rw [e1]
  simp [World.cell?, h, hj]

theorem news_row {W : World} {g : Nat} {us : List Value} {e : TypeId} (hg : W.heap.size = g) : ∀ j x, us[j]? = some x → (W.alloc (.cells us.toArray e)).cell? ((⟨g, 0, none⟩ : Addr).add j) = some x := by
  subst hg
  exact news_many (e := e) (fr := (0, 0)) (by show (W.heap.push _)[W.heap.size]? = _; exact Array.getElem?_push_size)

theorem qs_next {l : List UInt8} {k : Nat} {c : UInt8} (hc : l[k]? = some c) : 34 :: qs (l.take (k + 1)) = (34 :: qs (l.take k)) ++ q1 c := by
  rw [List.take_add_one, hc, qs_append]
  simp [qs_one]

theorem qs_take_len (l : List UInt8) (k : Nat) (hk : k ≤ l.length) : (34 :: qs (l.take k)).length ≤ 4 * l.length + 1 := by
  have := qs_len (l.take k)
  rw [List.length_take] at this
  simp only [List.length_cons]
  omega

/-- The row behind one byte more. -/
theorem own_next {B k m : Nat} {v : Value} {l us : List UInt8} {c : UInt8} {w : World} {news : List Value} (hc : l[k]? = some c) (hq : q1 c = us) (hn : news = Lib.byteCells us) (hm : m = us.length)
    (h : w.ownsRow B 5 1 v ((34 :: qs (l.take k)).length + m) (Lib.byteCells (34 :: qs (l.take k)) ++ news)) : w.ownsRow B 5 1 v (34 :: qs (l.take (k + 1))).length (Lib.byteCells (34 :: qs (l.take (k + 1)))) := by
  rw [qs_next hc, hq, List.length_append, Lib.byteCells_append, ← hn, ← hm]
  exact h

theorem and15 : ∀ n : Fin 256, bits BinOp.and IntKind.u8 (n.val : Int) 15 = (n.val : Int) % 16 := by decide +kernel
theorem wrap16 : ∀ n : Fin 256, IntKind.u8.wrap ((n.val : Int) / 16) = (n.val : Int) / 16 := by decide +kernel
theorem tmod16 : ∀ n : Fin 256, (n.val : Int).tmod 16 = (n.val : Int) % 16 := by decide +kernel
theorem hexs_at : ∀ n : Fin 16, ({ data := #[48, 49, 50, 51, 52, 53, 54, 55, 56, 57, 97, 98, 99, 100, 101, 102] } : ByteArray)[n.val]'(by show _ < 16; exact n.isLt) = hexd n.val := by decide +kernel
theorem hexs_get (i : Int) (n : Nat) (hi : i = n) (hn : n < 16) (h : i.toNat < ({ data := #[48, 49, 50, 51, 52, 53, 54, 55, 56, 57, 97, 98, 99, 100, 101, 102] } : ByteArray).size) : ({ data := #[48, 49, 50, 51, 52, 53, 54, 55, 56, 57, 97, 98, 99, 100, 101, 102] } : ByteArray)[i.toNat]'h = hexd n := by
  subst hi
  exact hexs_at ⟨n, hn⟩

theorem q1_hex (c : UInt8) (h34 : c ≠ 34) (h92 : c ≠ 92) (h10 : c ≠ 10) (h9 : c ≠ 9) (h : c.toNat < 32 ∨ 126 < c.toNat) : q1 c = [92, 120, hexd (c.toNat / 16), hexd (c.toNat % 16)] := by
  have : (decide (c.toNat < 32) || decide (126 < c.toNat)) = true := by simpa using h
  simp [q1, h34, h92, h10, h9, this]
theorem q1_plain (c : UInt8) (h34 : c ≠ 34) (h92 : c ≠ 92) (h10 : c ≠ 10) (h9 : c ≠ 9) (h : ¬ (c.toNat < 32 ∨ 126 < c.toNat)) : q1 c = [c] := by
  have : (decide (c.toNat < 32) || decide (126 < c.toNat)) = false := by simpa using h
  simp [q1, h34, h92, h10, h9, this]

set_option maxHeartbeats 4000000 in
set_option maxRecDepth 100000 in
theorem quote_any (v : Value) (l : List UInt8) (w : World) (h : ReadsB w v l) (hl : l.length ≤ 1048576) :
    Calls Try.prog 17 #[v] w fun e w' => e = .returned (.string ⟨(quoteOf l).toArray⟩) ∧ Below w.heap.size w w' := by
  obtain ⟨a, cap, rfl, hlc, hcm, hr⟩ := h
  have HR := Lib.hid hr
  clear hr
  obtain ⟨i0, hi, hz0, hz1, hz2⟩ := info_parts infoB
  go_enter Try.func17, Try.ntmps17
  go_wp2_with fail
  go_loopw [3, 9] (fun v3 vi wr => ∃ k : Nat, vi = .int .i64 k ∧ k ≤ l.length ∧ wr.ownsRow w.heap.size 5 1 v3 (34 :: qs (l.take k)).length (Lib.byteCells (34 :: qs (l.take k))) ∧ Below w.heap.size w wr) (fun _ vi _ => l.length - (intOf vi).toNat)
  case atStart =>
    refine ⟨0, rfl, Nat.zero_le _, ?_, (Below.refl _ w).alloc (Nat.le_refl _) _⟩
    exact ⟨rfl, .inr ⟨w.heap.size, 1, #[.int .u8 34], rfl, Nat.le_refl _, (by show (w.heap.push _)[w.heap.size]? = _; exact Array.getElem?_push_size), Nat.le_refl 1, by decide, rfl, rfl⟩⟩
  case round =>
    obtain ⟨k, rfl, hk, hown, hbw⟩ := hrel
    have hz := hbw.size
    have hql := qs_take_len l k hk
    by_cases hlt : k < l.length
    · obtain ⟨b, off, rfl, hcell⟩ : ∃ b off, a = some ⟨b, off, none⟩ ∧ wr.cell? ⟨b, off + k, none⟩ = some (.int .u8 (l[k]'hlt).toNat) := by
        rcases HR.out with h0 | ⟨b, off, h1, h2⟩
        · rw [h0] at hlt; simp at hlt
        · exact ⟨b, off, h1, (hbw.cell (p := ⟨b, off + k, none⟩) (cell_lt (h2 k hlt))).trans (h2 k hlt)⟩
      have hat : l[k]? = some (l[k]'hlt) := List.getElem?_eq_getElem hlt
      obtain ⟨c, hc⟩ : ∃ c, l[k]'hlt = c := ⟨_, rfl⟩
      rw [hc] at hcell hat
      have HAT := Lib.hid hat
      have hc256 := c.toNat_lt
      clear hc hat
      by_cases h34 : c = 34
      · have b34 : ((c.toNat : Int) == 34) = true := (byteB c 34).trans (by simpa using h34)
        have HQ := Lib.hid (show q1 c = [92, c] by simp [q1, h34])
        clear h34
        go_wp2_with (at_builtin; refine wpList_append_own _ rfl _ _ 35 rfl w.heap.size 5 i0 (.int .u8 0) 1 1 Try.underlying35 hi hz0 hz1 hz2 rfl (by decide) _ _ _ rfl (hown.alloc _) ⟨wr.heap.size, 0, none⟩ 2 2 [.int .u8 92, .int .u8 c.toNat] rfl rfl ?c1 ?c2 ?c3 ?c4 ?c5 ?_)
        case c1 => exact news_row (by simp)
        case c2 => intro u hu; simp at hu; rcases hu with rfl | rfl <;> rfl
        case c3 => unfold maxLen; omega
        case c4 => omega
        case c5 => simp; omega
        intro v' w2 hown' hgrow _
        have hX := own_next HAT.out (HQ.out) (us := [92, c]) rfl rfl hown'
        have hbX : Below w.heap.size w w2 := (hbw.alloc hz _).grown hgrow (by simp; omega) (fun k hk => (hown.lt k hk).1)
        go_wp2
        go_roundw
        case rel => exact ⟨k + 1, by go_num, by omega, hX, hbX⟩
        case measure => simp [intOf]; omega
      · have b34 : ((c.toNat : Int) == 34) = false := (byteB c 34).trans (by simpa using h34)
        have H34 := Lib.hid h34
        clear h34
        by_cases h92 : c = 92
        · have b92 : ((c.toNat : Int) == 92) = true := (byteB c 92).trans (by simpa using h92)
          have HQ := Lib.hid (show q1 c = [92, c] by simp [q1, h92])
          clear h92
          go_wp2_with (at_builtin; refine wpList_append_own _ rfl _ _ 35 rfl w.heap.size 5 i0 (.int .u8 0) 1 1 Try.underlying35 hi hz0 hz1 hz2 rfl (by decide) _ _ _ rfl (hown.alloc _) ⟨wr.heap.size, 0, none⟩ 2 2 [.int .u8 92, .int .u8 c.toNat] rfl rfl ?c1 ?c2 ?c3 ?c4 ?c5 ?_)
          case c1 => exact news_row (by simp)
          case c2 => intro u hu; simp at hu; rcases hu with rfl | rfl <;> rfl
          case c3 => unfold maxLen; omega
          case c4 => omega
          case c5 => simp; omega
          intro v' w2 hown' hgrow _
          have hX := own_next HAT.out (HQ.out) (us := [92, c]) rfl rfl hown'
          have hbX : Below w.heap.size w w2 := (hbw.alloc hz _).grown hgrow (by simp; omega) (fun k hk => (hown.lt k hk).1)
          go_wp2
          go_roundw
          case rel => exact ⟨k + 1, by go_num, by omega, hX, hbX⟩
          case measure => simp [intOf]; omega
        · have b92 : ((c.toNat : Int) == 92) = false := (byteB c 92).trans (by simpa using h92)
          have H92 := Lib.hid h92
          clear h92
          by_cases h10 : c = 10
          · have b10 : ((c.toNat : Int) == 10) = true := (byteB c 10).trans (by simpa using h10)
            have HQ := Lib.hid (show q1 c = [92, 110] by simp [q1, h10])
            clear h10
            go_wp2_with (at_builtin; refine wpList_append_own _ rfl _ _ 35 rfl w.heap.size 5 i0 (.int .u8 0) 1 1 Try.underlying35 hi hz0 hz1 hz2 rfl (by decide) _ _ _ rfl (hown.alloc _) ⟨wr.heap.size, 0, none⟩ 2 2 [.int .u8 92, .int .u8 110] rfl rfl ?c1 ?c2 ?c3 ?c4 ?c5 ?_)
            case c1 => exact news_row (by simp)
            case c2 => intro u hu; simp at hu; rcases hu with rfl | rfl <;> rfl
            case c3 => unfold maxLen; omega
            case c4 => omega
            case c5 => simp; omega
            intro v' w2 hown' hgrow _
            have hX := own_next HAT.out (HQ.out) (us := [92, 110]) rfl rfl hown'
            have hbX : Below w.heap.size w w2 := (hbw.alloc hz _).grown hgrow (by simp; omega) (fun k hk => (hown.lt k hk).1)
            go_wp2
            go_roundw
            case rel => exact ⟨k + 1, by go_num, by omega, hX, hbX⟩
            case measure => simp [intOf]; omega
          · have b10 : ((c.toNat : Int) == 10) = false := (byteB c 10).trans (by simpa using h10)
            have H10 := Lib.hid h10
            clear h10
            by_cases h9 : c = 9
            · have b9 : ((c.toNat : Int) == 9) = true := (byteB c 9).trans (by simpa using h9)
              have HQ := Lib.hid (show q1 c = [92, 116] by simp [q1, h9])
              clear h9
              go_wp2_with (at_builtin; refine wpList_append_own _ rfl _ _ 35 rfl w.heap.size 5 i0 (.int .u8 0) 1 1 Try.underlying35 hi hz0 hz1 hz2 rfl (by decide) _ _ _ rfl (hown.alloc _) ⟨wr.heap.size, 0, none⟩ 2 2 [.int .u8 92, .int .u8 116] rfl rfl ?c1 ?c2 ?c3 ?c4 ?c5 ?_)
              case c1 => exact news_row (by simp)
              case c2 => intro u hu; simp at hu; rcases hu with rfl | rfl <;> rfl
              case c3 => unfold maxLen; omega
              case c4 => omega
              case c5 => simp; omega
              intro v' w2 hown' hgrow _
              have hX := own_next HAT.out (HQ.out) (us := [92, 116]) rfl rfl hown'
              have hbX : Below w.heap.size w w2 := (hbw.alloc hz _).grown hgrow (by simp; omega) (fun k hk => (hown.lt k hk).1)
              go_wp2
              go_roundw
              case rel => exact ⟨k + 1, by go_num, by omega, hX, hbX⟩
              case measure => simp [intOf]; omega
            · have b9 : ((c.toNat : Int) == 9) = false := (byteB c 9).trans (by simpa using h9)
              have H9 := Lib.hid h9
              clear h9
              by_cases hlo : c.toNat < 32
              · have h32 : (c.toNat : Int) < 32 := by omega
                have n0 : 0 ≤ (c.toNat : Int) / 16 := by omega
                have n1 : (c.toNat : Int) / 16 < 16 := by omega
                have n2 := hexs_get ((c.toNat : Int) / 16) (c.toNat / 16) (by omega) (by omega) (by show _ < 16; omega)
                have m0 : 0 ≤ (c.toNat : Int) % 16 := by omega
                have m1 : (c.toNat : Int) % 16 < 16 := by omega
                have m2 := hexs_get ((c.toNat : Int) % 16) (c.toNat % 16) (by omega) (by omega) (by show _ < 16; omega)
                have hand : bits BinOp.and IntKind.u8 (c.toNat : Int) 15 = (c.toNat : Int) % 16 := and15 ⟨c.toNat, c.toNat_lt⟩
                obtain ⟨x1, hx1⟩ : ∃ x, hexd (c.toNat / 16) = x := ⟨_, rfl⟩
                obtain ⟨x2, hx2⟩ : ∃ x, hexd (c.toNat % 16) = x := ⟨_, rfl⟩
                have hq := q1_hex c H34.out H92.out H10.out H9.out (.inl hlo)
                rw [hx1, hx2] at hq
                rw [hx1] at n2
                rw [hx2] at m2
                have HQ := Lib.hid hq
                have HNEW := Lib.hid (news_row (W := wr.drew) (g := wr.heap.size) (us := [.int .u8 92, .int .u8 120, .int .u8 x1.toNat, .int .u8 x2.toNat]) (e := 5) rfl)
                clear hq hx1 hx2
                go_wp2
                go_region_law (first | (refine step_append_lies _ rfl _ _ _ rfl w.heap.size 5 i0 (.int .u8 0) 1 1 Try.underlying35 hi hz0 hz1 hz2 rfl (by decide) _ _ _ rfl (hown.alloc _) ⟨wr.heap.size, 0, none⟩ 4 4 [.int .u8 92, .int .u8 120, .int .u8 x1.toNat, .int .u8 x2.toNat] rfl rfl HNEW.out (by intro u hu; simp at hu; rcases hu with rfl | rfl | rfl | rfl <;> rfl) (by decide) (by unfold maxLen; omega) (by omega) (by simp; omega) _ rfl ?_; intro g gc w2 hown' hgrow hat hlt2))
                all_goals
                  have hX := own_next HAT.out HQ.out (us := [92, 120, x1, x2]) rfl rfl hown'
                  have hbX : Below w.heap.size w w2 := ((hbw.drew).alloc hz _).grown hgrow (by simp; omega) (fun k hk => (hown.lt k hk).1)
                  go_wp2
                  go_roundw
                  case rel => exact ⟨k + 1, by go_num, by omega, hX, hbX⟩
                  case measure => simp [intOf]; omega
              · have h32 : 32 ≤ (c.toNat : Int) := by omega
                by_cases hhi : 126 < c.toNat
                · have h126 : 126 < (c.toNat : Int) := by omega
                  have n0 : 0 ≤ (c.toNat : Int) / 16 := by omega
                  have n1 : (c.toNat : Int) / 16 < 16 := by omega
                  have n2 := hexs_get ((c.toNat : Int) / 16) (c.toNat / 16) (by omega) (by omega) (by show _ < 16; omega)
                  have m0 : 0 ≤ (c.toNat : Int) % 16 := by omega
                  have m1 : (c.toNat : Int) % 16 < 16 := by omega
                  have m2 := hexs_get ((c.toNat : Int) % 16) (c.toNat % 16) (by omega) (by omega) (by show _ < 16; omega)
                  have hand : bits BinOp.and IntKind.u8 (c.toNat : Int) 15 = (c.toNat : Int) % 16 := and15 ⟨c.toNat, c.toNat_lt⟩
                  obtain ⟨x1, hx1⟩ : ∃ x, hexd (c.toNat / 16) = x := ⟨_, rfl⟩
                  obtain ⟨x2, hx2⟩ : ∃ x, hexd (c.toNat % 16) = x := ⟨_, rfl⟩
                  have hq := q1_hex c H34.out H92.out H10.out H9.out (.inr hhi)
                  rw [hx1, hx2] at hq
                  rw [hx1] at n2
                  rw [hx2] at m2
                  have HQ := Lib.hid hq
                  have HNEW := Lib.hid (news_row (W := wr.drew) (g := wr.heap.size) (us := [.int .u8 92, .int .u8 120, .int .u8 x1.toNat, .int .u8 x2.toNat]) (e := 5) rfl)
                  clear hq hx1 hx2
                  go_wp2
                  go_region_law (first | (refine step_append_lies _ rfl _ _ _ rfl w.heap.size 5 i0 (.int .u8 0) 1 1 Try.underlying35 hi hz0 hz1 hz2 rfl (by decide) _ _ _ rfl (hown.alloc _) ⟨wr.heap.size, 0, none⟩ 4 4 [.int .u8 92, .int .u8 120, .int .u8 x1.toNat, .int .u8 x2.toNat] rfl rfl HNEW.out (by intro u hu; simp at hu; rcases hu with rfl | rfl | rfl | rfl <;> rfl) (by decide) (by unfold maxLen; omega) (by omega) (by simp; omega) _ rfl ?_; intro g gc w2 hown' hgrow hat hlt2))
                  all_goals
                    have hX := own_next HAT.out HQ.out (us := [92, 120, x1, x2]) rfl rfl hown'
                    have hbX : Below w.heap.size w w2 := ((hbw.drew).alloc hz _).grown hgrow (by simp; omega) (fun k hk => (hown.lt k hk).1)
                    go_wp2
                    go_roundw
                    case rel => exact ⟨k + 1, by go_num, by omega, hX, hbX⟩
                    case measure => simp [intOf]; omega
                · have h126 : (c.toNat : Int) ≤ 126 := by omega
                  have HQ := Lib.hid (q1_plain c H34.out H92.out H10.out H9.out (by omega))
                  go_wp2_with (at_builtin; refine wpList_append_own _ rfl _ _ 35 rfl w.heap.size 5 i0 (.int .u8 0) 1 1 Try.underlying35 hi hz0 hz1 hz2 rfl (by decide) _ _ _ rfl (hown.alloc _) ⟨wr.heap.size, 0, none⟩ 1 1 [.int .u8 c.toNat] rfl rfl ?c1 ?c2 ?c3 ?c4 ?c5 ?_)
                  case c1 => exact news_row (by simp)
                  case c2 => intro u hu; simp at hu; subst hu; rfl
                  case c3 => unfold maxLen; omega
                  case c4 => omega
                  case c5 => simp; omega
                  intro v' w2 hown' hgrow _
                  have hX := own_next HAT.out (HQ.out) (us := [c]) rfl rfl hown'
                  have hbX : Below w.heap.size w w2 := (hbw.alloc hz _).grown hgrow (by simp; omega) (fun k hk => (hown.lt k hk).1)
                  go_wp2
                  go_roundw
                  case rel => exact ⟨k + 1, by go_num, by omega, hX, hbX⟩
                  case measure => simp [intOf]; omega
    · obtain rfl : k = l.length := by omega
      have HR2 := HR
      go_wp2_with (at_builtin; refine wpList_append_own _ rfl _ _ 35 rfl w.heap.size 5 i0 (.int .u8 0) 1 1 Try.underlying35 hi hz0 hz1 hz2 rfl (by decide) _ _ _ rfl (hown.alloc _) ⟨wr.heap.size, 0, none⟩ 1 1 [.int .u8 34] rfl rfl ?c1 ?c2 ?c3 ?c4 ?c5 ?_)
      case c1 => exact news_row (by simp)
      case c2 => intro u hu; simp at hu; subst hu; rfl
      case c3 => unfold maxLen; omega
      case c4 => omega
      case c5 => simp; omega
      intro v' w2 hown' hgrow _
      have hX : w2.ownsRow w.heap.size 5 1 v' (quoteOf l).length (Lib.byteCells (quoteOf l)) := by
        have e : quoteOf l = (34 :: qs l) ++ [34] := rfl
        rw [e, List.length_append, Lib.byteCells_append]
        exact hown'
      have hbX : Below w.heap.size w w2 := (hbw.alloc hz _).grown hgrow (by simp; omega) (fun k hk => (hown.lt k hk).1)
      obtain ⟨r, hr⟩ : ∃ r : ByteArray, (⟨(quoteOf l).toArray⟩ : ByteArray) = r := ⟨_, rfl⟩
      have hcv : (convert 35 9 v').run Try.prog w2 = .ok (.string r) w2 := by rw [← hr]; exact conv_row hX w2 fun _ => rfl
      have HRR := Lib.hid hr
      clear hr
      go_wp2
      go_ret
      exact ⟨by rw [HRR.out]; rfl, hbX⟩

set_option maxHeartbeats 4000000 in
set_option maxRecDepth 100000 in
theorem refQuote_any (v : Value) (l : List UInt8) (w : World) (h : ReadsB w v l) (hl : l.length ≤ 1048576) :
    Calls Try.prog 18 #[v] w fun e w' => e = .returned (.string ⟨(quoteOf l).toArray⟩) ∧ Below w.heap.size w w' := by
  obtain ⟨a, cap, rfl, hlc, hcm, hr⟩ := h
  have HR := Lib.hid hr
  clear hr
  obtain ⟨i0, hi, hz0, hz1, hz2⟩ := info_parts infoB
  go_enter Try.func18, Try.ntmps18
  go_wp2_with (at_builtin; refine wpList_append_own _ rfl _ _ 35 rfl w.heap.size 5 i0 (.int .u8 0) 1 1 Try.underlying35 hi hz0 hz1 hz2 rfl (by decide) _ _ _ rfl ((World.ownsRow_nil w w.heap.size 5 1).alloc _) ⟨w.heap.size, 0, none⟩ 1 1 [.int .u8 34] rfl rfl ?c1 ?c2 ?c3 ?c4 ?c5 ?_)
  case c1 => exact news_row rfl
  case c2 => intro u hu; simp at hu; subst hu; rfl
  case c3 => decide
  case c4 => decide
  case c5 => simp
  intro v1 w1 hown1 hgrow1 _
  have hb1 : Below w.heap.size w w1 := ((Below.refl _ w).alloc (Nat.le_refl _) _).grown hgrow1 (by simp) (fun k hk => by cases hk)
  go_wp2_with fail
  go_loopw [3, 4] (fun v3 vi wr => ∃ k : Nat, vi = .int .i64 k ∧ k ≤ l.length ∧ wr.ownsRow w.heap.size 5 1 v3 (34 :: qs (l.take k)).length (Lib.byteCells (34 :: qs (l.take k))) ∧ Below w.heap.size w wr) (fun _ vi _ => l.length - (intOf vi).toNat)
  case atStart => exact ⟨0, rfl, Nat.zero_le _, hown1, hb1⟩
  case round =>
    obtain ⟨k, rfl, hk, hown, hbw⟩ := hrel
    have hz := hbw.size
    have hql := qs_take_len l k hk
    by_cases hlt : k < l.length
    · obtain ⟨b, off, rfl, hcell⟩ : ∃ b off, a = some ⟨b, off, none⟩ ∧ wr.cell? ⟨b, off + k, none⟩ = some (.int .u8 (l[k]'hlt).toNat) := by
        rcases HR.out with h0 | ⟨b, off, h1, h2⟩
        · rw [h0] at hlt; simp at hlt
        · exact ⟨b, off, h1, (hbw.cell (p := ⟨b, off + k, none⟩) (cell_lt (h2 k hlt))).trans (h2 k hlt)⟩
      have hat : l[k]? = some (l[k]'hlt) := List.getElem?_eq_getElem hlt
      obtain ⟨c, hc⟩ : ∃ c, l[k]'hlt = c := ⟨_, rfl⟩
      rw [hc] at hcell hat
      have HAT := Lib.hid hat
      have hc256 := c.toNat_lt
      clear hc hat
      by_cases h34 : c = 34
      · have b34 : ((c.toNat : Int) == 34) = true := (byteB c 34).trans (by simpa using h34)
        have HQ := Lib.hid (show q1 c = [92, c] by simp [q1, h34])
        clear h34
        go_wp2_with (at_builtin; refine wpList_append_own _ rfl _ _ 35 rfl w.heap.size 5 i0 (.int .u8 0) 1 1 Try.underlying35 hi hz0 hz1 hz2 rfl (by decide) _ _ _ rfl (hown.alloc _) ⟨wr.heap.size, 0, none⟩ 2 2 [.int .u8 92, .int .u8 c.toNat] rfl rfl ?c1 ?c2 ?c3 ?c4 ?c5 ?_)
        case c1 => exact news_row (by simp)
        case c2 => intro u hu; simp at hu; rcases hu with rfl | rfl <;> rfl
        case c3 => unfold maxLen; omega
        case c4 => omega
        case c5 => simp; omega
        intro v' w2 hown' hgrow _
        have hX := own_next HAT.out (HQ.out) (us := [92, c]) rfl rfl hown'
        have hbX : Below w.heap.size w w2 := (hbw.alloc hz _).grown hgrow (by simp; omega) (fun k hk => (hown.lt k hk).1)
        go_wp2
        go_roundw
        case rel => exact ⟨k + 1, by go_num, by omega, hX, hbX⟩
        case measure => simp [intOf]; omega
      · have b34 : ((c.toNat : Int) == 34) = false := (byteB c 34).trans (by simpa using h34)
        have H34 := Lib.hid h34
        clear h34
        by_cases h92 : c = 92
        · have b92 : ((c.toNat : Int) == 92) = true := (byteB c 92).trans (by simpa using h92)
          have HQ := Lib.hid (show q1 c = [92, c] by simp [q1, h92])
          clear h92
          go_wp2_with (at_builtin; refine wpList_append_own _ rfl _ _ 35 rfl w.heap.size 5 i0 (.int .u8 0) 1 1 Try.underlying35 hi hz0 hz1 hz2 rfl (by decide) _ _ _ rfl (hown.alloc _) ⟨wr.heap.size, 0, none⟩ 2 2 [.int .u8 92, .int .u8 c.toNat] rfl rfl ?c1 ?c2 ?c3 ?c4 ?c5 ?_)
          case c1 => exact news_row (by simp)
          case c2 => intro u hu; simp at hu; rcases hu with rfl | rfl <;> rfl
          case c3 => unfold maxLen; omega
          case c4 => omega
          case c5 => simp; omega
          intro v' w2 hown' hgrow _
          have hX := own_next HAT.out (HQ.out) (us := [92, c]) rfl rfl hown'
          have hbX : Below w.heap.size w w2 := (hbw.alloc hz _).grown hgrow (by simp; omega) (fun k hk => (hown.lt k hk).1)
          go_wp2
          go_roundw
          case rel => exact ⟨k + 1, by go_num, by omega, hX, hbX⟩
          case measure => simp [intOf]; omega
        · have b92 : ((c.toNat : Int) == 92) = false := (byteB c 92).trans (by simpa using h92)
          have H92 := Lib.hid h92
          clear h92
          by_cases h10 : c = 10
          · have b10 : ((c.toNat : Int) == 10) = true := (byteB c 10).trans (by simpa using h10)
            have HQ := Lib.hid (show q1 c = [92, 110] by simp [q1, h10])
            clear h10
            go_wp2_with (at_builtin; refine wpList_append_own _ rfl _ _ 35 rfl w.heap.size 5 i0 (.int .u8 0) 1 1 Try.underlying35 hi hz0 hz1 hz2 rfl (by decide) _ _ _ rfl (hown.alloc _) ⟨wr.heap.size, 0, none⟩ 2 2 [.int .u8 92, .int .u8 110] rfl rfl ?c1 ?c2 ?c3 ?c4 ?c5 ?_)
            case c1 => exact news_row (by simp)
            case c2 => intro u hu; simp at hu; rcases hu with rfl | rfl <;> rfl
            case c3 => unfold maxLen; omega
            case c4 => omega
            case c5 => simp; omega
            intro v' w2 hown' hgrow _
            have hX := own_next HAT.out (HQ.out) (us := [92, 110]) rfl rfl hown'
            have hbX : Below w.heap.size w w2 := (hbw.alloc hz _).grown hgrow (by simp; omega) (fun k hk => (hown.lt k hk).1)
            go_wp2
            go_roundw
            case rel => exact ⟨k + 1, by go_num, by omega, hX, hbX⟩
            case measure => simp [intOf]; omega
          · have b10 : ((c.toNat : Int) == 10) = false := (byteB c 10).trans (by simpa using h10)
            have H10 := Lib.hid h10
            clear h10
            by_cases h9 : c = 9
            · have b9 : ((c.toNat : Int) == 9) = true := (byteB c 9).trans (by simpa using h9)
              have HQ := Lib.hid (show q1 c = [92, 116] by simp [q1, h9])
              clear h9
              go_wp2_with (at_builtin; refine wpList_append_own _ rfl _ _ 35 rfl w.heap.size 5 i0 (.int .u8 0) 1 1 Try.underlying35 hi hz0 hz1 hz2 rfl (by decide) _ _ _ rfl (hown.alloc _) ⟨wr.heap.size, 0, none⟩ 2 2 [.int .u8 92, .int .u8 116] rfl rfl ?c1 ?c2 ?c3 ?c4 ?c5 ?_)
              case c1 => exact news_row (by simp)
              case c2 => intro u hu; simp at hu; rcases hu with rfl | rfl <;> rfl
              case c3 => unfold maxLen; omega
              case c4 => omega
              case c5 => simp; omega
              intro v' w2 hown' hgrow _
              have hX := own_next HAT.out (HQ.out) (us := [92, 116]) rfl rfl hown'
              have hbX : Below w.heap.size w w2 := (hbw.alloc hz _).grown hgrow (by simp; omega) (fun k hk => (hown.lt k hk).1)
              go_wp2
              go_roundw
              case rel => exact ⟨k + 1, by go_num, by omega, hX, hbX⟩
              case measure => simp [intOf]; omega
            · have b9 : ((c.toNat : Int) == 9) = false := (byteB c 9).trans (by simpa using h9)
              have H9 := Lib.hid h9
              clear h9
              by_cases hlo : c.toNat < 32
              · have h32 : (c.toNat : Int) < 32 := by omega
                have n0 : 0 ≤ (c.toNat : Int) / 16 := by omega
                have n1 : (c.toNat : Int) / 16 < 16 := by omega
                have n2 := hexs_get ((c.toNat : Int) / 16) (c.toNat / 16) (by omega) (by omega) (by show _ < 16; omega)
                have m0 : 0 ≤ (c.toNat : Int) % 16 := by omega
                have m1 : (c.toNat : Int) % 16 < 16 := by omega
                have m2 := hexs_get ((c.toNat : Int) % 16) (c.toNat % 16) (by omega) (by omega) (by show _ < 16; omega)
                have hwd : IntKind.u8.wrap ((c.toNat : Int) / 16) = (c.toNat : Int) / 16 := wrap16 ⟨c.toNat, c.toNat_lt⟩
                have hmd : (c.toNat : Int).tmod 16 = (c.toNat : Int) % 16 := tmod16 ⟨c.toNat, c.toNat_lt⟩
                obtain ⟨x1, hx1⟩ : ∃ x, hexd (c.toNat / 16) = x := ⟨_, rfl⟩
                obtain ⟨x2, hx2⟩ : ∃ x, hexd (c.toNat % 16) = x := ⟨_, rfl⟩
                have hq := q1_hex c H34.out H92.out H10.out H9.out (.inl hlo)
                rw [hx1, hx2] at hq
                rw [hx1] at n2
                rw [hx2] at m2
                have HQ := Lib.hid hq
                have HNEW := Lib.hid (news_row (W := wr.drew) (g := wr.heap.size) (us := [.int .u8 92, .int .u8 120, .int .u8 x1.toNat, .int .u8 x2.toNat]) (e := 5) rfl)
                clear hq hx1 hx2
                go_wp2
                go_region_law (first | (refine step_append_lies _ rfl _ _ _ rfl w.heap.size 5 i0 (.int .u8 0) 1 1 Try.underlying35 hi hz0 hz1 hz2 rfl (by decide) _ _ _ rfl (hown.alloc _) ⟨wr.heap.size, 0, none⟩ 4 4 [.int .u8 92, .int .u8 120, .int .u8 x1.toNat, .int .u8 x2.toNat] rfl rfl HNEW.out (by intro u hu; simp at hu; rcases hu with rfl | rfl | rfl | rfl <;> rfl) (by decide) (by unfold maxLen; omega) (by omega) (by simp; omega) _ rfl ?_; intro g gc w2 hown' hgrow hat hlt2))
                all_goals
                  have hX := own_next HAT.out HQ.out (us := [92, 120, x1, x2]) rfl rfl hown'
                  have hbX : Below w.heap.size w w2 := ((hbw.drew).alloc hz _).grown hgrow (by simp; omega) (fun k hk => (hown.lt k hk).1)
                  go_wp2
                  go_roundw
                  case rel => exact ⟨k + 1, by go_num, by omega, hX, hbX⟩
                  case measure => simp [intOf]; omega
              · have h32 : 32 ≤ (c.toNat : Int) := by omega
                by_cases hhi : 126 < c.toNat
                · have h126 : 126 < (c.toNat : Int) := by omega
                  have n0 : 0 ≤ (c.toNat : Int) / 16 := by omega
                  have n1 : (c.toNat : Int) / 16 < 16 := by omega
                  have n2 := hexs_get ((c.toNat : Int) / 16) (c.toNat / 16) (by omega) (by omega) (by show _ < 16; omega)
                  have m0 : 0 ≤ (c.toNat : Int) % 16 := by omega
                  have m1 : (c.toNat : Int) % 16 < 16 := by omega
                  have m2 := hexs_get ((c.toNat : Int) % 16) (c.toNat % 16) (by omega) (by omega) (by show _ < 16; omega)
                  have hwd : IntKind.u8.wrap ((c.toNat : Int) / 16) = (c.toNat : Int) / 16 := wrap16 ⟨c.toNat, c.toNat_lt⟩
                  have hmd : (c.toNat : Int).tmod 16 = (c.toNat : Int) % 16 := tmod16 ⟨c.toNat, c.toNat_lt⟩
                  obtain ⟨x1, hx1⟩ : ∃ x, hexd (c.toNat / 16) = x := ⟨_, rfl⟩
                  obtain ⟨x2, hx2⟩ : ∃ x, hexd (c.toNat % 16) = x := ⟨_, rfl⟩
                  have hq := q1_hex c H34.out H92.out H10.out H9.out (.inr hhi)
                  rw [hx1, hx2] at hq
                  rw [hx1] at n2
                  rw [hx2] at m2
                  have HQ := Lib.hid hq
                  have HNEW := Lib.hid (news_row (W := wr.drew) (g := wr.heap.size) (us := [.int .u8 92, .int .u8 120, .int .u8 x1.toNat, .int .u8 x2.toNat]) (e := 5) rfl)
                  clear hq hx1 hx2
                  go_wp2
                  go_region_law (first | (refine step_append_lies _ rfl _ _ _ rfl w.heap.size 5 i0 (.int .u8 0) 1 1 Try.underlying35 hi hz0 hz1 hz2 rfl (by decide) _ _ _ rfl (hown.alloc _) ⟨wr.heap.size, 0, none⟩ 4 4 [.int .u8 92, .int .u8 120, .int .u8 x1.toNat, .int .u8 x2.toNat] rfl rfl HNEW.out (by intro u hu; simp at hu; rcases hu with rfl | rfl | rfl | rfl <;> rfl) (by decide) (by unfold maxLen; omega) (by omega) (by simp; omega) _ rfl ?_; intro g gc w2 hown' hgrow hat hlt2))
                  all_goals
                    have hX := own_next HAT.out HQ.out (us := [92, 120, x1, x2]) rfl rfl hown'
                    have hbX : Below w.heap.size w w2 := ((hbw.drew).alloc hz _).grown hgrow (by simp; omega) (fun k hk => (hown.lt k hk).1)
                    go_wp2
                    go_roundw
                    case rel => exact ⟨k + 1, by go_num, by omega, hX, hbX⟩
                    case measure => simp [intOf]; omega
                · have h126 : (c.toNat : Int) ≤ 126 := by omega
                  have HQ := Lib.hid (q1_plain c H34.out H92.out H10.out H9.out (by omega))
                  go_wp2_with (at_builtin; refine wpList_append_own _ rfl _ _ 35 rfl w.heap.size 5 i0 (.int .u8 0) 1 1 Try.underlying35 hi hz0 hz1 hz2 rfl (by decide) _ _ _ rfl (hown.alloc _) ⟨wr.heap.size, 0, none⟩ 1 1 [.int .u8 c.toNat] rfl rfl ?c1 ?c2 ?c3 ?c4 ?c5 ?_)
                  case c1 => exact news_row (by simp)
                  case c2 => intro u hu; simp at hu; subst hu; rfl
                  case c3 => unfold maxLen; omega
                  case c4 => omega
                  case c5 => simp; omega
                  intro v' w2 hown' hgrow _
                  have hX := own_next HAT.out (HQ.out) (us := [c]) rfl rfl hown'
                  have hbX : Below w.heap.size w w2 := (hbw.alloc hz _).grown hgrow (by simp; omega) (fun k hk => (hown.lt k hk).1)
                  go_wp2
                  go_roundw
                  case rel => exact ⟨k + 1, by go_num, by omega, hX, hbX⟩
                  case measure => simp [intOf]; omega
    · obtain rfl : k = l.length := by omega
      have HR2 := HR
      go_wp2_with (at_builtin; refine wpList_append_own _ rfl _ _ 35 rfl w.heap.size 5 i0 (.int .u8 0) 1 1 Try.underlying35 hi hz0 hz1 hz2 rfl (by decide) _ _ _ rfl (hown.alloc _) ⟨wr.heap.size, 0, none⟩ 1 1 [.int .u8 34] rfl rfl ?c1 ?c2 ?c3 ?c4 ?c5 ?_)
      case c1 => exact news_row (by simp)
      case c2 => intro u hu; simp at hu; subst hu; rfl
      case c3 => unfold maxLen; omega
      case c4 => omega
      case c5 => simp; omega
      intro v' w2 hown' hgrow _
      have hX : w2.ownsRow w.heap.size 5 1 v' (quoteOf l).length (Lib.byteCells (quoteOf l)) := by
        have e : quoteOf l = (34 :: qs l) ++ [34] := rfl
        rw [e, List.length_append, Lib.byteCells_append]
        exact hown'
      have hbX : Below w.heap.size w w2 := (hbw.alloc hz _).grown hgrow (by simp; omega) (fun k hk => (hown.lt k hk).1)
      obtain ⟨r, hr⟩ : ∃ r : ByteArray, (⟨(quoteOf l).toArray⟩ : ByteArray) = r := ⟨_, rfl⟩
      have hcv : (convert 35 9 v').run Try.prog w2 = .ok (.string r) w2 := by rw [← hr]; exact conv_row hX w2 fun _ => rfl
      have HRR := Lib.hid hr
      clear hr
      go_wp2
      go_ret
      exact ⟨by rw [HRR.out]; rfl, hbX⟩

end Go.Proofs.Ytiocgdegaabnmaa
