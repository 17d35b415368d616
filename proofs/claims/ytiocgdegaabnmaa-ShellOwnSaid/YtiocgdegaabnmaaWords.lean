/-
  The Go function Words of package shell, walked: of every line its words, or its error; the list that it hands out is its own. Conditions: none.
-/
import Derived.Test.YtiocgdegaabnmaaTrim
import Derived.Test.YtiocgdegaabnmaaQuotedWalk
namespace Go.Proofs.Ytiocgdegaabnmaa
open Go.RowKit

/-- A word as a value. -/
def strV (l : List UInt8) : Value := .string ⟨l.toArray⟩
/-- What Words answers: the words and the error's number. -/
def resOf (l : List UInt8) : List (List UInt8) × Int :=
  if 65536 < l.length then ([], 2) else match wordsOf l with
    | none => ([], 200)
    | some ws => (ws, 0)
/-- A list of words in memory that belongs to whoever called. -/
def Handed (w : World) (r : List (List UInt8) × Int) (e : Ending) (w' : World) : Prop :=
  ∃ v, e = .returned (.tuple #[v, .int .i64 r.2]) ∧ w'.ownsRow w.heap.size 9 1 v r.1.length (r.1.map strV)

theorem infoString : (Try.prog.info? 9).map (fun i => (i.zero, i.size, i.bytes)) = some (some (.string ⟨#[]⟩), 1, 16) := by kernel_rfl

/-- The length of a text that a slot holds. -/
def strSize : Value → Nat | .string s => s.size | _ => 0

/-- What holds at each round: the words so far, and what is left of the line. -/
def WR (l : List UInt8) (rest : List UInt8) (ws : List (List UInt8)) : Prop :=
  (∃ d, fin (run ⟨0, [], ws, d, false⟩ rest) = wordsOf l) ∧ ws.length + rest.length ≤ l.length

theorem WR.start (l : List UInt8) : WR l l [] := ⟨⟨0, rfl⟩, by simp⟩

theorem WR.trim {l rest rest' : List UInt8} {ws : List (List UInt8)} (h : WR l rest ws) {b : Nat} (hd : rest' = rest.drop b) (hb : ∀ c ∈ rest.take b, isBlank c = true) : WR l rest' ws := by
  obtain ⟨⟨d, h1⟩, h2⟩ := h
  refine ⟨⟨d, ?_⟩, by rw [hd, List.length_drop]; omega⟩
  rw [← h1, hd]
  conv => rhs; rw [← List.take_append_drop b rest, run_append, run_blanks _ _ _ _ hb]

theorem WR.done {l rest : List UInt8} {ws : List (List UInt8)} (h : WR l rest ws) (hl : ¬ 65536 < l.length) (hr : rest = [] ∨ rest[0]? = some 35) : resOf l = (ws, 0) := by
  obtain ⟨⟨d, h1⟩, h2⟩ := h
  unfold resOf
  rw [if_neg hl, ← h1, fin_comment rest ws d hr]

theorem WR.fails {l rest w : List UInt8} {ws : List (List UInt8)} (h : WR l rest ws) (hl : ¬ 65536 < l.length) (ht : Takes rest w 0) : resOf l = ([], 200) := by
  obtain ⟨⟨d, h1⟩, h2⟩ := h
  unfold resOf
  rcases ht with ⟨_, hn⟩ | ⟨h0, _⟩
  · rw [if_neg hl, ← h1, hn ws d]
  · omega

theorem WR.takes {l rest w : List UInt8} {ws : List (List UInt8)} {n : Nat} (h : WR l rest ws) (hn : 0 < n) (ht : Takes rest w n) : WR l (rest.drop n) (ws ++ [w]) ∧ n ≤ rest.length := by
  obtain ⟨⟨d, h1⟩, h2⟩ := h
  have hle : n ≤ rest.length := by
    rcases ht with ⟨h0, _⟩ | ⟨_, h0, _⟩
    · omega
    · exact h0
  obtain ⟨d', h3⟩ := takes_on ht hn ws d
  refine ⟨⟨⟨d', by rw [← h3, h1]⟩, ?_⟩, hle⟩
  rw [List.length_append, List.length_singleton, List.length_drop]
  omega

theorem ownsRow_later {w w' : World} {base : Nat} {e : TypeId} {size : Nat} {v : Value} {n : Nat} {xs : List Value} (h : w.ownsRow base e size v n xs) (hb : Below w.heap.size w w') : w'.ownsRow base e size v n xs := by
  refine ⟨h.1, ?_⟩
  rcases h.2 with hn | ⟨g, cap, cur, hv, hbg, hg, rest⟩
  · exact .inl hn
  · exact .inr ⟨g, cap, cur, hv, hbg, (hb.block g (Array.getElem?_eq_some_iff.1 hg).1).trans hg, rest⟩

theorem toList_ne {T : ByteArray} (h : 0 < T.size) : T.toList.isEmpty = false := by
  rw [Lib.toList_data]
  have h2 : T.data.toList.length = T.size := by simp
  cases hl : T.data.toList with
  | nil => rw [hl] at h2; simp at h2; omega
  | cons _ _ => rfl

set_option maxHeartbeats 4000000 in
set_option maxRecDepth 100000 in
theorem words_long (s : ByteArray) (w : World) (hl : 65536 < s.size) :
    Calls Try.prog 13 #[.string s] w fun e w' => e = .returned (.tuple #[.slice none 0 0, .int .i64 2]) ∧ w = w' := by
  go_enter Try.func13, Try.ntmps13
  go_wp2
  go_ret2
  exact ⟨rfl, rfl⟩

set_option maxHeartbeats 4000000 in
set_option maxRecDepth 100000 in
theorem words_short (s : ByteArray) (w : World) (hl : s.size ≤ 65536) :
    Calls Try.prog 13 #[.string s] w fun e w' => Handed w (resOf s.data.toList) e w' ∧ Below w.heap.size w w' := by
  go_enter Try.func13, Try.ntmps13
  go_wp2_with fail
  go_loopw [0, 4] (fun v0 v4 wr => ∃ (t : ByteArray) (ws : List (List UInt8)), v0 = .string t ∧ wr.ownsRow w.heap.size 9 1 v4 ws.length (ws.map strV) ∧ Below w.heap.size w wr ∧ WR s.data.toList t.data.toList ws) (fun v0 _ _ => strSize v0)
  case atStart => exact ⟨s, [], rfl, World.ownsRow_nil _ _ _ _, Below.refl _ _, WR.start _⟩
  case round =>
    obtain ⟨t, ws, rfl, hown, hbw, hwr⟩ := hrel
    obtain ⟨i0, hi, hz0, hz1, hz2⟩ := info_parts infoString
    have hlen : s.data.toList.length = s.size := by simp
    have htl : t.data.toList.length = t.size := by simp
    have hts : ws.length + t.size ≤ 65536 := by have := hwr.2; omega
    clear hlen htl
    have hc := Try.strings_TrimLeftFunc 20 #[] (enters_of Try.func20 (by kernel_rfl) rfl) pBlank t wr (blank_pred wr)
    obtain ⟨b, hb1, hb2, hb3, hb4⟩ := trim_blank t
    obtain ⟨T, hT⟩ : ∃ T, Lib.trimLeftF pBlank t = T := ⟨_, rfl⟩
    rw [hT] at hc hb2 hb4
    have hwT := hwr.trim hb2 hb3
    have hTs : ws.length + T.size ≤ 65536 := by
      have h1 := hwT.2
      have h2 : T.data.toList.length = T.size := by simp
      have h3 : s.data.toList.length = s.size := by simp
      omega
    have hTt : T.size ≤ t.size := by
      have h1 : T.data.toList.length = T.size := by simp
      have h2 : t.data.toList.length = t.size := by simp
      rw [hb2, List.length_drop] at h1
      omega
    have HC := Lib.hid hc
    have HB4 := Lib.hid hb4
    clear hc hT hb1 hb2 hb3 hb4 hwr hts
    by_cases hT0 : T.size = 0
    · have hTe : T = ⟨#[]⟩ := by
        cases T with
        | mk d => congr 1; exact Array.eq_empty_of_size_eq_zero hT0
      subst hTe
      have hres := hwT.done (by simpa using hl) (.inl rfl)
      have HRES := Lib.hid hres
      clear hres hT0
      go_wp2_with fail
      refine HC.out.mono ?_
      rintro e w1 ⟨rfl, hb1⟩
      go_wp2
      go_ret2
      exact ⟨⟨_, by rw [HRES.out]; rfl, by rw [HRES.out]; exact ownsRow_later hown hb1⟩, hbw.trans (hb1.mono hbw.size)⟩
    · have hpos : 0 < T.size := by omega
      obtain ⟨c, hc⟩ : ∃ c, T[0]'hpos = c := ⟨_, rfl⟩
      have hat := at_list hpos
      rw [hc] at hat
      have HAT := Lib.hid hat
      clear hat
      have hne : T.toList.isEmpty = false := toList_ne hpos
      by_cases h35 : c = 35
      · subst h35
        have hres := hwT.done (by simpa using hl) (.inr HAT.out)
        have HRES := Lib.hid hres
        clear hres hT0
        go_wp2_with fail
        refine HC.out.mono ?_
        rintro e w1 ⟨rfl, hb1⟩
        go_wp2
        go_ret2
        exact ⟨⟨_, by rw [HRES.out]; rfl, by rw [HRES.out]; exact ownsRow_later hown hb1⟩, hbw.trans (hb1.mono hbw.size)⟩
      · have n35 : c.toNat ≠ 35 := fun e => h35 (UInt8.toNat_inj.1 e)
        have b35 : ((c.toNat : Int) == 35) = false := by rw [beq_eq_false_iff_ne]; omega
        by_cases h34 : c = 34
        · subst h34
          go_wp2_with fail
          refine HC.out.mono ?_
          rintro e w1 ⟨rfl, hb1⟩
          go_wp2_with fail
          refine (quoted_any T _ (by omega) hpos HAT.out).mono ?_
          rintro e w2 ⟨⟨wd, n, rfl, ht⟩, hb2⟩
          have hbW : Below w.heap.size w w2 := (hbw.trans (hb1.mono hbw.size)).trans (hb2.mono (Nat.le_trans hbw.size hb1.size))
          have hown2 : w2.ownsRow w.heap.size 9 1 u4 ws.length (ws.map strV) := ownsRow_later (ownsRow_later hown hb1) hb2
          by_cases hn : n = 0
          · subst hn
            have hres := hwT.fails (by simpa using hl) ht
            have HRES := Lib.hid hres
            clear hres ht
            go_wp2
            go_ret2
            exact ⟨⟨_, by rw [HRES.out]; rfl, by rw [HRES.out]; exact World.ownsRow_nil _ _ _ _⟩, hbW⟩
          · obtain ⟨hnext, hnl⟩ := hwT.takes (by omega) ht
            have hnT : n ≤ T.size := by simpa using hnl
            have hn1 : 0 < n := by omega
            have hn0 : ((n : Int) == 0) = false := by rw [beq_eq_false_iff_ne]; omega
            have HNEXT := Lib.hid hnext
            have hzw := hbW.size
            clear hnext hnl ht hn
            go_wp2_with (at_builtin; refine wpList_append_own _ rfl _ _ 25 rfl w.heap.size 9 i0 (.string ⟨#[]⟩) 1 16 Try.underlying25 hi hz0 hz1 hz2 rfl (by decide) _ _ _ rfl (hown2.alloc _) ⟨w2.heap.size, 0, none⟩ 1 1 [.string wd] rfl rfl ?c1 ?c2 ?c3 ?c4 ?c5 ?_)
            case c1 =>
              intro j u hj
              match j, hj with
              | 0, hj => simp at hj; subst hj; simp [Addr.add]
            case c2 => intro u hu; simp at hu; subst hu; rfl
            case c3 => unfold maxLen; omega
            case c4 => omega
            case c5 => simp; omega
            intro v' w3 hown' hgrow _
            have hbX : Below w.heap.size w w3 := (hbW.alloc hzw _).grown hgrow (by simp; omega) (fun k hk => (hown2.lt k hk).1)
            go_wp2
            go_roundw
            case rel =>
              refine ⟨T.extract n T.size, ws ++ [wd.data.toList], rfl, ?_, hbX, ?_⟩
              · simpa [strV] using hown'
              · rw [Lib.extract_to_end]; exact HNEXT.out
            case measure =>
              show (T.extract n T.size).size < t.size
              rw [ByteArray.size_extract]
              omega
        · have n34 : c.toNat ≠ 34 := fun e => h34 (UInt8.toNat_inj.1 e)
          have b34 : ((c.toNat : Int) == 34) = false := by rw [beq_eq_false_iff_ne]; omega
          have HB0 : Hid (∀ x, T.data.toList[0]? = some x → isBlank x = false ∧ x ≠ 34 ∧ x ≠ 35) := fun x hx => by
            have h1 := HB4.out x hx
            rw [HAT.out] at hx
            cases hx
            exact ⟨h1, h34, h35⟩
          clear h34 h35 n34 n35
          go_wp2_with fail
          refine HC.out.mono ?_
          rintro e w1 ⟨rfl, hb1⟩
          go_wp2_with fail
          refine (bare_any T _ (by omega) hpos HB0).mono ?_
          rintro e w2 ⟨⟨wd, n, rfl, ht⟩, hb2⟩
          have hbW : Below w.heap.size w w2 := (hbw.trans (hb1.mono hbw.size)).trans (hb2.mono (Nat.le_trans hbw.size hb1.size))
          have hown2 : w2.ownsRow w.heap.size 9 1 u4 ws.length (ws.map strV) := ownsRow_later (ownsRow_later hown hb1) hb2
          by_cases hn : n = 0
          · subst hn
            have hres := hwT.fails (by simpa using hl) ht
            have HRES := Lib.hid hres
            clear hres ht
            go_wp2
            go_ret2
            exact ⟨⟨_, by rw [HRES.out]; rfl, by rw [HRES.out]; exact World.ownsRow_nil _ _ _ _⟩, hbW⟩
          · obtain ⟨hnext, hnl⟩ := hwT.takes (by omega) ht
            have hnT : n ≤ T.size := by simpa using hnl
            have hn1 : 0 < n := by omega
            have hn0 : ((n : Int) == 0) = false := by rw [beq_eq_false_iff_ne]; omega
            have HNEXT := Lib.hid hnext
            have hzw := hbW.size
            clear hnext hnl ht hn
            go_wp2_with (at_builtin; refine wpList_append_own _ rfl _ _ 25 rfl w.heap.size 9 i0 (.string ⟨#[]⟩) 1 16 Try.underlying25 hi hz0 hz1 hz2 rfl (by decide) _ _ _ rfl (hown2.alloc _) ⟨w2.heap.size, 0, none⟩ 1 1 [.string wd] rfl rfl ?c1 ?c2 ?c3 ?c4 ?c5 ?_)
            case c1 =>
              intro j u hj
              match j, hj with
              | 0, hj => simp at hj; subst hj; simp [Addr.add]
            case c2 => intro u hu; simp at hu; subst hu; rfl
            case c3 => unfold maxLen; omega
            case c4 => omega
            case c5 => simp; omega
            intro v' w3 hown' hgrow _
            have hbX : Below w.heap.size w w3 := (hbW.alloc hzw _).grown hgrow (by simp; omega) (fun k hk => (hown2.lt k hk).1)
            go_wp2
            go_roundw
            case rel =>
              refine ⟨T.extract n T.size, ws ++ [wd.data.toList], rfl, ?_, hbX, ?_⟩
              · simpa [strV] using hown'
              · rw [Lib.extract_to_end]; exact HNEXT.out
            case measure =>
              show (T.extract n T.size).size < t.size
              rw [ByteArray.size_extract]
              omega

/-- Words, of every line. -/
theorem words_any (s : ByteArray) (w : World) :
    Calls Try.prog 13 #[.string s] w fun e w' => Handed w (resOf s.data.toList) e w' ∧ Below w.heap.size w w' := by
  by_cases hl : 65536 < s.size
  · refine (words_long s w hl).mono ?_
    rintro e w' ⟨rfl, rfl⟩
    have hr : resOf s.data.toList = ([], 2) := by unfold resOf; rw [if_pos (by simpa using hl)]
    exact ⟨⟨_, by rw [hr], by rw [hr]; exact World.ownsRow_nil _ _ _ _⟩, Below.refl _ _⟩
  · exact words_short s w (by omega)
end Go.Proofs.Ytiocgdegaabnmaa
