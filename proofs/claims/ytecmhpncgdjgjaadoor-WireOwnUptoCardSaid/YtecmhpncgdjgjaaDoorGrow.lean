/-
  Rows of the call's own that are appended to: what else stands as it stood; small lemmas on rows in memory. Conditions: none.
-/
import Derived.Test.YtecmhpncgdjgjaaDoorRows
import Derived.Test.YtecmhpncgdjgjaaDoorNum
import Derived.WalkKit
import Derived.WalkSpells
import Derived.WalkLawsBesides
import Derived.Lib.Hide
import Derived.Lib.FrozenHead
import Derived.Maps.AppendAt
import Derived.Deep.AppendLies
import Derived.Deep.RegionLaw
import Derived.Laws.Tables
namespace Go.Proofs.YtecmhpncgdjgjaaDoor
open Go.RowKit
set_option linter.unusedVariables false

theorem infoB : (Tryd.prog.info? 5).map (fun i => (i.zero, i.size, i.bytes)) = some (some (.int .u8 0), 1, 1) := by kernel_rfl

/-- Nothing has turned but the row v, which now is v'. -/
structure Grew (w w' : World) (v v' : Value) : Prop where
  by_ : w.grownBy w' v.ownBlock
  own : v'.ownBlock = v.ownBlock ∨ ∃ b, v'.ownBlock = some b ∧ w.heap.size ≤ b

theorem grown_refl (w : World) (r : Option Nat) : w.grownBy w r := ⟨rfl, rfl, rfl, Nat.le_refl _, fun _ _ _ => rfl⟩
theorem grown_alloc (w : World) (r : Option Nat) (o : Obj) : w.grownBy (w.alloc o) r :=
  ⟨rfl, rfl, rfl, by simp, fun k hk _ => Below.heap_alloc _ _ _ hk⟩

theorem Grew.refl (w : World) (v : Value) : Grew w w v v := ⟨grown_refl _ _, .inl rfl⟩
theorem Grew.trans {w w1 w2 : World} {v v1 v2 : Value} (h : Grew w w1 v v1) (k : Grew w1 w2 v1 v2) : Grew w w2 v v2 := by
  refine ⟨⟨k.by_.os.trans h.by_.os, k.by_.tape.trans h.by_.tape, k.by_.output.trans h.by_.output, Nat.le_trans h.by_.size k.by_.size, fun i hi hne => ?_⟩, ?_⟩
  · refine (k.by_.block i (Nat.lt_of_lt_of_le hi h.by_.size) ?_).trans (h.by_.block i hi hne)
    rcases h.own with e | ⟨b, e, hb⟩
    · rw [e]; exact hne
    · rw [e]; intro e2; cases e2; omega
  · rcases k.own with e | ⟨b, e, hb⟩
    · rw [e]; exact h.own
    · exact .inr ⟨b, e, Nat.le_trans h.by_.size hb⟩
theorem Grew.alloc {w w1 : World} {v v1 : Value} (h : Grew w w1 v v1) (o : Obj) : Grew w (w1.alloc o) v v1 :=
  h.trans ⟨grown_alloc _ _ _, .inl rfl⟩
/-- Behind an append. -/
theorem Grew.step {w w1 w2 : World} {v v1 v2 : Value} (h : Grew w w1 v v1) (hg : w1.grownBy w2 v1.ownBlock) {S : Nat} (hat : v2.ownBlock = v1.ownBlock ∨ v2.ownBlock = some S) (hS : w1.heap.size ≤ S) : Grew w w2 v v2 :=
  h.trans ⟨hg, hat.imp id fun e => ⟨_, e, hS⟩⟩

theorem Grew.size {w w' : World} {v v' : Value} (h : Grew w w' v v') : w.heap.size ≤ w'.heap.size := h.by_.size
/-- What lies below a row's base stays. -/
theorem Grew.below {w w' : World} {v v' : Value} (h : Grew w w' v v') {B : Nat} (hB : B ≤ w.heap.size) (hv : ∀ k, v.ownBlock = some k → B ≤ k) : Below B w w' :=
  (Below.refl B w).grown h.by_ hB hv
theorem Grew.nil_below {w w' : World} {v' : Value} (h : Grew w w' (.slice none 0 0) v') : Below w.heap.size w w' :=
  h.below (Nat.le_refl _) (fun k e => by cases e)

theorem own_base {w : World} {base : Nat} {e : TypeId} {size : Nat} {v : Value} {n : Nat} {xs : List Value} (h : w.ownsRow base e size v n xs) : ∀ k, v.ownBlock = some k → base ≤ k := fun k hk => (h.lt k hk).1

theorem ownsRow_later {w w' : World} {base : Nat} {e : TypeId} {size : Nat} {v : Value} {n : Nat} {xs : List Value} (h : w.ownsRow base e size v n xs) (hb : Below w.heap.size w w') : w'.ownsRow base e size v n xs := by
  refine ⟨h.1, ?_⟩
  rcases h.2 with hn | ⟨g, cap, cur, hv, hbg, hg, rest⟩
  · exact .inl hn
  · exact .inr ⟨g, cap, cur, hv, hbg, (hb.block g (Array.getElem?_eq_some_iff.1 hg).1).trans hg, rest⟩

/-- A row in another block stays while one is appended to. -/
theorem ownsRow_grew {w w' : World} {u u' : Value} {base : Nat} {e : TypeId} {size : Nat} {v : Value} {n : Nat} {xs : List Value} (h : w.ownsRow base e size v n xs) (hb : Grew w w' u u') (hne : v.ownBlock = none ∨ v.ownBlock ≠ u.ownBlock) : w'.ownsRow base e size v n xs := by
  refine ⟨h.1, ?_⟩
  rcases h.2 with hn | ⟨g, cap, cur, rfl, hbg, hg, rest⟩
  · exact .inl hn
  · refine .inr ⟨g, cap, cur, rfl, hbg, (hb.by_.block g (Array.getElem?_eq_some_iff.1 hg).1 ?_).trans hg, rest⟩
    rcases hne with e | e
    · cases e
    · exact e

/-- A row with a lower base. -/
theorem ownsRow_down {w : World} {B B' : Nat} {e : TypeId} {size : Nat} {v : Value} {n : Nat} {xs : List Value} (h : w.ownsRow B e size v n xs) (hB : B' ≤ B) : w.ownsRow B' e size v n xs := by
  refine ⟨h.1, ?_⟩
  rcases h.2 with hn | ⟨g, cap, cur, hv, hbg, rest⟩
  · exact .inl hn
  · exact .inr ⟨g, cap, cur, hv, Nat.le_trans hB hbg, rest⟩

theorem news_many {w1 : World} {g : Nat} {us : List Value} {e : TypeId} {fr : Nat × Nat} (h : w1.heap[g]? = some (.cells us.toArray e fr)) : ∀ j x, us[j]? = some x → w1.cell? ((⟨g, 0, none⟩ : Addr).add j) = some x := by
  intro j x hj
  have e1 : (⟨g, 0, none⟩ : Addr).add j = ⟨g, j, none⟩ := by unfold Addr.add; split <;> simp_all
  rw [e1]
  simp [World.cell?, h, hj]

theorem news_row {W : World} {g : Nat} {us : List Value} {e : TypeId} (hg : W.heap.size = g) : ∀ j x, us[j]? = some x → (W.alloc (.cells us.toArray e)).cell? ((⟨g, 0, none⟩ : Addr).add j) = some x := by
  subst hg
  exact news_many (e := e) (fr := (0, 0)) (by show (W.heap.push _)[W.heap.size]? = _; exact Array.getElem?_push_size)

theorem cell_lt {w : World} {b o : Nat} {v : Value} (h : w.cell? ⟨b, o, none⟩ = some v) : b < w.heap.size := by
  rcases Nat.lt_or_ge b w.heap.size with h1 | h1
  · exact h1
  · simp [World.cell?, Array.getElem?_eq_none h1] at h

/-- A row of bytes. -/
def OwnB (w : World) (B : Nat) (v : Value) (l : List UInt8) : Prop := w.ownsRow B 5 1 v l.length (Lib.byteCells l)
theorem OwnB.nil (w : World) (B : Nat) : OwnB w B (.slice none 0 0) [] := World.ownsRow_nil _ _ _ _
theorem OwnB.put {w : World} {B n : Nat} {v : Value} {l us : List UInt8} {news : List Value} 
    (h : w.ownsRow B 5 1 v n (Lib.byteCells l ++ news)) (hn : news = Lib.byteCells us) (hm : n = l.length + us.length) : OwnB w B v (l ++ us) := by
  unfold OwnB
  rw [List.length_append, Lib.byteCells_append, ← hn, ← hm]
  exact h

/-- What an appender of bytes leaves. -/
def Appends (w : World) (B : Nat) (v : Value) (l : List UInt8) (e : Ending) (w' : World) : Prop :=
  ∃ v', e = .returned v' ∧ OwnB w' B v' l ∧ Grew w w' v v'

set_option maxHeartbeats 2000000 in
set_option maxRecDepth 100000 in
theorem varint_any (B : Nat) (v : Value) (l : List UInt8) (x : Int) (w : World) (h : OwnB w B v l) (hB : B ≤ w.heap.size) (hl : l.length ≤ 1099511627776) :
    Calls Tryd.prog 58 #[v, .int .i64 x] w (Appends w B v (l ++ vb (u64 x))) := by
  obtain ⟨i0, hi, hz0, hz1, hz2⟩ := info_parts infoB
  go_enter Tryd.func58, Tryd.ntmps58
  go_wp2_with fail
  go_loopw [0, 5] (fun v0 v5 wr => ∃ (p : List UInt8) (u : Nat), v5 = .int .u64 u ∧ u < 18446744073709551616 ∧ OwnB wr B v0 (l ++ p) ∧ Grew w wr v v0 ∧ p ++ vb u = vb (u64 x) ∧ 1 ≤ (vb u).length) (fun _ v5 _ => (intOf v5).toNat)
  case atStart =>
    refine ⟨[], u64 x, by rw [wrap_u64], u64_lt x, by simpa using h, .refl _ _, rfl, (vb_len10 x).1⟩
  case round =>
    obtain ⟨p, u, rfl, hu, hown, hgr, hp, h1⟩ := hrel
    have hsz := hgr.size
    have h10 := (vb_len10 x).2
    rw [← hp, List.length_append] at h10
    by_cases hs : u < 128
    · obtain ⟨c, hc⟩ : ∃ c, c = UInt8.ofNat u := ⟨_, rfl⟩
      have hb : (u : Int) % 256 = (c.toNat : Int) := by rw [hc, ← small_byte hs, wrap_u8]; omega
      have hle : ((127 : Int) < (u : Int)) = False := by simp; omega
      have hX : l ++ p ++ [c] = l ++ vb (u64 x) := by rw [← hp, vb_small hs, hc, List.append_assoc]
      have HX := Lib.hid hX
      clear hp hs hc hX
      go_wp2_with (at_builtin; refine wpList_append_own_at _ rfl _ _ 24 rfl B 5 i0 (.int .u8 0) 1 1 Tryd.underlying24 hi hz0 hz1 hz2 rfl (by decide) _ _ _ rfl (World.ownsRow.alloc hown _) ⟨wr.heap.size, 0, none⟩ 1 1 [.int .u8 c.toNat] rfl rfl ?c1 ?c2 ?c3 ?c4 ?c5 ?_)
      case c1 => exact news_row (by simp)
      case c2 => intro u hu; simp at hu; rw [hu]; rfl
      case c3 => simp only [List.length_append]; unfold maxLen; omega
      case c4 => simp only [List.length_append]; omega
      case c5 => simp; omega
      intro v' w2 hown' hgrow _ hat
      have hY : OwnB w2 B v' (l ++ p ++ [c]) := OwnB.put hown' rfl (by simp)
      rw [HX.out] at hY
      have hG := (hgr.alloc _).step hgrow hat (by simp)
      clear hown' hgrow hat
      go_wp2
      go_ret
      exact ⟨_, rfl, hY, hG⟩
    · obtain ⟨c, hc⟩ : ∃ c, c = UInt8.ofNat (u % 128 + 128) := ⟨_, rfl⟩
      have hb : bits BinOp.or IntKind.u8 ((u : Int) % 256) 128 = (c.toNat : Int) := by rw [hc, ← or_byte, wrap_u8]; rfl
      have hle : ((127 : Int) < (u : Int)) = True := by simp; omega
      have hX : p ++ [c] ++ vb (u / 128) = vb (u64 x) := by rw [← hp, vb_more hs, hc, List.append_assoc]; rfl
      have HX := Lib.hid hX
      have HS := Lib.hid hs
      have hlp : (p ++ [c]).length = p.length + 1 := by simp
      have hv1 := (vb_len 10 (u / 128) (by omega)).1
      clear hp hs hc hX
      go_wp2_with (at_builtin; refine wpList_append_own_at _ rfl _ _ 24 rfl B 5 i0 (.int .u8 0) 1 1 Tryd.underlying24 hi hz0 hz1 hz2 rfl (by decide) _ _ _ rfl (World.ownsRow.alloc hown _) ⟨wr.heap.size, 0, none⟩ 1 1 [.int .u8 c.toNat] rfl rfl ?c1 ?c2 ?c3 ?c4 ?c5 ?_)
      case c1 => exact news_row (by simp)
      case c2 => intro u hu; simp at hu; rw [hu]; rfl
      case c3 => simp only [List.length_append]; unfold maxLen; omega
      case c4 => simp only [List.length_append]; omega
      case c5 => simp; omega
      intro v' w2 hown' hgrow _ hat
      have hY : OwnB w2 B v' (l ++ p ++ [c]) := OwnB.put hown' rfl (by simp)
      rw [List.append_assoc] at hY
      have hG := (hgr.alloc _).step hgrow hat (by simp)
      clear hown' hgrow hat
      go_wp2
      go_roundw
      case rel => exact ⟨p ++ [c], u / 128, by simp, by omega, hY, hG, HX.out, hv1⟩
      case measure => have := HS.out; simp [intOf]; omega
end Go.Proofs.YtecmhpncgdjgjaaDoor
