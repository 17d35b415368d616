/-
  kinds of package wire: how a text is written. Conditions: none.
-/
import Derived.Test.YtecmhpncgdjgjaaDoorKinds
namespace Go.Proofs.YtecmhpncgdjgjaaDoor
open Go.RowKit
set_option linter.unusedVariables false

theorem Grew.drew {w w1 : World} {v v1 : Value} (h : Grew w w1 v v1) : Grew w w1.drew v v1 :=
  h.trans ⟨⟨rfl, rfl, rfl, Nat.le_refl _, fun _ _ _ => rfl⟩, .inl rfl⟩
theorem str_len (t : ByteArray) : t.toList.length = t.size := by rw [ByteArray.toList_eq]; simp
theorem str_cells (t : ByteArray) : Lib.strCells t = Lib.byteCells t.toList := by
  rw [ByteArray.toList_eq]
  simp [Lib.strCells, Lib.byteCells]
theorem Grew.cell {w w1 : World} {v v1 : Value} (h : Grew w w1 v v1) {b o : Nat} {u : Value} (hc : w.cell? ⟨b, o, none⟩ = some u) (hb : v.ownBlock ≠ some b) : w1.cell? ⟨b, o, none⟩ = some u :=
  (World.cell?_of_block (w := w) (h.by_.block b (cell_lt hc) (fun e => hb e.symm))).trans hc
theorem own_new {w : World} {base : Nat} {e : TypeId} {size : Nat} {v : Value} {n : Nat} {xs : List Value} (h : w.ownsRow base e size v n xs) {k : Nat} (hk : w.heap.size ≤ k) : v.ownBlock ≠ some k :=
  fun e => by have := (h.lt k e).2; omega

set_option maxHeartbeats 4000000 in
set_option maxRecDepth 100000 in
theorem write2_any (n k x : Int) (t : ByteArray) (a : Option Addr) (m cap : Nat) (w : World) (B : Nat) (v : Value) (l : List UInt8) (h : OwnB w B v l) (hB : B ≤ w.heap.size) (hl : l.length + t.size ≤ 1099511627776) :
    Calls Tryd.prog 94 #[v, .agg #[.int .i64 n, .int .i64 k, .int .i64 x, .string t, .slice a m cap]] w (Appends w B v (l ++ vb (u64 t.size) ++ t.toList)) := by
  obtain ⟨i0, hi, hz0, hz1, hz2⟩ := info_parts infoB
  have hv10 := vb_len10 (t.size : Int)
  go_enter Tryd.func94, Tryd.ntmps94
  go_wp2_with fail
  have hne := Lib.hid (own_new h (Nat.le_refl w.heap.size))
  go_region_law (first
    | (refine step_call rfl 58 #[v, .int .i64 t.size] (by kernel_rfl) (varint_any B v l t.size _ (World.ownsRow.alloc h _) (by simp; omega) (by omega)) ?_; rintro e w1 ⟨v', rfl, h1, h2⟩; refine ⟨_, rfl, ?_⟩; have hc1 : w1.cell? ⟨w.heap.size, 3, none⟩ = some (.string t) := h2.cell (by simp) hne.out; have hB1 : B ≤ w1.heap.size := by { have := h2.size; simp at this; omega })
    | (refine step_append_text rfl _ _ _ _ rfl B 5 i0 Tryd.underlying24 Tryd.underlying9 hi hz0 hz1 hz2 _ _ _ rfl h1 t rfl (by rw [List.length_append]; unfold maxLen; omega) (by rw [List.length_append]; omega) hB1 _ rfl ?_; intro v2 w2 hown' hgrow hat))
  all_goals
    have hY : OwnB w2 B v2 (l ++ vb (u64 t.size) ++ t.toList) := OwnB.put hown' (str_cells t) (by rw [str_len])
    have hG : Grew w w2 v v2 := ((((Grew.refl w v).alloc _).drew).trans h2).step hgrow hat (Nat.le_refl _)
    clear hown' hgrow hat
    go_wp2
    go_ret
    exact ⟨_, rfl, hY, hG⟩
end Go.Proofs.YtecmhpncgdjgjaaDoor
