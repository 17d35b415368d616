/-
  kinds of package wire, and its functions of records: may the fields be so; how the content is written. Conditions: none.
-/
import Derived.Test.YtecmhpncgdjgjaaDoorNums3
import Derived.Deep.RegionWith
import Derived.Lib.AppendStr
namespace Go.Proofs.YtecmhpncgdjgjaaDoor
open Go.RowKit
set_option linter.unusedVariables false

/-- The block of kinds: five ways of three functions each, one place empty. -/
abbrev kindsB : Obj := .cells #[.func (.func 87) #[] #[], .func (.func 88) #[] #[], .func (.func 89) #[] #[], .func (.func 90) #[] #[], .func (.func 91) #[] #[], .func (.func 92) #[] #[],
  .func (.func 93) #[] #[], .func (.func 94) #[] #[], .func (.func 95) #[] #[], .func (.func 96) #[] #[], .nilFunc, .nilFunc, .nilFunc, .nilFunc, .nilFunc, .func (.func 97) #[] #[], .func (.func 98) #[] #[], .func (.func 99) #[] #[]] 117

set_option maxHeartbeats 400000 in
theorem kinds_any (w : World) : Calls Tryd.prog 84 #[] w fun e w' => e = .returned (.slice (some ⟨w.heap.size, 0, none⟩) 6 6) ∧ w' = w.alloc kindsB := by
  go_enter Tryd.func84, Tryd.ntmps84
  go_wp2
  go_ret
  exact ⟨rfl, rfl⟩

/-- An answer, and nothing written. -/
def Says (w : World) (v : Value) (e : Ending) (w' : World) : Prop := e = .returned v ∧ Below w.heap.size w w'

theorem string_add_at {P : Program} (w : World) (base : Nat) (t u ty e : TypeId) (i : TypeInfo) (ht : P.underlying t = some (.slice e)) (hu : P.underlying u = some .string) (hi : P.info? e = some i) (hz : i.zero = some (.int .u8 0))
    (hsize : i.size = 1) (hby : i.bytes = 1) (v : Value) (n : Nat) (xs : List Value) (hown : w.ownsRow base e 1 v n xs) (s : ByteArray)
    (h63 : n + s.size ≤ maxLen) (hbytes : n + s.size ≤ 140737488355328) (hbase : base ≤ w.heap.size) :
    ∃ v' w', (Builtin.append_ #[t, u] ty #[v, .string s]).run P w = .ok v' w' ∧ w'.ownsRow base e 1 v' (n + s.size) (xs ++ Lib.strCells s) ∧ w.grownBy w' v.ownBlock ∧ (v'.ownBlock = v.ownBlock ∨ v'.ownBlock = some w.heap.size) := by
  obtain ⟨v', w', hr, h1, h2, h3⟩ := Lib.run_append_own_string (P := P) w base t u ty e i ht hu hi hz hsize hby v n xs hown s h63 hbytes hbase
  refine ⟨v', w', hr, h1, h2, ?_⟩
  have h63' : n + s.size ≤ 9223372036854775807 := by simp only [maxLen] at h63; omega
  rcases hown.2 with ⟨rfl, rfl⟩ | ⟨g, cap, cur, rfl, hbg, hg, hnc, hcm, hcs, htake⟩
  · by_cases hm : s.size = 0
    · rw [h3.2 ⟨rfl, hm⟩]
      exact .inl rfl
    · have hr2 := run_append_nil_string (P := P) w t u ty e i (.int .u8 0) ht hu hi hz s (by omega) (by omega) (by rw [hby]; omega)
      rw [hr] at hr2
      injection hr2 with h4 h5
      rw [h4]
      exact .inr rfl
  · by_cases hroom : n + s.size ≤ cap
    · have hr2 := Lib.run_append_room_string (P := P) w t u ty e i ht hu hi hsize g n cap cur hg s hroom (by omega)
      rw [hr] at hr2
      injection hr2 with h4 h5
      rw [h4]
      exact .inl rfl
    · have hr2 := Lib.run_append_grow_string (P := P) w t u ty e i (.int .u8 0) ht hu hi hz ⟨g, 0, none⟩ n cap xs (by rw [hsize]; exact hown.1) (hown.cells (g := g) rfl) s (by omega) (by omega) (by rw [hby]; exact growslice_fits (by omega) (by omega))
      rw [hr] at hr2
      injection hr2 with h4 h5
      rw [h4]
      exact .inr rfl

/-- A step of a region that draws its order: append of a text. -/
theorem step_append_text {P : Program} {ops : Array Oper} {o : Oper} {a : Act} {w : World} {K : Act → World → Prop} {Q : Exit → Act → World → Prop} {E : Prop} (hgd : o.guard = none) (sl x : Operand) (t u : TypeId)
    (ho : o.op = .call { callee := .builtin .append, args := #[sl, x], argTypes := #[t, u] })
    (base : Nat) (e : TypeId) (i : TypeInfo) (ht : P.underlying t = some (.slice e)) (hu : P.underlying u = some .string) (hi : P.info? e = some i) (hz : i.zero = some (.int .u8 0))
    (hsize : i.size = 1) (hby : i.bytes = 1)
    (v : Value) (n : Nat) (xs : List Value) (hs : a.eval sl = v) (hown : w.ownsRow base e 1 v n xs) (s : ByteArray) (hx : a.eval x = .string s)
    (h63 : n + s.size ≤ maxLen) (hbytes : n + s.size ≤ 140737488355328) (hbase : base ≤ w.heap.size) (H : Nat) (hH : w.heap.size = H)
    (h : ∀ v' w', w'.ownsRow base e 1 v' (n + s.size) (xs ++ Lib.strCells s) → w.grownBy w' v.ownBlock → (v'.ownBlock = v.ownBlock ∨ v'.ownBlock = some H) → K (a.put o.dst v') w') :
    if Region.wanted o (yielded ops a.tmps) = true then Oper.wp P o a w K Q else E := by
  have hw : Region.wanted o (yielded ops a.tmps) = true := by simp [Region.wanted, hgd]
  rw [if_pos hw]
  subst hH
  obtain ⟨v', w', hr, h2, h3, h4⟩ := string_add_at (P := P) w base t u o.type e i ht hu hi hz hsize hby v n xs hown s h63 hbytes hbase
  unfold Oper.wp execOp
  simp only [ho, resolve, invoke, builtin, Sem.run_bind, Sem.run_pure, Result.andThen_ok, List.map_toArray, List.map_cons, List.map_nil, hs, hx, hr]
  exact h v' w' h2 h3 h4

/-- A step of a region that draws its order: a call of a function by its contract. -/
theorem step_call {P : Program} {ops : Array Oper} {o : Oper} {a : Act} {w : World} {K : Act → World → Prop} {Q : Exit → Act → World → Prop} {E : Prop} (hgd : o.guard = none)
    (f : FuncId) (args : Array Value) (hrun : (execOp a.eval o).run P w = .ok (.enter f args) w) {R : Ending → World → Prop} (hc : Calls P f args w R)
    (h : ∀ e w', R e w' → ∃ v, e = .returned v ∧ K (a.put o.dst v) w') :
    if Region.wanted o (yielded ops a.tmps) = true then Oper.wp P o a w K Q else E := by
  have hw : Region.wanted o (yielded ops a.tmps) = true := by simp [Region.wanted, hgd]
  rw [if_pos hw]
  unfold Oper.wp
  rw [hrun, Oper.upon_enter]
  refine hc.mono fun e w' hh => ?_
  obtain ⟨v, rfl, hk⟩ := h e w' hh
  exact hk

theorem say_int {k : IntKind} {a b : Int} (h : a = b) : Ending.returned (.int k a) = .returned (.int k b) := by rw [h]
theorem say_bool {a b : Bool} (h : a = b) : Ending.returned (.bool a) = .returned (.bool b) := by rw [h]
theorem len_zero (m : Nat) : ((m : Int) == 0) = (m == 0) := by
  rw [Bool.eq_iff_iff]
  simp

set_option maxHeartbeats 1000000 in
theorem fits0_any (n k x : Int) (t : ByteArray) (a : Option Addr) (m cap : Nat) (w : World) : Calls Tryd.prog 87 #[.agg #[.int .i64 n, .int .i64 k, .int .i64 x, .string t, .slice a m cap]] w (Says w (.bool (t.toList.isEmpty && (m : Int) == 0))) := by
  cases ht : t.toList.isEmpty
  · go_enter Tryd.func87, Tryd.ntmps87
    go_wp2
    go_ret
    exact ⟨say_bool (by rfl), (Below.refl _ _).alloc (Nat.le_refl _) _⟩
  · go_enter Tryd.func87, Tryd.ntmps87
    go_wp2
    go_ret
    exact ⟨say_bool (by rfl), (Below.refl _ _).alloc (Nat.le_refl _) _⟩

set_option maxHeartbeats 1000000 in
theorem fits1_any (n k x : Int) (t : ByteArray) (a : Option Addr) (m cap : Nat) (w : World) : Calls Tryd.prog 90 #[.agg #[.int .i64 n, .int .i64 k, .int .i64 x, .string t, .slice a m cap]] w (Says w (.bool (t.toList.isEmpty && (m : Int) == 0))) := by
  cases ht : t.toList.isEmpty
  · go_enter Tryd.func90, Tryd.ntmps90
    go_wp2
    go_ret
    exact ⟨say_bool (by rfl), (Below.refl _ _).alloc (Nat.le_refl _) _⟩
  · go_enter Tryd.func90, Tryd.ntmps90
    go_wp2
    go_ret
    exact ⟨say_bool (by rfl), (Below.refl _ _).alloc (Nat.le_refl _) _⟩

set_option maxHeartbeats 1000000 in
theorem fits2_any (n k x : Int) (t : ByteArray) (a : Option Addr) (m cap : Nat) (w : World) : Calls Tryd.prog 93 #[.agg #[.int .i64 n, .int .i64 k, .int .i64 x, .string t, .slice a m cap]] w (Says w (.bool (x == 0 && (m : Int) == 0))) := by
  cases hx : (x == 0 : Bool)
  · go_enter Tryd.func93, Tryd.ntmps93
    go_wp2
    go_ret
    exact ⟨say_bool (by rfl), (Below.refl _ _).alloc (Nat.le_refl _) _⟩
  · go_enter Tryd.func93, Tryd.ntmps93
    go_wp2
    go_ret
    exact ⟨say_bool (by rfl), (Below.refl _ _).alloc (Nat.le_refl _) _⟩

set_option maxHeartbeats 1000000 in
theorem fits3_any (n k x : Int) (t : ByteArray) (a : Option Addr) (m cap : Nat) (w : World) : Calls Tryd.prog 96 #[.agg #[.int .i64 n, .int .i64 k, .int .i64 x, .string t, .slice a m cap]] w (Says w (.bool (x == 0 && t.toList.isEmpty))) := by
  cases hx : (x == 0 : Bool)
  · go_enter Tryd.func96, Tryd.ntmps96
    go_wp2
    go_ret
    exact ⟨say_bool (by rfl), (Below.refl _ _).alloc (Nat.le_refl _) _⟩
  · go_enter Tryd.func96, Tryd.ntmps96
    go_wp2
    go_ret
    exact ⟨say_bool (by rfl), (Below.refl _ _).alloc (Nat.le_refl _) _⟩

set_option maxHeartbeats 1000000 in
theorem fits5_any (n k x : Int) (t : ByteArray) (a : Option Addr) (m cap : Nat) (w : World) : Calls Tryd.prog 97 #[.agg #[.int .i64 n, .int .i64 k, .int .i64 x, .string t, .slice a m cap]] w (Says w (.bool ((t.toList.isEmpty && (m : Int) == 0) && (decide (0 ≤ x) && decide (x < 4294967296))))) := by
  cases ht : t.toList.isEmpty
  · go_enter Tryd.func97, Tryd.ntmps97
    go_wp2
    go_ret
    exact ⟨say_bool (by rfl), (Below.refl _ _).alloc (Nat.le_refl _) _⟩
  · cases hm : ((m : Int) == 0 : Bool)
    · go_enter Tryd.func97, Tryd.ntmps97
      go_wp2
      go_ret
      exact ⟨say_bool (by simp), (Below.refl _ _).alloc (Nat.le_refl _) _⟩
    · by_cases h0 : 0 ≤ x
      · go_enter Tryd.func97, Tryd.ntmps97
        go_wp2
        go_ret
        exact ⟨say_bool (by simp [h0]), (Below.refl _ _).alloc (Nat.le_refl _) _⟩
      · have h1 : x < 0 := by omega
        go_enter Tryd.func97, Tryd.ntmps97
        go_wp2
        go_ret
        exact ⟨say_bool (by simp; omega), (Below.refl _ _).alloc (Nat.le_refl _) _⟩

set_option maxHeartbeats 1000000 in
theorem write0_any (n k x : Int) (t : ByteArray) (a : Option Addr) (m cap : Nat) (w : World) (B : Nat) (v : Value) (l : List UInt8) (h : OwnB w B v l) (hB : B ≤ w.heap.size) (hl : l.length + t.size ≤ 1099511627776) :
    Calls Tryd.prog 88 #[v, .agg #[.int .i64 n, .int .i64 k, .int .i64 x, .string t, .slice a m cap]] w (Appends w B v (l ++ vb (u64 x))) := by
  go_enter Tryd.func88, Tryd.ntmps88
  go_wp2_with fail
  refine (varint_any B v l x _ (World.ownsRow.alloc h _) (by simp; omega) (by omega)).mono ?_
  rintro e w1 ⟨v, rfl, h1, h2⟩
  go_wp2
  go_ret
  exact ⟨_, rfl, h1, ((Grew.refl _ _).alloc _).trans h2⟩

set_option maxHeartbeats 1000000 in
theorem write1_any (n k x : Int) (t : ByteArray) (a : Option Addr) (m cap : Nat) (w : World) (B : Nat) (v : Value) (l : List UInt8) (h : OwnB w B v l) (hB : B ≤ w.heap.size) (hl : l.length + t.size ≤ 1099511627776) :
    Calls Tryd.prog 91 #[v, .agg #[.int .i64 n, .int .i64 k, .int .i64 x, .string t, .slice a m cap]] w (Appends w B v (l ++ fx 8 x)) := by
  go_enter Tryd.func91, Tryd.ntmps91
  go_wp2_with fail
  refine (fixed_any B v l x 8 (by omega) _ (World.ownsRow.alloc h _) (by simp; omega) (by omega)).mono ?_
  rintro e w1 ⟨v, rfl, h1, h2⟩
  go_wp2
  go_ret
  exact ⟨_, rfl, h1, ((Grew.refl _ _).alloc _).trans h2⟩

set_option maxHeartbeats 1000000 in
theorem write5_any (n k x : Int) (t : ByteArray) (a : Option Addr) (m cap : Nat) (w : World) (B : Nat) (v : Value) (l : List UInt8) (h : OwnB w B v l) (hB : B ≤ w.heap.size) (hl : l.length + t.size ≤ 1099511627776) :
    Calls Tryd.prog 98 #[v, .agg #[.int .i64 n, .int .i64 k, .int .i64 x, .string t, .slice a m cap]] w (Appends w B v (l ++ fx 4 x)) := by
  go_enter Tryd.func98, Tryd.ntmps98
  go_wp2_with fail
  refine (fixed_any B v l x 4 (by omega) _ (World.ownsRow.alloc h _) (by simp; omega) (by omega)).mono ?_
  rintro e w1 ⟨v, rfl, h1, h2⟩
  go_wp2
  go_ret
  exact ⟨_, rfl, h1, ((Grew.refl _ _).alloc _).trans h2⟩


end Go.Proofs.YtecmhpncgdjgjaaDoor
