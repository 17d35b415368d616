/-
  append onto a row of the call's own: the row as it was stays readable beside the new one, and every other row stays; rows that are handed about in numbers. Conditions: none.
  Rows of the call's own, each with a longer one beside it: no two share a block. Conditions: none.
  Three rows of slices, no two in one block. Conditions: none.
-/
import Derived.Maps.AppendAt
import Derived.Deep.AppendLies
import Derived.WalkKit
import Derived.Laws.OwnMore
import Derived.Test.YtiocgdegaabnmaaWords
import Derived.OneCell
namespace Go.Proofs.Ytiocgdegaabnmaa
open Go.RowKit
set_option linter.unusedVariables false
set_option linter.unusedSimpArgs false

/-- Rows stay; those in the block of v as far as k cells. -/
def Stays (w w' : World) (v : Value) (k : Nat) : Prop :=
  ∀ (B : Nat) (e : TypeId) (s : Nat) (u : Value) (n : Nat) (xs : List Value), w.ownsRow B e s u n xs → (u.ownBlock = v.ownBlock → n * s ≤ k) → w'.ownsRow B e s u n xs

theorem stays_fresh {w w' : World} (v : Value) (k : Nat) (h : w.grownBy w' none) : Stays w w' v k := fun B e s u n xs hu _ =>
  hu.kept h (by cases hb : u.ownBlock <;> simp)

theorem stays_room {w : World} {g n cap : Nat} {cur : Array Value} {e : TypeId} (hg : w.heap[g]? = some (.cells cur e (0, 0))) (size : Nat) (news : List Value) (hfit : n * size + news.length ≤ cur.size) :
    Stays w (w.setRow g (cur.toList.take (n * size) ++ news ++ cur.toList.drop (n * size + news.length)).toArray) (.slice (some ⟨g, 0, none⟩) n cap) (n * size) := by
  intro B e' s u k xs hu hk
  rcases hu.2 with ⟨rfl, rfl⟩ | ⟨g', cap', cur', rfl, hB, hg', hkc, hcm, hcs, htake⟩
  · exact ⟨hu.1, .inl ⟨rfl, rfl⟩⟩
  · by_cases hgg : g' = g
    · subst hgg
      rw [hg] at hg'
      injection hg' with e1
      injection e1 with e2 e3 e4
      subst e2 e3
      have hle := hk rfl
      refine ⟨hu.1, .inr ⟨g', cap', _, rfl, hB, setRow_heap w g' cur _ e _ hg, hkc, hcm, ?_, ?_⟩⟩
      · simp only [List.size_toArray, List.length_append, List.length_take, List.length_drop, Array.length_toList]
        omega
      · rw [← htake]
        simp only [List.append_assoc]
        rw [List.take_append_of_le_length (by simp only [List.length_take, Array.length_toList]; omega), List.take_take, Nat.min_eq_left hle]
    · refine hu.kept (row := some g) ⟨rfl, rfl, rfl, by simp, fun j _ hj => setRow_other w g j _ (fun e => hj (by simp [e]))⟩ (.inr ?_)
      simpa [Value.ownBlock] using hgg

section
variable {P : Program} (w : World)

/-- append: what it leaves, the old row too. -/
theorem run_append_stays (base : Nat) (t ty e : TypeId) (i : TypeInfo) (z : Value) (size bytes : Nat) (ht : P.underlying t = some (.slice e)) (hi : P.info? e = some i) (hz : i.zero = some z)
    (hsize : i.size = size) (hby : i.bytes = bytes) (hzs : z.cells.size = size) (hsz : 0 < size)
    (v : Value) (n : Nat) (xs : List Value) (hown : w.ownsRow base e size v n xs)
    (a : Addr) (m c : Nat) (news : List Value) (hl : news.length = m * size) (hnews : ∀ j u, news[j]? = some u → w.cell? (a.add j) = some u) (h1 : ∀ u ∈ news, u.oneCell' = true)
    (h63 : n + m ≤ maxLen) (hbytes : (n + m) * bytes ≤ 140737488355328) (hbase : base ≤ w.heap.size) :
    ∃ v' w', (Builtin.append_ #[t, t] ty #[v, .slice (some a) m c]).run P w = .ok v' w' ∧ w'.ownsRow base e size v' (n + m) (xs ++ news) ∧ w.grownBy w' v.ownBlock ∧
      (v'.ownBlock = v.ownBlock ∨ v'.ownBlock = some w.heap.size) ∧ Stays w w' v (n * size) := by
  obtain ⟨v', w', hr, h2, h3, _, h5⟩ := run_append_own_at (P := P) w base t ty e i z size bytes ht hi hz hsize hby hzs hsz v n xs hown a m c news hl hnews h1 h63 hbytes hbase
  refine ⟨v', w', hr, h2, h3, h5, ?_⟩
  subst hsize
  subst hby
  have hsmall : n + m ≤ 9223372036854775807 := by simp only [maxLen] at h63; omega
  rcases hown.2 with ⟨rfl, rfl⟩ | ⟨g, cap, cur, rfl, hbg, hg, hnc, hcm, hcs, htake⟩
  · exact stays_fresh _ _ h3
  · by_cases hroom : n + m ≤ cap
    · have hfit : n * i.size + news.length ≤ cur.size := by rw [hl, hcs, ← Nat.add_mul]; exact Nat.mul_le_mul_right _ hroom
      have hr2 := run_append_room (P := P) w t ty e i ht hi g n cap cur hg a m c news hl hnews h1 hroom hfit
      rw [hr] at hr2
      injection hr2 with e1 e2
      subst e2
      exact stays_room hg i.size news hfit
    · have holds : ∀ j u, xs[j]? = some u → w.cell? ((⟨g, 0, none⟩ : Addr).add j) = some u := hown.cells (g := g) rfl
      have hr2 := run_append_grow (P := P) w t ty e i z ht hi hz ⟨g, 0, none⟩ n cap xs hown.1 holds a m c news hl hnews (by omega) (by omega) (growslice_fits (by omega) hbytes)
      rw [hr] at hr2
      injection hr2 with e1 e2
      subst e2
      exact stays_fresh _ _ ⟨rfl, rfl, rfl, by simp, fun k hk _ => Below.heap_alloc w.drew _ _ hk⟩

theorem wp_append_stays {o : Oper} {a : Act} {K : Act → World → Prop} {Q : Exit → Act → World → Prop} (s x : Operand) (t : TypeId)
    (ho : o.op = .call { callee := .builtin .append, args := #[s, x], argTypes := #[t, t] })
    (base : Nat) (e : TypeId) (i : TypeInfo) (z : Value) (size bytes : Nat) (ht : P.underlying t = some (.slice e)) (hi : P.info? e = some i) (hz : i.zero = some z)
    (hsize : i.size = size) (hby : i.bytes = bytes) (hzs : z.cells.size = size) (hsz : 0 < size)
    (v : Value) (n : Nat) (xs : List Value) (hs : a.eval s = v) (hown : w.ownsRow base e size v n xs)
    (ad : Addr) (m c : Nat) (news : List Value) (hx : a.eval x = .slice (some ad) m c) (hl : news.length = m * size) (hnews : ∀ j u, news[j]? = some u → w.cell? (ad.add j) = some u) (h1 : ∀ u ∈ news, u.oneCell' = true)
    (h63 : n + m ≤ maxLen) (hbytes : (n + m) * bytes ≤ 140737488355328) (hbase : base ≤ w.heap.size)
    (h : ∀ v' w', w'.ownsRow base e size v' (n + m) (xs ++ news) → w.grownBy w' v.ownBlock → (v'.ownBlock = v.ownBlock ∨ v'.ownBlock = some w.heap.size) → Stays w w' v (n * size) → K (a.put o.dst v') w') : o.wp P a w K Q := by
  obtain ⟨v', w', hr, h2, h3, h4, h5⟩ := run_append_stays (P := P) w base t o.type e i z size bytes ht hi hz hsize hby hzs hsz v n xs hown ad m c news hl hnews h1 h63 hbytes hbase
  unfold Oper.wp execOp
  simp only [ho, resolve, invoke, builtin, Sem.run_bind, Sem.run_pure, Result.andThen_ok, List.map_toArray, List.map_cons, List.map_nil, hs, hx, hr]
  exact h v' w' h2 h3 h4 h5

theorem wpList_append_stays {ops : Array Oper} {rest : List Oper} {o : Oper} {a : Act} {Q : Exit → Act → World → Prop} (hgd : o.guard = none) (s x : Operand) (t : TypeId)
    (ho : o.op = .call { callee := .builtin .append, args := #[s, x], argTypes := #[t, t] })
    (base : Nat) (e : TypeId) (i : TypeInfo) (z : Value) (size bytes : Nat) (ht : P.underlying t = some (.slice e)) (hi : P.info? e = some i) (hz : i.zero = some z)
    (hsize : i.size = size) (hby : i.bytes = bytes) (hzs : z.cells.size = size) (hsz : 0 < size)
    (v : Value) (n : Nat) (xs : List Value) (hs : a.eval s = v) (hown : w.ownsRow base e size v n xs)
    (ad : Addr) (m c : Nat) (news : List Value) (hx : a.eval x = .slice (some ad) m c) (hl : news.length = m * size) (hnews : ∀ j u, news[j]? = some u → w.cell? (ad.add j) = some u) (h1 : ∀ u ∈ news, u.oneCell' = true)
    (h63 : n + m ≤ maxLen) (hbytes : (n + m) * bytes ≤ 140737488355328) (hbase : base ≤ w.heap.size)
    (h : ∀ v' w', w'.ownsRow base e size v' (n + m) (xs ++ news) → w.grownBy w' v.ownBlock → (v'.ownBlock = v.ownBlock ∨ v'.ownBlock = some w.heap.size) → Stays w w' v (n * size) → wpList P ops Q rest (a.put o.dst v') w') :
    wpList P ops Q (o :: rest) a w :=
  wpList_plain hgd fun _ hK => wp_append_stays w s x t ho base e i z size bytes ht hi hz hsize hby hzs hsz v n xs hs hown ad m c news hx hl hnews h1 h63 hbytes hbase fun v' w' h2 h3 h4 h5 => hK _ _ (h v' w' h2 h3 h4 h5)

/-- At a step of a region that draws its order. -/
theorem step_append_stays {ops : Array Oper} {o : Oper} {a : Act} {K : Act → World → Prop} {Q : Exit → Act → World → Prop} {E : Prop} (hgd : o.guard = none) (s x : Operand) (t : TypeId)
    (ho : o.op = .call { callee := .builtin .append, args := #[s, x], argTypes := #[t, t] })
    (base : Nat) (e : TypeId) (i : TypeInfo) (z : Value) (size bytes : Nat) (ht : P.underlying t = some (.slice e)) (hi : P.info? e = some i) (hz : i.zero = some z)
    (hsize : i.size = size) (hby : i.bytes = bytes) (hzs : z.cells.size = size) (hsz : 0 < size)
    (v : Value) (n : Nat) (xs : List Value) (hs : a.eval s = v) (hown : w.ownsRow base e size v n xs)
    (ad : Addr) (m c : Nat) (news : List Value) (hx : a.eval x = .slice (some ad) m c) (hl : news.length = m * size) (hnews : ∀ j u, news[j]? = some u → w.cell? (ad.add j) = some u) (h1 : ∀ u ∈ news, u.oneCell' = true)
    (h63 : n + m ≤ maxLen) (hbytes : (n + m) * bytes ≤ 140737488355328) (hbase : base ≤ w.heap.size)
    (h : ∀ v' w', w'.ownsRow base e size v' (n + m) (xs ++ news) → w.grownBy w' v.ownBlock → (v'.ownBlock = v.ownBlock ∨ v'.ownBlock = some w.heap.size) → Stays w w' v (n * size) → K (a.put o.dst v') w') :
    if Region.wanted o (yielded ops a.tmps) = true then Oper.wp P o a w K Q else E := by
  have hw : Region.wanted o (yielded ops a.tmps) = true := by simp [Region.wanted, hgd]
  rw [if_pos hw]
  exact wp_append_stays w s x t ho base e i z size bytes ht hi hz hsize hby hzs hsz v n xs hs hown ad m c news hx hl hnews h1 h63 hbytes hbase h
end
end Go.Proofs.Ytiocgdegaabnmaa

namespace Go.Proofs.Ytiocgdegaabnmaa
open Go.RowKit
set_option linter.unusedVariables false
set_option linter.unusedSimpArgs false

/-- A function turned at one place. -/
def upd {α : Type} (f : Nat → α) (i : Nat) (v : α) : Nat → α := fun j => if j = i then v else f j
theorem upd_at {α : Type} (f : Nat → α) (i : Nat) (v : α) : upd f i v i = v := by simp [upd]
theorem upd_ne {α : Type} (f : Nat → α) (i : Nat) (v : α) {j : Nat} (h : j ≠ i) : upd f i v j = f j := by simp [upd, h]

/-- The first n values. -/
def rowOf (n : Nat) (f : Nat → Value) : List Value := (List.range n).map f
theorem rowOf_len (n : Nat) (f : Nat → Value) : (rowOf n f).length = n := by simp [rowOf]
theorem rowOf_get (n : Nat) (f : Nat → Value) (i : Nat) (h : i < n) : (rowOf n f)[i]? = some (f i) := by simp [rowOf, h]
theorem rowOf_succ (n : Nat) (f : Nat → Value) : rowOf (n + 1) f = rowOf n f ++ [f n] := by simp [rowOf, List.range_succ]
theorem rowOf_congr (n : Nat) (f g : Nat → Value) (h : ∀ i, i < n → f i = g i) : rowOf n f = rowOf n g := by
  unfold rowOf; exact List.map_congr_left fun i hi => h i (List.mem_range.1 hi)
theorem rowOf_set (n : Nat) (f : Nat → Value) (i : Nat) (v : Value) : (rowOf n f).set i v = rowOf n (upd f i v) := by
  apply List.ext_getElem?
  intro j
  by_cases hj : j < n
  · rw [rowOf_get _ _ _ hj, List.getElem?_set]
    by_cases hi : i = j
    · subst hi; rw [if_pos rfl, rowOf_len, if_pos hj, upd_at]
    · rw [if_neg hi, rowOf_get _ _ _ hj, upd_ne _ _ _ (fun e => hi e.symm)]
  · rw [List.getElem?_eq_none (by rw [List.length_set, rowOf_len]; omega), List.getElem?_eq_none (by rw [rowOf_len]; omega)]

theorem tw_slice {w : World} {B : Nat} {e : TypeId} {s : Nat} {v : Value} {n : Nat} {xs : List Value} (h : w.ownsRow B e s v n xs) : ∃ a cap, v = .slice a n cap ∧ n ≤ cap ∧ cap ≤ 9223372036854775807 := by
  rcases h.2 with ⟨rfl, rfl⟩ | ⟨g, cap, cur, rfl, _, _, h1, h2, _⟩
  · exact ⟨none, 0, rfl, Nat.le_refl _, by omega⟩
  · exact ⟨_, cap, rfl, h1, by unfold maxLen at h2; omega⟩
theorem tw_some {w : World} {B : Nat} {e : TypeId} {s : Nat} {v : Value} {n : Nat} {xs : List Value} (h : w.ownsRow B e s v n xs) (hn : 0 < n) : ∃ g cap, v = .slice (some ⟨g, 0, none⟩) n cap ∧ B ≤ g ∧ g < w.heap.size ∧ n ≤ cap ∧ cap ≤ 9223372036854775807 := by
  rcases h.2 with ⟨rfl, h0⟩ | ⟨g, cap, cur, rfl, hb, hg, h1, h2, _⟩
  · omega
  · exact ⟨g, cap, rfl, hb, (Array.getElem?_eq_some_iff.1 hg).1, h1, by unfold maxLen at h2; omega⟩
theorem tw_one {w : World} {B : Nat} {e : TypeId} {s : Nat} {v : Value} {n : Nat} {xs : List Value} (h : w.ownsRow B e s v n xs) : v.oneCell' = true := by
  obtain ⟨a, cap, rfl, _⟩ := tw_slice h; rfl
theorem tw_kind {w : World} {B : Nat} {e : TypeId} {s : Nat} {v : Value} {n : Nat} {xs : List Value} (h : w.ownsRow B e s v n xs) : ∀ g, v.ownBlock = some g → ∃ c fz, w.heap[g]? = some (.cells c e fz) := by
  intro g hg
  rcases h.2 with ⟨rfl, _⟩ | ⟨g', cap, cur, rfl, _, hgg, _⟩
  · simp [Value.ownBlock] at hg
  · simp [Value.ownBlock] at hg
    subst hg
    exact ⟨cur, (0, 0), hgg⟩
/-- Rows of unlike elements lie in unlike blocks. -/
theorem tw_unlike {w : World} {B B2 : Nat} {e e2 : TypeId} {s s2 : Nat} {v v2 : Value} {n n2 : Nat} {xs xs2 : List Value} (h : w.ownsRow B e s v n xs) (h2 : w.ownsRow B2 e2 s2 v2 n2 xs2) (he : e ≠ e2) : v.ownBlock = none ∨ v.ownBlock ≠ v2.ownBlock := by
  rcases hv : v.ownBlock with _ | g
  · exact .inl rfl
  · refine .inr fun e3 => ?_
    obtain ⟨c, fz, h3⟩ := tw_kind h g hv
    obtain ⟨c', fz', h4⟩ := tw_kind h2 g e3.symm
    rw [h3] at h4
    injection h4 with h5
    injection h5 with _ h6
    exact he h6
theorem tw_take {w : World} {B : Nat} {e : TypeId} {s : Nat} {a : Option Addr} {cap n : Nat} {xs : List Value} (h : w.ownsRow B e s (.slice a n cap) n xs) (k : Nat) (hk : k ≤ n) (hn : 0 < n) : w.ownsRow B e s (.slice a k cap) k (xs.take (k * s)) := by
  have hks : k * s ≤ n * s := Nat.mul_le_mul_right _ hk
  rcases h.2 with ⟨_, h0⟩ | ⟨g, cap', cur, hv, hb, hg, h1, h2, h3, h4⟩
  · omega
  · injection hv with e1 _ e3
    subst e1 e3
    refine ⟨by rw [List.length_take, h.1]; omega, .inr ⟨g, cap, cur, rfl, hb, hg, by omega, h2, h3, ?_⟩⟩
    rw [← h4, List.take_take, Nat.min_eq_left hks]
theorem tw_drop {w : World} {B : Nat} {e : TypeId} {s : Nat} {v : Value} {n : Nat} {xs : List Value} (h : w.ownsRow B e s v n xs) {B' : Nat} (hB : ∀ b, v.ownBlock = some b → B' ≤ b) : w.ownsRow B' e s v n xs := by
  refine ⟨h.1, ?_⟩
  rcases h.2 with hn | ⟨g, cap, cur, rfl, hbg, rest⟩
  · exact .inl hn
  · exact .inr ⟨g, cap, cur, rfl, hB g rfl, rest⟩

/-- Rows, each with a longer one beside it (in its block or in another): no two share a block. -/
structure Twins (w : World) (B : Nat) (e : TypeId) (s : Nat) (N : Nat) (A M : Nat → Value) (ka km : Nat → Nat) (XA XM : Nat → List Value) : Prop where
  a : ∀ i, i < N → w.ownsRow B e s (A i) (ka i) (XA i)
  m : ∀ i, i < N → w.ownsRow B e s (M i) (km i) (XM i)
  le : ∀ i, i < N → ka i ≤ km i
  aa : ∀ i j, i < N → j < N → i ≠ j → ∀ b, (A i).ownBlock = some b → (A j).ownBlock ≠ some b
  am : ∀ i j, i < N → j < N → i ≠ j → ∀ b, (A i).ownBlock = some b → (M j).ownBlock ≠ some b
  mm : ∀ i j, i < N → j < N → i ≠ j → ∀ b, (M i).ownBlock = some b → (M j).ownBlock ≠ some b

variable {w w' : World} {B : Nat} {e : TypeId} {s N : Nat} {A M : Nat → Value} {ka km : Nat → Nat} {XA XM : Nat → List Value}

theorem Twins.later (h : Twins w B e s N A M ka km XA XM) (hb : Below w.heap.size w w') : Twins w' B e s N A M ka km XA XM :=
  ⟨fun i hi => ownsRow_later (h.a i hi) hb, fun i hi => ownsRow_later (h.m i hi) hb, h.le, h.aa, h.am, h.mm⟩
/-- A row of other elements is turned. -/
theorem Twins.unlike (h : Twins w B e s N A M ka km XA XM) {B2 : Nat} {e2 : TypeId} {s2 : Nat} {v2 : Value} {n2 : Nat} {xs2 : List Value} (h2 : w.ownsRow B2 e2 s2 v2 n2 xs2) (he : e ≠ e2) (hg : w.grownBy w' v2.ownBlock) : Twins w' B e s N A M ka km XA XM :=
  ⟨fun i hi => (h.a i hi).kept hg (tw_unlike (h.a i hi) h2 he), fun i hi => (h.m i hi).kept hg (tw_unlike (h.m i hi) h2 he), h.le, h.aa, h.am, h.mm⟩
/-- What is appended to one of the longer rows. -/
theorem Twins.put (h : Twins w B e s N A M ka km XA XM) {i m : Nat} (hi : i < N) {v : Value} {news : List Value} (hown : w'.ownsRow B e s v (km i + m) (XM i ++ news)) (hg : w.grownBy w' (M i).ownBlock) (hat : v.ownBlock = (M i).ownBlock ∨ v.ownBlock = some w.heap.size)
    (hs : Stays w w' (M i) (km i * s)) : Twins w' B e s N A (upd M i v) ka (upd km i (km i + m)) XA (upd XM i (XM i ++ news)) := by
  have hm : ∀ j, j < N → j ≠ i → w'.ownsRow B e s (M j) (km j) (XM j) := fun j hj hne =>
    (h.m j hj).kept hg (by
      rcases hv : (M j).ownBlock with _ | b
      · exact .inl rfl
      · exact .inr fun e => h.mm j i hj hi hne b hv e.symm)
  have hnew : ∀ j, j < N → ∀ b, ((A j).ownBlock = some b ∨ (M j).ownBlock = some b) → b < w.heap.size := fun j hj b hb => by
    rcases hb with hb | hb
    · exact ((h.a j hj).lt b hb).2
    · exact ((h.m j hj).lt b hb).2
  refine ⟨fun j hj => ?_, fun j hj => ?_, fun j hj => ?_, h.aa, fun j k hj hk hne b hb => ?_, fun j k hj hk hne b hb => ?_⟩
  · by_cases hji : j = i
    · subst hji
      exact hs B e s (A j) (ka j) (XA j) (h.a j hj) (fun _ => Nat.mul_le_mul_right _ (h.le j hj))
    · refine (h.a j hj).kept hg ?_
      rcases hv : (A j).ownBlock with _ | b
      · exact .inl rfl
      · exact .inr fun e => h.am j i hj hi hji b hv e.symm
  · by_cases hji : j = i
    · subst hji; rw [upd_at, upd_at, upd_at]; exact hown
    · rw [upd_ne _ _ _ hji, upd_ne _ _ _ hji, upd_ne _ _ _ hji]; exact hm j hj hji
  · by_cases hji : j = i
    · subst hji; rw [upd_at]; have := h.le j hj; omega
    · rw [upd_ne _ _ _ hji]; exact h.le j hj
  · by_cases hki : k = i
    · subst hki
      rw [upd_at]
      intro e2
      rcases hat with hat | hat
      · rw [hat] at e2; exact h.am j k hj hk hne b hb e2
      · rw [hat] at e2; injection e2 with e3; have := hnew j hj b (.inl hb); omega
    · rw [upd_ne _ _ _ hki]; exact h.am j k hj hk hne b hb
  · by_cases hji : j = i
    · subst hji
      rw [upd_at] at hb
      rw [upd_ne _ _ _ (fun e => hne e.symm)]
      rcases hat with hat | hat
      · rw [hat] at hb; exact h.mm j k hj hk hne b hb
      · rw [hat] at hb; injection hb with e3; intro e4; have := hnew k hk b (.inr e4); omega
    · rw [upd_ne _ _ _ hji] at hb
      by_cases hki : k = i
      · subst hki
        rw [upd_at]
        intro e2
        rcases hat with hat | hat
        · rw [hat] at e2; exact h.mm j k hj hk hne b hb e2
        · rw [hat] at e2; injection e2 with e3; have := hnew j hj b (.inr hb); omega
      · rw [upd_ne _ _ _ hki]; exact h.mm j k hj hk hne b hb

/-- Rows alone. -/
def Herd (w : World) (B : Nat) (e : TypeId) (s : Nat) (N : Nat) (A : Nat → Value) (ka : Nat → Nat) (XA : Nat → List Value) : Prop := Twins w B e s N A A ka ka XA XA
theorem Herd.zero (w : World) (B : Nat) (e : TypeId) (s : Nat) (A : Nat → Value) (ka : Nat → Nat) (XA : Nat → List Value) : Herd w B e s 0 A ka XA :=
  ⟨fun i hi => by omega, fun i hi => by omega, fun i hi => by omega, fun i j hi => by omega, fun i j hi => by omega, fun i j hi => by omega⟩
/-- One row more. -/
theorem Herd.snoc (h : Herd w B e s N A ka XA) (ho : w.ownsRow B e s (A N) (ka N) (XA N)) (hn : ∀ i, i < N → ∀ b, (A N).ownBlock = some b → (A i).ownBlock ≠ some b) : Herd w B e s (N + 1) A ka XA := by
  have hall : ∀ i, i < N + 1 → w.ownsRow B e s (A i) (ka i) (XA i) := fun i hi => by
    by_cases hN : i = N
    · subst hN; exact ho
    · exact h.a i (by omega)
  have hap : ∀ i j, i < N + 1 → j < N + 1 → i ≠ j → ∀ b, (A i).ownBlock = some b → (A j).ownBlock ≠ some b := fun i j hi hj hne b hb => by
    by_cases hiN : i = N
    · subst hiN; exact hn j (by omega) b hb
    · by_cases hjN : j = N
      · subst hjN; exact fun e => hn i (by omega) b e hb
      · exact h.aa i j (by omega) (by omega) hne b hb
  exact ⟨hall, hall, fun _ _ => Nat.le_refl _, hap, hap, hap⟩
/-- A row that is made anew. -/
theorem Herd.fresh (h : Herd w B e s N A ka XA) (hb : Below w.heap.size w w') (ho : w'.ownsRow B e s (A N) (ka N) (XA N)) (hn : ∀ b, (A N).ownBlock = some b → w.heap.size ≤ b) : Herd w' B e s (N + 1) A ka XA :=
  Herd.snoc (Twins.later h hb) ho fun i hi b hb e => by
    have h1 := ((Twins.a h i hi).lt b e).2
    have h2 := hn b hb
    omega
theorem Herd.congr (h : Herd w B e s N A ka XA) {A' : Nat → Value} {ka' : Nat → Nat} {XA' : Nat → List Value} (hA : ∀ i, i < N → A' i = A i) (hk : ∀ i, i < N → ka' i = ka i) (hX : ∀ i, i < N → XA' i = XA i) : Herd w B e s N A' ka' XA' := by
  have ha : ∀ i, i < N → w.ownsRow B e s (A' i) (ka' i) (XA' i) := fun i hi => by rw [hA i hi, hk i hi, hX i hi]; exact Twins.a h i hi
  have hap : ∀ i j, i < N → j < N → i ≠ j → ∀ b, (A' i).ownBlock = some b → (A' j).ownBlock ≠ some b := fun i j hi hj hne b hb => by
    rw [hA i hi] at hb; rw [hA j hj]; exact Twins.aa h i j hi hj hne b hb
  exact ⟨ha, ha, fun _ _ => Nat.le_refl _, hap, hap, hap⟩
theorem Twins.congr (h : Twins w B e s N A M ka km XA XM) {M' : Nat → Value} {km' : Nat → Nat} {XM' : Nat → List Value} (hM : ∀ i, i < N → M' i = M i) (hk : ∀ i, i < N → km' i = km i) (hX : ∀ i, i < N → XM' i = XM i) : Twins w B e s N A M' ka km' XA XM' :=
  ⟨h.a, fun i hi => by rw [hM i hi, hk i hi, hX i hi]; exact h.m i hi, fun i hi => by rw [hk i hi]; exact h.le i hi, h.aa,
    fun i j hi hj hne b hb => by rw [hM j hj]; exact h.am i j hi hj hne b hb, fun i j hi hj hne b hb => by rw [hM i hi] at hb; rw [hM j hj]; exact h.mm i j hi hj hne b hb⟩
/-- A cell of one row is written. -/
theorem Herd.write (h : Herd w B e s N A ka XA) {i : Nat} (hi : i < N) {g cap : Nat} (hA : A i = .slice (some ⟨g, 0, none⟩) (ka i) cap) (j : Nat) (u : Value) : Herd (w.setCell ⟨g, j, none⟩ u) B e s N A ka (upd XA i ((XA i).set j u)) := by
  have ho := Twins.a h i hi
  rw [hA] at ho
  have hs := ho.stored j u
  have hgA : (A i).ownBlock = some g := by rw [hA]; rfl
  have hall : ∀ k, k < N → (w.setCell ⟨g, j, none⟩ u).ownsRow B e s (A k) (ka k) (upd XA i ((XA i).set j u) k) := fun k hk => by
    by_cases hki : k = i
    · subst hki; rw [upd_at, hA]; exact hs.1
    · rw [upd_ne _ _ _ hki]
      refine (Twins.a h k hk).kept hs.2 ?_
      rcases hv : (A k).ownBlock with _ | b
      · exact .inl rfl
      · exact .inr fun e => Twins.aa h k i hk hi hki b hv (by rw [hgA, ← e])
  exact ⟨hall, hall, fun _ _ => Nat.le_refl _, Twins.aa h, Twins.aa h, Twins.aa h⟩
end Go.Proofs.Ytiocgdegaabnmaa

namespace Go.Proofs.Ytiocgdegaabnmaa
open Go.RowKit
set_option linter.unusedVariables false
set_option linter.unusedSimpArgs false

/-- A row that came in and two of the call's own. -/
structure Three (w : World) (e : TypeId) (B Bs n k5 k6 : Nat) (va v5 v6 : Value) (xa x5 x6 : List Value) : Prop where
  a : w.ownsRow B e 1 va n xa
  o5 : w.ownsRow Bs e 1 v5 k5 x5
  o6 : w.ownsRow Bs e 1 v6 k6 x6
  ap : ∀ b, v5.ownBlock = some b → v6.ownBlock ≠ some b
  lo : ∀ b, va.ownBlock = some b → b < Bs

variable {w w' : World} {e : TypeId} {B Bs n k5 k6 : Nat} {va v5 v6 : Value} {xa x5 x6 : List Value}

theorem Three.start (h : w.ownsRow B e 1 va n xa) : Three w e B w.heap.size n 0 0 va (.slice none 0 0) (.slice none 0 0) xa [] [] :=
  ⟨h, World.ownsRow_nil _ _ _ _, World.ownsRow_nil _ _ _ _, (fun b e => by cases e), fun b hb => (h.lt b hb).2⟩
theorem Three.later (h : Three w e B Bs n k5 k6 va v5 v6 xa x5 x6) (hb : Below w.heap.size w w') : Three w' e B Bs n k5 k6 va v5 v6 xa x5 x6 :=
  ⟨ownsRow_later h.a hb, ownsRow_later h.o5 hb, ownsRow_later h.o6 hb, h.ap, h.lo⟩
/-- A row of other elements is turned. -/
theorem Three.unlike (h : Three w e B Bs n k5 k6 va v5 v6 xa x5 x6) {B2 : Nat} {e2 : TypeId} {s2 : Nat} {v2 : Value} {n2 : Nat} {xs2 : List Value} (h2 : w.ownsRow B2 e2 s2 v2 n2 xs2) (he : e ≠ e2) (hg : w.grownBy w' v2.ownBlock) : Three w' e B Bs n k5 k6 va v5 v6 xa x5 x6 :=
  ⟨h.a.kept hg (tw_unlike h.a h2 he), h.o5.kept hg (tw_unlike h.o5 h2 he), h.o6.kept hg (tw_unlike h.o6 h2 he), h.ap, h.lo⟩
theorem Three.far (h : Three w e B Bs n k5 k6 va v5 v6 xa x5 x6) : (va.ownBlock = none ∨ va.ownBlock ≠ v5.ownBlock) ∧ (va.ownBlock = none ∨ va.ownBlock ≠ v6.ownBlock) ∧ (v6.ownBlock = none ∨ v6.ownBlock ≠ v5.ownBlock) ∧ (v5.ownBlock = none ∨ v5.ownBlock ≠ v6.ownBlock) := by
  have hX : ∀ {v : Value} {k : Nat} {x : List Value}, w.ownsRow Bs e 1 v k x → (va.ownBlock = none ∨ va.ownBlock ≠ v.ownBlock) := fun {v} {k} {x} ho => by
    rcases hv : va.ownBlock with _ | b
    · exact .inl rfl
    · refine .inr fun e => ?_
      have h1 := h.lo b hv
      have h2 := (ho.lt b e.symm).1
      omega
  refine ⟨hX h.o5, hX h.o6, ?_, ?_⟩
  · rcases hv : v6.ownBlock with _ | b
    · exact .inl rfl
    · exact .inr fun e => h.ap b e.symm hv
  · rcases hv : v5.ownBlock with _ | b
    · exact .inl rfl
    · exact .inr fun e => h.ap b hv e.symm
theorem Three.put5 (h : Three w e B Bs n k5 k6 va v5 v6 xa x5 x6) {v : Value} {k : Nat} {x : List Value} (ho : w'.ownsRow Bs e 1 v k x) (hg : w.grownBy w' v5.ownBlock) (hat : v.ownBlock = v5.ownBlock ∨ v.ownBlock = some w.heap.size) : Three w' e B Bs n k k6 va v v6 xa x x6 := by
  have hf := h.far
  refine ⟨h.a.kept hg hf.1, ho, h.o6.kept hg hf.2.2.1, fun b hb => ?_, h.lo⟩
  rcases hat with e | e
  · rw [e] at hb; exact h.ap b hb
  · rw [e] at hb; injection hb with hb2
    intro e2
    have := (h.o6.lt b e2).2
    omega
theorem Three.put6 (h : Three w e B Bs n k5 k6 va v5 v6 xa x5 x6) {v : Value} {k : Nat} {x : List Value} (ho : w'.ownsRow Bs e 1 v k x) (hg : w.grownBy w' v6.ownBlock) (hat : v.ownBlock = v6.ownBlock ∨ v.ownBlock = some w.heap.size) : Three w' e B Bs n k5 k va v5 v xa x5 x := by
  have hf := h.far
  refine ⟨h.a.kept hg hf.2.1, h.o5.kept hg hf.2.2.2, ho, fun b hb => ?_, h.lo⟩
  rcases hat with e | e
  · rw [e]; exact h.ap b hb
  · rw [e]; intro e2; injection e2 with e3
    have := (h.o5.lt b hb).2
    omega
/-- A cell of the second row is written. -/
theorem Three.set5 {g cap : Nat} (h : Three w e B Bs n k5 k6 va (.slice (some ⟨g, 0, none⟩) k5 cap) v6 xa x5 x6) (j : Nat) (u : Value) : Three (w.setCell ⟨g, j, none⟩ u) e B Bs n k5 k6 va (.slice (some ⟨g, 0, none⟩) k5 cap) v6 xa (x5.set j u) x6 := by
  have hs := h.o5.stored j u
  have hf := h.far
  exact ⟨h.a.kept hs.2 hf.1, hs.1, h.o6.kept hs.2 hf.2.2.1, h.ap, h.lo⟩
end Go.Proofs.Ytiocgdegaabnmaa
