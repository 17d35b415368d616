/-
  Text of package wire and of the reference, walked. Conditions: texts of at most 140737488355328 bytes.
-/
import Derived.Test.YtecmhpncgdjgjaaDoorKinds2
import Derived.Test.YtecmhpncgdjgjaaDoorNums2
namespace Go.Proofs.YtecmhpncgdjgjaaDoor
open Go.RowKit
set_option linter.unusedVariables false
set_option linter.unusedSimpArgs false

theorem wpList_append_text {P : Program} {ops : Array Oper} {rest : List Oper} {o : Oper} {a : Act} {w : World} {Q : Exit → Act → World → Prop} (hgd : o.guard = none) (sl x : Operand) (t u : TypeId)
    (ho : o.op = .call { callee := .builtin .append, args := #[sl, x], argTypes := #[t, u] })
    (base : Nat) (e : TypeId) (i : TypeInfo) (ht : P.underlying t = some (.slice e)) (hu : P.underlying u = some .string) (hi : P.info? e = some i) (hz : i.zero = some (.int .u8 0))
    (hsize : i.size = 1) (hby : i.bytes = 1)
    (v : Value) (n : Nat) (xs : List Value) (hs : a.eval sl = v) (hown : w.ownsRow base e 1 v n xs) (s : ByteArray) (hx : a.eval x = .string s)
    (h63 : n + s.size ≤ maxLen) (hbytes : n + s.size ≤ 140737488355328) (hbase : base ≤ w.heap.size)
    (h : ∀ v' w', w'.ownsRow base e 1 v' (n + s.size) (xs ++ Lib.strCells s) → w.grownBy w' v.ownBlock → (v'.ownBlock = v.ownBlock ∨ v'.ownBlock = some w.heap.size) → wpList P ops Q rest (a.put o.dst v') w') :
    wpList P ops Q (o :: rest) a w := by
  refine wpList_plain hgd fun K hK => ?_
  obtain ⟨v', w', hr, h2, h3, h4⟩ := string_add_at (P := P) w base t u o.type e i ht hu hi hz hsize hby v n xs hown s h63 hbytes hbase
  unfold Oper.wp execOp
  simp only [ho, resolve, invoke, builtin, Sem.run_bind, Sem.run_pure, Result.andThen_ok, List.map_toArray, List.map_cons, List.map_nil, hs, hx, hr]
  exact hK _ _ (h v' w' h2 h3 h4)

/-- What Text answers: bytes and error. -/
def textOf (s : ByteArray) : List UInt8 × Int := if 1048576 < s.size then ([], 2) else (vb (u64 s.size) ++ s.toList, 0)

set_option maxHeartbeats 4000000 in
set_option maxRecDepth 100000 in
theorem wText_any (s : ByteArray) (hss : s.size ≤ 140737488355328) (w : World) : Calls Tryd.prog 41 #[.string s] w (News2 w (textOf s)) := by
  obtain ⟨i0, hi, hz0, hz1, hz2⟩ := info_parts infoB
  by_cases hbig : 1048576 < s.size
  · have hV := Lib.hid (show textOf s = ([], 2) from if_pos hbig)
    have hb' : (1048576 : Int) < (s.size : Int) := by omega
    clear hbig
    go_enter Tryd.func41, Tryd.ntmps41
    go_wp2_with fail
    go_ret2
    rw [hV.out]
    exact ⟨_, rfl, OwnB.nil _ _, Below.refl _ _⟩
  · have hV := Lib.hid (show textOf s = (vb (u64 s.size) ++ s.toList, 0) from if_neg hbig)
    have hb' : (s.size : Int) ≤ 1048576 := by omega
    have HS := Lib.hid (show s.size ≤ 1048576 by omega)
    have hv10 := vb_len10 (s.size : Int)
    clear hbig
    go_enter Tryd.func41, Tryd.ntmps41
    go_wp2_with fail
    refine (wVarint_any s.size w).mono ?_
    rintro e w1 ⟨v1, rfl, hown, hb⟩
    have HO := Lib.hid hown
    have HB := Lib.hid hb
    have hsz := hb.size
    clear hown hb
    go_wp2_with (at_builtin; refine wpList_append_text rfl _ _ _ _ rfl w.heap.size 5 i0 Tryd.underlying24 Tryd.underlying9 hi hz0 hz1 hz2 _ _ _ rfl HO.out s rfl ?c1 ?c2 ?c3 ?_)
    case c1 => have := HS.out; unfold maxLen; omega
    case c2 => have := HS.out; omega
    case c3 => omega
    intro v2 w2 hown' hgrow hat
    have hY : OwnB w2 w.heap.size v2 (vb (u64 s.size) ++ s.toList) := OwnB.put hown' (str_cells s) (by rw [str_len])
    have HY := Lib.hid hY
    have HB2 := Lib.hid (HB.out.grown hgrow hsz (own_base HO.out))
    clear hown' hgrow hat hY
    go_wp2_with fail
    go_ret2
    rw [hV.out]
    exact ⟨_, rfl, HY.out, HB2.out⟩

set_option maxHeartbeats 4000000 in
set_option maxRecDepth 100000 in
theorem rText_any (s : ByteArray) (hss : s.size ≤ 140737488355328) (w : World) : Calls Tryd.prog 42 #[.string s] w (News2 w (textOf s)) := by
  obtain ⟨i0, hi, hz0, hz1, hz2⟩ := info_parts infoB
  by_cases hbig : 1048576 < s.size
  · have hV := Lib.hid (show textOf s = ([], 2) from if_pos hbig)
    have hb' : (1048576 : Int) < (s.size : Int) := by omega
    clear hbig
    go_enter Tryd.func42, Tryd.ntmps42
    go_wp2_with fail
    go_ret2
    rw [hV.out]
    exact ⟨_, rfl, OwnB.nil _ _, Below.refl _ _⟩
  · have hV := Lib.hid (show textOf s = (vb (u64 s.size) ++ s.toList, 0) from if_neg hbig)
    have hb' : (s.size : Int) ≤ 1048576 := by omega
    have HS := Lib.hid (show s.size ≤ 1048576 by omega)
    have hv10 := vb_len10 (s.size : Int)
    clear hbig
    go_enter Tryd.func42, Tryd.ntmps42
    go_wp2_with fail
    refine (rVarint_any s.size (by unfold Is64; omega) w).mono ?_
    rintro e w1 ⟨v1, rfl, hown, hb⟩
    have HO := Lib.hid hown
    have HB := Lib.hid hb
    have hsz := hb.size
    clear hown hb
    go_wp2_with (at_builtin; refine wpList_append_text rfl _ _ _ _ rfl w.heap.size 5 i0 Tryd.underlying24 Tryd.underlying9 hi hz0 hz1 hz2 _ _ _ rfl HO.out s rfl ?c1 ?c2 ?c3 ?_)
    case c1 => have := HS.out; unfold maxLen; omega
    case c2 => have := HS.out; omega
    case c3 => omega
    intro v2 w2 hown' hgrow hat
    have hY : OwnB w2 w.heap.size v2 (vb (u64 s.size) ++ s.toList) := OwnB.put hown' (str_cells s) (by rw [str_len])
    have HY := Lib.hid hY
    have HB2 := Lib.hid (HB.out.grown hgrow hsz (own_base HO.out))
    clear hown' hgrow hat hY
    go_wp2_with fail
    go_ret2
    rw [hV.out]
    exact ⟨_, rfl, HY.out, HB2.out⟩
end Go.Proofs.YtecmhpncgdjgjaaDoor
