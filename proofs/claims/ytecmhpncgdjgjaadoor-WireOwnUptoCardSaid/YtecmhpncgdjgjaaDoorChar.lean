/-
  character and Utf8 of package wire, walked. Conditions: the rows of characters lie as they are laid. (Printed by gen_char.py.)
-/
import Derived.Test.YtecmhpncgdjgjaaDoorSamePlain
import Derived.Test.YtecmhpncgdjgjaaDoorRdr
namespace Go.Proofs.YtecmhpncgdjgjaaDoor
open Go.RowKit
set_option linter.unusedVariables false
set_option linter.unusedSimpArgs false

/-- The cells of the rows. -/
def rowsC : Array Value := #[.int .u8 0, .int .u8 127, .int .u8 0, .int .u8 0, .int .i64 0, .int .u8 194, .int .u8 223, .int .u8 128, .int .u8 191, .int .i64 1, .int .u8 224, .int .u8 224, .int .u8 160, .int .u8 191, .int .i64 2, .int .u8 225, .int .u8 236, .int .u8 128, .int .u8 191, .int .i64 2, .int .u8 237, .int .u8 237, .int .u8 128, .int .u8 159, .int .i64 2, .int .u8 238, .int .u8 239, .int .u8 128, .int .u8 191, .int .i64 2, .int .u8 240, .int .u8 240, .int .u8 144, .int .u8 191, .int .i64 3, .int .u8 241, .int .u8 243, .int .u8 128, .int .u8 191, .int .i64 3, .int .u8 244, .int .u8 244, .int .u8 128, .int .u8 143, .int .i64 3]
def RowsAt (w : World) : Prop := ∃ t fr, w.heap[0]? = some (.cells rowsC t fr)
theorem RowsAt.later {w w' : World} (h : RowsAt w) (hb : Below w.heap.size w w') : RowsAt w' := by
  obtain ⟨t, fr, hc⟩ := h
  exact ⟨t, fr, (hb.block 0 (Array.getElem?_eq_some_iff.1 hc).1).trans hc⟩

structure Rw where
  lo : Nat
  hi : Nat
  lo2 : Nat
  hi2 : Nat
  m : Nat
def rowsN : List Rw := [⟨0, 127, 0, 0, 0⟩, ⟨194, 223, 128, 191, 1⟩, ⟨224, 224, 160, 191, 2⟩, ⟨225, 236, 128, 191, 2⟩, ⟨237, 237, 128, 159, 2⟩, ⟨238, 239, 128, 191, 2⟩, ⟨240, 240, 144, 191, 3⟩, ⟨241, 243, 128, 191, 3⟩, ⟨244, 244, 128, 143, 3⟩]
def chFrom (n : Nat) (cs : List UInt8) : List Rw → Nat
  | [] => 0
  | r :: rs => if n < r.lo ∨ r.hi < n then chFrom n cs rs else if okc r.m r.lo2 r.hi2 cs then 1 + r.m else 0
theorem chFrom_no {n : Nat} {cs : List UInt8} {r : Rw} {rs : List Rw} (h : n < r.lo ∨ r.hi < n) : chFrom n cs (r :: rs) = chFrom n cs rs := by rw [chFrom, if_pos h]
theorem chFrom_yes {n : Nat} {cs : List UInt8} {r : Rw} {rs : List Rw} (h : ¬ (n < r.lo ∨ r.hi < n)) : chFrom n cs (r :: rs) = if okc r.m r.lo2 r.hi2 cs then 1 + r.m else 0 := by rw [chFrom, if_neg h]
theorem chFrom_eq (c : UInt8) (cs : List UInt8) : chFrom c.toNat cs rowsN = chOf (c :: cs) := by
  have := c.toNat_lt
  show chFrom c.toNat cs rowsN = if c.toNat < 128 then 1 else if c.toNat < 194 then 0 else if c.toNat < 224 then (if okc 1 128 191 cs then 2 else 0)
    else if c.toNat = 224 then (if okc 2 160 191 cs then 3 else 0) else if c.toNat = 237 then (if okc 2 128 159 cs then 3 else 0)
    else if c.toNat < 240 then (if okc 2 128 191 cs then 3 else 0)
    else if c.toNat = 240 then (if okc 3 144 191 cs then 4 else 0) else if c.toNat < 244 then (if okc 3 128 191 cs then 4 else 0)
    else if c.toNat = 244 then (if okc 3 128 143 cs then 4 else 0) else 0
  obtain ⟨n, hn⟩ : ∃ n, c.toNat = n := ⟨_, rfl⟩
  rw [hn] at this ⊢
  unfold rowsN
  by_cases h0 : n < 128
  · rw [if_pos h0, chFrom_yes (by dsimp only; omega)]; rfl
  by_cases h1 : n < 194
  · rw [if_neg h0, if_pos h1, chFrom_no (by dsimp only; omega), chFrom_no (by dsimp only; omega), chFrom_no (by dsimp only; omega), chFrom_no (by dsimp only; omega), chFrom_no (by dsimp only; omega), chFrom_no (by dsimp only; omega), chFrom_no (by dsimp only; omega), chFrom_no (by dsimp only; omega), chFrom_no (by dsimp only; omega), chFrom]
  by_cases h2 : n < 224
  · rw [if_neg h0, if_neg h1, if_pos h2, chFrom_no (by dsimp only; omega), chFrom_yes (by dsimp only; omega)]; rfl
  by_cases h3 : n = 224
  · rw [if_neg h0, if_neg h1, if_neg h2, if_pos h3, chFrom_no (by dsimp only; omega), chFrom_no (by dsimp only; omega), chFrom_yes (by dsimp only; omega)]; rfl
  by_cases h4 : n = 237
  · rw [if_neg h0, if_neg h1, if_neg h2, if_neg h3, if_pos h4, chFrom_no (by dsimp only; omega), chFrom_no (by dsimp only; omega), chFrom_no (by dsimp only; omega), chFrom_no (by dsimp only; omega), chFrom_yes (by dsimp only; omega)]; rfl
  by_cases h5 : n < 240
  · rw [if_neg h0, if_neg h1, if_neg h2, if_neg h3, if_neg h4, if_pos h5]
    by_cases g : n < 237
    · rw [chFrom_no (by dsimp only; omega), chFrom_no (by dsimp only; omega), chFrom_no (by dsimp only; omega), chFrom_yes (by dsimp only; omega)]; rfl
    · rw [chFrom_no (by dsimp only; omega), chFrom_no (by dsimp only; omega), chFrom_no (by dsimp only; omega), chFrom_no (by dsimp only; omega), chFrom_no (by dsimp only; omega), chFrom_yes (by dsimp only; omega)]; rfl
  by_cases h6 : n = 240
  · rw [if_neg h0, if_neg h1, if_neg h2, if_neg h3, if_neg h4, if_neg h5, if_pos h6, chFrom_no (by dsimp only; omega), chFrom_no (by dsimp only; omega), chFrom_no (by dsimp only; omega), chFrom_no (by dsimp only; omega), chFrom_no (by dsimp only; omega), chFrom_no (by dsimp only; omega), chFrom_yes (by dsimp only; omega)]; rfl
  by_cases h7 : n < 244
  · rw [if_neg h0, if_neg h1, if_neg h2, if_neg h3, if_neg h4, if_neg h5, if_neg h6, if_pos h7, chFrom_no (by dsimp only; omega), chFrom_no (by dsimp only; omega), chFrom_no (by dsimp only; omega), chFrom_no (by dsimp only; omega), chFrom_no (by dsimp only; omega), chFrom_no (by dsimp only; omega), chFrom_no (by dsimp only; omega), chFrom_yes (by dsimp only; omega)]; rfl
  by_cases h8 : n = 244
  · rw [if_neg h0, if_neg h1, if_neg h2, if_neg h3, if_neg h4, if_neg h5, if_neg h6, if_neg h7, if_pos h8, chFrom_no (by dsimp only; omega), chFrom_no (by dsimp only; omega), chFrom_no (by dsimp only; omega), chFrom_no (by dsimp only; omega), chFrom_no (by dsimp only; omega), chFrom_no (by dsimp only; omega), chFrom_no (by dsimp only; omega), chFrom_no (by dsimp only; omega), chFrom_yes (by dsimp only; omega)]; rfl
  rw [if_neg h0, if_neg h1, if_neg h2, if_neg h3, if_neg h4, if_neg h5, if_neg h6, if_neg h7, if_neg h8, chFrom_no (by dsimp only; omega), chFrom_no (by dsimp only; omega), chFrom_no (by dsimp only; omega), chFrom_no (by dsimp only; omega), chFrom_no (by dsimp only; omega), chFrom_no (by dsimp only; omega), chFrom_no (by dsimp only; omega), chFrom_no (by dsimp only; omega), chFrom_no (by dsimp only; omega), chFrom]

theorem okc_len (m : Nat) : ∀ (lo hi : Nat) (cs : List UInt8), cs.length < m → okc m lo hi cs = false := by
  induction m with
  | zero => intro lo hi cs h; omega
  | succ m ih =>
    intro lo hi cs h
    cases cs with
    | nil => rfl
    | cons c cs => rw [okc, ih _ _ cs (by simpa using h)]; simp
theorem okc_step (m lo hi : Nat) (c : UInt8) (cs : List UInt8) : okc (m + 1) lo hi (c :: cs) = (decide (lo ≤ c.toNat) && decide (c.toNat ≤ hi) && okc m 128 191 cs) := rfl

theorem row_0 (W : World) : (Instr.index 129 (.agg rowsC) (.int .i64 0)).run Tryd.prog W = .ok (.agg #[.int .u8 0, .int .u8 127, .int .u8 0, .int .u8 0, .int .i64 0]) W := by kernel_rfl
theorem row_1 (W : World) : (Instr.index 129 (.agg rowsC) (.int .i64 1)).run Tryd.prog W = .ok (.agg #[.int .u8 194, .int .u8 223, .int .u8 128, .int .u8 191, .int .i64 1]) W := by kernel_rfl
theorem row_2 (W : World) : (Instr.index 129 (.agg rowsC) (.int .i64 2)).run Tryd.prog W = .ok (.agg #[.int .u8 224, .int .u8 224, .int .u8 160, .int .u8 191, .int .i64 2]) W := by kernel_rfl
theorem row_3 (W : World) : (Instr.index 129 (.agg rowsC) (.int .i64 3)).run Tryd.prog W = .ok (.agg #[.int .u8 225, .int .u8 236, .int .u8 128, .int .u8 191, .int .i64 2]) W := by kernel_rfl
theorem row_4 (W : World) : (Instr.index 129 (.agg rowsC) (.int .i64 4)).run Tryd.prog W = .ok (.agg #[.int .u8 237, .int .u8 237, .int .u8 128, .int .u8 159, .int .i64 2]) W := by kernel_rfl
theorem row_5 (W : World) : (Instr.index 129 (.agg rowsC) (.int .i64 5)).run Tryd.prog W = .ok (.agg #[.int .u8 238, .int .u8 239, .int .u8 128, .int .u8 191, .int .i64 2]) W := by kernel_rfl
theorem row_6 (W : World) : (Instr.index 129 (.agg rowsC) (.int .i64 6)).run Tryd.prog W = .ok (.agg #[.int .u8 240, .int .u8 240, .int .u8 144, .int .u8 191, .int .i64 3]) W := by kernel_rfl
theorem row_7 (W : World) : (Instr.index 129 (.agg rowsC) (.int .i64 7)).run Tryd.prog W = .ok (.agg #[.int .u8 241, .int .u8 243, .int .u8 128, .int .u8 191, .int .i64 3]) W := by kernel_rfl
theorem row_8 (W : World) : (Instr.index 129 (.agg rowsC) (.int .i64 8)).run Tryd.prog W = .ok (.agg #[.int .u8 244, .int .u8 244, .int .u8 128, .int .u8 143, .int .i64 3]) W := by kernel_rfl
theorem row_at (k : Nat) (r : Rw) (h : rowsN[k]? = some r) (W : World) : (Instr.index 129 (.agg rowsC) (.int .i64 k)).run Tryd.prog W = .ok (.agg #[.int .u8 (r.lo : Int), .int .u8 (r.hi : Int), .int .u8 (r.lo2 : Int), .int .u8 (r.hi2 : Int), .int .i64 (r.m : Int)]) W := by
  have hk : k = 0 ∨ k = 1 ∨ k = 2 ∨ k = 3 ∨ k = 4 ∨ k = 5 ∨ k = 6 ∨ k = 7 ∨ k = 8 := by
    have := (List.getElem?_eq_some_iff.1 h).1
    simp [rowsN] at this
    omega
  rcases hk with rfl | rfl | rfl | rfl | rfl | rfl | rfl | rfl | rfl <;> obtain rfl := Option.some.inj h
  · exact row_0 W
  · exact row_1 W
  · exact row_2 W
  · exact row_3 W
  · exact row_4 W
  · exact row_5 W
  · exact row_6 W
  · exact row_7 W
  · exact row_8 W

theorem wpList_index {P : Program} {ops : Array Oper} {rest : List Oper} {o : Oper} {a : Act} {w : World} {Q : Exit → Act → World → Prop} (hgd : o.guard = none) (t : TypeId) (x y : Operand) (ho : o.op = .index t x y) (X Y v : Value)
    (hx : a.eval x = X) (hy : a.eval y = Y) (hrun : (Instr.index t X Y).run P w = .ok v w) (h : wpList P ops Q rest (a.put o.dst v) w) : wpList P ops Q (o :: rest) a w := by
  refine wpList_plain hgd fun K hK => ?_
  unfold Oper.wp execOp
  simp only [ho, hx, hy, hrun, Sem.run_bind, Sem.run_pure, Result.andThen_ok]
  exact hK _ _ h

theorem info129 : (Tryd.prog.info? 129).map (·.size) = some rowsC.size := by kernel_rfl

set_option maxHeartbeats 8000000 in
set_option maxRecDepth 100000 in
theorem char_any (s : ByteArray) (p : Nat) (hp : p < s.size) (hss : s.size ≤ 140737488355328) (w : World) (h : RowsAt w) : Calls Tryd.prog 71 #[.string s, .int .i64 p] w (Says w (.int .i64 (chOf (s.data.toList.drop p)))) := by
  obtain ⟨t0, fr0, hg⟩ := h
  have HG := Lib.hid hg
  clear hg
  go_enter Tryd.func71, Tryd.ntmps71
  go_wp2_with (refine wpList_load_row rfl 129 _ rfl 0 rfl t0 rowsC fr0 _ HG.out Tryd.underlying129 rfl info129 ?_)
  go_wp2_with fail
  have hps : (p : Int) < s.size := by omega
  obtain ⟨n, hn⟩ : ∃ n, (s[p]'hp).toNat = n := ⟨_, rfl⟩
  have hn2 : n < 256 := by rw [← hn]; exact UInt8.toNat_lt _
  obtain ⟨cs, hcs⟩ : ∃ cs, s.data.toList.drop (p + 1) = cs := ⟨_, rfl⟩
  have hV : chOf (s.data.toList.drop p) = chFrom n cs rowsN := by
    rw [List.drop_eq_getElem_cons (by simpa using hp), hcs, ← hn, ← chFrom_eq]
    rfl
  have HV := Lib.hid hV
  have HCS := Lib.hid hcs
  have hcl : cs.length = s.size - (p + 1) := by rw [← hcs, List.length_drop]; rfl
  clear hV hcs
  go_loopw [11] (fun vi wr => ∃ k : Nat, vi = .int .i64 k ∧ k ≤ 9 ∧ Below w.heap.size w wr ∧ chFrom n cs (rowsN.drop k) = chFrom n cs rowsN) (fun vi _ => 9 - (intOf vi).toNat)
  case atStart => exact ⟨0, rfl, Nat.zero_le _, Below.refl _ _, rfl⟩
  case round =>
    obtain ⟨k, rfl, hk, hbw, hch⟩ := hrel
    by_cases hlt : k < 9
    · obtain ⟨r, hr⟩ : ∃ r, rowsN[k]? = some r := ⟨_, List.getElem?_eq_getElem (show k < rowsN.length from hlt)⟩
      have hm3 : r.m ≤ 3 := by
        have : ∀ x ∈ rowsN, x.m ≤ 3 := by simp [rowsN]
        exact this r (List.mem_of_getElem? hr)
      have HROW := Lib.hid (fun W => row_at k r hr W)
      have hdr : rowsN.drop k = r :: rowsN.drop (k + 1) := by
        have hkl : k < rowsN.length := hlt
        rw [List.drop_eq_getElem_cons hkl]
        rw [List.getElem?_eq_getElem hkl] at hr
        rw [Option.some.inj hr]
      rw [hdr] at hch
      obtain ⟨lo, hi, lo2, hi2, m⟩ := r
      have HCH := Lib.hid hch
      clear hr hdr hch
      go_wp2_with (refine wpList_index rfl 129 _ _ rfl _ _ _ rfl rfl (HROW.out _) ?_)
      replace hm3 : m ≤ 3 := hm3
      have hb0 : Below w.heap.size w (wr.alloc (.cells #[.int .u8 lo, .int .u8 hi, .int .u8 lo2, .int .u8 hi2, .int .i64 m] 128)) := hbw.alloc hbw.size _
      have HB0 := Lib.hid hb0
      clear hb0
      by_cases h1 : n < lo
      · have HN := Lib.hid ((chFrom_no (.inl h1)).symm.trans HCH.out)
        have h1' : (n : Int) < (lo : Int) := by omega
        go_quiet (fail)
        go_wp2_with fail
        go_roundw
        case rel => exact ⟨k + 1, by simp, by omega, below_drawn HB0.out _, HN.out⟩
        case measure => simp [intOf]; omega
      by_cases h2 : hi < n
      · have HN := Lib.hid ((chFrom_no (.inr h2)).symm.trans HCH.out)
        have h1' : (lo : Int) ≤ (n : Int) := by omega
        have h2' : (hi : Int) < (n : Int) := by omega
        have hd1 : decide (n < lo) = false := by simp; omega
        have hd2 : decide (hi < n) = true := by simp; omega
        go_quiet (fail)
        go_wp2_with fail
        go_roundw
        case rel => exact ⟨k + 1, by simp, by omega, below_drawn HB0.out _, HN.out⟩
        case measure => simp [intOf]; omega
      have HN := Lib.hid (show chOf (s.data.toList.drop p) = if okc m lo2 hi2 cs then 1 + m else 0 from (HV.out.trans HCH.out.symm).trans (chFrom_yes (by dsimp only; omega)))
      have h1' : (lo : Int) ≤ (n : Int) := by omega
      have h2' : (n : Int) ≤ (hi : Int) := by omega
      have hd1 : decide (n < lo) = false := by simp; omega
      have hd2 : decide (hi < n) = false := by simp; omega
      clear h1 h2
      by_cases hshort : s.size ≤ p + m
      · have HS := Lib.hid (show chOf (s.data.toList.drop p) = 0 from HN.out.trans (by rw [okc_len _ _ _ _ (by omega)]; rfl))
        go_quiet (fail)
        go_wp2_with fail
        go_ret
        exact ⟨by rw [HS.out]; rfl, below_drawn HB0.out _⟩
      · have hlong : p + m < s.size := by omega
        clear hshort
        go_quiet (fail)
        obtain ⟨wx, hwx⟩ : ∃ wx, (wr.alloc (.cells #[.int .u8 lo, .int .u8 hi, .int .u8 lo2, .int .u8 hi2, .int .i64 m] 128)).drewN nq = wx := ⟨_, rfl⟩
        have hbx : Below w.heap.size w wx := by rw [← hwx]; exact below_drawn HB0.out _
        have hbox : wx.heap[wr.heap.size]? = some (.cells #[.int .u8 lo, .int .u8 hi, .int .u8 lo2, .int .u8 hi2, .int .i64 m] 128) := by
          rw [← hwx]
          show (wr.heap.push _)[wr.heap.size]? = _
          exact Array.getElem?_push_size
        rw [hwx]
        clear hwx
        obtain ⟨o, ho⟩ : ∃ o, wr.heap.size = o := ⟨_, rfl⟩
        rw [ho] at hbox ⊢
        have hX := Lib.cell_of_heap hbox
        have HBOX := Lib.hid hbox
        clear hbox ho
        go_wp2_with fail
        go_loopw [7] (fun vi wq => ∃ j : Nat, vi = .int .i64 ((j : Int) + 1) ∧ j ≤ m ∧ Below w.heap.size w wq ∧ wq.heap[o]? = some (.cells #[.int .u8 lo, .int .u8 hi, .int .u8 lo2, .int .u8 hi2, .int .i64 m] 128) ∧ okc m lo2 hi2 cs = okc (m - j) (if j = 0 then lo2 else 128) (if j = 0 then hi2 else 191) (cs.drop j)) (fun vi _ => 10 - (intOf vi).toNat)
        case atStart => exact ⟨0, rfl, Nat.zero_le _, hbx, HBOX.out, rfl⟩
        case round =>
          obtain ⟨j, rfl, hj, hbq, hbox2, hok⟩ := hrel
          have hX := Lib.cell_of_heap hbox2
          have HBOX2 := Lib.hid hbox2
          clear hbox2
          by_cases hjm : j < m
          · have hq : p + (j + 1) < s.size := by omega
            obtain ⟨d, hd⟩ : ∃ d, s[p + (j + 1)]'hq = d := ⟨_, rfl⟩
            have hcj : cs.drop j = d :: cs.drop (j + 1) := by
              rw [← HCS.out, List.drop_drop, List.drop_drop, ← hd]
              have hql : p + 1 + j < s.data.toList.length := by have : s.data.toList.length = s.size := rfl; omega
              rw [List.drop_eq_getElem_cons hql]
              have e2 : p + 1 + j = p + (j + 1) := by omega
              congr 1
              · show s.data.toList[p + 1 + j] = s.data[p + (j + 1)]
                simp [e2]
            obtain ⟨x, hx⟩ : ∃ x, d.toNat = x := ⟨_, rfl⟩
            have hx2 : x < 256 := by rw [← hx]; exact UInt8.toNat_lt _
            obtain ⟨mm, hmm⟩ : ∃ mm, m - j = mm + 1 := ⟨m - j - 1, by omega⟩
            obtain ⟨pj, hpj⟩ : ∃ pj, p + (j + 1) = pj := ⟨_, rfl⟩
            have hpji : (p : Int) + ((j : Int) + 1) = (pj : Int) := by omega
            have hpjs : pj < s.size := by omega
            have hpjz : (pj : Int) < s.size := by omega
            rw [hcj, hmm, okc_step, hx] at hok
            have HOK := Lib.hid hok
            have HMM := Lib.hid hmm
            have hdx : (s[pj]'hpjs).toNat = x := by subst hpj; rw [hd, hx]
            have HPJ := Lib.hid hpj
            have HQ := Lib.hid hq
            clear hok hd hx hcj hmm hpj hq
            by_cases hj0 : j = 0
            · have hjt : ((j : Int) + 1 == 1) = true := by simp; omega
              have HJ0 := Lib.hid hj0
              clear hj0
              by_cases g1 : x < lo2
              · have HF := Lib.hid (show chOf (s.data.toList.drop p) = 0 from HN.out.trans (by rw [HOK.out, if_pos HJ0.out, if_pos HJ0.out]; simp [show ¬ lo2 ≤ x by omega]))
                have g1' : (x : Int) < (lo2 : Int) := by omega
                go_wp2_with fail
                go_quiet (fail)
                go_wp2_with fail
                go_ret
                exact ⟨by rw [HF.out]; rfl, below_drawn hbq _⟩
              by_cases g2 : hi2 < x
              · have HF := Lib.hid (show chOf (s.data.toList.drop p) = 0 from HN.out.trans (by rw [HOK.out, if_pos HJ0.out, if_pos HJ0.out]; simp [show ¬ x ≤ hi2 by omega]))
                have g1' : (lo2 : Int) ≤ (x : Int) := by omega
                have g2' : (hi2 : Int) < (x : Int) := by omega
                go_wp2_with fail
                go_quiet (fail)
                go_wp2_with fail
                go_ret
                exact ⟨by rw [HF.out]; rfl, below_drawn hbq _⟩
              · have g1' : (lo2 : Int) ≤ (x : Int) := by omega
                have g2' : (x : Int) ≤ (hi2 : Int) := by omega
                have HF := Lib.hid (HOK.out.trans (by rw [if_pos HJ0.out, if_pos HJ0.out]; simp only [show lo2 ≤ x by omega, show x ≤ hi2 by omega, decide_true, Bool.true_and] : _ = okc mm 128 191 (cs.drop (j + 1))))
                go_wp2_with fail
                go_quiet (fail)
                go_wp2_with fail
                go_roundw
                case rel => exact ⟨j + 1, by simp, by omega, below_drawn hbq _, HBOX2.out, by rw [HF.out, if_neg (by omega), if_neg (by omega)]; congr 1; have := HMM.out; omega⟩
                case measure => simp [intOf]; omega
            · have hjt : ((j : Int) + 1 == 1) = false := by simp; omega
              have HJ0 := Lib.hid hj0
              clear hj0
              by_cases g1 : x < 128
              · have HF := Lib.hid (show chOf (s.data.toList.drop p) = 0 from HN.out.trans (by rw [HOK.out, if_neg HJ0.out, if_neg HJ0.out]; simp [show ¬ 128 ≤ x by omega]))
                have g1' : (x : Int) < (128 : Int) := by omega
                go_wp2_with fail

                go_ret
                exact ⟨by rw [HF.out]; rfl, hbq⟩
              by_cases g2 : 191 < x
              · have HF := Lib.hid (show chOf (s.data.toList.drop p) = 0 from HN.out.trans (by rw [HOK.out, if_neg HJ0.out, if_neg HJ0.out]; simp [show ¬ x ≤ 191 by omega]))
                have g1' : (128 : Int) ≤ (x : Int) := by omega
                have g2' : (191 : Int) < (x : Int) := by omega
                go_wp2_with fail

                go_ret
                exact ⟨by rw [HF.out]; rfl, hbq⟩
              · have g1' : (128 : Int) ≤ (x : Int) := by omega
                have g2' : (x : Int) ≤ (191 : Int) := by omega
                have HF := Lib.hid (HOK.out.trans (by rw [if_neg HJ0.out, if_neg HJ0.out]; simp only [show 128 ≤ x by omega, show x ≤ 191 by omega, decide_true, Bool.true_and] : _ = okc mm 128 191 (cs.drop (j + 1))))
                go_wp2_with fail

                go_roundw
                case rel => exact ⟨j + 1, by simp, by omega, hbq, HBOX2.out, by rw [HF.out, if_neg (by omega), if_neg (by omega)]; congr 1; have := HMM.out; omega⟩
                case measure => simp [intOf]; omega
          · have hjm2 : j = m := by omega
            subst hjm2
            have HS := Lib.hid (show chOf (s.data.toList.drop p) = 1 + j from HN.out.trans (by rw [hok, show j - j = 0 by omega]; rfl))
            clear hok
            go_wp2_with fail
            go_ret
            exact ⟨by rw [HS.out]; first | rfl | simp, hbq⟩
    · have hk9 : k = 9 := by omega
      subst hk9
      have HS := Lib.hid (show chOf (s.data.toList.drop p) = 0 from HV.out.trans hch.symm)
      clear hch
      go_wp2_with fail
      go_ret
      exact ⟨by rw [HS.out]; rfl, hbw⟩
end Go.Proofs.YtecmhpncgdjgjaaDoor
