/-
  one and Utf8 of the reference, walked. Conditions: texts of at most 140737488355328 bytes.
-/
import Derived.Test.YtecmhpncgdjgjaaDoorTextsA
namespace Go.Proofs.YtecmhpncgdjgjaaDoor
open Go.RowKit
set_option linter.unusedVariables false
set_option linter.unusedSimpArgs false

set_option maxHeartbeats 8000000 in
set_option maxRecDepth 100000 in
theorem one_any (s : ByteArray) (p : Nat) (hp : p < s.size) (hss : s.size ≤ 140737488355328) (w : World) : Calls Tryd.prog 72 #[.string s, .int .i64 p] w (Says w (.int .i64 (chOf (s.data.toList.drop p)))) := by
  have hps : (p : Int) < s.size := by omega
  obtain ⟨c, hc⟩ : ∃ c, s[p]'hp = c := ⟨_, rfl⟩
  obtain ⟨cs, hcs⟩ : ∃ cs, s.data.toList.drop (p + 1) = cs := ⟨_, rfl⟩
  have hcl : cs.length = s.size - (p + 1) := by rw [← hcs, List.length_drop]; rfl
  have hdr : s.data.toList.drop p = c :: cs := by
    rw [List.drop_eq_getElem_cons (by simpa using hp), hcs, ← hc]
    rfl
  rw [hdr]
  have HCS := Lib.hid hcs
  clear hcs hdr
  by_cases h128 : c.toNat < 128
  · have hV := Lib.hid (show chOf (c :: cs) = 1 by rw [chOf_def, if_pos h128])
    obtain ⟨n, hn⟩ : ∃ n, c.toNat = n := ⟨_, rfl⟩
    have hsp : (s[p]'hp).toNat = n := by rw [hc, hn]
    rw [hn] at h128
    clear hc hn
    go_enter Tryd.func72, Tryd.ntmps72
    go_wp2_with fail
    go_ret
    exact ⟨by rw [hV.out]; rfl, Below.refl _ _⟩
  by_cases hno : (128 ≤ c.toNat ∧ c.toNat < 192) ∨ 248 ≤ c.toNat
  · have hV := Lib.hid (chOf_no c cs hno)
    obtain ⟨n, hn⟩ : ∃ n, c.toNat = n := ⟨_, rfl⟩
    have hsp : (s[p]'hp).toNat = n := by rw [hc, hn]
    have hn256 : n < 256 := by rw [← hn]; exact c.toNat_lt
    rw [hn] at h128 hno
    clear hc hn
    rcases hno with hno | hno
    · have h1 : (n : Int) < 192 := by omega
      have h2 : (128 : Int) ≤ (n : Int) := by omega
      clear hno h128
      go_enter Tryd.func72, Tryd.ntmps72
      go_wp2_with fail
      go_ret
      exact ⟨by rw [hV.out]; rfl, Below.refl _ _⟩
    · have h2 : (248 : Int) ≤ (n : Int) := by omega
      clear hno h128
      go_enter Tryd.func72, Tryd.ntmps72
      go_wp2_with fail
      go_ret
      exact ⟨by rw [hV.out]; rfl, Below.refl _ _⟩
  obtain ⟨n, hn⟩ : ∃ n, c.toNat = n := ⟨_, rfl⟩
  have hsp : (s[p]'hp).toNat = n := by rw [hc, hn]
  by_cases h224 : n < 224
  · have hV := Lib.hid (show chOf (c :: cs) = fin3 2 128 (contAcc 1 (n - 192) cs) from hn ▸ chOf_two c cs (by omega) (by omega))
    have h1 : (192 : Int) ≤ (n : Int) := by omega
    have h2 : (n : Int) < 224 := by omega
    have hn256 : n < 256 := by omega
    obtain ⟨w0, hw0⟩ : ∃ w0, n - 192 = w0 := ⟨_, rfl⟩
    have hw0i : (n : Int) - 192 = (w0 : Int) := by omega
    have hw032 : w0 < 32 := by omega
    rw [hw0] at hV
    clear hw0 hc hn h128 hno
    by_cases hshort : s.size < p + 2
    · have hS := Lib.hid (show chOf (c :: cs) = 0 by rw [hV.out, contAcc_short _ _ _ (by omega)]; rfl)
      have hsh : (s.size : Int) < (p : Int) + 2 := by omega
      clear hshort
      go_enter Tryd.func72, Tryd.ntmps72
      go_wp2_with fail
      go_ret
      exact ⟨by rw [hS.out]; rfl, Below.refl _ _⟩
    have hsh : (p : Int) + 2 ≤ (s.size : Int) := by omega
    clear hshort
    go_enter Tryd.func72, Tryd.ntmps72
    go_wp2_with fail
    go_loopw [5, 8] (fun v5 v8 wr => ∃ (acc i : Nat), v5 = .int .i64 acc ∧ v8 = .int .i64 ((i : Int) + 1) ∧ i ≤ 1 ∧ acc < 32 * 64 ^ i ∧ Below w.heap.size w wr ∧ contAcc 1 w0 cs = contAcc (1 - i) acc (cs.drop i)) (fun _ v8 _ => 10 - (intOf v8).toNat)
    case atStart => exact ⟨w0, 0, by first | rfl | (rw [hw0i]), rfl, by omega, by omega, Below.refl _ _, rfl⟩
    case round =>
      obtain ⟨acc, i, rfl, rfl, hi, hacc, hbw, hco⟩ := hrel
      by_cases him : i < 1
      · obtain ⟨pj, hpj⟩ : ∃ pj, p + (i + 1) = pj := ⟨_, rfl⟩
        have hpjs : pj < s.size := by omega
        have hpjz : (pj : Int) < s.size := by omega
        have hpji : (p : Int) + ((i : Int) + 1) = (pj : Int) := by omega
        obtain ⟨d, hd⟩ : ∃ d, s[pj]'hpjs = d := ⟨_, rfl⟩
        have hcj : cs.drop i = d :: cs.drop (i + 1) := by
          rw [← HCS.out, List.drop_drop, List.drop_drop, ← hd]
          have hql : p + 1 + i < s.data.toList.length := by have : s.data.toList.length = s.size := rfl; omega
          rw [List.drop_eq_getElem_cons hql]
          have e2 : p + 1 + i = pj := by omega
          congr 1
          · show s.data.toList[p + 1 + i] = s.data[pj]
            simp [e2]
        have hd256 : d.toNat < 256 := d.toNat_lt
        obtain ⟨mm, hmm⟩ : ∃ mm, 1 - i = mm + 1 := ⟨1 - i - 1, by omega⟩
        have hmm2 : 1 - (i + 1) = mm := by omega
        have hacc2 : acc < 131072 := by
          have h3 : (64 : Nat) ^ i ≤ 64 ^ 2 := Nat.pow_le_pow_right (by omega) (by omega)
          omega
        have hpow : (64 : Nat) ^ (i + 1) = 64 * 64 ^ i := by rw [Nat.pow_succ, Nat.mul_comm]
        rw [hcj, hmm] at hco
        by_cases hgood : 128 ≤ d.toNat ∧ d.toNat < 192
        · rw [contAcc_yes hgood] at hco
          obtain ⟨x, hx⟩ : ∃ x, d.toNat = x := ⟨_, rfl⟩
          have hsx : (s[pj]'hpjs).toNat = x := by rw [hd, hx]
          rw [hx] at hco hgood hd256
          obtain ⟨hg1, hg2⟩ := hgood
          have hg1' : (128 : Int) ≤ (x : Int) := by omega
          have hg2' : (x : Int) < 192 := by omega
          have HCO := Lib.hid (hmm2 ▸ hco)
          have HACC := Lib.hid (show 64 * acc + (x - 128) < 32 * 64 ^ (i + 1) by rw [hpow]; omega)
          have HPJ := Lib.hid hpj
          clear hco hd hx hcj hmm hmm2 hacc hpow hpj hg1 hg2
          go_wp2_with fail
          go_roundw
          case rel => exact ⟨64 * acc + (x - 128), i + 1, by congr 1; omega, by simp, by omega, HACC.out, hbw, HCO.out⟩
          case measure => simp [intOf]; omega
        · rw [contAcc_no hgood] at hco
          have hS := Lib.hid (show chOf (c :: cs) = 0 by rw [hV.out, hco]; rfl)
          obtain ⟨x, hx⟩ : ∃ x, d.toNat = x := ⟨_, rfl⟩
          have hsx : (s[pj]'hpjs).toNat = x := by rw [hd, hx]
          rw [hx] at hgood hd256
          have HPJ := Lib.hid hpj
          clear hco hd hx hcj hmm hmm2 hacc hpow hpj
          by_cases hg : x < 128
          · have hg' : (x : Int) < 128 := by omega
            clear hgood hg
            go_wp2_with fail
            go_ret
            exact ⟨by rw [hS.out]; rfl, hbw⟩
          · have hg' : (128 : Int) ≤ (x : Int) := by omega
            have hg'' : (192 : Int) ≤ (x : Int) := by omega
            clear hgood hg
            go_wp2_with fail
            go_ret
            exact ⟨by rw [hS.out]; rfl, hbw⟩
      · have hi1 : i = 1 := by omega
        subst hi1
        rw [show 1 - 1 = 0 by omega, contAcc_zero] at hco
        have hacc2 : acc < 10000000 := by omega
        by_cases hb1 : acc < 128
        · have hS := Lib.hid (show chOf (c :: cs) = 0 by rw [hV.out, hco, fin3_bad (.inl hb1)])
          have hb1' : (acc : Int) < 128 := by omega
          clear hco hacc
          go_wp2_with fail
          go_ret
          exact ⟨by rw [hS.out]; rfl, hbw⟩
        by_cases hb2 : 1114111 < acc
        · have hS := Lib.hid (show chOf (c :: cs) = 0 by rw [hV.out, hco, fin3_bad (.inr (.inl hb2))])
          have hb1' : (128 : Int) ≤ (acc : Int) := by omega
          have hb2' : (1114111 : Int) < (acc : Int) := by omega
          clear hco hacc hb1 hb2
          go_wp2_with fail
          go_ret
          exact ⟨by rw [hS.out]; rfl, hbw⟩
        have hb1' : (128 : Int) ≤ (acc : Int) := by omega
        have hb2' : (acc : Int) ≤ 1114111 := by omega
        by_cases hb3 : 55296 ≤ acc
        · have hb3' : (55296 : Int) ≤ (acc : Int) := by omega
          by_cases hb4 : acc < 57344
          · have hS := Lib.hid (show chOf (c :: cs) = 0 by rw [hV.out, hco, fin3_bad (.inr (.inr ⟨hb3, hb4⟩))])
            have hb4' : (acc : Int) < 57344 := by omega
            clear hco hacc hb1 hb2 hb3 hb4
            go_wp2_with fail
            go_ret
            exact ⟨by rw [hS.out]; rfl, hbw⟩
          · have hS := Lib.hid (show chOf (c :: cs) = 2 by rw [hV.out, hco, fin3_good (by omega)])
            have hb4' : (57344 : Int) ≤ (acc : Int) := by omega
            clear hco hacc hb1 hb2 hb3 hb4
            go_wp2_with fail
            go_ret
            exact ⟨by rw [hS.out]; rfl, hbw⟩
        · have hS := Lib.hid (show chOf (c :: cs) = 2 by rw [hV.out, hco, fin3_good (by omega)])
          obtain ⟨hd2, hd3, he2, he3⟩ : decide ((1114111 : Int) < (acc : Int)) = false ∧ decide ((55296 : Int) ≤ (acc : Int)) = false ∧ decide (1114111 < acc) = false ∧ decide (55296 ≤ acc) = false := by
            refine ⟨?_, ?_, ?_, ?_⟩ <;> simp only [decide_eq_false_iff_not] <;> omega
          clear hco hacc hb1 hb2 hb3 hb2' hacc2
          go_wp2_with fail
          go_ret
          exact ⟨by rw [hS.out]; rfl, hbw⟩
  by_cases h240 : n < 240
  · have hV := Lib.hid (show chOf (c :: cs) = fin3 3 2048 (contAcc 2 (n - 224) cs) from hn ▸ chOf_three c cs (by omega) (by omega))
    have h1 : (224 : Int) ≤ (n : Int) := by omega
    have h2 : (n : Int) < 240 := by omega
    have hn256 : n < 256 := by omega
    obtain ⟨w0, hw0⟩ : ∃ w0, n - 224 = w0 := ⟨_, rfl⟩
    have hw0i : (n : Int) - 224 = (w0 : Int) := by omega
    have hw032 : w0 < 32 := by omega
    rw [hw0] at hV
    clear hw0 hc hn h128 hno
    by_cases hshort : s.size < p + 3
    · have hS := Lib.hid (show chOf (c :: cs) = 0 by rw [hV.out, contAcc_short _ _ _ (by omega)]; rfl)
      have hsh : (s.size : Int) < (p : Int) + 3 := by omega
      clear hshort
      go_enter Tryd.func72, Tryd.ntmps72
      go_wp2_with fail
      go_ret
      exact ⟨by rw [hS.out]; rfl, Below.refl _ _⟩
    have hsh : (p : Int) + 3 ≤ (s.size : Int) := by omega
    clear hshort
    go_enter Tryd.func72, Tryd.ntmps72
    go_wp2_with fail
    go_loopw [5, 8] (fun v5 v8 wr => ∃ (acc i : Nat), v5 = .int .i64 acc ∧ v8 = .int .i64 ((i : Int) + 1) ∧ i ≤ 2 ∧ acc < 32 * 64 ^ i ∧ Below w.heap.size w wr ∧ contAcc 2 w0 cs = contAcc (2 - i) acc (cs.drop i)) (fun _ v8 _ => 10 - (intOf v8).toNat)
    case atStart => exact ⟨w0, 0, by first | rfl | (rw [hw0i]), rfl, by omega, by omega, Below.refl _ _, rfl⟩
    case round =>
      obtain ⟨acc, i, rfl, rfl, hi, hacc, hbw, hco⟩ := hrel
      by_cases him : i < 2
      · obtain ⟨pj, hpj⟩ : ∃ pj, p + (i + 1) = pj := ⟨_, rfl⟩
        have hpjs : pj < s.size := by omega
        have hpjz : (pj : Int) < s.size := by omega
        have hpji : (p : Int) + ((i : Int) + 1) = (pj : Int) := by omega
        obtain ⟨d, hd⟩ : ∃ d, s[pj]'hpjs = d := ⟨_, rfl⟩
        have hcj : cs.drop i = d :: cs.drop (i + 1) := by
          rw [← HCS.out, List.drop_drop, List.drop_drop, ← hd]
          have hql : p + 1 + i < s.data.toList.length := by have : s.data.toList.length = s.size := rfl; omega
          rw [List.drop_eq_getElem_cons hql]
          have e2 : p + 1 + i = pj := by omega
          congr 1
          · show s.data.toList[p + 1 + i] = s.data[pj]
            simp [e2]
        have hd256 : d.toNat < 256 := d.toNat_lt
        obtain ⟨mm, hmm⟩ : ∃ mm, 2 - i = mm + 1 := ⟨2 - i - 1, by omega⟩
        have hmm2 : 2 - (i + 1) = mm := by omega
        have hacc2 : acc < 131072 := by
          have h3 : (64 : Nat) ^ i ≤ 64 ^ 2 := Nat.pow_le_pow_right (by omega) (by omega)
          omega
        have hpow : (64 : Nat) ^ (i + 1) = 64 * 64 ^ i := by rw [Nat.pow_succ, Nat.mul_comm]
        rw [hcj, hmm] at hco
        by_cases hgood : 128 ≤ d.toNat ∧ d.toNat < 192
        · rw [contAcc_yes hgood] at hco
          obtain ⟨x, hx⟩ : ∃ x, d.toNat = x := ⟨_, rfl⟩
          have hsx : (s[pj]'hpjs).toNat = x := by rw [hd, hx]
          rw [hx] at hco hgood hd256
          obtain ⟨hg1, hg2⟩ := hgood
          have hg1' : (128 : Int) ≤ (x : Int) := by omega
          have hg2' : (x : Int) < 192 := by omega
          have HCO := Lib.hid (hmm2 ▸ hco)
          have HACC := Lib.hid (show 64 * acc + (x - 128) < 32 * 64 ^ (i + 1) by rw [hpow]; omega)
          have HPJ := Lib.hid hpj
          clear hco hd hx hcj hmm hmm2 hacc hpow hpj hg1 hg2
          go_wp2_with fail
          go_roundw
          case rel => exact ⟨64 * acc + (x - 128), i + 1, by congr 1; omega, by simp, by omega, HACC.out, hbw, HCO.out⟩
          case measure => simp [intOf]; omega
        · rw [contAcc_no hgood] at hco
          have hS := Lib.hid (show chOf (c :: cs) = 0 by rw [hV.out, hco]; rfl)
          obtain ⟨x, hx⟩ : ∃ x, d.toNat = x := ⟨_, rfl⟩
          have hsx : (s[pj]'hpjs).toNat = x := by rw [hd, hx]
          rw [hx] at hgood hd256
          have HPJ := Lib.hid hpj
          clear hco hd hx hcj hmm hmm2 hacc hpow hpj
          by_cases hg : x < 128
          · have hg' : (x : Int) < 128 := by omega
            clear hgood hg
            go_wp2_with fail
            go_ret
            exact ⟨by rw [hS.out]; rfl, hbw⟩
          · have hg' : (128 : Int) ≤ (x : Int) := by omega
            have hg'' : (192 : Int) ≤ (x : Int) := by omega
            clear hgood hg
            go_wp2_with fail
            go_ret
            exact ⟨by rw [hS.out]; rfl, hbw⟩
      · have hi1 : i = 2 := by omega
        subst hi1
        rw [show 2 - 2 = 0 by omega, contAcc_zero] at hco
        have hacc2 : acc < 10000000 := by omega
        by_cases hb1 : acc < 2048
        · have hS := Lib.hid (show chOf (c :: cs) = 0 by rw [hV.out, hco, fin3_bad (.inl hb1)])
          have hb1' : (acc : Int) < 2048 := by omega
          clear hco hacc
          go_wp2_with fail
          go_ret
          exact ⟨by rw [hS.out]; rfl, hbw⟩
        by_cases hb2 : 1114111 < acc
        · have hS := Lib.hid (show chOf (c :: cs) = 0 by rw [hV.out, hco, fin3_bad (.inr (.inl hb2))])
          have hb1' : (2048 : Int) ≤ (acc : Int) := by omega
          have hb2' : (1114111 : Int) < (acc : Int) := by omega
          clear hco hacc hb1 hb2
          go_wp2_with fail
          go_ret
          exact ⟨by rw [hS.out]; rfl, hbw⟩
        have hb1' : (2048 : Int) ≤ (acc : Int) := by omega
        have hb2' : (acc : Int) ≤ 1114111 := by omega
        by_cases hb3 : 55296 ≤ acc
        · have hb3' : (55296 : Int) ≤ (acc : Int) := by omega
          by_cases hb4 : acc < 57344
          · have hS := Lib.hid (show chOf (c :: cs) = 0 by rw [hV.out, hco, fin3_bad (.inr (.inr ⟨hb3, hb4⟩))])
            have hb4' : (acc : Int) < 57344 := by omega
            clear hco hacc hb1 hb2 hb3 hb4
            go_wp2_with fail
            go_ret
            exact ⟨by rw [hS.out]; rfl, hbw⟩
          · have hS := Lib.hid (show chOf (c :: cs) = 3 by rw [hV.out, hco, fin3_good (by omega)])
            have hb4' : (57344 : Int) ≤ (acc : Int) := by omega
            clear hco hacc hb1 hb2 hb3 hb4
            go_wp2_with fail
            go_ret
            exact ⟨by rw [hS.out]; rfl, hbw⟩
        · have hS := Lib.hid (show chOf (c :: cs) = 3 by rw [hV.out, hco, fin3_good (by omega)])
          obtain ⟨hd2, hd3, he2, he3⟩ : decide ((1114111 : Int) < (acc : Int)) = false ∧ decide ((55296 : Int) ≤ (acc : Int)) = false ∧ decide (1114111 < acc) = false ∧ decide (55296 ≤ acc) = false := by
            refine ⟨?_, ?_, ?_, ?_⟩ <;> simp only [decide_eq_false_iff_not] <;> omega
          clear hco hacc hb1 hb2 hb3 hb2' hacc2
          go_wp2_with fail
          go_ret
          exact ⟨by rw [hS.out]; rfl, hbw⟩
  · have hV := Lib.hid (show chOf (c :: cs) = fin3 4 65536 (contAcc 3 (n - 240) cs) from hn ▸ chOf_four c cs (by omega) (by omega))
    have h1 : (240 : Int) ≤ (n : Int) := by omega
    have h2 : (n : Int) < 248 := by omega
    have hn256 : n < 256 := by omega
    obtain ⟨w0, hw0⟩ : ∃ w0, n - 240 = w0 := ⟨_, rfl⟩
    have hw0i : (n : Int) - 240 = (w0 : Int) := by omega
    have hw032 : w0 < 32 := by omega
    rw [hw0] at hV
    clear hw0 hc hn h128 hno
    by_cases hshort : s.size < p + 4
    · have hS := Lib.hid (show chOf (c :: cs) = 0 by rw [hV.out, contAcc_short _ _ _ (by omega)]; rfl)
      have hsh : (s.size : Int) < (p : Int) + 4 := by omega
      clear hshort
      go_enter Tryd.func72, Tryd.ntmps72
      go_wp2_with fail
      go_ret
      exact ⟨by rw [hS.out]; rfl, Below.refl _ _⟩
    have hsh : (p : Int) + 4 ≤ (s.size : Int) := by omega
    clear hshort
    go_enter Tryd.func72, Tryd.ntmps72
    go_wp2_with fail
    go_loopw [5, 8] (fun v5 v8 wr => ∃ (acc i : Nat), v5 = .int .i64 acc ∧ v8 = .int .i64 ((i : Int) + 1) ∧ i ≤ 3 ∧ acc < 32 * 64 ^ i ∧ Below w.heap.size w wr ∧ contAcc 3 w0 cs = contAcc (3 - i) acc (cs.drop i)) (fun _ v8 _ => 10 - (intOf v8).toNat)
    case atStart => exact ⟨w0, 0, by first | rfl | (rw [hw0i]), rfl, by omega, by omega, Below.refl _ _, rfl⟩
    case round =>
      obtain ⟨acc, i, rfl, rfl, hi, hacc, hbw, hco⟩ := hrel
      by_cases him : i < 3
      · obtain ⟨pj, hpj⟩ : ∃ pj, p + (i + 1) = pj := ⟨_, rfl⟩
        have hpjs : pj < s.size := by omega
        have hpjz : (pj : Int) < s.size := by omega
        have hpji : (p : Int) + ((i : Int) + 1) = (pj : Int) := by omega
        obtain ⟨d, hd⟩ : ∃ d, s[pj]'hpjs = d := ⟨_, rfl⟩
        have hcj : cs.drop i = d :: cs.drop (i + 1) := by
          rw [← HCS.out, List.drop_drop, List.drop_drop, ← hd]
          have hql : p + 1 + i < s.data.toList.length := by have : s.data.toList.length = s.size := rfl; omega
          rw [List.drop_eq_getElem_cons hql]
          have e2 : p + 1 + i = pj := by omega
          congr 1
          · show s.data.toList[p + 1 + i] = s.data[pj]
            simp [e2]
        have hd256 : d.toNat < 256 := d.toNat_lt
        obtain ⟨mm, hmm⟩ : ∃ mm, 3 - i = mm + 1 := ⟨3 - i - 1, by omega⟩
        have hmm2 : 3 - (i + 1) = mm := by omega
        have hacc2 : acc < 131072 := by
          have h3 : (64 : Nat) ^ i ≤ 64 ^ 2 := Nat.pow_le_pow_right (by omega) (by omega)
          omega
        have hpow : (64 : Nat) ^ (i + 1) = 64 * 64 ^ i := by rw [Nat.pow_succ, Nat.mul_comm]
        rw [hcj, hmm] at hco
        by_cases hgood : 128 ≤ d.toNat ∧ d.toNat < 192
        · rw [contAcc_yes hgood] at hco
          obtain ⟨x, hx⟩ : ∃ x, d.toNat = x := ⟨_, rfl⟩
          have hsx : (s[pj]'hpjs).toNat = x := by rw [hd, hx]
          rw [hx] at hco hgood hd256
          obtain ⟨hg1, hg2⟩ := hgood
          have hg1' : (128 : Int) ≤ (x : Int) := by omega
          have hg2' : (x : Int) < 192 := by omega
          have HCO := Lib.hid (hmm2 ▸ hco)
          have HACC := Lib.hid (show 64 * acc + (x - 128) < 32 * 64 ^ (i + 1) by rw [hpow]; omega)
          have HPJ := Lib.hid hpj
          clear hco hd hx hcj hmm hmm2 hacc hpow hpj hg1 hg2
          go_wp2_with fail
          go_roundw
          case rel => exact ⟨64 * acc + (x - 128), i + 1, by congr 1; omega, by simp, by omega, HACC.out, hbw, HCO.out⟩
          case measure => simp [intOf]; omega
        · rw [contAcc_no hgood] at hco
          have hS := Lib.hid (show chOf (c :: cs) = 0 by rw [hV.out, hco]; rfl)
          obtain ⟨x, hx⟩ : ∃ x, d.toNat = x := ⟨_, rfl⟩
          have hsx : (s[pj]'hpjs).toNat = x := by rw [hd, hx]
          rw [hx] at hgood hd256
          have HPJ := Lib.hid hpj
          clear hco hd hx hcj hmm hmm2 hacc hpow hpj
          by_cases hg : x < 128
          · have hg' : (x : Int) < 128 := by omega
            clear hgood hg
            go_wp2_with fail
            go_ret
            exact ⟨by rw [hS.out]; rfl, hbw⟩
          · have hg' : (128 : Int) ≤ (x : Int) := by omega
            have hg'' : (192 : Int) ≤ (x : Int) := by omega
            clear hgood hg
            go_wp2_with fail
            go_ret
            exact ⟨by rw [hS.out]; rfl, hbw⟩
      · have hi1 : i = 3 := by omega
        subst hi1
        rw [show 3 - 3 = 0 by omega, contAcc_zero] at hco
        have hacc2 : acc < 10000000 := by omega
        by_cases hb1 : acc < 65536
        · have hS := Lib.hid (show chOf (c :: cs) = 0 by rw [hV.out, hco, fin3_bad (.inl hb1)])
          have hb1' : (acc : Int) < 65536 := by omega
          clear hco hacc
          go_wp2_with fail
          go_ret
          exact ⟨by rw [hS.out]; rfl, hbw⟩
        by_cases hb2 : 1114111 < acc
        · have hS := Lib.hid (show chOf (c :: cs) = 0 by rw [hV.out, hco, fin3_bad (.inr (.inl hb2))])
          have hb1' : (65536 : Int) ≤ (acc : Int) := by omega
          have hb2' : (1114111 : Int) < (acc : Int) := by omega
          clear hco hacc hb1 hb2
          go_wp2_with fail
          go_ret
          exact ⟨by rw [hS.out]; rfl, hbw⟩
        have hb1' : (65536 : Int) ≤ (acc : Int) := by omega
        have hb2' : (acc : Int) ≤ 1114111 := by omega
        by_cases hb3 : 55296 ≤ acc
        · have hb3' : (55296 : Int) ≤ (acc : Int) := by omega
          by_cases hb4 : acc < 57344
          · have hS := Lib.hid (show chOf (c :: cs) = 0 by rw [hV.out, hco, fin3_bad (.inr (.inr ⟨hb3, hb4⟩))])
            have hb4' : (acc : Int) < 57344 := by omega
            clear hco hacc hb1 hb2 hb3 hb4
            go_wp2_with fail
            go_ret
            exact ⟨by rw [hS.out]; rfl, hbw⟩
          · have hS := Lib.hid (show chOf (c :: cs) = 4 by rw [hV.out, hco, fin3_good (by omega)])
            have hb4' : (57344 : Int) ≤ (acc : Int) := by omega
            clear hco hacc hb1 hb2 hb3 hb4
            go_wp2_with fail
            go_ret
            exact ⟨by rw [hS.out]; rfl, hbw⟩
        · exfalso; omega

set_option maxHeartbeats 4000000 in
set_option maxRecDepth 100000 in
theorem rUtf8_any (s : ByteArray) (hss : s.size ≤ 140737488355328) (w : World) : Calls Tryd.prog 44 #[.string s] w (Says w (.int .i64 (utfR (s.size + 1) s.data.toList 0))) := by
  have hsl : s.data.toList.length = s.size := rfl
  go_enter Tryd.func44, Tryd.ntmps44
  go_wp2_with fail
  go_loopw [3] (fun vi wr => ∃ p f : Nat, vi = .int .i64 p ∧ p ≤ s.size + 4 ∧ s.size < p + f ∧ Below w.heap.size w wr ∧ utfR (s.size + 1) s.data.toList 0 = utfR f s.data.toList p) (fun vi _ => s.size + 5 - (intOf vi).toNat)
  case atStart => exact ⟨0, s.size + 1, rfl, by omega, by omega, Below.refl _ _, rfl⟩
  case round =>
    obtain ⟨p, f, rfl, hp4, hpf, hbw, hu⟩ := hrel
    by_cases hlt : p < s.size
    · obtain ⟨f', rfl⟩ : ∃ f', f = f' + 1 := ⟨f - 1, by omega⟩
      have hch := one_any s p hlt hss wr
      have hle := chOf_le (s.data.toList.drop p)
      obtain ⟨c, hc⟩ : ∃ c, chOf (s.data.toList.drop p) = c := ⟨_, rfl⟩
      have HC := Lib.hid (hc ▸ hch)
      cases hc0 : ((c : Int) == 0)
      · have hcn : c ≠ 0 := by simpa using hc0
        have HN := Lib.hid (show utfR (s.size + 1) s.data.toList 0 = utfR f' s.data.toList (p + c) from hu.trans (by rw [utfR_next _ _ _ (by omega) (by rw [hc]; exact hcn), hc]))
        rw [hc] at hle
        clear hu hch hc
        go_wp2_with fail
        refine HC.out.mono ?_
        rintro e w2 ⟨rfl, hb2⟩
        have hb3 := hbw.trans (hb2.mono hbw.size)
        go_wp2_with fail
        go_roundw
        case rel => exact ⟨p + c, f', by simp, by omega, by omega, hb3, HN.out⟩
        case measure => simp [intOf]; omega
      · have hcn : c = 0 := by simpa using hc0
        have HN := Lib.hid (show utfR (s.size + 1) s.data.toList 0 = p from hu.trans (utfR_bad _ _ _ (by omega) (by rw [hc]; exact hcn)))
        clear hu hch hc
        subst hcn
        go_wp2_with fail
        refine HC.out.mono ?_
        rintro e w2 ⟨rfl, hb2⟩
        have hb3 := hbw.trans (hb2.mono hbw.size)
        go_wp2_with fail
        go_ret
        exact ⟨by rw [HN.out]; rfl, hb3⟩
    · have hm1 : utfR (s.size + 1) s.data.toList 0 = -1 := by
        rcases f with _ | f'
        · exact hu
        · exact hu.trans (utfR_end _ _ _ (by omega))
      have HN := Lib.hid hm1
      clear hu hm1
      go_wp2_with fail
      go_ret
      exact ⟨by rw [HN.out]; rfl, hbw⟩
end Go.Proofs.YtecmhpncgdjgjaaDoor
