/-
  The Go function quoted of package shell, walked: the quoted word that a line begins with and how many bytes it has; 0: there is none. Conditions: the line begins with a quote, and has at most 2 to the 45th bytes.
-/
import Derived.Test.YtiocgdegaabnmaaBare
import Derived.Test.YtiocgdegaabnmaaBuild
namespace Go.Proofs.Ytiocgdegaabnmaa
open Go.RowKit

/-- What holds at each rune of a quoted word: the bytes up to nx are taken (they stand for acc); what lies between nx and the rune stands for itself; or the rune lies in an escape that is taken. -/
def QR (l : List UInt8) (pos nx : Nat) (acc : List UInt8) : Prop :=
  pos ≤ l.length ∧ QAt l nx acc ∧ acc.length ≤ nx ∧
    ((nx ≤ pos ∧ ∀ j, nx ≤ j → j < pos → ∀ c, l[j]? = some c → isIn c = true) ∨ (pos < nx ∧ ∀ j, pos ≤ j → j < nx → ∀ c, l[j]? = some c → c.toNat < 128))

theorem QR.start {l : List UInt8} (h : l[0]? = some 34) : QR l 0 1 [] := by
  refine ⟨Nat.zero_le _, QAt.start h, by simp, .inr ⟨by omega, fun j h1 h2 c hc => ?_⟩⟩
  obtain rfl : j = 0 := by omega
  rw [h] at hc
  cases hc
  decide

theorem QR.skip {l : List UInt8} {pos nx : Nat} {acc : List UInt8} (h : QR l pos nx acc) (hlt : pos < nx) : QR l (pos + 1) nx acc := by
  obtain ⟨h1, h2, h3, h4⟩ := h
  refine ⟨by have := h2.1; omega, h2, h3, ?_⟩
  rcases h4 with ⟨h, _⟩ | ⟨_, h⟩
  · omega
  · rcases Nat.lt_or_ge (pos + 1) nx with h5 | h5
    · exact .inr ⟨h5, fun j a b c => h j (by omega) b c⟩
    · exact .inl ⟨h5, fun j a b c => by omega⟩

theorem mem_mid {l : List UInt8} {a b : Nat} {c : UInt8} (h : c ∈ (l.drop a).take (b - a)) : ∃ j, a ≤ j ∧ j < b ∧ l[j]? = some c := by
  obtain ⟨j, hj⟩ := List.mem_iff_getElem?.1 h
  have hlt : j < b - a := by
    rcases Nat.lt_or_ge j (b - a) with h1 | h1
    · exact h1
    · rw [List.getElem?_eq_none (by rw [List.length_take]; omega)] at hj; cases hj
  rw [List.getElem?_take_of_lt hlt, List.getElem?_drop] at hj
  exact ⟨a + j, by omega, by omega, hj⟩

/-- The bytes up to the rune are written. -/
theorem QR.wrote {l : List UInt8} {pos nx : Nat} {acc : List UInt8} (h : QR l pos nx acc) (hle : nx ≤ pos) : QAt l pos (acc ++ (l.drop nx).take (pos - nx)) ∧ (acc ++ (l.drop nx).take (pos - nx)).length ≤ pos := by
  obtain ⟨h1, h2, h3, h4⟩ := h
  rcases h4 with ⟨_, h⟩ | ⟨h, _⟩
  · have hq := h2.plain (m := pos - nx) (by omega) fun c hc => by
      obtain ⟨j, a, b, hj⟩ := mem_mid hc
      exact h j a b c hj
    rw [show nx + (pos - nx) = pos by omega] at hq
    refine ⟨hq, ?_⟩
    rw [List.length_append, List.length_take]
    omega
  · omega

theorem QR.goes {l : List UInt8} {pos k : Nat} {acc : List UInt8} (h : QAt l pos acc) (hl : acc.length ≤ pos) (hk : pos + k ≤ l.length) (hb : ∀ j, pos ≤ j → j < pos + k → ∀ c, l[j]? = some c → isIn c = true) : QR l (pos + k) pos acc :=
  ⟨hk, h, hl, .inl ⟨by omega, hb⟩⟩

theorem QR.escaped {l : List UInt8} {pos n : Nat} {acc : List UInt8} {x : UInt8} (h : QAt l pos acc) (hl : acc.length ≤ pos) (h92 : l[pos]? = some 92) (he : escOf (l.drop pos) = some (x, n)) :
    QR l (pos + 1) (pos + n) (acc ++ [x]) ∧ 2 ≤ n ∧ pos + n ≤ l.length := by
  obtain ⟨h1, h2, h3, h4⟩ := h.esc h92 he
  refine ⟨⟨by omega, h1, ?_, .inr ⟨by omega, fun j a b => h4 j (by omega) b⟩⟩, h2, h3⟩
  rw [List.length_append, List.length_singleton]
  omega

/-- The rune at a place of a text: a quote, a backslash, another byte that may not stand in a quoted word, or one whose bytes stand for themselves. -/
theorem rune_in (s : ByteArray) (pos : Nat) (hp : pos < s.size) :
    (s.data.toList[pos]? = some 34 ∧ Utf8.decode s pos = (34, 1)) ∨ (s.data.toList[pos]? = some 92 ∧ Utf8.decode s pos = (92, 1)) ∨
    (∃ c : UInt8, s.data.toList[pos]? = some c ∧ Utf8.decode s pos = (c.toNat, 1) ∧ isCtl c = true ∧ c ≠ 34 ∧ c ≠ 92 ∧ ((c.toNat : Int) == 34) = false ∧ ((c.toNat : Int) == 92) = false ∧ ((c.toNat : Int) < 32 ∨ (32 ≤ (c.toNat : Int) ∧ ((c.toNat : Int) == 127) = true))) ∨
    (∃ r k : Nat, Utf8.decode s pos = (r, k) ∧ 1 ≤ k ∧ pos + k ≤ s.size ∧ 32 ≤ (r : Int) ∧ ((r : Int) == 127) = false ∧ ((r : Int) == 34) = false ∧ ((r : Int) == 92) = false ∧ ∀ j, pos ≤ j → j < pos + k → ∀ c, s.data.toList[j]? = some c → isIn c = true) := by
  have hat := at_list hp
  by_cases ha : (s[pos]'hp).toNat < 128
  · have hdec := decode_ascii s pos hp ha
    generalize s[pos]'hp = c at hat ha hdec
    by_cases h34 : c = 34
    · subst h34; exact .inl ⟨hat, hdec⟩
    · by_cases h92 : c = 92
      · subst h92; exact .inr (.inl ⟨hat, hdec⟩)
      · have n34 : c.toNat ≠ 34 := fun e => h34 (UInt8.toNat_inj.1 e)
        have n92 : c.toNat ≠ 92 := fun e => h92 (UInt8.toNat_inj.1 e)
        have b34 : ((c.toNat : Int) == 34) = false := by rw [beq_eq_false_iff_ne]; omega
        have b92 : ((c.toNat : Int) == 92) = false := by rw [beq_eq_false_iff_ne]; omega
        by_cases hctl : isCtl c = true
        · refine .inr (.inr (.inl ⟨c, hat, hdec, hctl, h34, h92, b34, b92, ?_⟩))
          simp only [isCtl, Bool.or_eq_true, decide_eq_true_eq, beq_iff_eq] at hctl
          by_cases h32 : c.toNat < 32
          · exact .inl (by omega)
          · rcases hctl with h | rfl
            · omega
            · exact .inr ⟨by omega, rfl⟩
        · have hn : ¬ c.toNat < 32 ∧ c ≠ 127 := by
            simp only [isCtl, Bool.or_eq_true, decide_eq_true_eq, beq_iff_eq, not_or] at hctl
            exact hctl
          have n127 : c.toNat ≠ 127 := fun e => hn.2 (UInt8.toNat_inj.1 e)
          refine .inr (.inr (.inr ⟨c.toNat, 1, hdec, by omega, by omega, by omega, by rw [beq_eq_false_iff_ne]; omega, b34, b92, fun j h1 h2 x hx => ?_⟩))
          obtain rfl : j = pos := by omega
          rw [hat] at hx
          cases hx
          simp [isIn, h34, h92, hctl]
  · obtain ⟨h1, h2⟩ := decode_high s pos hp (by omega)
    obtain ⟨h3, h4⟩ := decode_bytes s pos hp (by omega)
    generalize hdec : Utf8.decode s pos = d at h1 h2 h3 h4
    obtain ⟨r, k⟩ := d
    simp only at h1 h2 h3 h4
    refine .inr (.inr (.inr ⟨r, k, rfl, h2, h3, by omega, by rw [beq_eq_false_iff_ne]; omega, by rw [beq_eq_false_iff_ne]; omega, by rw [beq_eq_false_iff_ne]; omega, fun j h5 h6 x hx => ?_⟩))
    obtain ⟨hj, rfl⟩ := list_at hx
    exact (high_bare _ (h4 j hj h5 h6)).2

theorem decode_low {s : ByteArray} {pos : Nat} (hp : pos < s.size) (h : ∀ c, s.data.toList[pos]? = some c → c.toNat < 128) : ∃ c : UInt8, Utf8.decode s pos = (c.toNat, 1) := by
  have hat := at_list hp
  exact ⟨s[pos]'hp, decode_ascii s pos hp (h _ hat)⟩

set_option maxHeartbeats 4000000 in
set_option maxRecDepth 100000 in
theorem quoted_any (s : ByteArray) (w : World) (hs : s.size ≤ 35184372088832) (h0 : 0 < s.size) (hq0 : Hid (s.data.toList[0]? = some 34)) :
    Calls Try.prog 22 #[.string s] w fun e w' => Took s e ∧ Below w.heap.size w w' := by
  go_enter Try.func22, Try.ntmps22
  go_wp2
  go_step3
  go_wp2
  go_step3
  go_wp2
  go_loopw [5, 6] (fun v5 v6 wr => ∃ (pos nx : Nat) (acc : List UInt8), v5 = .int .i64 nx ∧ v6 = .int .i64 0 ∧ wr.heap[w.heap.size + 1]? = some (.stringIter s pos) ∧ Bld w.heap.size w.heap.size acc wr ∧ Below w.heap.size w wr ∧ QR s.data.toList pos nx acc) (fun _ _ wr => s.size - wr.iterPos (w.heap.size + 1))
  case atStart =>
    refine ⟨0, 1, [], rfl, rfl, ?_, (Lib.IsBuilderF.of (Lib.fresh_isBuilder 54 5 w)).alloc _, ((Below.refl _ w).alloc (Nat.le_refl _) _).alloc (by simp) _, QR.start hq0.out⟩
    have := World.iter_heap (w.alloc (.cells #[.pointer none, .slice none 0 0] 54)) s 0
    simpa using this
  case round =>
    obtain ⟨pos, nx, acc, rfl, rfl, hit, hI, hbw, hqr⟩ := hrel
    have hsz : w.heap.size + 1 < wr.heap.size := (Array.getElem?_eq_some_iff.1 hit).1
    have hlen : s.data.toList.length = s.size := by simp
    have hple : pos ≤ s.size := by have := hqr.1; omega
    have hnle : nx ≤ s.size := by have := hqr.2.1.1; omega
    have hal : acc.length ≤ nx := hqr.2.2.1
    have HLEN := Lib.hid hlen
    clear hlen
    by_cases hp : pos < s.size
    · have hnx : ∀ ty, (Instr.next (.pointer (some ⟨w.heap.size + 1, 0, none⟩)) true ty).run Try.prog wr = _ := fun ty => Lib.run_next_any_at wr (w.heap.size + 1) s pos ty hit hp
      have hit2 := Lib.iterAt_heap wr (w.heap.size + 1) s pos (pos + (Utf8.decode s pos).2) hit
      have hI2 : Bld w.heap.size w.heap.size acc _ := hI.iterAt hit (pos + (Utf8.decode s pos).2)
      have hbw2 := Lib.below_iterAt hbw (k := w.heap.size + 1) (by omega) s (pos + (Utf8.decode s pos).2)
      have hsz2 : w.heap.size + 1 < (wr.iterAt (w.heap.size + 1) s (pos + (Utf8.decode s pos).2)).heap.size := by rw [Lib.iterAt_size]; omega
      by_cases hlt : pos < nx
      · have hlow : ∀ c, s.data.toList[pos]? = some c → c.toNat < 128 := by
          rcases hqr.2.2.2 with ⟨h, _⟩ | ⟨_, h⟩
          · omega
          · exact h pos (Nat.le_refl _) hlt
        obtain ⟨c, hdec⟩ := decode_low hp hlow
        rw [hdec] at hit2 hI2 hbw2
        simp only [hdec] at hnx
        clear hdec hlow
        go_wp2
        go_roundw
        case rel => exact ⟨pos + 1, nx, acc, rfl, rfl, hit2, hI2, hbw2, hqr.skip hlt⟩
        case measure =>
          simp only [World.iterPos, hit2, hit]
          omega
      · have hge : nx ≤ pos := by omega
        obtain ⟨hQ, hacc⟩ := hqr.wrote hge
        have HQ := Lib.hid hQ
        have HACC := Lib.hid hacc
        have hxs : (s.extract nx pos).size ≤ s.size := by rw [ByteArray.size_extract]; omega
        clear hQ hacc hqr
        rcases rune_in s pos hp with ⟨hat, hdec⟩ | ⟨hat, hdec⟩ | ⟨c, hat, hdec, hctl, h34, h92, b34, b92, hci⟩ | ⟨r, k, hdec, hk1, hk2, hr1, hr2, hr3, hr4, hbytes⟩
        · rw [hdec] at hit2 hI2 hbw2 hsz2
          simp only [hdec] at hnx
          have HAT := Lib.hid hat
          clear hdec hat
          go_wp2_with (go_at_call 26; refine (writeString_any w.heap.size w.heap.size acc _ _ hI2 (by omega) (by omega)).mono ?_)
          rintro e W1 rfl h1 b1 k1
          have hbW := hbw2.trans b1
          have hz := b1.size
          have hz1 : w.heap.size ≤ W1.heap.size := by omega
          have he0 : (((pos : Int) + 1) == 0) = false := by rw [beq_eq_false_iff_ne]; omega
          by_cases hend : pos + 1 < s.size
          · have hat1 := at_list hend
            obtain ⟨c1, hc1⟩ : ∃ c1, s[pos + 1]'hend = c1 := ⟨_, rfl⟩
            rw [hc1] at hat1
            have hc256 := c1.toNat_lt
            have HAT1 := Lib.hid hat1
            clear hat1
            by_cases hbl : isBlank c1 = true
            · have hci : (c1.toNat : Int) = 32 ∨ (c1.toNat : Int) = 9 := by have := (isBlank_iff c1).1 hbl; omega
              have HCI := Lib.hid hci
              have hfin := HQ.out.close HAT.out fun x hx => by rw [HAT1.out] at hx; cases hx; exact hbl
              have HFIN := Lib.hid hfin
              clear hci hbl hfin
              go_wp2_with fail
              refine (blank_yes _ _ HCI.out).mono ?_
              rintro e w' ⟨rfl, rfl⟩
              go_wp2_with fail
              refine (Try.Builder_String_any_k w.heap.size w.heap.size _ _ h1 hz1).mono ?_
              rintro e w' ⟨rfl, _, b2, _⟩
              go_wp2
              rw [Exit.noGoto_ret]
              go_ret2
              exact ⟨⟨_, pos + 1, rfl, HFIN.out⟩, hbW.trans b2⟩
            · have hci : (c1.toNat : Int) ≠ 32 ∧ (c1.toNat : Int) ≠ 9 := by
                have : ¬ (c1.toNat = 32 ∨ c1.toNat = 9) := fun h => hbl ((isBlank_iff c1).2 h)
                omega
              have HCI := Lib.hid hci
              have hfin := HQ.out.closeNone HAT.out HAT1.out (by simpa using hbl) []
              have HFIN := Lib.hid hfin
              clear hci hbl hfin
              go_wp2_with fail
              refine (blank_no _ _ HCI.out).mono ?_
              rintro e w' ⟨rfl, rfl⟩
              go_wp2
              rw [Exit.noGoto_ret]
              go_ret2
              exact ⟨⟨⟨#[]⟩, 0, rfl, HFIN.out⟩, hbW⟩
          · have hfin := HQ.out.close HAT.out fun x hx => by rw [List.getElem?_eq_none (by rw [HLEN.out]; omega)] at hx; cases hx
            have HFIN := Lib.hid hfin
            clear hfin
            go_wp2_with fail
            refine (Try.Builder_String_any_k w.heap.size w.heap.size _ _ h1 hz1).mono ?_
            rintro e w' ⟨rfl, _, b2, _⟩
            go_wp2
            rw [Exit.noGoto_ret]
            go_ret2
            exact ⟨⟨_, pos + 1, rfl, HFIN.out⟩, hbW.trans b2⟩
        · rw [hdec] at hit2 hI2 hbw2 hsz2
          simp only [hdec] at hnx
          have HAT := Lib.hid hat
          clear hdec hat
          have hxe : (s.extract pos s.size).data.toList = s.data.toList.drop pos := by rw [extract_list, List.take_of_length_le (by simp)]
          have HXE := Lib.hid hxe
          clear hxe
          have hxsz : (s.extract pos s.size).size ≤ 9223372036854775807 := by rw [ByteArray.size_extract]; omega
          have hesc := fun wx => escape_any (s.extract pos s.size) wx hxsz
          rw [HXE.out] at hesc
          cases he : escOf (s.data.toList.drop pos) with
          | none =>
            have hv : escV (s.data.toList.drop pos) = (0, 0) := by unfold escV; rw [he]; rfl
            rw [hv] at hesc
            have hfin := HQ.out.escNone HAT.out he []
            have HFIN := Lib.hid hfin
            have HESC := Lib.hid hesc
            clear hv he hfin hesc
            go_wp2_with (go_at_call 26; refine (writeString_any w.heap.size w.heap.size acc _ _ hI2 (by omega) (by omega)).mono ?_)
            rintro e W1 rfl h1 b1 k1
            have hbW := hbw2.trans b1
            go_wp2_with fail
            refine (HESC.out _).mono ?_
            rintro e w2 ⟨rfl, q, hw2⟩
            have hbW2 : Below w.heap.size w w2 := by rw [hw2]; exact hbW.trans ⟨rfl, rfl, rfl, Nat.le_refl _, fun _ _ => rfl⟩
            clear hw2
            go_wp2
            rw [Exit.noGoto_ret]
            go_ret2
            exact ⟨⟨⟨#[]⟩, 0, rfl, HFIN.out⟩, hbW2⟩
          | some xn =>
            obtain ⟨x, n⟩ := xn
            have hv : escV (s.data.toList.drop pos) = (x, n) := by unfold escV; rw [he]; rfl
            rw [hv] at hesc
            obtain ⟨hfin, hn2, hnl⟩ := QR.escaped HQ.out HACC.out HAT.out he
            rw [HLEN.out] at hnl
            have hn0 : ((n : Int) == 0) = false := by rw [beq_eq_false_iff_ne]; omega
            have HFIN := Lib.hid hfin
            have HESC := Lib.hid hesc
            clear hv he hfin hesc
            go_wp2_with (go_at_call 26; refine (writeString_any w.heap.size w.heap.size acc _ _ hI2 (by omega) (by omega)).mono ?_)
            rintro e W1 rfl h1 b1 k1
            have hit3 := k1.iter hit2 (by omega)
            have hbW := hbw2.trans b1
            have hz := b1.size
            go_wp2_with fail
            refine (HESC.out _).mono ?_
            rintro e w2 ⟨rfl, q, hw2⟩
            have hbW2 : Below w.heap.size w w2 := by rw [hw2]; exact hbW.trans ⟨rfl, rfl, rfl, Nat.le_refl _, fun _ _ => rfl⟩
            have h12 : Bld w.heap.size w.heap.size (acc ++ List.take (pos - nx) (List.drop nx s.data.toList)) w2 := by rw [hw2]; exact h1
            have hit4 : w2.heap[w.heap.size + 1]? = some (.stringIter s (pos + 1)) := by rw [hw2]; exact hit3
            have hz2 : w.heap.size + 1 < w2.heap.size := (Array.getElem?_eq_some_iff.1 hit4).1
            have hlb : (acc ++ List.take (pos - nx) (List.drop nx s.data.toList)).length + 1 ≤ 140737488355328 := by have := HACC.out; omega
            clear hw2
            go_wp2_with (go_at_call 28; refine (writeByte_any w.heap.size w.heap.size _ x _ h12 hlb (by omega)).mono ?_)
            rintro e W3 ⟨rfl, h3, b3, k3⟩
            have hit5 := k3.iter hit4 (by omega)
            go_wp2
            go_roundw
            case rel => exact ⟨pos + 1, pos + n, _, by go_num, rfl, hit5, h3, hbW2.trans b3, HFIN.out⟩
            case measure =>
              simp only [World.iterPos, hit5, hit]
              omega
        · rw [hdec] at hit2 hI2 hbw2 hsz2
          simp only [hdec] at hnx
          have hfin := HQ.out.ctl hat hctl h34 h92 []
          have HFIN := Lib.hid hfin
          clear hdec hat hctl h34 h92 hfin
          rcases hci with hci | ⟨hci, hci2⟩
          all_goals
            go_wp2_with (go_at_call 26; refine (writeString_any w.heap.size w.heap.size acc _ _ hI2 (by omega) (by omega)).mono ?_)
            rintro e W1 rfl h1 b1 k1
            go_wp2
            rw [Exit.noGoto_ret]
            go_ret2
            exact ⟨⟨⟨#[]⟩, 0, rfl, HFIN.out⟩, hbw2.trans b1⟩
        · rw [hdec] at hit2 hI2 hbw2 hsz2
          simp only [hdec] at hnx
          have HB := Lib.hid hbytes
          clear hdec hbytes
          go_wp2_with (go_at_call 26; refine (writeString_any w.heap.size w.heap.size acc _ _ hI2 (by omega) (by omega)).mono ?_)
          rintro e W1 rfl h1 b1 k1
          have hit3 := k1.iter hit2 (by omega)
          go_wp2
          go_roundw
          case rel => exact ⟨pos + k, pos, _, rfl, rfl, hit3, h1, hbw2.trans b1, QR.goes HQ.out HACC.out (by rw [HLEN.out]; exact hk2) HB.out⟩
          case measure =>
            simp only [World.iterPos, hit3, hit]
            omega
    · have hnx : ∀ ty, (Instr.next (.pointer (some ⟨w.heap.size + 1, 0, none⟩)) true ty).run Try.prog wr = _ := fun ty => Lib.run_next_end_at wr (w.heap.size + 1) s pos ty hit hp
      have hge : nx ≤ pos := by omega
      obtain ⟨hQ, hacc⟩ := hqr.wrote hge
      have hfin := hQ.ends (by rw [HLEN.out]; omega) []
      have HFIN := Lib.hid hfin
      clear hQ hacc hfin hqr
      go_wp2
      rw [Exit.noGoto_ret]
      go_ret2
      exact ⟨⟨⟨#[]⟩, 0, rfl, HFIN.out⟩, hbw⟩
end Go.Proofs.Ytiocgdegaabnmaa
