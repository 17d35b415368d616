/-
  What a reader reads off bytes: varints, fixed numbers, texts, tags, records; in plain Lean. Conditions: none.
-/
import Derived.Test.YtecmhpncgdjgjaaDoorJoinPlain
namespace Go.Proofs.YtecmhpncgdjgjaaDoor
open Go.RowKit
set_option linter.unusedVariables false

/-- A varint off the front of bytes, i of its bytes read already, which gave u: the number, the error, how many bytes in all. -/
def rdv (strict : Bool) : Nat → Nat → List UInt8 → Nat × Int × Nat
  | _, _, [] => (0, 20, 0)
  | i, u, c :: cs =>
    if i = 9 ∧ 1 < c.toNat then (0, 21, 0)
    else if 127 < c.toNat then rdv strict (i + 1) (u + (c.toNat % 128) * 128 ^ i) cs
    else if strict = true ∧ 0 < i ∧ c.toNat = 0 then (0, 22, 0)
    else (u + (c.toNat % 128) * 128 ^ i, 0, i + 1)

/-- Or of what does not overlap is a sum. -/
theorem or_low (i u c : Nat) (hu : u < 128 ^ i) (hc : c < 128) : u ||| c * 128 ^ i = u + c * 128 ^ i := by
  have e : (128 : Nat) ^ i = 2 ^ (7 * i) := by rw [show (128 : Nat) = 2 ^ 7 by rfl, ← Nat.pow_mul]
  rw [e] at hu ⊢
  rw [Nat.or_comm, Nat.mul_comm c, ← Nat.two_pow_add_eq_or_of_lt hu, Nat.add_comm]

theorem rdv_nil (st : Bool) (i u : Nat) : rdv st i u [] = (0, 20, 0) := by rw [rdv]
theorem rdv_over (st : Bool) (i u : Nat) (c : UInt8) (cs : List UInt8) (h : i = 9 ∧ 1 < c.toNat) : rdv st i u (c :: cs) = (0, 21, 0) := by rw [rdv, if_pos h]
theorem rdv_more (st : Bool) (i u : Nat) (c : UInt8) (cs : List UInt8) (h : ¬ (i = 9 ∧ 1 < c.toNat)) (h2 : 127 < c.toNat) : rdv st i u (c :: cs) = rdv st (i + 1) (u + (c.toNat % 128) * 128 ^ i) cs := by rw [rdv, if_neg h, if_pos h2]
theorem rdv_longer (st : Bool) (i u : Nat) (c : UInt8) (cs : List UInt8) (h : ¬ (i = 9 ∧ 1 < c.toNat)) (h2 : ¬ 127 < c.toNat) (h3 : st = true ∧ 0 < i ∧ c.toNat = 0) : rdv st i u (c :: cs) = (0, 22, 0) := by rw [rdv, if_neg h, if_neg h2, if_pos h3]
theorem rdv_done (st : Bool) (i u : Nat) (c : UInt8) (cs : List UInt8) (h : ¬ (i = 9 ∧ 1 < c.toNat)) (h2 : ¬ 127 < c.toNat) (h3 : ¬ (st = true ∧ 0 < i ∧ c.toNat = 0)) : rdv st i u (c :: cs) = (u + (c.toNat % 128) * 128 ^ i, 0, i + 1) := by rw [rdv, if_neg h, if_neg h2, if_neg h3]

theorem rdv_facts (st : Bool) (cs : List UInt8) : ∀ (i u : Nat), (rdv st i u cs).2.1 = 0 → i < (rdv st i u cs).2.2 ∧ (rdv st i u cs).2.2 ≤ i + cs.length := by
  induction cs with
  | nil => intro i u h; rw [rdv_nil] at h; simp at h
  | cons c cs ih =>
    intro i u h
    by_cases h1 : i = 9 ∧ 1 < c.toNat
    · rw [rdv_over _ _ _ _ _ h1] at h; simp at h
    by_cases h2 : 127 < c.toNat
    · rw [rdv_more _ _ _ _ _ h1 h2] at h ⊢
      have := ih _ _ h
      simp only [List.length_cons]
      omega
    by_cases h3 : st = true ∧ 0 < i ∧ c.toNat = 0
    · rw [rdv_longer _ _ _ _ _ h1 h2 h3] at h; simp at h
    rw [rdv_done _ _ _ _ _ h1 h2 h3]
    simp only [List.length_cons]
    omega
theorem rdv_err (st : Bool) (cs : List UInt8) : ∀ (i u : Nat), 0 ≤ (rdv st i u cs).2.1 ∧ (rdv st i u cs).2.1 < 100 := by
  induction cs with
  | nil => intro i u; rw [rdv_nil]; simp
  | cons c cs ih =>
    intro i u
    by_cases h1 : i = 9 ∧ 1 < c.toNat
    · rw [rdv_over _ _ _ _ _ h1]; simp
    by_cases h2 : 127 < c.toNat
    · rw [rdv_more _ _ _ _ _ h1 h2]; exact ih _ _
    by_cases h3 : st = true ∧ 0 < i ∧ c.toNat = 0
    · rw [rdv_longer _ _ _ _ _ h1 h2 h3]; simp
    rw [rdv_done _ _ _ _ _ h1 h2 h3]; simp

/-- 64 bits as an int. -/
def s64 (u : Nat) : Int := wrap64 (u : Int)
theorem is64_s64 (u : Nat) : Is64 (s64 u) := is64_wrap _

/-- A varint at a place: number, error, the place behind. -/
def vRd (st : Bool) (b : List UInt8) (p : Nat) : Int × Int × Nat :=
  if (rdv st 0 0 (b.drop p)).2.1 = 0 then (s64 (rdv st 0 0 (b.drop p)).1, 0, p + (rdv st 0 0 (b.drop p)).2.2) else (0, (rdv st 0 0 (b.drop p)).2.1, p)
/-- A number's bytes, the lowest first. -/
def leB : List UInt8 → Nat
  | [] => 0
  | c :: cs => c.toNat + 256 * leB cs
/-- n bytes at a place. -/
def fRd (n : Nat) (b : List UInt8) (p : Nat) : Int × Int × Nat :=
  if b.length < p + n then (0, 20, p) else (s64 (leB ((b.drop p).take n)), 0, p + n)
/-- A text at a place. -/
def tRd (st : Bool) (b : List UInt8) (p : Nat) : List UInt8 × Int × Nat :=
  if (vRd st b p).2.1 = 0 then
    if (vRd st b p).1 < 0 ∨ (b.length : Int) - (vRd st b p).2.2 < (vRd st b p).1 then ([], 20, p)
    else ((b.drop (vRd st b p).2.2).take (vRd st b p).1.toNat, 0, (vRd st b p).2.2 + (vRd st b p).1.toNat)
  else ([], (vRd st b p).2.1, p)
/-- A tag at a place: number, kind, error, the place behind. -/
def gRd (st : Bool) (b : List UInt8) (p : Nat) : Int × Int × Int × Nat :=
  if (vRd st b p).2.1 = 0 then
    if u64 (vRd st b p).1 / 8 < 1 ∨ 536870911 < u64 (vRd st b p).1 / 8 then (0, 0, 24, p)
    else if 5 < u64 (vRd st b p).1 % 8 then (0, 0, 23, p)
    else (((u64 (vRd st b p).1 / 8 : Nat) : Int), ((u64 (vRd st b p).1 % 8 : Nat) : Int), 0, (vRd st b p).2.2)
  else (0, 0, (vRd st b p).2.1, p)
/-- What is behind a tag that is no group's. -/
def cRd (st : Bool) (k : Int) (b : List UInt8) (p : Nat) : Int × List UInt8 × Int × Nat :=
  if k = 0 then ((vRd st b p).1, [], (vRd st b p).2) else if k = 1 then ((fRd 8 b p).1, [], (fRd 8 b p).2) else if k = 2 then (0, tRd st b p) else ((fRd 4 b p).1, [], (fRd 4 b p).2)

theorem vRd_place (st : Bool) (b : List UInt8) (p : Nat) (hp : p ≤ b.length) : (vRd st b p).2.2 ≤ b.length ∧ p ≤ (vRd st b p).2.2 ∧ ((vRd st b p).2.1 = 0 → p < (vRd st b p).2.2) := by
  unfold vRd
  split
  · rename_i h
    have h1 := rdv_facts st (b.drop p) 0 0 h
    rw [List.length_drop] at h1
    refine ⟨?_, ?_, fun _ => ?_⟩ <;> simp only <;> omega
  · rename_i h
    exact ⟨hp, Nat.le_refl _, fun e => absurd e h⟩
theorem vRd_is64 (st : Bool) (b : List UInt8) (p : Nat) : Is64 (vRd st b p).1 := by
  unfold vRd
  split
  · exact is64_s64 _
  · exact ⟨by simp, by simp⟩
theorem vRd_err (st : Bool) (b : List UInt8) (p : Nat) : 0 ≤ (vRd st b p).2.1 ∧ (vRd st b p).2.1 < 100 := by
  unfold vRd
  split
  · simp
  · exact rdv_err _ _ _ _
theorem fRd_place (n : Nat) (b : List UInt8) (p : Nat) (hp : p ≤ b.length) : (fRd n b p).2.2 ≤ b.length ∧ p ≤ (fRd n b p).2.2 := by
  unfold fRd
  split
  · exact ⟨hp, Nat.le_refl _⟩
  · exact ⟨by simp only; omega, by simp only; omega⟩
theorem fRd_is64 (n : Nat) (b : List UInt8) (p : Nat) : Is64 (fRd n b p).1 := by
  unfold fRd
  split
  · exact ⟨by simp, by simp⟩
  · exact is64_s64 _
theorem tRd_place (st : Bool) (b : List UInt8) (p : Nat) (hp : p ≤ b.length) : (tRd st b p).2.2 ≤ b.length ∧ p ≤ (tRd st b p).2.2 ∧ (tRd st b p).1.length ≤ b.length := by
  have h := vRd_place st b p hp
  unfold tRd
  split
  · split
    · exact ⟨hp, Nat.le_refl _, by simp⟩
    · refine ⟨by simp only; omega, by simp only; omega, ?_⟩
      simp only [List.length_take, List.length_drop]
      omega
  · exact ⟨hp, Nat.le_refl _, by simp⟩
theorem gRd_place (st : Bool) (b : List UInt8) (p : Nat) (hp : p ≤ b.length) : (gRd st b p).2.2.2 ≤ b.length ∧ p ≤ (gRd st b p).2.2.2 ∧ ((gRd st b p).2.2.1 = 0 → p < (gRd st b p).2.2.2) ∧ ((gRd st b p).2.2.1 ≠ 0 → (gRd st b p).2.2.2 = p) := by
  have h := vRd_place st b p hp
  unfold gRd
  split
  · rename_i h0
    split
    · exact ⟨hp, Nat.le_refl _, fun e => by simp at e, fun _ => rfl⟩
    · split
      · exact ⟨hp, Nat.le_refl _, fun e => by simp at e, fun _ => rfl⟩
      · exact ⟨h.1, h.2.1, fun _ => h.2.2 h0, fun e => by simp at e⟩
  · rename_i h0
    exact ⟨hp, Nat.le_refl _, fun e => absurd e h0, fun _ => rfl⟩
theorem gRd_nums (st : Bool) (b : List UInt8) (p : Nat) (h : (gRd st b p).2.2.1 = 0) : 1 ≤ (gRd st b p).1 ∧ (gRd st b p).1 ≤ 536870911 ∧ 0 ≤ (gRd st b p).2.1 ∧ (gRd st b p).2.1 ≤ 5 := by
  revert h
  unfold gRd
  split
  · split
    · intro h; simp at h
    · split
      · intro h; simp at h
      · intro _
        simp only
        omega
  · rename_i h0
    intro h; exact absurd h h0
theorem cRd_place (st : Bool) (k : Int) (b : List UInt8) (p : Nat) (hp : p ≤ b.length) : (cRd st k b p).2.2.2 ≤ b.length ∧ p ≤ (cRd st k b p).2.2.2 ∧ (cRd st k b p).2.1.length ≤ b.length ∧ Is64 (cRd st k b p).1 := by
  have hv := vRd_place st b p hp
  have hf8 := fRd_place 8 b p hp
  have hf4 := fRd_place 4 b p hp
  have ht := tRd_place st b p hp
  unfold cRd
  split
  · exact ⟨hv.1, hv.2.1, by simp, vRd_is64 _ _ _⟩
  · split
    · exact ⟨hf8.1, hf8.2, by simp, fRd_is64 _ _ _⟩
    · split
      · exact ⟨ht.1, ht.2.1, ht.2.2, ⟨by simp, by simp⟩⟩
      · exact ⟨hf4.1, hf4.2, by simp, fRd_is64 _ _ _⟩

/-- The records up to the end of the group of that number (open 0: of the bytes), group depth most; f: fuel. -/
def recsR (st : Bool) (b : List UInt8) (most : Nat) : Nat → Int → Nat → Nat → List Rec × Int × Nat
  | 0, _, _, p => ([], 20, p)
  | f + 1, number, op, p =>
    if b.length ≤ p then (if 0 < op then ([], 20, p) else ([], 0, p))
    else
      if (gRd st b p).2.2.1 ≠ 0 then ([], (gRd st b p).2.2.1, p)
      else if (gRd st b p).2.1 = 4 then (if op = 0 ∨ (gRd st b p).1 ≠ number then ([], 25, p) else ([], 0, (gRd st b p).2.2.2))
      else if (gRd st b p).2.1 = 3 then
        if op = most then ([], 4, p)
        else
          let i := recsR st b most f (gRd st b p).1 (op + 1) (gRd st b p).2.2.2
          if i.2.1 ≠ 0 then ([], i.2.1, i.2.2)
          else
            let o := recsR st b most f number op i.2.2
            if o.2.1 ≠ 0 then ([], o.2.1, o.2.2) else (.mk (gRd st b p).1 3 0 [] i.1 :: o.1, 0, o.2.2)
      else
        let c := cRd st (gRd st b p).2.1 b (gRd st b p).2.2.2
        if c.2.2.1 ≠ 0 then ([], c.2.2.1, c.2.2.2)
        else
          let o := recsR st b most f number op c.2.2.2
          if o.2.1 ≠ 0 then ([], o.2.1, o.2.2) else (.mk (gRd st b p).1 (gRd st b p).2.1 c.1 c.2.1 [] :: o.1, 0, o.2.2)

/-- Records ahead of an answer. -/
def pre (acc : List Rec) (r : List Rec × Int × Nat) : List Rec × Int × Nat := if r.2.1 = 0 then (acc ++ r.1, 0, r.2.2) else ([], r.2.1, r.2.2)
theorem pre_nil {r : List Rec × Int × Nat} (h : r.2.1 ≠ 0 → r.1 = []) : pre [] r = r := by
  unfold pre
  split
  · rename_i h0; obtain ⟨a, e, p⟩ := r; simp only at h0; subst h0; rfl
  · rename_i h0; obtain ⟨a, e, p⟩ := r; simp only at h0 h; rw [h h0]
theorem pre_pre (acc : List Rec) (x : Rec) (o : List Rec × Int × Nat) : pre acc (if o.2.1 ≠ 0 then ([], o.2.1, o.2.2) else (x :: o.1, 0, o.2.2)) = pre (acc ++ [x]) o := by
  unfold pre
  by_cases h : o.2.1 = 0
  · simp [h]
  · simp [h]

theorem recsR_end (st : Bool) (b : List UInt8) (most f : Nat) (number : Int) (op p : Nat) (h : b.length ≤ p) : recsR st b most (f + 1) number op p = (if 0 < op then ([], 20, p) else ([], 0, p)) := by rw [recsR, if_pos h]
theorem recsR_tag (st : Bool) (b : List UInt8) (most f : Nat) (number : Int) (op p : Nat) (h : ¬ b.length ≤ p) (h1 : (gRd st b p).2.2.1 ≠ 0) : recsR st b most (f + 1) number op p = ([], (gRd st b p).2.2.1, p) := by rw [recsR, if_neg h, if_pos h1]
theorem recsR_4 (st : Bool) (b : List UInt8) (most f : Nat) (number : Int) (op p : Nat) (h : ¬ b.length ≤ p) (h1 : (gRd st b p).2.2.1 = 0) (h2 : (gRd st b p).2.1 = 4) : recsR st b most (f + 1) number op p = (if op = 0 ∨ (gRd st b p).1 ≠ number then ([], 25, p) else ([], 0, (gRd st b p).2.2.2)) := by rw [recsR, if_neg h, if_neg (by simpa using h1), if_pos h2]
theorem recsR_deep (st : Bool) (b : List UInt8) (most f : Nat) (number : Int) (op p : Nat) (h : ¬ b.length ≤ p) (h1 : (gRd st b p).2.2.1 = 0) (h2 : (gRd st b p).2.1 = 3) (h3 : op = most) : recsR st b most (f + 1) number op p = ([], 4, p) := by
  rw [recsR, if_neg h, if_neg (by simpa using h1), if_neg (by rw [h2]; omega), if_pos h2, if_pos h3]
theorem recsR_3 (st : Bool) (b : List UInt8) (most f : Nat) (number : Int) (op p : Nat) (h : ¬ b.length ≤ p) (h1 : (gRd st b p).2.2.1 = 0) (h2 : (gRd st b p).2.1 = 3) (h3 : op ≠ most) (acc : List Rec) :
    pre acc (recsR st b most (f + 1) number op p) = (if (recsR st b most f (gRd st b p).1 (op + 1) (gRd st b p).2.2.2).2.1 ≠ 0 then ([], (recsR st b most f (gRd st b p).1 (op + 1) (gRd st b p).2.2.2).2) else pre (acc ++ [.mk (gRd st b p).1 3 0 [] (recsR st b most f (gRd st b p).1 (op + 1) (gRd st b p).2.2.2).1]) (recsR st b most f number op (recsR st b most f (gRd st b p).1 (op + 1) (gRd st b p).2.2.2).2.2)) := by
  rw [recsR, if_neg h, if_neg (by simpa using h1), if_neg (by rw [h2]; omega), if_pos h2, if_neg h3]
  simp only
  split
  · rename_i h4
    simp [pre, h4]
  · exact pre_pre _ _ _
theorem recsR_c (st : Bool) (b : List UInt8) (most f : Nat) (number : Int) (op p : Nat) (h : ¬ b.length ≤ p) (h1 : (gRd st b p).2.2.1 = 0) (h2 : (gRd st b p).2.1 ≠ 3) (h3 : (gRd st b p).2.1 ≠ 4) (acc : List Rec) :
    pre acc (recsR st b most (f + 1) number op p) = (if (cRd st (gRd st b p).2.1 b (gRd st b p).2.2.2).2.2.1 ≠ 0 then ([], (cRd st (gRd st b p).2.1 b (gRd st b p).2.2.2).2.2) else pre (acc ++ [.mk (gRd st b p).1 (gRd st b p).2.1 (cRd st (gRd st b p).2.1 b (gRd st b p).2.2.2).1 (cRd st (gRd st b p).2.1 b (gRd st b p).2.2.2).2.1 []]) (recsR st b most f number op (cRd st (gRd st b p).2.1 b (gRd st b p).2.2.2).2.2.2)) := by
  rw [recsR, if_neg h, if_neg (by simpa using h1), if_neg h3, if_neg h2]
  simp only
  split
  · rename_i h4
    simp [pre, h4]
  · exact pre_pre _ _ _

theorem recsR_facts (st : Bool) (b : List UInt8) (most : Nat) (f : Nat) : ∀ (number : Int) (op p : Nat), p ≤ b.length → ((recsR st b most f number op p).2.1 ≠ 0 → (recsR st b most f number op p).1 = []) ∧ p ≤ (recsR st b most f number op p).2.2 ∧ (recsR st b most f number op p).2.2 ≤ b.length ∧ ((recsR st b most f number op p).1.length ≤ (recsR st b most f number op p).2.2 - p) := by
  induction f with
  | zero => intro number op p hp; rw [recsR]; simp [hp]
  | succ f ih =>
    intro number op p hp
    have hg := gRd_place st b p hp
    by_cases h : b.length ≤ p
    · rw [recsR_end _ _ _ _ _ _ _ h]; split <;> simp [hp]
    by_cases h1 : (gRd st b p).2.2.1 = 0
    · have hgn := gRd_nums st b p h1
      have hgl := hg.2.2.1 h1
      by_cases h4 : (gRd st b p).2.1 = 4
      · rw [recsR_4 _ _ _ _ _ _ _ h h1 h4]
        split
        · simp [hp]
        · simp [hg]
      by_cases h3 : (gRd st b p).2.1 = 3
      · by_cases h5 : op = most
        · rw [recsR_deep _ _ _ _ _ _ _ h h1 h3 h5]; simp [hp]
        · have h6 := recsR_3 st b most f number op p h h1 h3 h5 []
          have hi := ih (gRd st b p).1 (op + 1) (gRd st b p).2.2.2 hg.1
          rw [recsR, if_neg h, if_neg (by simpa using h1), if_neg h4, if_pos h3, if_neg h5]
          simp only
          split
          · refine ⟨fun _ => rfl, ?_, hi.2.2.1, by simp⟩
            simp only; omega
          · have ho := ih number op _ hi.2.2.1
            split
            · refine ⟨fun _ => rfl, ?_, ho.2.2.1, by simp⟩
              simp only; omega
            · refine ⟨fun e => by simp at e, ?_, ho.2.2.1, ?_⟩
              · simp only; omega
              · simp only [List.length_cons]; omega
      · have hc := cRd_place st (gRd st b p).2.1 b (gRd st b p).2.2.2 hg.1
        rw [recsR, if_neg h, if_neg (by simpa using h1), if_neg h4, if_neg h3]
        simp only
        split
        · refine ⟨fun _ => rfl, ?_, hc.1, by simp⟩
          simp only; omega
        · have ho := ih number op _ hc.1
          split
          · refine ⟨fun _ => rfl, ?_, ho.2.2.1, by simp⟩
            simp only; omega
          · refine ⟨fun e => by simp at e, ?_, ho.2.2.1, ?_⟩
            · simp only; omega
            · simp only [List.length_cons]; omega
    · rw [recsR_tag _ _ _ _ _ _ _ h h1]; simp [hp]
end Go.Proofs.YtecmhpncgdjgjaaDoor
