/-
  known of the statements, walked: it answers true. Conditions: the rows of characters lie as they are laid. (Printed by gen_known.py.)
-/
import Derived.Test.YtecmhpncgdjgjaaDoorKnownA
import Derived.Test.YtecmhpncgdjgjaaDoorUtf
namespace Go.Proofs.YtecmhpncgdjgjaaDoor
open Go.RowKit
set_option linter.unusedVariables false
set_option linter.unusedSimpArgs false

theorem k_utf : utfR ((⟨#[97, 255]⟩ : ByteArray).size + 1) (⟨#[97, 255]⟩ : ByteArray).data.toList 0 = 1 := by kernel_rfl
theorem kRecs_ok : ∀ k (hk : k < kRecs.length), RecOk (kRecs[k]'hk) := by
  intro k hk
  have h : k = 0 ∨ k = 1 := by simp [kRecs] at hk; omega
  rcases h with rfl | rfl <;> exact ⟨by simp [Is64, kRecs, Rec.number], by simp [Is64, kRecs, Rec.kind], by simp [Is64, kRecs, Rec.num], by simp [kRecs, Rec.text]⟩

theorem k_lit_recs (w : World) (cs : Array Value) (h : cs = #[.int .i64 1, .int .i64 0, .int .i64 150, .string ⟨#[]⟩, .slice none 0 0, .int .i64 2, .int .i64 2, .int .i64 0, .string ⟨#[104, 105]⟩, .slice none 0 0]) :
    Reads (w.alloc (.cells cs 53)) (.slice (some ⟨w.heap.size, 0, none⟩) 2 2) kRecs := by
  subst h
  refine lit_recs w kRecs _ (fun _ => .slice none 0 0) (by decide) (fun k hk => ?_) (fun k hk => ?_)
  · have ho := kRecs_ok k hk
    have h : k = 0 ∨ k = 1 := by simp [kRecs] at hk; omega
    rcases h with rfl | rfl <;> exact ⟨rfl, rfl, rfl, rfl, rfl, ho⟩
  · have h : k = 0 ∨ k = 1 := by simp [kRecs] at hk; omega
    rcases h with rfl | rfl <;> exact .none _ _ (by omega)
theorem k_lit_rec (w : World) (cs : Array Value) (h : cs = #[.int .i64 1, .int .i64 0, .int .i64 150, .string ⟨#[]⟩, .slice none 0 0]) :
    Reads (w.alloc (.cells cs 53)) (.slice (some ⟨w.heap.size, 0, none⟩) 1 1) [.mk 1 0 150 [] []] := by
  subst h
  refine lit_recs w [.mk 1 0 150 [] []] _ (fun _ => .slice none 0 0) (by decide) (fun k hk => ?_) (fun k hk => ?_)
  · have h : k = 0 := by simp at hk; omega
    subst h
    exact ⟨rfl, rfl, rfl, rfl, rfl, ⟨by simp [Is64, kRecs, Rec.number], by simp [Is64, kRecs, Rec.kind], by simp [Is64, kRecs, Rec.num], by simp [kRecs, Rec.text]⟩⟩
  · have h : k = 0 := by simp at hk; omega
    subst h
    exact .none _ _ (by omega)

set_option maxHeartbeats 8000000 in
set_option maxRecDepth 100000 in
theorem known_any (w : World) (h : RowsAt w) : Calls Tryd.prog 15 #[] w (Says w (.bool true)) := by
  have HR0 := Lib.hid h
  have HB0 := Lib.hid (Below.refl w.heap.size w)
  clear h
  go_enter Tryd.func15, Tryd.ntmps15
  go_wp2_with fail
  refine (wRead_any (w.alloc (.cells #[.int .u8 8] 5)) true [8] _ (lit_bytes w [8] #[.int .u8 8] rfl (by decide))).mono ?_
  rintro e w1 ⟨_, h5⟩
  obtain ⟨p1, a1, cap1, rfl, _, _, _, hb1⟩ := h5 (by decide)
  have hs1 : Below w.heap.size w w1 := (((Below.refl w.heap.size w).alloc (by simp) (.cells #[.int .u8 8] 5))).trans (hb1.mono (by simp))
  have HB1 := Lib.hid (HB0.out.trans (hs1.mono HB0.out.size))
  have HR1 := Lib.hid (HR0.out.later hs1)
  clear hs1 hb1
  go_wp2_with fail
  refine (wVarint_any 300 w1).mono ?_
  rintro e w2 ⟨va, rfl, hoa, hb2⟩
  rw [k_vb300] at hoa
  have hs2 : Below w1.heap.size w1 w2 := (Below.refl w1.heap.size w1).trans (hb2.mono (by simp))
  have HB2 := Lib.hid (HB1.out.trans (hs2.mono HB1.out.size))
  have HR2 := Lib.hid (HR1.out.later hs2)
  have FA2 := Lib.hid (show BytesAt (fun _ => True) w2 va [172, 2] from hoa.reads.mono fun _ _ => trivial)
  clear hs2 hb2
  go_wp2_with fail
  refine (wFixed_any 1 4 (by unfold Is64; decide) w2).mono ?_
  rintro e w3 ⟨vb, rfl, hob, hb3⟩
  rw [k_fixed] at hob
  rw [k_fixed]
  have hs3 : Below w2.heap.size w2 w3 := (Below.refl w2.heap.size w2).trans (hb3.mono (by simp))
  have HB3 := Lib.hid (HB2.out.trans (hs3.mono HB2.out.size))
  have HR3 := Lib.hid (HR2.out.later hs3)
  have FA3 := Lib.hid (FA2.out.later hs3)
  have FB3 := Lib.hid (show BytesAt (fun _ => True) w3 vb [1, 0, 0, 0] from hob.reads.mono fun _ _ => trivial)
  clear hs3 hb3
  go_wp2_with fail
  refine (wTag_any 16 2 w3).mono ?_
  rintro e w4 ⟨vc, rfl, hoc, hb4⟩
  rw [k_tag] at hoc
  rw [k_tag]
  have hs4 : Below w3.heap.size w3 w4 := (Below.refl w3.heap.size w3).trans (hb4.mono (by simp))
  have HB4 := Lib.hid (HB3.out.trans (hs4.mono HB3.out.size))
  have HR4 := Lib.hid (HR3.out.later hs4)
  have FA4 := Lib.hid (FA3.out.later hs4)
  have FB4 := Lib.hid (FB3.out.later hs4)
  have FC4 := Lib.hid (show BytesAt (fun _ => True) w4 vc [130, 1] from hoc.reads.mono fun _ _ => trivial)
  clear hs4 hb4
  go_wp2_with fail
  refine (wJoin_any kRecs _ (w4.alloc (.cells #[.int .i64 1, .int .i64 0, .int .i64 150, .string ⟨#[]⟩, .slice none 0 0, .int .i64 2, .int .i64 2, .int .i64 0, .string ⟨#[104, 105]⟩, .slice none 0 0] 53)) (k_lit_recs w4 _ rfl)).mono ?_
  rintro e w5 ⟨vd, rfl, hod, hb5⟩
  rw [k_join] at hod
  rw [k_join]
  have hs5 : Below w4.heap.size w4 w5 := (((Below.refl w4.heap.size w4).alloc (by simp) (.cells #[.int .i64 1, .int .i64 0, .int .i64 150, .string ⟨#[]⟩, .slice none 0 0, .int .i64 2, .int .i64 2, .int .i64 0, .string ⟨#[104, 105]⟩, .slice none 0 0] 53))).trans (hb5.mono (by simp))
  have HB5 := Lib.hid (HB4.out.trans (hs5.mono HB4.out.size))
  have HR5 := Lib.hid (HR4.out.later hs5)
  have FA5 := Lib.hid (FA4.out.later hs5)
  have FB5 := Lib.hid (FB4.out.later hs5)
  have FC5 := Lib.hid (FC4.out.later hs5)
  have FD5 := Lib.hid (show BytesAt (fun _ => True) w5 vd [8, 150, 1, 18, 2, 104, 105] from hod.reads.mono fun _ _ => trivial)
  clear hs5 hb5
  go_wp2_with fail
  refine (wSplit_any (w5.alloc (.cells #[.int .u8 8, .int .u8 150, .int .u8 1] 5)) true [8, 150, 1] _ (lit_bytes w5 [8, 150, 1] #[.int .u8 8, .int .u8 150, .int .u8 1] rfl (by decide))).mono ?_
  rintro e w6 ⟨vl, rfl, hol, _, hb6⟩
  rw [k_split] at hol
  rw [k_split]
  have hs6 : Below w5.heap.size w5 w6 := (((Below.refl w5.heap.size w5).alloc (by simp) (.cells #[.int .u8 8, .int .u8 150, .int .u8 1] 5))).trans (hb6.mono (by simp))
  have HB6 := Lib.hid (HB5.out.trans (hs6.mono HB5.out.size))
  have HR6 := Lib.hid (HR5.out.later hs6)
  have FA6 := Lib.hid (FA5.out.later hs6)
  have FB6 := Lib.hid (FB5.out.later hs6)
  have FC6 := Lib.hid (FC5.out.later hs6)
  have FD6 := Lib.hid (FD5.out.later hs6)
  have FL6 := Lib.hid (show Reads w6 vl [.mk 1 0 150 [] []] from hol.mono fun _ _ => trivial)
  clear hs6 hb6
  go_wp2_with fail
  refine (same_any (fun _ => True) (fun _ => True) ([172, 2] : List UInt8) ([172, 2] : List UInt8) _ _ (w6.alloc (.cells #[.int .u8 172, .int .u8 2] 5)) (FA6.out.later ((Below.refl _ _).alloc (Nat.le_refl _) _)) (lit_bytes w6 ([172, 2] : List UInt8) #[.int .u8 172, .int .u8 2] rfl (by decide))).mono ?_
  rintro e w7 ⟨rfl, hb7⟩
  rw [show decide (([172, 2] : List UInt8) = ([172, 2] : List UInt8)) = true by simp]
  have hs7 : Below w6.heap.size w6 w7 := (((Below.refl w6.heap.size w6).alloc (by simp) (.cells #[.int .u8 172, .int .u8 2] 5))).trans (hb7.mono (by simp))
  have HB7 := Lib.hid (HB6.out.trans (hs7.mono HB6.out.size))
  have HR7 := Lib.hid (HR6.out.later hs7)
  have FA7 := Lib.hid (FA6.out.later hs7)
  have FB7 := Lib.hid (FB6.out.later hs7)
  have FC7 := Lib.hid (FC6.out.later hs7)
  have FD7 := Lib.hid (FD6.out.later hs7)
  have FL7 := Lib.hid (FL6.out.later hs7)
  clear hs7 hb7
  go_wp2_with fail
  refine (same_any (fun _ => True) (fun _ => True) ([1, 0, 0, 0] : List UInt8) ([1, 0, 0, 0] : List UInt8) _ _ (w7.alloc (.cells #[.int .u8 1, .int .u8 0, .int .u8 0, .int .u8 0] 5)) (FB7.out.later ((Below.refl _ _).alloc (Nat.le_refl _) _)) (lit_bytes w7 ([1, 0, 0, 0] : List UInt8) #[.int .u8 1, .int .u8 0, .int .u8 0, .int .u8 0] rfl (by decide))).mono ?_
  rintro e w8 ⟨rfl, hb8⟩
  rw [show decide (([1, 0, 0, 0] : List UInt8) = ([1, 0, 0, 0] : List UInt8)) = true by simp]
  have hs8 : Below w7.heap.size w7 w8 := (((Below.refl w7.heap.size w7).alloc (by simp) (.cells #[.int .u8 1, .int .u8 0, .int .u8 0, .int .u8 0] 5))).trans (hb8.mono (by simp))
  have HB8 := Lib.hid (HB7.out.trans (hs8.mono HB7.out.size))
  have HR8 := Lib.hid (HR7.out.later hs8)
  have FA8 := Lib.hid (FA7.out.later hs8)
  have FB8 := Lib.hid (FB7.out.later hs8)
  have FC8 := Lib.hid (FC7.out.later hs8)
  have FD8 := Lib.hid (FD7.out.later hs8)
  have FL8 := Lib.hid (FL7.out.later hs8)
  clear hs8 hb8
  go_wp2_with fail
  refine (same_any (fun _ => True) (fun _ => True) ([130, 1] : List UInt8) ([130, 1] : List UInt8) _ _ (w8.alloc (.cells #[.int .u8 130, .int .u8 1] 5)) (FC8.out.later ((Below.refl _ _).alloc (Nat.le_refl _) _)) (lit_bytes w8 ([130, 1] : List UInt8) #[.int .u8 130, .int .u8 1] rfl (by decide))).mono ?_
  rintro e w9 ⟨rfl, hb9⟩
  rw [show decide (([130, 1] : List UInt8) = ([130, 1] : List UInt8)) = true by simp]
  have hs9 : Below w8.heap.size w8 w9 := (((Below.refl w8.heap.size w8).alloc (by simp) (.cells #[.int .u8 130, .int .u8 1] 5))).trans (hb9.mono (by simp))
  have HB9 := Lib.hid (HB8.out.trans (hs9.mono HB8.out.size))
  have HR9 := Lib.hid (HR8.out.later hs9)
  have FA9 := Lib.hid (FA8.out.later hs9)
  have FB9 := Lib.hid (FB8.out.later hs9)
  have FC9 := Lib.hid (FC8.out.later hs9)
  have FD9 := Lib.hid (FD8.out.later hs9)
  have FL9 := Lib.hid (FL8.out.later hs9)
  clear hs9 hb9
  go_wp2_with fail
  refine (same_any (fun _ => True) (fun _ => True) ([8, 150, 1, 18, 2, 104, 105] : List UInt8) ([8, 150, 1, 18, 2, 104, 105] : List UInt8) _ _ (w9.alloc (.cells #[.int .u8 8, .int .u8 150, .int .u8 1, .int .u8 18, .int .u8 2, .int .u8 104, .int .u8 105] 5)) (FD9.out.later ((Below.refl _ _).alloc (Nat.le_refl _) _)) (lit_bytes w9 ([8, 150, 1, 18, 2, 104, 105] : List UInt8) #[.int .u8 8, .int .u8 150, .int .u8 1, .int .u8 18, .int .u8 2, .int .u8 104, .int .u8 105] rfl (by decide))).mono ?_
  rintro e w10 ⟨rfl, hb10⟩
  rw [show decide (([8, 150, 1, 18, 2, 104, 105] : List UInt8) = ([8, 150, 1, 18, 2, 104, 105] : List UInt8)) = true by simp]
  have hs10 : Below w9.heap.size w9 w10 := (((Below.refl w9.heap.size w9).alloc (by simp) (.cells #[.int .u8 8, .int .u8 150, .int .u8 1, .int .u8 18, .int .u8 2, .int .u8 104, .int .u8 105] 5))).trans (hb10.mono (by simp))
  have HB10 := Lib.hid (HB9.out.trans (hs10.mono HB9.out.size))
  have HR10 := Lib.hid (HR9.out.later hs10)
  have FA10 := Lib.hid (FA9.out.later hs10)
  have FB10 := Lib.hid (FB9.out.later hs10)
  have FC10 := Lib.hid (FC9.out.later hs10)
  have FD10 := Lib.hid (FD9.out.later hs10)
  have FL10 := Lib.hid (FL9.out.later hs10)
  clear hs10 hb10
  go_wp2_with fail
  refine (sameRecs_any _ [.mk 1 0 150 [] []] (Nat.le_refl _) [.mk 1 0 150 [] []] _ _ (w10.alloc (.cells #[.int .i64 1, .int .i64 0, .int .i64 150, .string ⟨#[]⟩, .slice none 0 0] 53)) (FL10.out.later ((Below.refl _ _).alloc (Nat.le_refl _) _)) (k_lit_rec w10 _ rfl)).mono ?_
  rintro e w11 ⟨rfl, hb11⟩
  rw [sameL_refl]
  have hs11 : Below w10.heap.size w10 w11 := (((Below.refl w10.heap.size w10).alloc (by simp) (.cells #[.int .i64 1, .int .i64 0, .int .i64 150, .string ⟨#[]⟩, .slice none 0 0] 53))).trans (hb11.mono (by simp))
  have HB11 := Lib.hid (HB10.out.trans (hs11.mono HB10.out.size))
  have HR11 := Lib.hid (HR10.out.later hs11)
  have FA11 := Lib.hid (FA10.out.later hs11)
  have FB11 := Lib.hid (FB10.out.later hs11)
  have FC11 := Lib.hid (FC10.out.later hs11)
  have FD11 := Lib.hid (FD10.out.later hs11)
  have FL11 := Lib.hid (FL10.out.later hs11)
  clear hs11 hb11
  go_wp2_with fail
  refine (zig_any (-1) (by unfold Is64; decide) w11).mono ?_
  rintro e _ ⟨rfl, rfl⟩
  rw [k_zig]
  go_wp2_with fail
  refine (zag_any 3 w11).mono ?_
  rintro e _ ⟨rfl, rfl⟩
  rw [k_zag]
  go_wp2_with fail
  refine (wUtf8_any ⟨#[97, 255]⟩ (by decide) w11 HR11.out).mono ?_
  rintro e w12 ⟨rfl, hb12⟩
  rw [k_utf]
  have hs12 : Below w11.heap.size w11 w12 := (Below.refl w11.heap.size w11).trans (hb12.mono (by simp))
  have HB12 := Lib.hid (HB11.out.trans (hs12.mono HB11.out.size))
  have HR12 := Lib.hid (HR11.out.later hs12)
  have FA12 := Lib.hid (FA11.out.later hs12)
  have FB12 := Lib.hid (FB11.out.later hs12)
  have FC12 := Lib.hid (FC11.out.later hs12)
  have FD12 := Lib.hid (FD11.out.later hs12)
  have FL12 := Lib.hid (FL11.out.later hs12)
  clear hs12 hb12
  go_wp2_with fail
  go_ret
  exact ⟨rfl, HB12.out⟩
end Go.Proofs.YtecmhpncgdjgjaaDoor
