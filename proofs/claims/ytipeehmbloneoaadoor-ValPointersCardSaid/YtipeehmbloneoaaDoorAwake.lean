/-
  awake answers true, in every world in which strconv's table holds its numbers.
-/
import Derived.Test.YtipeehmbloneoaaDoorBag
namespace Go.Proofs.YtipeehmbloneoaaDoor
open Go.RowKit Go.Sort

theorem itoa_one (n : Nat) (h : n < 10) : Lib.itoa (n : Int) = [UInt8.ofNat (48 + n)] := by rw [Lib.itoa_nonneg, Lib.decDigits_one h]
theorem text34 : textV ⟨2, 4, 3⟩ = [38, 51, 43, 52] := by
  have e4 : Lib.itoa 4 = [52] := itoa_one 4 (by omega)
  have e3 : Lib.itoa 3 = [51] := itoa_one 3 (by omega)
  simp [textV, intB, ptrB, e4, e3]
theorem text3 : textV ⟨1, -3, 0⟩ = [45, 51] := by
  have e3 : Lib.itoa 3 = [51] := itoa_one 3 (by omega)
  have en : Lib.itoa (-3) = 45 :: Lib.decDigits 3 := Lib.itoa_neg 3 (by omega)
  rw [show textV ⟨1, -3, 0⟩ = Lib.itoa (-3) from rfl, en, ← Lib.itoa_nonneg, show ((3 : Nat) : Int) = 3 from rfl, e3]

set_option maxHeartbeats 4000000 in
theorem awake_any (w : World) (ht : Tab w) : Calls Tryd.prog 11 #[] w (BB true w) := by
  have T := Lib.hid ht
  clear ht
  have B0 := Lib.hid (Bag.nil w)
  go_enter Tryd.func11, Tryd.ntmps11
  go_wp2_with fail
  refine (of_any (-7) _).mono ?_
  rintro e w1 ⟨rfl, hb⟩
  have B1 := Lib.hid (B0.out.step hb)
  clear hb B0
  go_wp2_with fail
  refine (of_any 2 _).mono ?_
  rintro e w2 ⟨rfl, hb⟩
  have B2 := Lib.hid (B1.out.step hb)
  clear hb B1
  go_wp2_with fail
  refine (bin_is 14 1 (-7) 0 1 2 0 1 (-3) 0 true (by kernel_rfl) (by kernel_rfl) ⟨by decide, by decide⟩ ⟨by decide, by decide⟩ _).mono ?_
  rintro e w3 ⟨rfl, hb⟩
  have B3 := Lib.hid ((B2.out.step hb).put 1 (-3) 0)
  clear hb B2
  go_wp2_with fail
  refine (of_any 200 _).mono ?_
  rintro e w4 ⟨rfl, hb⟩
  have B4 := Lib.hid (B3.out.step hb)
  clear hb B3
  go_wp2_with fail
  refine (un_is 3 1 200 0 1 (-56) 0 true (by kernel_rfl) (by kernel_rfl) ⟨by decide, by decide⟩ _).mono ?_
  rintro e w5 ⟨rfl, hb⟩
  have B5 := Lib.hid ((B4.out.step hb).put 1 (-56) 0)
  clear hb B4
  go_wp2_with fail
  refine (of_any 1 _).mono ?_
  rintro e w6 ⟨rfl, hb⟩
  have B6 := Lib.hid (B5.out.step hb)
  clear hb B5
  go_wp2_with fail
  refine (of_any 64 _).mono ?_
  rintro e w7 ⟨rfl, hb⟩
  have B7 := Lib.hid (B6.out.step hb)
  clear hb B6
  go_wp2_with fail
  refine (bin_is 19 1 1 0 1 64 0 0 0 0 false (by kernel_rfl) (by kernel_rfl) ⟨by decide, by decide⟩ ⟨by decide, by decide⟩ _).mono ?_
  rintro e w8 ⟨rfl, hb⟩
  have B8 := Lib.hid ((B7.out.step hb).put 0 0 0)
  clear hb B7
  go_wp2_with fail
  refine (at_is 3 8 (by decide) _).mono ?_
  rintro e w9 ⟨rfl, hb⟩
  have B9 := Lib.hid (B8.out.step hb)
  clear hb B8
  go_wp2_with fail
  refine (of_any 4 _).mono ?_
  rintro e w10 ⟨rfl, hb⟩
  have B10 := Lib.hid (B9.out.step hb)
  clear hb B9
  go_wp2_with fail
  refine (bin_is 12 2 8 3 1 4 0 2 4 3 true (by kernel_rfl) (by kernel_rfl) ⟨by decide, by decide⟩ ⟨by decide, by decide⟩ _).mono ?_
  rintro e w11 ⟨rfl, hb⟩
  have B11 := Lib.hid ((B10.out.step hb).put 2 4 3)
  clear hb B10
  go_wp2_with fail
  refine (at_is 1 0 (by decide) _).mono ?_
  rintro e w12 ⟨rfl, hb⟩
  have B12 := Lib.hid (B11.out.step hb)
  clear hb B11
  go_wp2_with fail
  refine (true_is 2 0 1 true true (by kernel_rfl) (by kernel_rfl) _).mono ?_
  rintro e w13 ⟨rfl, hb⟩
  have B13 := Lib.hid (B12.out.step hb)
  clear hb B12
  go_wp2_with fail
  refine (flip_is 23 26 (by kernel_rfl) _).mono ?_
  rintro e w14 ⟨rfl, rfl⟩
  go_wp2_with fail
  refine (swap_is 23 25 (by kernel_rfl) _).mono ?_
  rintro e w15 ⟨rfl, rfl⟩
  obtain ⟨a0, a1, a2⟩ := B13.out.cells w3.heap.size 1 (-3) 0 (by simp)
  obtain ⟨b0, b1, b2⟩ := B13.out.cells w5.heap.size 1 (-56) 0 (by simp)
  obtain ⟨c0, c1, c2⟩ := B13.out.cells w11.heap.size 2 4 3 (by simp)
  go_wp2_with fail
  refine (good_is 1 (-3) 0 true (by kernel_rfl) _).mono ?_
  rintro e w16 ⟨rfl, hb⟩
  have B16 := Lib.hid (B13.out.step hb)
  clear hb B13
  clear a0 a1 a2 b0 b1 b2 c0 c1 c2
  obtain ⟨a0, a1, a2⟩ := B16.out.cells w3.heap.size 1 (-3) 0 (by simp)
  obtain ⟨b0, b1, b2⟩ := B16.out.cells w5.heap.size 1 (-56) 0 (by simp)
  obtain ⟨c0, c1, c2⟩ := B16.out.cells w11.heap.size 2 4 3 (by simp)
  go_wp2_with fail
  refine (text_is 2 4 3 [38, 51, 43, 52] text34 ⟨by decide, by decide⟩ ⟨by decide, by decide⟩ _ (T.out.below B16.out.low)).mono ?_
  rintro e w17 ⟨rfl, hb⟩
  have B17 := Lib.hid (B16.out.step hb)
  clear hb B16
  clear a0 a1 a2 b0 b1 b2 c0 c1 c2
  obtain ⟨a0, a1, a2⟩ := B17.out.cells w3.heap.size 1 (-3) 0 (by simp)
  obtain ⟨b0, b1, b2⟩ := B17.out.cells w5.heap.size 1 (-56) 0 (by simp)
  obtain ⟨c0, c1, c2⟩ := B17.out.cells w11.heap.size 2 4 3 (by simp)
  go_wp2_with fail
  refine (text_is 1 (-3) 0 [45, 51] text3 ⟨by decide, by decide⟩ ⟨by decide, by decide⟩ _ (T.out.below B17.out.low)).mono ?_
  rintro e w18 ⟨rfl, hb⟩
  have B18 := Lib.hid (B17.out.step hb)
  clear hb B17
  clear a0 a1 a2 b0 b1 b2 c0 c1 c2
  go_wp2_with fail
  refine (text_is 0 0 0 [117, 110, 100, 101, 102] (by kernel_rfl) ⟨by decide, by decide⟩ ⟨by decide, by decide⟩ _ (T.out.below B18.out.low)).mono ?_
  rintro e w19 ⟨rfl, hb⟩
  have B19 := Lib.hid (B18.out.step hb)
  clear hb B18
  go_wp2_with fail
  go_ret
  exact ⟨by simp, B19.out.low⟩
end Go.Proofs.YtipeehmbloneoaaDoor
