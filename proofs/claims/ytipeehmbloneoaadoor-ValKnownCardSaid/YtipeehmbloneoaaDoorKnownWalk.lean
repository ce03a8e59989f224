/-
  ValKnown answers true.
-/
import Derived.Test.YtipeehmbloneoaaDoorAwake
namespace Go.Proofs.YtipeehmbloneoaaDoor
open Go.RowKit Go.Sort

theorem at_no (b n : Int) (h : b < 1) (w : World) : Calls Tryd.prog 14 #[.int .i64 b, .int .i64 n] w (R3 0 0 0 w) := by
  have := at_any b n w
  rwa [show atK b = 0 from if_pos h, show atN b n = 0 from if_pos h, show atB b = 0 from if_pos h] at this
theorem textMin : textV ⟨1, -9223372036854775808, 0⟩ = [45, 57, 50, 50, 51, 51, 55, 50, 48, 51, 54, 56, 53, 52, 55, 55, 53, 56, 48, 56] := by
  rw [show textV ⟨1, -9223372036854775808, 0⟩ = Lib.itoa (-9223372036854775808) from rfl, show Lib.itoa (-9223372036854775808) = 45 :: Lib.decDigits 9223372036854775808 from Lib.itoa_neg 9223372036854775808 (by omega)]
  kernel_rfl

set_option maxHeartbeats 4000000 in
theorem known_any (w : World) (ht : Tab w) : Calls Tryd.prog 3 #[] w (BB true w) := by
  have T := Lib.hid ht
  clear ht
  have B0 := Lib.hid (Bag.nil w)
  go_enter Tryd.func3, Tryd.ntmps3
  go_wp2_with fail
  refine (awake_any _ (T.out.below B0.out.low)).mono ?_
  rintro e w1 ⟨rfl, hb⟩
  have B1 := Lib.hid (B0.out.step hb)
  clear hb B0
  go_wp2_with fail
  refine (of_any (-7) _).mono ?_
  rintro e w2 ⟨rfl, hb⟩
  have B2 := Lib.hid (B1.out.step hb)
  clear hb B1
  go_wp2_with fail
  refine (of_any 2 _).mono ?_
  rintro e w3 ⟨rfl, hb⟩
  have B3 := Lib.hid (B2.out.step hb)
  clear hb B2
  go_wp2_with fail
  refine (bin_is 15 1 (-7) 0 1 2 0 1 (-1) 0 true (by kernel_rfl) (by kernel_rfl) ⟨by decide, by decide⟩ ⟨by decide, by decide⟩ _).mono ?_
  rintro e w4 ⟨rfl, hb⟩
  have B4 := Lib.hid ((B3.out.step hb).put 1 (-1) 0)
  clear hb B3
  go_wp2_with fail
  refine (at_is 3 8 (by decide) _).mono ?_
  rintro e w5 ⟨rfl, hb⟩
  have B5 := Lib.hid (B4.out.step hb)
  clear hb B4
  go_wp2_with fail
  refine (of_any 0 _).mono ?_
  rintro e w6 ⟨rfl, hb⟩
  have B6 := Lib.hid (B5.out.step hb)
  clear hb B5
  go_wp2_with fail
  refine (bin_is 21 2 8 3 1 0 0 1 0 0 true (by kernel_rfl) (by kernel_rfl) ⟨by decide, by decide⟩ ⟨by decide, by decide⟩ _).mono ?_
  rintro e w7 ⟨rfl, hb⟩
  have B7 := Lib.hid ((B6.out.step hb).put 1 0 0)
  clear hb B6
  go_wp2_with fail
  refine (at_is 3 0 (by decide) _).mono ?_
  rintro e w8 ⟨rfl, hb⟩
  have B8 := Lib.hid (B7.out.step hb)
  clear hb B7
  go_wp2_with fail
  refine (at_is 3 8 (by decide) _).mono ?_
  rintro e w9 ⟨rfl, hb⟩
  have B9 := Lib.hid (B8.out.step hb)
  clear hb B8
  go_wp2_with fail
  refine (bin_is 23 2 0 3 2 8 3 0 0 0 false (by kernel_rfl) (by kernel_rfl) ⟨by decide, by decide⟩ ⟨by decide, by decide⟩ _).mono ?_
  rintro e w10 ⟨rfl, hb⟩
  have B10 := Lib.hid ((B9.out.step hb).put 0 0 0)
  clear hb B9
  go_wp2_with fail
  refine (of_any (-9223372036854775808) _).mono ?_
  rintro e w11 ⟨rfl, hb⟩
  have B11 := Lib.hid (B10.out.step hb)
  clear hb B10
  go_wp2_with fail
  refine (of_any (-1) _).mono ?_
  rintro e w12 ⟨rfl, hb⟩
  have B12 := Lib.hid (B11.out.step hb)
  clear hb B11
  go_wp2_with fail
  refine (bin_is 14 1 (-9223372036854775808) 0 1 (-1) 0 0 0 0 false (by kernel_rfl) (by kernel_rfl) ⟨by decide, by decide⟩ ⟨by decide, by decide⟩ _).mono ?_
  rintro e w13 ⟨rfl, hb⟩
  have B13 := Lib.hid ((B12.out.step hb).put 0 0 0)
  clear hb B12
  obtain ⟨a0, a1, a2⟩ := B13.out.cells w4.heap.size 1 (-1) 0 (by simp)
  obtain ⟨b0, b1, b2⟩ := B13.out.cells w7.heap.size 1 0 0 (by simp)
  go_wp2_with fail
  refine (at_no 0 5 (by decide) _).mono ?_
  rintro e w14 ⟨rfl, hb⟩
  have B14 := Lib.hid (B13.out.step hb)
  clear hb B13
  clear a0 a1 a2 b0 b1 b2
  go_wp2_with fail
  refine (good_is 3 0 0 false (by kernel_rfl) _).mono ?_
  rintro e w15 ⟨rfl, hb⟩
  have B15 := Lib.hid (B14.out.step hb)
  clear hb B14
  go_wp2_with fail
  refine (of_any (-9223372036854775808) _).mono ?_
  rintro e w16 ⟨rfl, hb⟩
  have B16 := Lib.hid (B15.out.step hb)
  clear hb B15
  go_wp2_with fail
  refine (text_is 1 (-9223372036854775808) 0 [45, 57, 50, 50, 51, 51, 55, 50, 48, 51, 54, 56, 53, 52, 55, 55, 53, 56, 48, 56] textMin ⟨by decide, by decide⟩ ⟨by decide, by decide⟩ _ (T.out.below B16.out.low)).mono ?_
  rintro e w17 ⟨rfl, hb⟩
  have B17 := Lib.hid (B16.out.step hb)
  clear hb B16
  go_wp2_with fail
  go_ret
  exact ⟨by simp, B17.out.low⟩
end Go.Proofs.YtipeehmbloneoaaDoor
