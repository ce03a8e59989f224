/-
  ValExts answers true.
-/
import Derived.Test.YtipeehmbloneoaaDoorAwake
import Derived.Test.YtipeehmbloneoaaDoorLaws2
namespace Go.Proofs.YtipeehmbloneoaaDoor
open Go.RowKit Go.Sort

set_option maxHeartbeats 4000000 in
theorem exts_any (n : Int) (fn : Fits n) (w : World) (ht : Tab w) : Calls Tryd.prog 8 #[.int .i64 n] w (BB true w) := by
  have T := Lib.hid ht
  have FN := Lib.hid fn
  clear ht fn
  have hE := eqVl
  have hG := guardVl
  have hN := neqVl
  have B0 := Lib.hid (Bag.nil w)
  go_enter Tryd.func8, Tryd.ntmps8
  go_wp2_with fail
  refine (awake_any _ (T.out.below B0.out.low)).mono ?_
  rintro e w1 ⟨rfl, hb⟩
  have B1 := Lib.hid (B0.out.step hb)
  clear hb B0
  go_wp2_with fail
  refine (of_any n _).mono ?_
  rintro e w2 ⟨rfl, hb⟩
  have B2 := Lib.hid (B1.out.step hb)
  clear hb B1
  go_wp2_with fail
  refine (un_is 3 1 n 0 1 (e8 n) 0 true rfl rfl FN.out _).mono ?_
  rintro e w3 ⟨rfl, hb⟩
  have B3 := Lib.hid ((B2.out.step hb).put 1 (e8 n) 0)
  clear hb B2
  go_wp2_with fail
  refine (of_any n _).mono ?_
  rintro e w4 ⟨rfl, hb⟩
  have B4 := Lib.hid (B3.out.step hb)
  clear hb B3
  go_wp2_with fail
  refine (un_is 4 1 n 0 1 (e32 n) 0 true rfl rfl FN.out _).mono ?_
  rintro e w5 ⟨rfl, hb⟩
  have B5 := Lib.hid ((B4.out.step hb).put 1 (e32 n) 0)
  clear hb B4
  obtain ⟨b0, b1, b2⟩ := B5.out.cells w5.heap.size 1 (e32 n) 0 (by simp)
  go_wp2_with fail
  refine (un_is 3 1 (e32 n) 0 1 (e8 n) 0 true (congrArg Iv (e8_e32 n)) rfl (fits_e32 n) _).mono ?_
  rintro e w6 ⟨rfl, hb⟩
  have B6 := Lib.hid ((B5.out.step hb).put 1 (e8 n) 0)
  clear hb B5
  clear b0 b1 b2
  obtain ⟨a0, a1, a2⟩ := B6.out.cells w3.heap.size 1 (e8 n) 0 (by simp)
  go_wp2_with fail
  refine (un_is 4 1 (e8 n) 0 1 (e8 n) 0 true (congrArg Iv (e32_e8 n)) rfl (fits_e8 n) _).mono ?_
  rintro e w7 ⟨rfl, hb⟩
  have B7 := Lib.hid ((B6.out.step hb).put 1 (e8 n) 0)
  clear hb B6
  clear a0 a1 a2
  obtain ⟨a0, a1, a2⟩ := B7.out.cells w3.heap.size 1 (e8 n) 0 (by simp)
  go_wp2_with fail
  refine (un_is 3 1 (e8 n) 0 1 (e8 n) 0 true (congrArg Iv (e8_e8 n)) rfl (fits_e8 n) _).mono ?_
  rintro e w8 ⟨rfl, hb⟩
  have B8 := Lib.hid ((B7.out.step hb).put 1 (e8 n) 0)
  clear hb B7
  clear a0 a1 a2
  obtain ⟨a0, a1, a2⟩ := B8.out.cells w3.heap.size 1 (e8 n) 0 (by simp)
  obtain ⟨b0, b1, b2⟩ := B8.out.cells w5.heap.size 1 (e32 n) 0 (by simp)
  obtain ⟨c0, c1, c2⟩ := B8.out.cells w6.heap.size 1 (e8 n) 0 (by simp)
  obtain ⟨d0, d1, d2⟩ := B8.out.cells w7.heap.size 1 (e8 n) 0 (by simp)
  obtain ⟨e0, e1, e2⟩ := B8.out.cells w8.heap.size 1 (e8 n) 0 (by simp)
  have l1 := e8_low n
  have l2 := e32_low n
  have s1 := e8_stay n
  have s2 := e32_stay n
  generalize e8 n = A at *
  generalize e32 n = C at *
  obtain ⟨l3, l4⟩ := l1
  obtain ⟨l5, l6⟩ := l2
  have hc : (-128 ≤ n ∧ n ≤ 127) ∨ ((-2147483648 ≤ n ∧ n < -128) ∨ (127 < n ∧ n ≤ 2147483647)) ∨ (n < -2147483648 ∨ 2147483647 < n) := by omega
  rcases hc with ⟨r1, r2⟩ | (⟨r1, r2⟩ | ⟨r1, r2⟩) | (r1 | r1)
  · have eA : A = n := s1.2 (by omega)
    have eC : C = n := s2.2 (by omega)
    clear s1 s2
    subst eA
    subst eC
    go_wp2_with fail
    all_goals (go_ret; exact ⟨by simp_all, B8.out.low⟩)
  · have eA : (A == n) = false := by rw [beq_eq_false_iff_ne]; intro h; have := s1.1 h; omega
    have eC : C = n := s2.2 (by omega)
    clear s1 s2
    subst eC
    go_wp2_with fail
    all_goals (go_ret; exact ⟨by simp_all, B8.out.low⟩)
  · have eA : (A == n) = false := by rw [beq_eq_false_iff_ne]; intro h; have := s1.1 h; omega
    have eC : C = n := s2.2 (by omega)
    clear s1 s2
    subst eC
    go_wp2_with fail
    all_goals (go_ret; exact ⟨by simp_all, B8.out.low⟩)
  · have eA : (A == n) = false := by rw [beq_eq_false_iff_ne]; intro h; have := s1.1 h; omega
    have eC : (C == n) = false := by rw [beq_eq_false_iff_ne]; intro h; have := s2.1 h; omega
    clear s1 s2
    go_wp2_with fail
    all_goals (go_ret; exact ⟨by simp_all, B8.out.low⟩)
  · have eA : (A == n) = false := by rw [beq_eq_false_iff_ne]; intro h; have := s1.1 h; omega
    have eC : (C == n) = false := by rw [beq_eq_false_iff_ne]; intro h; have := s2.1 h; omega
    clear s1 s2
    go_wp2_with fail
    all_goals (go_ret; exact ⟨by simp_all, B8.out.low⟩)
end Go.Proofs.YtipeehmbloneoaaDoor
