/-
  ValOps answers true.
-/
import Derived.Test.YtipeehmbloneoaaDoorAwake
import Derived.Test.YtipeehmbloneoaaDoorRbin
namespace Go.Proofs.YtipeehmbloneoaaDoor
open Go.RowKit Go.Sort

theorem un_both (op k n b : Int) (fn : Fits n) : ∃ (uk un ub : Int) (ok : Bool), (∀ W, Calls Tryd.prog 17 #[.int .i64 op, .agg #[.int .i64 k, .int .i64 n, .int .i64 b]] W (RVs uk un ub ok W)) ∧ (∀ W, Calls Tryd.prog 18 #[.int .i64 op, .agg #[.int .i64 k, .int .i64 n, .int .i64 b]] W (RVs uk un ub ok W)) :=
  ⟨_, _, _, _, fun W => un_any op k n b fn W, fun W => run_any op k n b fn W⟩
theorem bin_both (op k n b k' n' b' : Int) (fn : Fits n) (fn' : Fits n') : ∃ (uk un ub : Int) (ok : Bool), (∀ W, Calls Tryd.prog 12 #[.int .i64 op, .agg #[.int .i64 k, .int .i64 n, .int .i64 b], .agg #[.int .i64 k', .int .i64 n', .int .i64 b']] W (RVs uk un ub ok W)) ∧ (∀ W, Calls Tryd.prog 19 #[.int .i64 op, .agg #[.int .i64 k, .int .i64 n, .int .i64 b], .agg #[.int .i64 k', .int .i64 n', .int .i64 b']] W (RVs uk un ub ok W)) :=
  ⟨_, _, _, _, fun W => bin_any op k n b k' n' b' fn fn' W, fun W => rbin_any op k n b k' n' b' fn fn' W⟩

set_option maxHeartbeats 4000000 in
theorem ops_any (op k1 m1 b1 k2 m2 b2 : Int) (fm1 : Fits m1) (fm2 : Fits m2) (w : World) (ht : Tab w) : Calls Tryd.prog 4 #[.int .i64 op, .agg #[.int .i64 k1, .int .i64 m1, .int .i64 b1], .agg #[.int .i64 k2, .int .i64 m2, .int .i64 b2]] w (BB true w) := by
  have T := Lib.hid ht
  obtain ⟨uk, un, ub, uok, hu, hr⟩ := un_both op k1 m1 b1 fm1
  obtain ⟨vk, vn, vb, vok, hb, hc⟩ := bin_both op k1 m1 b1 k2 m2 b2 fm1 fm2
  have HU := Lib.hid hu
  have HR := Lib.hid hr
  have HB := Lib.hid hb
  have HC := Lib.hid hc
  clear ht hu hr hb hc fm1 fm2
  have hE := eqVl
  have hG := guardVl
  have B0 := Lib.hid (((Bag.nil w).put k1 m1 b1).put k2 m2 b2)
  go_enter Tryd.func4, Tryd.ntmps4
  obtain ⟨a0, a1, a2⟩ := B0.out.cells w.heap.size k1 m1 b1 (by simp)
  obtain ⟨b0, b1, b2⟩ := B0.out.cells (w.heap.size + 1) k2 m2 b2 (by simp)
  go_wp2_with fail
  refine (awake_any _ (T.out.below B0.out.low)).mono ?_
  rintro e w1 ⟨rfl, hb⟩
  have B1 := Lib.hid (B0.out.step hb)
  clear hb B0
  clear a0 a1 a2 b0 b1 b2
  obtain ⟨a0, a1, a2⟩ := B1.out.cells w.heap.size k1 m1 b1 (by simp)
  obtain ⟨b0, b1, b2⟩ := B1.out.cells (w.heap.size + 1) k2 m2 b2 (by simp)
  go_wp2_with fail
  refine (HU.out _).mono ?_
  rintro e w2 ⟨rfl, hb⟩
  have B2 := Lib.hid ((B1.out.step hb).put uk un ub)
  clear hb B1
  clear a0 a1 a2 b0 b1 b2
  obtain ⟨a0, a1, a2⟩ := B2.out.cells w.heap.size k1 m1 b1 (by simp)
  obtain ⟨b0, b1, b2⟩ := B2.out.cells (w.heap.size + 1) k2 m2 b2 (by simp)
  go_wp2_with fail
  refine (HR.out _).mono ?_
  rintro e w3 ⟨rfl, hb⟩
  have B3 := Lib.hid ((B2.out.step hb).put uk un ub)
  clear hb B2
  clear a0 a1 a2 b0 b1 b2
  obtain ⟨a0, a1, a2⟩ := B3.out.cells w.heap.size k1 m1 b1 (by simp)
  obtain ⟨b0, b1, b2⟩ := B3.out.cells (w.heap.size + 1) k2 m2 b2 (by simp)
  go_wp2_with fail
  refine (HB.out _).mono ?_
  rintro e w4 ⟨rfl, hb⟩
  have B4 := Lib.hid ((B3.out.step hb).put vk vn vb)
  clear hb B3
  clear a0 a1 a2 b0 b1 b2
  obtain ⟨a0, a1, a2⟩ := B4.out.cells w.heap.size k1 m1 b1 (by simp)
  obtain ⟨b0, b1, b2⟩ := B4.out.cells (w.heap.size + 1) k2 m2 b2 (by simp)
  go_wp2_with fail
  refine (HC.out _).mono ?_
  rintro e w5 ⟨rfl, hb⟩
  have B5 := Lib.hid ((B4.out.step hb).put vk vn vb)
  clear hb B4
  clear a0 a1 a2 b0 b1 b2
  obtain ⟨x0, x1, x2⟩ := B5.out.cells w2.heap.size uk un ub (by simp)
  obtain ⟨y0, y1, y2⟩ := B5.out.cells w3.heap.size uk un ub (by simp)
  obtain ⟨u0, u1, u2⟩ := B5.out.cells w4.heap.size vk vn vb (by simp)
  obtain ⟨v0, v1, v2⟩ := B5.out.cells w5.heap.size vk vn vb (by simp)
  go_wp2_with fail
  go_ret
  exact ⟨by simp, B5.out.low⟩
end Go.Proofs.YtipeehmbloneoaaDoor
