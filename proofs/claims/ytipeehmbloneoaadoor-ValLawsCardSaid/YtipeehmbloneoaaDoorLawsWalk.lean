/-
  ValLaws answers true.
-/
import Derived.Test.YtipeehmbloneoaaDoorAwake
import Derived.Test.YtipeehmbloneoaaDoorLaws2
namespace Go.Proofs.YtipeehmbloneoaaDoor
open Go.RowKit Go.Sort

theorem laws_both (op ak an ab bk bn bb : Int) (fa : Fits an) (fb : Fits bn) : ∃ (xk xn xb : Int) (ok : Bool), (∀ W, Calls Tryd.prog 12 #[.int .i64 op, .agg #[.int .i64 (ak), .int .i64 (an), .int .i64 (ab)], .agg #[.int .i64 (bk), .int .i64 (bn), .int .i64 (bb)]] W (RVs xk xn xb ok W)) ∧
    (∀ f, flipV op = some f → ∃ yk yn yb : Int, (∀ W, Calls Tryd.prog 12 #[.int .i64 f, .agg #[.int .i64 (ak), .int .i64 (an), .int .i64 (ab)], .agg #[.int .i64 (bk), .int .i64 (bn), .int .i64 (bb)]] W (RVs yk yn yb ok W)) ∧ (ok = true → xn + yn = 1)) ∧
    (∀ s, swapV op = some s → (∀ W, Calls Tryd.prog 12 #[.int .i64 s, .agg #[.int .i64 (bk), .int .i64 (bn), .int .i64 (bb)], .agg #[.int .i64 (ak), .int .i64 (an), .int .i64 (ab)]] W (RVs xk xn xb ok W))) := by
  refine ⟨_, _, _, _, fun W => bin_any op ak an ab bk bn bb fa fb W, fun f hf => ⟨_, _, _, fun W => (bin_any f ak an ab bk bn bb fa fb W).mono fun _ _ h => h.is rfl (flip_law op f _ _ hf).1, (flip_law op f _ _ hf).2⟩, fun s hs W => (bin_any s bk bn bb ak an ab fb fa W).mono fun _ _ h => ?_⟩
  rw [swap_law op s _ _ hs] at h
  exact h
theorem tail_both (ak an ab bn : Int) (fa : Fits an) (fb : Fits bn) : ∃ (pk pn pb : Int) (good : Bool) (qk qn qb rk rn rb : Int) (whole : Bool) (mk mn mb : Int), (∀ W, Calls Tryd.prog 12 #[.int .i64 11, .agg #[.int .i64 (ak), .int .i64 (an), .int .i64 (ab)], .agg #[.int .i64 (1), .int .i64 (bn), .int .i64 (0)]] W (RVs pk pn pb good W)) ∧
    (good = true → (∀ W, Calls Tryd.prog 12 #[.int .i64 12, .agg #[.int .i64 (pk), .int .i64 (pn), .int .i64 (pb)], .agg #[.int .i64 (1), .int .i64 (bn), .int .i64 (0)]] W (RVs ak an ab true W))) ∧ (∀ W, Calls Tryd.prog 12 #[.int .i64 14, .agg #[.int .i64 (ak), .int .i64 (an), .int .i64 (ab)], .agg #[.int .i64 (1), .int .i64 (bn), .int .i64 (0)]] W (RVs qk qn qb whole W)) ∧ (∀ W, Calls Tryd.prog 12 #[.int .i64 15, .agg #[.int .i64 (ak), .int .i64 (an), .int .i64 (ab)], .agg #[.int .i64 (1), .int .i64 (bn), .int .i64 (0)]] W (RVs rk rn rb whole W)) ∧
    (whole = true → (∀ W, Calls Tryd.prog 12 #[.int .i64 13, .agg #[.int .i64 (qk), .int .i64 (qn), .int .i64 (qb)], .agg #[.int .i64 (1), .int .i64 (bn), .int .i64 (0)]] W (RVs mk mn mb true W)) ∧ (∀ W, Calls Tryd.prog 12 #[.int .i64 11, .agg #[.int .i64 (mk), .int .i64 (mn), .int .i64 (mb)], .agg #[.int .i64 (rk), .int .i64 (rn), .int .i64 (rb)]] W (RVs ak an ab true W))) := by
  have h1 := fun W => bin_any 11 ak an ab 1 bn 0 fa fb W
  have h2 := fun W => bin_any 14 ak an ab 1 bn 0 fa fb W
  have h3 : (∀ W, Calls Tryd.prog 12 #[.int .i64 15, .agg #[.int .i64 (ak), .int .i64 (an), .int .i64 (ab)], .agg #[.int .i64 (1), .int .i64 (bn), .int .i64 (0)]] W (RVs (vk (binV 15 ⟨ak, an, ab⟩ ⟨1, bn, 0⟩)) (vn (binV 15 ⟨ak, an, ab⟩ ⟨1, bn, 0⟩)) (vb (binV 15 ⟨ak, an, ab⟩ ⟨1, bn, 0⟩)) (binV 14 ⟨ak, an, ab⟩ ⟨1, bn, 0⟩).isSome W)) := fun W => (bin_any 15 ak an ab 1 bn 0 fa fb W).mono fun _ _ h => h.is rfl (rest_law ⟨ak, an, ab⟩ ⟨1, bn, 0⟩ rfl)
  have h4 : ∃ mk mn mb : Int, ((binV 14 ⟨ak, an, ab⟩ ⟨1, bn, 0⟩).isSome = true → (∀ W, Calls Tryd.prog 12 #[.int .i64 13, .agg #[.int .i64 (vk (binV 14 ⟨ak, an, ab⟩ ⟨1, bn, 0⟩)), .int .i64 (vn (binV 14 ⟨ak, an, ab⟩ ⟨1, bn, 0⟩)), .int .i64 (vb (binV 14 ⟨ak, an, ab⟩ ⟨1, bn, 0⟩))], .agg #[.int .i64 (1), .int .i64 (bn), .int .i64 (0)]] W (RVs mk mn mb true W)) ∧ (∀ W, Calls Tryd.prog 12 #[.int .i64 11, .agg #[.int .i64 (mk), .int .i64 (mn), .int .i64 (mb)], .agg #[.int .i64 (vk (binV 15 ⟨ak, an, ab⟩ ⟨1, bn, 0⟩)), .int .i64 (vn (binV 15 ⟨ak, an, ab⟩ ⟨1, bn, 0⟩)), .int .i64 (vb (binV 15 ⟨ak, an, ab⟩ ⟨1, bn, 0⟩))]] W (RVs ak an ab true W))) := by
    cases hw : (binV 14 ⟨ak, an, ab⟩ ⟨1, bn, 0⟩).isSome
    · exact ⟨0, 0, 0, fun h => by cases h⟩
    · obtain ⟨fq, fr, ⟨mk, mn, mb⟩, e1, fm, e2⟩ := whole_law ⟨ak, an, ab⟩ ⟨1, bn, 0⟩ rfl fa hw
      refine ⟨mk, mn, mb, fun _ => ⟨fun W => bin_is 13 _ _ _ 1 bn 0 mk mn mb true ?_ ?_ fq fb W, fun W => bin_is 11 mk mn mb _ _ _ ak an ab true ?_ ?_ fm fr W⟩⟩
      · exact congrArg (Option.getD · Zv) e1
      · exact congrArg Option.isSome e1
      · exact congrArg (Option.getD · Zv) e2
      · exact congrArg Option.isSome e2
  obtain ⟨mk, mn, mb, h4⟩ := h4
  refine ⟨_, _, _, _, _, _, _, _, _, _, _, mk, mn, mb, h1, fun hg W => ?_, h2, h3, h4⟩
  obtain ⟨p, hp⟩ := Option.isSome_iff_exists.1 hg
  obtain ⟨e1, f1⟩ := undo_law ⟨ak, an, ab⟩ ⟨1, bn, 0⟩ p rfl fa hp
  have e0 : vk (binV 11 ⟨ak, an, ab⟩ ⟨1, bn, 0⟩) = p.k ∧ vn (binV 11 ⟨ak, an, ab⟩ ⟨1, bn, 0⟩) = p.n ∧ vb (binV 11 ⟨ak, an, ab⟩ ⟨1, bn, 0⟩) = p.b := by rw [hp]; exact ⟨rfl, rfl, rfl⟩
  rw [e0.1, e0.2.1, e0.2.2]
  exact bin_is 12 p.k p.n p.b 1 bn 0 ak an ab true (congrArg (Option.getD · Zv) e1) (congrArg Option.isSome e1) f1 fb W

set_option maxHeartbeats 8000000 in
theorem laws_00 (op ak an ab bk bn bb : Int) (fa : Fits an) (fb : Fits bn) (w : World) (ht : Tab w) (hf : flipV op = none) (hs : swapV op = none) : Calls Tryd.prog 6 #[.int .i64 op, .agg #[.int .i64 ak, .int .i64 an, .int .i64 ab], .agg #[.int .i64 bk, .int .i64 bn, .int .i64 bb]] w (BB true w) := by
  have T := Lib.hid ht
  obtain ⟨xk, xn, xb, ok, x1, x2, x3⟩ := laws_both op ak an ab bk bn bb fa fb
  have X := Lib.hid x1
  have FA := Lib.hid fa
  have FB := Lib.hid fb
  clear ht x1 x2 x3 fa fb
  have hE := eqVl
  have hG := guardVl
  have hN := neqVl
  have hk : bk ≠ 1 ∨ (bk = 1 ∧ bb ≠ 0) ∨ (bk = 1 ∧ bb = 0) := by omega
  have B0 := Lib.hid (((Bag.nil w).put ak an ab).put bk bn bb)
  go_enter Tryd.func6, Tryd.ntmps6
  obtain ⟨a0, a1, a2⟩ := B0.out.cells w.heap.size ak an ab (by simp)
  obtain ⟨b0, b1, b2⟩ := B0.out.cells (w.heap.size + 1) bk bn bb (by simp)
  go_wp2_with fail
  refine (awake_any _ (T.out.below B0.out.low)).mono ?_
  rintro e w1 ⟨rfl, hb⟩
  have B1 := Lib.hid (B0.out.step hb)
  clear hb B0
  clear a0 a1 a2 b0 b1 b2
  obtain ⟨a0, a1, a2⟩ := B1.out.cells w.heap.size ak an ab (by simp)
  obtain ⟨b0, b1, b2⟩ := B1.out.cells (w.heap.size + 1) bk bn bb (by simp)
  go_wp2_with fail
  refine (X.out _).mono ?_
  rintro e w2 ⟨rfl, hb⟩
  have B2 := Lib.hid ((B1.out.step hb).put xk xn xb)
  clear hb B1
  clear a0 a1 a2 b0 b1 b2
  obtain ⟨x0, x1, x2⟩ := B2.out.cells w2.heap.size xk xn xb (by simp)
  obtain ⟨a0, a1, a2⟩ := B2.out.cells w.heap.size ak an ab (by simp)
  obtain ⟨b0, b1, b2⟩ := B2.out.cells (w.heap.size + 1) bk bn bb (by simp)
  go_wp2_with fail
  refine (flip_any op _).mono ?_
  rw [hf]
  rintro e w3 ⟨rfl, rfl⟩
  go_wp2_with fail
  refine (swap_any op _).mono ?_
  rw [hs]
  rintro e w4 ⟨rfl, rfl⟩
  rcases hk with hk | ⟨rfl, hk⟩ | ⟨rfl, rfl⟩
  · go_wp2_with fail
    go_ret
    exact ⟨by simp, B2.out.low⟩
  · go_wp2_with fail
    go_ret
    exact ⟨by simp, B2.out.low⟩
  · obtain ⟨pk, pn, pb, good, qk, qn, qb, rk, rn, rb, whole, mk, mn, mb, t1, t2, t3, t4, t5⟩ := tail_both ak an ab bn FA.out FB.out
    have T1 := Lib.hid t1
    have T2 := Lib.hid t2
    have T3 := Lib.hid t3
    have T4 := Lib.hid t4
    have T5 := Lib.hid t5
    clear t1 t2 t3 t4 t5
    go_wp2_with fail
    refine (T1.out _).mono ?_
    rintro e w5 ⟨rfl, hb⟩
    have B5 := Lib.hid ((B2.out.step hb).put pk pn pb)
    clear hb B2
    clear x0 x1 x2 a0 a1 a2 b0 b1 b2
    obtain ⟨a0, a1, a2⟩ := B5.out.cells w.heap.size ak an ab (by simp)
    obtain ⟨b0, b1, b2⟩ := B5.out.cells (w.heap.size + 1) 1 bn 0 (by simp)
    obtain ⟨p0, p1, p2⟩ := B5.out.cells w5.heap.size pk pn pb (by simp)
    cases good
    · go_wp2_with fail
      refine (T3.out _).mono ?_
      rintro e w6 ⟨rfl, hb⟩
      have B6 := Lib.hid ((B5.out.step hb).put qk qn qb)
      clear hb B5
      clear a0 a1 a2 b0 b1 b2 p0 p1 p2
      obtain ⟨a0, a1, a2⟩ := B6.out.cells w.heap.size ak an ab (by simp)
      obtain ⟨b0, b1, b2⟩ := B6.out.cells (w.heap.size + 1) 1 bn 0 (by simp)
      go_wp2_with fail
      refine (T4.out _).mono ?_
      rintro e w7 ⟨rfl, hb⟩
      have B7 := Lib.hid ((B6.out.step hb).put rk rn rb)
      clear hb B6
      clear a0 a1 a2 b0 b1 b2
      obtain ⟨a0, a1, a2⟩ := B7.out.cells w.heap.size ak an ab (by simp)
      obtain ⟨b0, b1, b2⟩ := B7.out.cells (w.heap.size + 1) 1 bn 0 (by simp)
      obtain ⟨u0, u1, u2⟩ := B7.out.cells w6.heap.size qk qn qb (by simp)
      cases whole
      · go_wp2_with fail
        go_ret
        exact ⟨by simp, B7.out.low⟩
      · go_wp2_with fail
        refine ((T5.out (by simp)).1 _).mono ?_
        rintro e w8 ⟨rfl, hb⟩
        have B8 := Lib.hid ((B7.out.step hb).put mk mn mb)
        clear hb B7
        clear a0 a1 a2 b0 b1 b2 u0 u1 u2
        obtain ⟨m0, m1, m2⟩ := B8.out.cells w8.heap.size mk mn mb (by simp)
        obtain ⟨r0, r1, r2⟩ := B8.out.cells w7.heap.size rk rn rb (by simp)
        go_wp2_with fail
        refine ((T5.out (by simp)).2 _).mono ?_
        rintro e w9 ⟨rfl, hb⟩
        have B9 := Lib.hid ((B8.out.step hb).put ak an ab)
        clear hb B8
        clear m0 m1 m2 r0 r1 r2
        obtain ⟨z0, z1, z2⟩ := B9.out.cells w9.heap.size ak an ab (by simp)
        obtain ⟨a0, a1, a2⟩ := B9.out.cells w.heap.size ak an ab (by simp)
        go_wp2_with fail
        go_ret
        exact ⟨by simp, B9.out.low⟩
    · go_wp2_with fail
      refine (T2.out (by simp) _).mono ?_
      rintro e w6 ⟨rfl, hb⟩
      have B6 := Lib.hid ((B5.out.step hb).put ak an ab)
      clear hb B5
      clear a0 a1 a2 b0 b1 b2 p0 p1 p2
      obtain ⟨a0, a1, a2⟩ := B6.out.cells w.heap.size ak an ab (by simp)
      obtain ⟨b0, b1, b2⟩ := B6.out.cells (w.heap.size + 1) 1 bn 0 (by simp)
      obtain ⟨q0, q1, q2⟩ := B6.out.cells w6.heap.size ak an ab (by simp)
      go_wp2_with fail
      refine (T3.out _).mono ?_
      rintro e w7 ⟨rfl, hb⟩
      have B7 := Lib.hid ((B6.out.step hb).put qk qn qb)
      clear hb B6
      clear a0 a1 a2 b0 b1 b2 q0 q1 q2
      obtain ⟨a0, a1, a2⟩ := B7.out.cells w.heap.size ak an ab (by simp)
      obtain ⟨b0, b1, b2⟩ := B7.out.cells (w.heap.size + 1) 1 bn 0 (by simp)
      go_wp2_with fail
      refine (T4.out _).mono ?_
      rintro e w8 ⟨rfl, hb⟩
      have B8 := Lib.hid ((B7.out.step hb).put rk rn rb)
      clear hb B7
      clear a0 a1 a2 b0 b1 b2
      obtain ⟨a0, a1, a2⟩ := B8.out.cells w.heap.size ak an ab (by simp)
      obtain ⟨b0, b1, b2⟩ := B8.out.cells (w.heap.size + 1) 1 bn 0 (by simp)
      obtain ⟨u0, u1, u2⟩ := B8.out.cells w7.heap.size qk qn qb (by simp)
      cases whole
      · go_wp2_with fail
        go_ret
        exact ⟨by simp, B8.out.low⟩
      · go_wp2_with fail
        refine ((T5.out (by simp)).1 _).mono ?_
        rintro e w9 ⟨rfl, hb⟩
        have B9 := Lib.hid ((B8.out.step hb).put mk mn mb)
        clear hb B8
        clear a0 a1 a2 b0 b1 b2 u0 u1 u2
        obtain ⟨m0, m1, m2⟩ := B9.out.cells w9.heap.size mk mn mb (by simp)
        obtain ⟨r0, r1, r2⟩ := B9.out.cells w8.heap.size rk rn rb (by simp)
        go_wp2_with fail
        refine ((T5.out (by simp)).2 _).mono ?_
        rintro e w10 ⟨rfl, hb⟩
        have B10 := Lib.hid ((B9.out.step hb).put ak an ab)
        clear hb B9
        clear m0 m1 m2 r0 r1 r2
        obtain ⟨z0, z1, z2⟩ := B10.out.cells w10.heap.size ak an ab (by simp)
        obtain ⟨a0, a1, a2⟩ := B10.out.cells w.heap.size ak an ab (by simp)
        go_wp2_with fail
        go_ret
        exact ⟨by simp, B10.out.low⟩
set_option maxHeartbeats 8000000 in
theorem laws_01 (op ak an ab bk bn bb : Int) (fa : Fits an) (fb : Fits bn) (w : World) (ht : Tab w) (hf : flipV op = none) (s : Int) (hs : swapV op = some s) : Calls Tryd.prog 6 #[.int .i64 op, .agg #[.int .i64 ak, .int .i64 an, .int .i64 ab], .agg #[.int .i64 bk, .int .i64 bn, .int .i64 bb]] w (BB true w) := by
  have T := Lib.hid ht
  obtain ⟨xk, xn, xb, ok, x1, x2, x3⟩ := laws_both op ak an ab bk bn bb fa fb
  have X := Lib.hid x1
  have HS := Lib.hid (x3 s hs)
  have FA := Lib.hid fa
  have FB := Lib.hid fb
  clear ht x1 x2 x3 fa fb
  have hE := eqVl
  have hG := guardVl
  have hN := neqVl
  have hk : bk ≠ 1 ∨ (bk = 1 ∧ bb ≠ 0) ∨ (bk = 1 ∧ bb = 0) := by omega
  have B0 := Lib.hid (((Bag.nil w).put ak an ab).put bk bn bb)
  go_enter Tryd.func6, Tryd.ntmps6
  obtain ⟨a0, a1, a2⟩ := B0.out.cells w.heap.size ak an ab (by simp)
  obtain ⟨b0, b1, b2⟩ := B0.out.cells (w.heap.size + 1) bk bn bb (by simp)
  go_wp2_with fail
  refine (awake_any _ (T.out.below B0.out.low)).mono ?_
  rintro e w1 ⟨rfl, hb⟩
  have B1 := Lib.hid (B0.out.step hb)
  clear hb B0
  clear a0 a1 a2 b0 b1 b2
  obtain ⟨a0, a1, a2⟩ := B1.out.cells w.heap.size ak an ab (by simp)
  obtain ⟨b0, b1, b2⟩ := B1.out.cells (w.heap.size + 1) bk bn bb (by simp)
  go_wp2_with fail
  refine (X.out _).mono ?_
  rintro e w2 ⟨rfl, hb⟩
  have B2 := Lib.hid ((B1.out.step hb).put xk xn xb)
  clear hb B1
  clear a0 a1 a2 b0 b1 b2
  obtain ⟨x0, x1, x2⟩ := B2.out.cells w2.heap.size xk xn xb (by simp)
  obtain ⟨a0, a1, a2⟩ := B2.out.cells w.heap.size ak an ab (by simp)
  obtain ⟨b0, b1, b2⟩ := B2.out.cells (w.heap.size + 1) bk bn bb (by simp)
  go_wp2_with fail
  refine (flip_any op _).mono ?_
  rw [hf]
  rintro e w3 ⟨rfl, rfl⟩
  go_wp2_with fail
  refine (swap_is op s hs _).mono ?_
  rintro e w4 ⟨rfl, rfl⟩
  go_wp2_with fail
  refine (HS.out _).mono ?_
  rintro e w5 ⟨rfl, hb⟩
  have B5 := Lib.hid ((B2.out.step hb).put xk xn xb)
  clear hb B2
  clear x0 x1 x2 a0 a1 a2 b0 b1 b2
  obtain ⟨x0, x1, x2⟩ := B5.out.cells w2.heap.size xk xn xb (by simp)
  obtain ⟨s0, s1, s2⟩ := B5.out.cells w5.heap.size xk xn xb (by simp)
  obtain ⟨a0, a1, a2⟩ := B5.out.cells w.heap.size ak an ab (by simp)
  obtain ⟨b0, b1, b2⟩ := B5.out.cells (w.heap.size + 1) bk bn bb (by simp)
  rcases hk with hk | ⟨rfl, hk⟩ | ⟨rfl, rfl⟩
  · go_wp2_with fail
    go_ret
    exact ⟨by simp, B5.out.low⟩
  · go_wp2_with fail
    go_ret
    exact ⟨by simp, B5.out.low⟩
  · obtain ⟨pk, pn, pb, good, qk, qn, qb, rk, rn, rb, whole, mk, mn, mb, t1, t2, t3, t4, t5⟩ := tail_both ak an ab bn FA.out FB.out
    have T1 := Lib.hid t1
    have T2 := Lib.hid t2
    have T3 := Lib.hid t3
    have T4 := Lib.hid t4
    have T5 := Lib.hid t5
    clear t1 t2 t3 t4 t5
    go_wp2_with fail
    refine (T1.out _).mono ?_
    rintro e w6 ⟨rfl, hb⟩
    have B6 := Lib.hid ((B5.out.step hb).put pk pn pb)
    clear hb B5
    clear x0 x1 x2 s0 s1 s2 a0 a1 a2 b0 b1 b2
    obtain ⟨a0, a1, a2⟩ := B6.out.cells w.heap.size ak an ab (by simp)
    obtain ⟨b0, b1, b2⟩ := B6.out.cells (w.heap.size + 1) 1 bn 0 (by simp)
    obtain ⟨p0, p1, p2⟩ := B6.out.cells w6.heap.size pk pn pb (by simp)
    cases good
    · go_wp2_with fail
      refine (T3.out _).mono ?_
      rintro e w7 ⟨rfl, hb⟩
      have B7 := Lib.hid ((B6.out.step hb).put qk qn qb)
      clear hb B6
      clear a0 a1 a2 b0 b1 b2 p0 p1 p2
      obtain ⟨a0, a1, a2⟩ := B7.out.cells w.heap.size ak an ab (by simp)
      obtain ⟨b0, b1, b2⟩ := B7.out.cells (w.heap.size + 1) 1 bn 0 (by simp)
      go_wp2_with fail
      refine (T4.out _).mono ?_
      rintro e w8 ⟨rfl, hb⟩
      have B8 := Lib.hid ((B7.out.step hb).put rk rn rb)
      clear hb B7
      clear a0 a1 a2 b0 b1 b2
      obtain ⟨a0, a1, a2⟩ := B8.out.cells w.heap.size ak an ab (by simp)
      obtain ⟨b0, b1, b2⟩ := B8.out.cells (w.heap.size + 1) 1 bn 0 (by simp)
      obtain ⟨u0, u1, u2⟩ := B8.out.cells w7.heap.size qk qn qb (by simp)
      cases whole
      · go_wp2_with fail
        go_ret
        exact ⟨by simp, B8.out.low⟩
      · go_wp2_with fail
        refine ((T5.out (by simp)).1 _).mono ?_
        rintro e w9 ⟨rfl, hb⟩
        have B9 := Lib.hid ((B8.out.step hb).put mk mn mb)
        clear hb B8
        clear a0 a1 a2 b0 b1 b2 u0 u1 u2
        obtain ⟨m0, m1, m2⟩ := B9.out.cells w9.heap.size mk mn mb (by simp)
        obtain ⟨r0, r1, r2⟩ := B9.out.cells w8.heap.size rk rn rb (by simp)
        go_wp2_with fail
        refine ((T5.out (by simp)).2 _).mono ?_
        rintro e w10 ⟨rfl, hb⟩
        have B10 := Lib.hid ((B9.out.step hb).put ak an ab)
        clear hb B9
        clear m0 m1 m2 r0 r1 r2
        obtain ⟨z0, z1, z2⟩ := B10.out.cells w10.heap.size ak an ab (by simp)
        obtain ⟨a0, a1, a2⟩ := B10.out.cells w.heap.size ak an ab (by simp)
        go_wp2_with fail
        go_ret
        exact ⟨by simp, B10.out.low⟩
    · go_wp2_with fail
      refine (T2.out (by simp) _).mono ?_
      rintro e w7 ⟨rfl, hb⟩
      have B7 := Lib.hid ((B6.out.step hb).put ak an ab)
      clear hb B6
      clear a0 a1 a2 b0 b1 b2 p0 p1 p2
      obtain ⟨a0, a1, a2⟩ := B7.out.cells w.heap.size ak an ab (by simp)
      obtain ⟨b0, b1, b2⟩ := B7.out.cells (w.heap.size + 1) 1 bn 0 (by simp)
      obtain ⟨q0, q1, q2⟩ := B7.out.cells w7.heap.size ak an ab (by simp)
      go_wp2_with fail
      refine (T3.out _).mono ?_
      rintro e w8 ⟨rfl, hb⟩
      have B8 := Lib.hid ((B7.out.step hb).put qk qn qb)
      clear hb B7
      clear a0 a1 a2 b0 b1 b2 q0 q1 q2
      obtain ⟨a0, a1, a2⟩ := B8.out.cells w.heap.size ak an ab (by simp)
      obtain ⟨b0, b1, b2⟩ := B8.out.cells (w.heap.size + 1) 1 bn 0 (by simp)
      go_wp2_with fail
      refine (T4.out _).mono ?_
      rintro e w9 ⟨rfl, hb⟩
      have B9 := Lib.hid ((B8.out.step hb).put rk rn rb)
      clear hb B8
      clear a0 a1 a2 b0 b1 b2
      obtain ⟨a0, a1, a2⟩ := B9.out.cells w.heap.size ak an ab (by simp)
      obtain ⟨b0, b1, b2⟩ := B9.out.cells (w.heap.size + 1) 1 bn 0 (by simp)
      obtain ⟨u0, u1, u2⟩ := B9.out.cells w8.heap.size qk qn qb (by simp)
      cases whole
      · go_wp2_with fail
        go_ret
        exact ⟨by simp, B9.out.low⟩
      · go_wp2_with fail
        refine ((T5.out (by simp)).1 _).mono ?_
        rintro e w10 ⟨rfl, hb⟩
        have B10 := Lib.hid ((B9.out.step hb).put mk mn mb)
        clear hb B9
        clear a0 a1 a2 b0 b1 b2 u0 u1 u2
        obtain ⟨m0, m1, m2⟩ := B10.out.cells w10.heap.size mk mn mb (by simp)
        obtain ⟨r0, r1, r2⟩ := B10.out.cells w9.heap.size rk rn rb (by simp)
        go_wp2_with fail
        refine ((T5.out (by simp)).2 _).mono ?_
        rintro e w11 ⟨rfl, hb⟩
        have B11 := Lib.hid ((B10.out.step hb).put ak an ab)
        clear hb B10
        clear m0 m1 m2 r0 r1 r2
        obtain ⟨z0, z1, z2⟩ := B11.out.cells w11.heap.size ak an ab (by simp)
        obtain ⟨a0, a1, a2⟩ := B11.out.cells w.heap.size ak an ab (by simp)
        go_wp2_with fail
        go_ret
        exact ⟨by simp, B11.out.low⟩
set_option maxHeartbeats 8000000 in
theorem laws_11 (op ak an ab bk bn bb : Int) (fa : Fits an) (fb : Fits bn) (w : World) (ht : Tab w) (f : Int) (hf : flipV op = some f) (s : Int) (hs : swapV op = some s) : Calls Tryd.prog 6 #[.int .i64 op, .agg #[.int .i64 ak, .int .i64 an, .int .i64 ab], .agg #[.int .i64 bk, .int .i64 bn, .int .i64 bb]] w (BB true w) := by
  have T := Lib.hid ht
  obtain ⟨xk, xn, xb, ok, x1, x2, x3⟩ := laws_both op ak an ab bk bn bb fa fb
  have X := Lib.hid x1
  have HS := Lib.hid (x3 s hs)
  obtain ⟨yk, yn, yb, f1, hs1⟩ := x2 f hf
  have HF := Lib.hid f1
  clear f1
  have FA := Lib.hid fa
  have FB := Lib.hid fb
  clear ht x1 x2 x3 fa fb
  have hE := eqVl
  have hG := guardVl
  have hN := neqVl
  have hk : bk ≠ 1 ∨ (bk = 1 ∧ bb ≠ 0) ∨ (bk = 1 ∧ bb = 0) := by omega
  have B0 := Lib.hid (((Bag.nil w).put ak an ab).put bk bn bb)
  go_enter Tryd.func6, Tryd.ntmps6
  obtain ⟨a0, a1, a2⟩ := B0.out.cells w.heap.size ak an ab (by simp)
  obtain ⟨b0, b1, b2⟩ := B0.out.cells (w.heap.size + 1) bk bn bb (by simp)
  go_wp2_with fail
  refine (awake_any _ (T.out.below B0.out.low)).mono ?_
  rintro e w1 ⟨rfl, hb⟩
  have B1 := Lib.hid (B0.out.step hb)
  clear hb B0
  clear a0 a1 a2 b0 b1 b2
  obtain ⟨a0, a1, a2⟩ := B1.out.cells w.heap.size ak an ab (by simp)
  obtain ⟨b0, b1, b2⟩ := B1.out.cells (w.heap.size + 1) bk bn bb (by simp)
  go_wp2_with fail
  refine (X.out _).mono ?_
  rintro e w2 ⟨rfl, hb⟩
  have B2 := Lib.hid ((B1.out.step hb).put xk xn xb)
  clear hb B1
  clear a0 a1 a2 b0 b1 b2
  obtain ⟨x0, x1, x2⟩ := B2.out.cells w2.heap.size xk xn xb (by simp)
  obtain ⟨a0, a1, a2⟩ := B2.out.cells w.heap.size ak an ab (by simp)
  obtain ⟨b0, b1, b2⟩ := B2.out.cells (w.heap.size + 1) bk bn bb (by simp)
  go_wp2_with fail
  refine (flip_is op f hf _).mono ?_
  rintro e w3 ⟨rfl, rfl⟩
  go_wp2_with fail
  refine (HF.out _).mono ?_
  rintro e w4 ⟨rfl, hb⟩
  have B4 := Lib.hid ((B2.out.step hb).put yk yn yb)
  clear hb B2
  clear x0 x1 x2 a0 a1 a2 b0 b1 b2
  obtain ⟨x0, x1, x2⟩ := B4.out.cells w2.heap.size xk xn xb (by simp)
  obtain ⟨y0, y1, y2⟩ := B4.out.cells w4.heap.size yk yn yb (by simp)
  obtain ⟨a0, a1, a2⟩ := B4.out.cells w.heap.size ak an ab (by simp)
  obtain ⟨b0, b1, b2⟩ := B4.out.cells (w.heap.size + 1) bk bn bb (by simp)
  cases ok
  · go_wp2_with fail
    refine (swap_is op s hs _).mono ?_
    rintro e w5 ⟨rfl, rfl⟩
    go_wp2_with fail
    refine (HS.out _).mono ?_
    rintro e w6 ⟨rfl, hb⟩
    have B6 := Lib.hid ((B4.out.step hb).put xk xn xb)
    clear hb B4
    clear x0 x1 x2 y0 y1 y2 a0 a1 a2 b0 b1 b2
    obtain ⟨x0, x1, x2⟩ := B6.out.cells w2.heap.size xk xn xb (by simp)
    obtain ⟨s0, s1, s2⟩ := B6.out.cells w6.heap.size xk xn xb (by simp)
    obtain ⟨a0, a1, a2⟩ := B6.out.cells w.heap.size ak an ab (by simp)
    obtain ⟨b0, b1, b2⟩ := B6.out.cells (w.heap.size + 1) bk bn bb (by simp)
    rcases hk with hk | ⟨rfl, hk⟩ | ⟨rfl, rfl⟩
    · go_wp2_with fail
      go_ret
      exact ⟨by simp, B6.out.low⟩
    · go_wp2_with fail
      go_ret
      exact ⟨by simp, B6.out.low⟩
    · obtain ⟨pk, pn, pb, good, qk, qn, qb, rk, rn, rb, whole, mk, mn, mb, t1, t2, t3, t4, t5⟩ := tail_both ak an ab bn FA.out FB.out
      have T1 := Lib.hid t1
      have T2 := Lib.hid t2
      have T3 := Lib.hid t3
      have T4 := Lib.hid t4
      have T5 := Lib.hid t5
      clear t1 t2 t3 t4 t5
      go_wp2_with fail
      refine (T1.out _).mono ?_
      rintro e w7 ⟨rfl, hb⟩
      have B7 := Lib.hid ((B6.out.step hb).put pk pn pb)
      clear hb B6
      clear x0 x1 x2 s0 s1 s2 a0 a1 a2 b0 b1 b2
      obtain ⟨a0, a1, a2⟩ := B7.out.cells w.heap.size ak an ab (by simp)
      obtain ⟨b0, b1, b2⟩ := B7.out.cells (w.heap.size + 1) 1 bn 0 (by simp)
      obtain ⟨p0, p1, p2⟩ := B7.out.cells w7.heap.size pk pn pb (by simp)
      cases good
      · go_wp2_with fail
        refine (T3.out _).mono ?_
        rintro e w8 ⟨rfl, hb⟩
        have B8 := Lib.hid ((B7.out.step hb).put qk qn qb)
        clear hb B7
        clear a0 a1 a2 b0 b1 b2 p0 p1 p2
        obtain ⟨a0, a1, a2⟩ := B8.out.cells w.heap.size ak an ab (by simp)
        obtain ⟨b0, b1, b2⟩ := B8.out.cells (w.heap.size + 1) 1 bn 0 (by simp)
        go_wp2_with fail
        refine (T4.out _).mono ?_
        rintro e w9 ⟨rfl, hb⟩
        have B9 := Lib.hid ((B8.out.step hb).put rk rn rb)
        clear hb B8
        clear a0 a1 a2 b0 b1 b2
        obtain ⟨a0, a1, a2⟩ := B9.out.cells w.heap.size ak an ab (by simp)
        obtain ⟨b0, b1, b2⟩ := B9.out.cells (w.heap.size + 1) 1 bn 0 (by simp)
        obtain ⟨u0, u1, u2⟩ := B9.out.cells w8.heap.size qk qn qb (by simp)
        cases whole
        · go_wp2_with fail
          go_ret
          exact ⟨by simp, B9.out.low⟩
        · go_wp2_with fail
          refine ((T5.out (by simp)).1 _).mono ?_
          rintro e w10 ⟨rfl, hb⟩
          have B10 := Lib.hid ((B9.out.step hb).put mk mn mb)
          clear hb B9
          clear a0 a1 a2 b0 b1 b2 u0 u1 u2
          obtain ⟨m0, m1, m2⟩ := B10.out.cells w10.heap.size mk mn mb (by simp)
          obtain ⟨r0, r1, r2⟩ := B10.out.cells w9.heap.size rk rn rb (by simp)
          go_wp2_with fail
          refine ((T5.out (by simp)).2 _).mono ?_
          rintro e w11 ⟨rfl, hb⟩
          have B11 := Lib.hid ((B10.out.step hb).put ak an ab)
          clear hb B10
          clear m0 m1 m2 r0 r1 r2
          obtain ⟨z0, z1, z2⟩ := B11.out.cells w11.heap.size ak an ab (by simp)
          obtain ⟨a0, a1, a2⟩ := B11.out.cells w.heap.size ak an ab (by simp)
          go_wp2_with fail
          go_ret
          exact ⟨by simp, B11.out.low⟩
      · go_wp2_with fail
        refine (T2.out (by simp) _).mono ?_
        rintro e w8 ⟨rfl, hb⟩
        have B8 := Lib.hid ((B7.out.step hb).put ak an ab)
        clear hb B7
        clear a0 a1 a2 b0 b1 b2 p0 p1 p2
        obtain ⟨a0, a1, a2⟩ := B8.out.cells w.heap.size ak an ab (by simp)
        obtain ⟨b0, b1, b2⟩ := B8.out.cells (w.heap.size + 1) 1 bn 0 (by simp)
        obtain ⟨q0, q1, q2⟩ := B8.out.cells w8.heap.size ak an ab (by simp)
        go_wp2_with fail
        refine (T3.out _).mono ?_
        rintro e w9 ⟨rfl, hb⟩
        have B9 := Lib.hid ((B8.out.step hb).put qk qn qb)
        clear hb B8
        clear a0 a1 a2 b0 b1 b2 q0 q1 q2
        obtain ⟨a0, a1, a2⟩ := B9.out.cells w.heap.size ak an ab (by simp)
        obtain ⟨b0, b1, b2⟩ := B9.out.cells (w.heap.size + 1) 1 bn 0 (by simp)
        go_wp2_with fail
        refine (T4.out _).mono ?_
        rintro e w10 ⟨rfl, hb⟩
        have B10 := Lib.hid ((B9.out.step hb).put rk rn rb)
        clear hb B9
        clear a0 a1 a2 b0 b1 b2
        obtain ⟨a0, a1, a2⟩ := B10.out.cells w.heap.size ak an ab (by simp)
        obtain ⟨b0, b1, b2⟩ := B10.out.cells (w.heap.size + 1) 1 bn 0 (by simp)
        obtain ⟨u0, u1, u2⟩ := B10.out.cells w9.heap.size qk qn qb (by simp)
        cases whole
        · go_wp2_with fail
          go_ret
          exact ⟨by simp, B10.out.low⟩
        · go_wp2_with fail
          refine ((T5.out (by simp)).1 _).mono ?_
          rintro e w11 ⟨rfl, hb⟩
          have B11 := Lib.hid ((B10.out.step hb).put mk mn mb)
          clear hb B10
          clear a0 a1 a2 b0 b1 b2 u0 u1 u2
          obtain ⟨m0, m1, m2⟩ := B11.out.cells w11.heap.size mk mn mb (by simp)
          obtain ⟨r0, r1, r2⟩ := B11.out.cells w10.heap.size rk rn rb (by simp)
          go_wp2_with fail
          refine ((T5.out (by simp)).2 _).mono ?_
          rintro e w12 ⟨rfl, hb⟩
          have B12 := Lib.hid ((B11.out.step hb).put ak an ab)
          clear hb B11
          clear m0 m1 m2 r0 r1 r2
          obtain ⟨z0, z1, z2⟩ := B12.out.cells w12.heap.size ak an ab (by simp)
          obtain ⟨a0, a1, a2⟩ := B12.out.cells w.heap.size ak an ab (by simp)
          go_wp2_with fail
          go_ret
          exact ⟨by simp, B12.out.low⟩
  · have hsum := hs1 rfl
    go_wp2_with fail
    refine (swap_is op s hs _).mono ?_
    rintro e w5 ⟨rfl, rfl⟩
    go_wp2_with fail
    refine (HS.out _).mono ?_
    rintro e w6 ⟨rfl, hb⟩
    have B6 := Lib.hid ((B4.out.step hb).put xk xn xb)
    clear hb B4
    clear x0 x1 x2 y0 y1 y2 a0 a1 a2 b0 b1 b2
    obtain ⟨x0, x1, x2⟩ := B6.out.cells w2.heap.size xk xn xb (by simp)
    obtain ⟨s0, s1, s2⟩ := B6.out.cells w6.heap.size xk xn xb (by simp)
    obtain ⟨a0, a1, a2⟩ := B6.out.cells w.heap.size ak an ab (by simp)
    obtain ⟨b0, b1, b2⟩ := B6.out.cells (w.heap.size + 1) bk bn bb (by simp)
    rcases hk with hk | ⟨rfl, hk⟩ | ⟨rfl, rfl⟩
    · go_wp2_with fail
      go_ret
      exact ⟨by simp, B6.out.low⟩
    · go_wp2_with fail
      go_ret
      exact ⟨by simp, B6.out.low⟩
    · obtain ⟨pk, pn, pb, good, qk, qn, qb, rk, rn, rb, whole, mk, mn, mb, t1, t2, t3, t4, t5⟩ := tail_both ak an ab bn FA.out FB.out
      have T1 := Lib.hid t1
      have T2 := Lib.hid t2
      have T3 := Lib.hid t3
      have T4 := Lib.hid t4
      have T5 := Lib.hid t5
      clear t1 t2 t3 t4 t5
      go_wp2_with fail
      refine (T1.out _).mono ?_
      rintro e w7 ⟨rfl, hb⟩
      have B7 := Lib.hid ((B6.out.step hb).put pk pn pb)
      clear hb B6
      clear x0 x1 x2 s0 s1 s2 a0 a1 a2 b0 b1 b2
      obtain ⟨a0, a1, a2⟩ := B7.out.cells w.heap.size ak an ab (by simp)
      obtain ⟨b0, b1, b2⟩ := B7.out.cells (w.heap.size + 1) 1 bn 0 (by simp)
      obtain ⟨p0, p1, p2⟩ := B7.out.cells w7.heap.size pk pn pb (by simp)
      cases good
      · go_wp2_with fail
        refine (T3.out _).mono ?_
        rintro e w8 ⟨rfl, hb⟩
        have B8 := Lib.hid ((B7.out.step hb).put qk qn qb)
        clear hb B7
        clear a0 a1 a2 b0 b1 b2 p0 p1 p2
        obtain ⟨a0, a1, a2⟩ := B8.out.cells w.heap.size ak an ab (by simp)
        obtain ⟨b0, b1, b2⟩ := B8.out.cells (w.heap.size + 1) 1 bn 0 (by simp)
        go_wp2_with fail
        refine (T4.out _).mono ?_
        rintro e w9 ⟨rfl, hb⟩
        have B9 := Lib.hid ((B8.out.step hb).put rk rn rb)
        clear hb B8
        clear a0 a1 a2 b0 b1 b2
        obtain ⟨a0, a1, a2⟩ := B9.out.cells w.heap.size ak an ab (by simp)
        obtain ⟨b0, b1, b2⟩ := B9.out.cells (w.heap.size + 1) 1 bn 0 (by simp)
        obtain ⟨u0, u1, u2⟩ := B9.out.cells w8.heap.size qk qn qb (by simp)
        cases whole
        · go_wp2_with fail
          go_ret
          exact ⟨by simp, B9.out.low⟩
        · go_wp2_with fail
          refine ((T5.out (by simp)).1 _).mono ?_
          rintro e w10 ⟨rfl, hb⟩
          have B10 := Lib.hid ((B9.out.step hb).put mk mn mb)
          clear hb B9
          clear a0 a1 a2 b0 b1 b2 u0 u1 u2
          obtain ⟨m0, m1, m2⟩ := B10.out.cells w10.heap.size mk mn mb (by simp)
          obtain ⟨r0, r1, r2⟩ := B10.out.cells w9.heap.size rk rn rb (by simp)
          go_wp2_with fail
          refine ((T5.out (by simp)).2 _).mono ?_
          rintro e w11 ⟨rfl, hb⟩
          have B11 := Lib.hid ((B10.out.step hb).put ak an ab)
          clear hb B10
          clear m0 m1 m2 r0 r1 r2
          obtain ⟨z0, z1, z2⟩ := B11.out.cells w11.heap.size ak an ab (by simp)
          obtain ⟨a0, a1, a2⟩ := B11.out.cells w.heap.size ak an ab (by simp)
          go_wp2_with fail
          go_ret
          exact ⟨by simp, B11.out.low⟩
      · go_wp2_with fail
        refine (T2.out (by simp) _).mono ?_
        rintro e w8 ⟨rfl, hb⟩
        have B8 := Lib.hid ((B7.out.step hb).put ak an ab)
        clear hb B7
        clear a0 a1 a2 b0 b1 b2 p0 p1 p2
        obtain ⟨a0, a1, a2⟩ := B8.out.cells w.heap.size ak an ab (by simp)
        obtain ⟨b0, b1, b2⟩ := B8.out.cells (w.heap.size + 1) 1 bn 0 (by simp)
        obtain ⟨q0, q1, q2⟩ := B8.out.cells w8.heap.size ak an ab (by simp)
        go_wp2_with fail
        refine (T3.out _).mono ?_
        rintro e w9 ⟨rfl, hb⟩
        have B9 := Lib.hid ((B8.out.step hb).put qk qn qb)
        clear hb B8
        clear a0 a1 a2 b0 b1 b2 q0 q1 q2
        obtain ⟨a0, a1, a2⟩ := B9.out.cells w.heap.size ak an ab (by simp)
        obtain ⟨b0, b1, b2⟩ := B9.out.cells (w.heap.size + 1) 1 bn 0 (by simp)
        go_wp2_with fail
        refine (T4.out _).mono ?_
        rintro e w10 ⟨rfl, hb⟩
        have B10 := Lib.hid ((B9.out.step hb).put rk rn rb)
        clear hb B9
        clear a0 a1 a2 b0 b1 b2
        obtain ⟨a0, a1, a2⟩ := B10.out.cells w.heap.size ak an ab (by simp)
        obtain ⟨b0, b1, b2⟩ := B10.out.cells (w.heap.size + 1) 1 bn 0 (by simp)
        obtain ⟨u0, u1, u2⟩ := B10.out.cells w9.heap.size qk qn qb (by simp)
        cases whole
        · go_wp2_with fail
          go_ret
          exact ⟨by simp, B10.out.low⟩
        · go_wp2_with fail
          refine ((T5.out (by simp)).1 _).mono ?_
          rintro e w11 ⟨rfl, hb⟩
          have B11 := Lib.hid ((B10.out.step hb).put mk mn mb)
          clear hb B10
          clear a0 a1 a2 b0 b1 b2 u0 u1 u2
          obtain ⟨m0, m1, m2⟩ := B11.out.cells w11.heap.size mk mn mb (by simp)
          obtain ⟨r0, r1, r2⟩ := B11.out.cells w10.heap.size rk rn rb (by simp)
          go_wp2_with fail
          refine ((T5.out (by simp)).2 _).mono ?_
          rintro e w12 ⟨rfl, hb⟩
          have B12 := Lib.hid ((B11.out.step hb).put ak an ab)
          clear hb B11
          clear m0 m1 m2 r0 r1 r2
          obtain ⟨z0, z1, z2⟩ := B12.out.cells w12.heap.size ak an ab (by simp)
          obtain ⟨a0, a1, a2⟩ := B12.out.cells w.heap.size ak an ab (by simp)
          go_wp2_with fail
          go_ret
          exact ⟨by simp, B12.out.low⟩
theorem laws_any (op ak an ab bk bn bb : Int) (fa : Fits an) (fb : Fits bn) (w : World) (ht : Tab w) : Calls Tryd.prog 6 #[.int .i64 op, .agg #[.int .i64 ak, .int .i64 an, .int .i64 ab], .agg #[.int .i64 bk, .int .i64 bn, .int .i64 bb]] w (BB true w) := by
  cases hf : flipV op with
  | none =>
    cases hs : swapV op with
    | none => exact laws_00 op ak an ab bk bn bb fa fb w ht hf hs
    | some s => exact laws_01 op ak an ab bk bn bb fa fb w ht hf s hs
  | some f =>
    obtain ⟨s, hs⟩ : ∃ s, swapV op = some s := by
      unfold flipV at hf
      unfold swapV
      split at hf
      · subst op; exact ⟨_, rfl⟩
      split at hf
      · subst op; exact ⟨_, rfl⟩
      split at hf
      · subst op; exact ⟨_, rfl⟩
      split at hf
      · subst op; exact ⟨_, rfl⟩
      split at hf
      · subst op; exact ⟨_, rfl⟩
      split at hf
      · subst op; exact ⟨_, rfl⟩
      · cases hf
    exact laws_11 op ak an ab bk bn bb fa fb w ht f hf s hs
end Go.Proofs.YtipeehmbloneoaaDoor
