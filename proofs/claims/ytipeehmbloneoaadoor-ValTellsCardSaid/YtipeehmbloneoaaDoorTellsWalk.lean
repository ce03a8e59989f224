/-
  ValTells answers true.
-/
import Derived.Test.YtipeehmbloneoaaDoorAwake
import Derived.Test.YtipeehmbloneoaaDoorRtext
import Derived.BigQuiet
import Derived.Lib.QuietBelow
namespace Go.Proofs.YtipeehmbloneoaaDoor
open Go.RowKit Go.Sort

set_option maxHeartbeats 4000000 in
theorem tells_any (op k m b n c : Int) (fm : Fits m) (fb : Fits b) (w : World) (ht : Tab w) : Calls Tryd.prog 5 #[.int .i64 op, .agg #[.int .i64 k, .int .i64 m, .int .i64 b], .int .i64 n, .int .i64 c] w (BB true w) := by
  have T := Lib.hid ht
  have FM := Lib.hid fm
  have FB := Lib.hid fb
  clear ht fm fb
  have hE := eqVl
  have hG := guardVl
  have B0 := Lib.hid ((Bag.nil w).put k m b)
  go_enter Tryd.func5, Tryd.ntmps5
  obtain ⟨a0, a1, a2⟩ := B0.out.cells w.heap.size k m b (by simp)
  go_wp2_with fail
  refine (awake_any _ (T.out.below B0.out.low)).mono ?_
  rintro e w1 ⟨rfl, hb⟩
  have B1 := Lib.hid (B0.out.step hb)
  clear hb B0
  clear a0 a1 a2
  obtain ⟨a0, a1, a2⟩ := B1.out.cells w.heap.size k m b (by simp)
  go_wp2_with fail
  refine (true_any k m b _).mono ?_
  rintro e w2 ⟨rfl, hb⟩
  have B2 := Lib.hid (B1.out.step hb)
  clear hb B1
  clear a0 a1 a2
  obtain ⟨a0, a1, a2⟩ := B2.out.cells w.heap.size k m b (by simp)
  go_wp2_with fail
  refine (rtrue_any k m b _).mono ?_
  rintro e w3 ⟨rfl, hb⟩
  have B3 := Lib.hid (B2.out.step hb)
  clear hb B2
  clear a0 a1 a2
  obtain ⟨a0, a1, a2⟩ := B3.out.cells w.heap.size k m b (by simp)
  go_wp2_with fail
  refine (flip_any op _).mono ?_
  rintro e w4 ⟨rfl, rfl⟩
  go_wp2_with fail
  refine (rflip_any op _).mono ?_
  rintro e w5 ⟨rfl, hb⟩
  have B5 := Lib.hid (B3.out.step hb)
  clear hb B3
  clear a0 a1 a2
  obtain ⟨a0, a1, a2⟩ := B5.out.cells w.heap.size k m b (by simp)
  go_wp2_with fail
  refine (swap_any op _).mono ?_
  rintro e w6 ⟨rfl, rfl⟩
  go_wp2_with fail
  refine (rswap_any op _).mono ?_
  rintro e w7 ⟨rfl, rfl⟩
  have ka0 := cell_regrown a0
  have ka1 := cell_regrown a1
  have ka2 := cell_regrown a2
  have C0 : ∀ d os, Calls Tryd.prog 15 #[.agg #[.int .i64 (k), .int .i64 (m), .int .i64 (b)]] (grow (redrawn w5 d) os) fun e w'' => e = .returned (.bool (goodB ⟨k, m, b⟩)) ∧ ∃ p : Regrown, w'' = grow (redrawn w5 p.d) p.os := fun d os => Calls.regrown_of (good_any k m b _)
  have D0 := Lib.hid C0
  clear C0
  have C1 : ∀ d os, Calls Tryd.prog 26 #[.agg #[.int .i64 (k), .int .i64 (m), .int .i64 (b)]] (grow (redrawn w5 d) os) fun e w'' => e = .returned (.bool (goodB ⟨k, m, b⟩)) ∧ ∃ p : Regrown, w'' = grow (redrawn w5 p.d) p.os := fun d os => Calls.regrown_of (rgood_any k m b _)
  have D1 := Lib.hid C1
  clear C1
  have C2 : ∀ d os, Calls Tryd.prog 16 #[.agg #[.int .i64 (k), .int .i64 (m), .int .i64 (b)]] (grow (redrawn w5 d) os) fun e w'' => e = .returned (.string ⟨(textV ⟨k, m, b⟩).toArray⟩) ∧ ∃ p : Regrown, w'' = grow (redrawn w5 p.d) p.os := fun d os => Calls.regrown_of (text_any k m b FM.out FB.out _ ((T.out.below B5.out.low).below (below_regrown w5 d os)))
  have D2 := Lib.hid C2
  clear C2
  have C3 : ∀ d os, Calls Tryd.prog 27 #[.agg #[.int .i64 (k), .int .i64 (m), .int .i64 (b)]] (grow (redrawn w5 d) os) fun e w'' => e = .returned (.string ⟨(textV ⟨k, m, b⟩).toArray⟩) ∧ ∃ p : Regrown, w'' = grow (redrawn w5 p.d) p.os := fun d os => Calls.regrown_of (rtext_any k m b FM.out FB.out _)
  have D3 := Lib.hid C3
  clear C3
  have C4 : ∀ d os, Calls Tryd.prog 13 #[.int .i64 n] (grow (redrawn w5 d) os) fun e w'' => e = .returned (.agg #[.int .i64 (1), .int .i64 (n), .int .i64 (0)]) ∧ ∃ p : Regrown, w'' = grow (redrawn w5 p.d) p.os := fun d os => Calls.regrown_of (of_any n _)
  have D4 := Lib.hid C4
  clear C4
  have C5 : ∀ d os, Calls Tryd.prog 28 #[.int .i64 n] (grow (redrawn w5 d) os) fun e w'' => e = .returned (.agg #[.int .i64 (1), .int .i64 (n), .int .i64 (0)]) ∧ ∃ p : Regrown, w'' = grow (redrawn w5 p.d) p.os := fun d os => Calls.regrown_of (rof_any n _)
  have D5 := Lib.hid C5
  clear C5
  have C6 : ∀ d os, Calls Tryd.prog 14 #[.int .i64 c, .int .i64 n] (grow (redrawn w5 d) os) fun e w'' => e = .returned (.agg #[.int .i64 (atK c), .int .i64 (atN c n), .int .i64 (atB c)]) ∧ ∃ p : Regrown, w'' = grow (redrawn w5 p.d) p.os := fun d os => Calls.regrown_of (at_any c n _)
  have D6 := Lib.hid C6
  clear C6
  have C7 : ∀ d os, Calls Tryd.prog 29 #[.int .i64 c, .int .i64 n] (grow (redrawn w5 d) os) fun e w'' => e = .returned (.agg #[.int .i64 (atK c), .int .i64 (atN c n), .int .i64 (atB c)]) ∧ ∃ p : Regrown, w'' = grow (redrawn w5 p.d) p.os := fun d os => Calls.regrown_of (rat_any c n _)
  have D7 := Lib.hid C7
  clear C7
  generalize goodB ⟨k, m, b⟩ = gg at D0 D1
  generalize textV ⟨k, m, b⟩ = tt at D2 D3
  generalize atK c = ak at D6 D7
  generalize atN c n = an at D6 D7
  generalize atB c = ab at D6 D7
  go_wp2_with fail
  refine wp_region_quiet_below (by kernel_rfl) (by kernel_rfl) ?_
  repeat (any_goals (first | go_big_quiet_step (first | (with_reducible exact D0.out _ _) | (with_reducible exact D1.out _ _) | (with_reducible exact D2.out _ _) | (with_reducible exact D3.out _ _) | (with_reducible exact D4.out _ _) | (with_reducible exact D5.out _ _) | (with_reducible exact D6.out _ _) | (with_reducible exact D7.out _ _)) | quiet_step (first | (with_reducible exact D0.out _ _) | (with_reducible exact D1.out _ _) | (with_reducible exact D2.out _ _) | (with_reducible exact D3.out _ _) | (with_reducible exact D4.out _ _) | (with_reducible exact D5.out _ _) | (with_reducible exact D6.out _ _) | (with_reducible exact D7.out _ _))))
  refine wpQuiet_nil ?_
  intro _ hw'
  obtain ⟨⟨dq, osq⟩, hw''⟩ := hw'
  subst hw''
  go_wp2_with fail
  go_ret
  exact ⟨by simp, B5.out.low.trans ((below_regrown w5 dq osq).mono B5.out.low.size)⟩
end Go.Proofs.YtipeehmbloneoaaDoor
