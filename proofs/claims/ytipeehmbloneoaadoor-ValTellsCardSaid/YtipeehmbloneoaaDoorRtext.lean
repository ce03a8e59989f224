/-
  The reference's Text: it answers what val.Text does.
-/
import Derived.Test.YtipeehmbloneoaaDoorNum
import Derived.Test.YtipeehmbloneoaaDoorRbin
namespace Go.Proofs.YtipeehmbloneoaaDoor
open Go.RowKit Go.Sort

theorem num_is (n : Int) (h : Fits n) (w : World) : Calls Tryd.prog 39 #[.int .i64 n] w (RS (Lib.itoa n) w) := num_any (n.natAbs + 1) n (by omega) h w
theorem rtext_any (k n b : Int) (fn : Fits n) (fb : Fits b) (w : World) : Calls Tryd.prog 27 #[.agg #[.int .i64 (k), .int .i64 (n), .int .i64 (b)]] w (RS (textV ⟨k, n, b⟩) w) := by
  have B0 := Lib.hid ((Bag.nil w).put k n b)
  cases hg : goodB ⟨k, n, b⟩
  · obtain ⟨hi, hp, -⟩ := not_good hg
    rw [show textV ⟨k, n, b⟩ = [117, 110, 100, 101, 102] from by simp [textV, hi, hp]]
    clear hi hp
    go_enter Tryd.func27, Tryd.ntmps27
    go_wp2_with fail
    refine (rgood_is k n b false hg _).mono ?_
    rintro e w1 ⟨rfl, hb⟩
    have B1 := Lib.hid (B0.out.step hb)
    go_wp2_with fail
    go_ret
    exact ⟨rfl, B1.out.low⟩
  · by_cases h0 : k = 0
    · subst h0
      obtain ⟨hi, hp, -⟩ := not_undef (x := ⟨0, n, b⟩) rfl
      rw [show textV ⟨0, n, b⟩ = [117, 110, 100, 101, 102] from by simp [textV, hi, hp]]
      clear hi hp
      go_enter Tryd.func27, Tryd.ntmps27
      go_wp2_with fail
      refine (rgood_is 0 n b true hg _).mono ?_
      rintro e w1 ⟨rfl, hb⟩
      have B1 := Lib.hid (B0.out.step hb)
      obtain ⟨q0, q1, q2⟩ := B1.out.cells w.heap.size 0 n b (by simp)
      go_wp2_with fail
      go_ret
      exact ⟨rfl, B1.out.low⟩
    · have hk := kinds hg h0
      simp only at hk
      rcases hk with ⟨rfl, rfl⟩ | ⟨rfl, hb1⟩
      · rw [show textV ⟨1, n, 0⟩ = Lib.itoa n from rfl]
        clear h0
        go_enter Tryd.func27, Tryd.ntmps27
        go_wp2_with fail
        refine (rgood_is 1 n 0 true hg _).mono ?_
        rintro e w1 ⟨rfl, hb⟩
        have B1 := Lib.hid (B0.out.step hb)
        obtain ⟨q0, q1, q2⟩ := B1.out.cells w.heap.size 1 n 0 (by simp)
        go_wp2_with fail
        refine (num_is n fn _).mono ?_
        rintro e w2 ⟨rfl, hb2⟩
        have B2 := Lib.hid (B1.out.step hb2)
        go_wp2_with fail
        go_ret
        exact ⟨rfl, B2.out.low⟩
      · rw [show textV ⟨2, n, b⟩ = [38] ++ Lib.itoa b ++ [43] ++ Lib.itoa n from by simp [textV, intB, ptrB, hb1]]
        have ln := Lib.itoa_length_le n fn.1 fn.2
        have lb := Lib.itoa_length_le b fb.1 fb.2
        clear h0
        go_enter Tryd.func27, Tryd.ntmps27
        go_wp2_with fail
        refine (rgood_is 2 n b true hg _).mono ?_
        rintro e w1 ⟨rfl, hb⟩
        have B1 := Lib.hid (B0.out.step hb)
        clear hb
        obtain ⟨q0, q1, q2⟩ := B1.out.cells w.heap.size 2 n b (by simp)
        have kq1 := cell_regrown q1
        have kq2 := cell_regrown q2
        have D0 := Lib.hid (fun d os => (Calls.regrown_of (num_is b fb (grow (redrawn w1 d) os)) : Calls Tryd.prog 39 #[.int .i64 b] (grow (redrawn w1 d) os) fun e w'' => e = .returned (.string ⟨(Lib.itoa b).toArray⟩) ∧ ∃ p : Regrown, w'' = grow (redrawn w1 p.d) p.os))
        have D1 := Lib.hid (fun d os => (Calls.regrown_of (num_is n fn (grow (redrawn w1 d) os)) : Calls Tryd.prog 39 #[.int .i64 n] (grow (redrawn w1 d) os) fun e w'' => e = .returned (.string ⟨(Lib.itoa n).toArray⟩) ∧ ∃ p : Regrown, w'' = grow (redrawn w1 p.d) p.os))
        go_wp2_with fail
        refine wp_region_quiet_below (by kernel_rfl) (by kernel_rfl) ?_
        repeat (any_goals (first | go_big_quiet_step (first | (with_reducible exact D0.out _ _) | (with_reducible exact D1.out _ _)) | quiet_step (first | (with_reducible exact D0.out _ _) | (with_reducible exact D1.out _ _))))
        refine wpQuiet_nil ?_
        intro _ hw'
        obtain ⟨⟨dq, osq⟩, hw''⟩ := hw'
        subst hw''
        go_wp2_with fail
        go_ret
        exact ⟨ret_str (cat4 [38] _ [43] _), B1.out.low.trans ((below_regrown w1 dq osq).mono B1.out.low.size)⟩
end Go.Proofs.YtipeehmbloneoaaDoor
