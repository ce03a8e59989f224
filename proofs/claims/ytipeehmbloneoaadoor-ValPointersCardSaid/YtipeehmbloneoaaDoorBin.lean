/-
  val.alike and val.Bin: what they answer is what 'alikeV' and 'binV' say, for every operation and every two values.
-/
import Derived.Test.YtipeehmbloneoaaDoorInts
import Derived.Lib.QuietBelow
namespace Go.Proofs.YtipeehmbloneoaaDoor
open Go.RowKit Go.Sort

theorem eqVl (a b c d e f : Int) (w : World) : (binOp .eql 24 (.agg #[.int .i64 a, .int .i64 b, .int .i64 c]) (.agg #[.int .i64 d, .int .i64 e, .int .i64 f])).run Tryd.prog w = .ok (.bool (a == d && (b == e && c == f))) w := by
  have u3 := Tryd.underlying3
  have a3 := Tryd.isAgg3
  have z3 := Tryd.sizeOf3
  have u2 := Tryd.underlying2
  have a2 := Tryd.isAgg2
  have z2 := Tryd.sizeOf2
  have hS : Tryd.prog.underlying 24 = some (.struct (Tryd.prog.fieldsOf 24)) := by kernel_rfl
  have hp : Tryd.prog.stoodInHeld 24 = false := by kernel_rfl
  rw [run_eql_struct, show (10000 : Nat) = 9999 + 1 from rfl, run_equalIn_agg w 9999 24 _ _ hS hp]
  simp only [Program.fieldsOf, Tryd.underlying24]
  go_simp
  by_cases h1 : a = d <;> by_cases h2 : b = e <;> by_cases h3 : c = f <;> simp [h1, h2, h3]
theorem neqVl (a b c d e f : Int) (w : World) : (binOp .neq 24 (.agg #[.int .i64 a, .int .i64 b, .int .i64 c]) (.agg #[.int .i64 d, .int .i64 e, .int .i64 f])).run Tryd.prog w = .ok (.bool (!(a == d && (b == e && c == f)))) w := by
  have u3 := Tryd.underlying3
  have a3 := Tryd.isAgg3
  have z3 := Tryd.sizeOf3
  have u2 := Tryd.underlying2
  have a2 := Tryd.isAgg2
  have z2 := Tryd.sizeOf2
  have hS : Tryd.prog.underlying 24 = some (.struct (Tryd.prog.fieldsOf 24)) := by kernel_rfl
  have hp : Tryd.prog.stoodInHeld 24 = false := by kernel_rfl
  rw [run_neq_struct, show (10000 : Nat) = 9999 + 1 from rfl, run_equalIn_agg w 9999 24 _ _ hS hp]
  simp only [Program.fieldsOf, Tryd.underlying24]
  go_simp
  by_cases h1 : a = d <;> by_cases h2 : b = e <;> by_cases h3 : c = f <;> simp [h1, h2, h3]
theorem guardVl (op : BinOp) (x y : Operand) (a b c d e f : Int) (w : World) : (eqGuard op 24 x y (.agg #[.int .i64 a, .int .i64 b, .int .i64 c]) (.agg #[.int .i64 d, .int .i64 e, .int .i64 f])).run Tryd.prog w = .ok () w :=
  run_eqGuard_agg w op 24 x y _ _ (by kernel_rfl)

/-- the blocks of a call of two values: the two, and the one of its result; what was there is as it was -/
structure A3 (w0 W : World) (xk xn xb yk yn yb : Int) : Prop where
  boxX : Box W w0.heap.size (.int .i64 xk) (.int .i64 xn) (.int .i64 xb)
  boxY : Box W (w0.heap.size + 1) (.int .i64 yk) (.int .i64 yn) (.int .i64 yb)
  boxR : Box W (w0.heap.size + 1 + 1) (.int .i64 0) (.int .i64 0) (.int .i64 0)
  low : Below w0.heap.size w0 W
theorem A3.step {w0 W W' : World} {xk xn xb yk yn yb : Int} (h : A3 w0 W xk xn xb yk yn yb) (hb : Below W.heap.size W W') : A3 w0 W' xk xn xb yk yn yb :=
  ⟨h.boxX.below hb, h.boxY.below hb, h.boxR.below hb, h.low.trans (hb.mono h.low.size)⟩
theorem A3.start (w : World) (xk xn xb yk yn yb : Int) :
    A3 w (((w.alloc (.cells #[.int .i64 xk, .int .i64 xn, .int .i64 xb] 24)).alloc (.cells #[.int .i64 yk, .int .i64 yn, .int .i64 yb] 24)).alloc (.cells #[.int .i64 0, .int .i64 0, .int .i64 0] 24)) xk xn xb yk yn yb :=
  ⟨((Box.new w _ _ _ rfl).alloc _).alloc _, (Box.new _ _ _ _ (by simp)).alloc _, Box.new _ _ _ _ (by simp), (((Below.refl _ _).alloc (Nat.le_refl _) _).alloc (by simp) _).alloc (by simp; omega) _⟩

set_option maxHeartbeats 8000000 in
set_option maxRecDepth 100000 in
theorem alike_any (op xk xn xb yk yn yb : Int) (w : World) : Calls Tryd.prog 33 #[.int .i64 op, .agg #[.int .i64 (xk), .int .i64 (xn), .int .i64 (xb)], .agg #[.int .i64 (yk), .int .i64 (yn), .int .i64 (yb)]] w (RV (alikeV op ⟨xk, xn, xb⟩ ⟨yk, yn, yb⟩) w) := by
  have HT := Lib.hid (fun t W => truth_any t W)
  have ex : eqB ⟨xk, xn, xb⟩ ⟨yk, yn, yb⟩ = (xk == yk && (xn == yn && xb == yb)) := rfl
  have ey : eqB ⟨yk, yn, yb⟩ (Iv 0) = (yk == 1 && (yn == 0 && yb == 0)) := rfl
  have ez : eqB ⟨xk, xn, xb⟩ (Iv 0) = (xk == 1 && (xn == 0 && xb == 0)) := rfl
  have eo : decide (op = 21) = (op == 21) := rfl
  have hA : alikeV op ⟨xk, xn, xb⟩ ⟨yk, yn, yb⟩ = if (ptrB ⟨xk, xn, xb⟩ && ptrB ⟨yk, yn, yb⟩) || (ptrB ⟨xk, xn, xb⟩ && (yk == 1 && (yn == 0 && yb == 0))) || ((xk == 1 && (xn == 0 && xb == 0)) && ptrB ⟨yk, yn, yb⟩) then some (truthV ((xk == yk && (xn == yn && xb == yb)) == (op == 21))) else none := by
    rw [alikeV, ex, ey, ez, eo]
  rw [hA]
  clear hA ex ey ez eo
  have hxz : ptrB ⟨xk, xn, xb⟩ = true → (xk == 1 && (xn == 0 && xb == 0)) = false := fun h => by
    simp only [ptrB, Bool.and_eq_true, decide_eq_true_eq] at h
    rw [h.1]
    rfl
  cases hx : ptrB ⟨xk, xn, xb⟩
  · clear hxz
    cases hy : ptrB ⟨yk, yn, yb⟩
    · cases hz : (xk == 1 && (xn == 0 && xb == 0))
      · have hc : ((false && false) || (false && (yk == 1 && (yn == 0 && yb == 0))) || (false && false)) = false := by simp
        rw [hc]
        clear hc
        show Calls Tryd.prog 33 _ w (fun e w' => e = .returned (.tuple #[.agg #[.int .i64 (0), .int .i64 (0), .int .i64 (0)], .bool false]) ∧ Below w.heap.size w w')
        have T0 := Lib.hid (A3.start w xk xn xb yk yn yb)
        have hE := eqVl
        have hG := guardVl
        go_enter Tryd.func33, Tryd.ntmps33
        go_wp2_with fail
        refine (isPtr_any xk xn xb _).mono ?_
        rintro e w1 ⟨rfl, hb⟩
        have T1 := Lib.hid (T0.out.step hb)
        clear hb
        obtain ⟨q0, q1, q2⟩ := T1.out.boxX.cells
        obtain ⟨r0, r1, r2⟩ := T1.out.boxY.cells
        obtain ⟨s0, s1, s2⟩ := T1.out.boxR.cells
        obtain ⟨z0, z1, z2⟩ := T1.out.boxR.frozen
        have kq0 := cell_regrown q0
        have kq1 := cell_regrown q1
        have kq2 := cell_regrown q2
        have kr0 := cell_regrown r0
        have kr1 := cell_regrown r1
        have kr2 := cell_regrown r2
        have C0 : ∀ d os, Calls Tryd.prog 32 #[.agg #[.int .i64 (xk), .int .i64 (xn), .int .i64 (xb)]] (grow (redrawn w1 d) os) fun e w'' => e = .returned (.bool false) ∧ ∃ p : Regrown, w'' = grow (redrawn w1 p.d) p.os := fun d os => Calls.regrown_of (by have := isPtr_any xk xn xb (grow (redrawn w1 d) os); rw [hx] at this; exact this)
        have D0 := Lib.hid C0
        clear C0
        go_wp2_with fail
        refine wp_region_quiet_below (by kernel_rfl) (by kernel_rfl) ?_
        repeat (any_goals (first | go_big_quiet_step (first | (with_reducible exact D0.out _ _)) | quiet_step (first | (with_reducible exact D0.out _ _))))
        refine wpQuiet_nil ?_
        intro _ hw'
        obtain ⟨⟨dq, osq⟩, hw''⟩ := hw'
        subst hw''
        have T2 := Lib.hid (T1.out.step (below_regrown w1 dq osq))
        generalize grow (redrawn w1 dq) osq = w2 at T2 ⊢
        clear q0 q1 q2 r0 r1 r2 s0 s1 s2 z0 z1 z2 kq0 kq1 kq2 kr0 kr1 kr2 D0
        obtain ⟨q0, q1, q2⟩ := T2.out.boxX.cells
        obtain ⟨r0, r1, r2⟩ := T2.out.boxY.cells
        obtain ⟨s0, s1, s2⟩ := T2.out.boxR.cells
        obtain ⟨z0, z1, z2⟩ := T2.out.boxR.frozen
        have kq0 := cell_regrown q0
        have kq1 := cell_regrown q1
        have kq2 := cell_regrown q2
        have kr0 := cell_regrown r0
        have kr1 := cell_regrown r1
        have kr2 := cell_regrown r2
        have C0 : ∀ d os, Calls Tryd.prog 13 #[.int .i64 0] (grow (redrawn w2 d) os) fun e w'' => e = .returned (.agg #[.int .i64 (1), .int .i64 (0), .int .i64 (0)]) ∧ ∃ p : Regrown, w'' = grow (redrawn w2 p.d) p.os := fun d os => Calls.regrown_of (of_any 0 _)
        have D0 := Lib.hid C0
        clear C0
        go_wp2_with fail
        refine wp_region_quiet_below (by kernel_rfl) (by kernel_rfl) ?_
        repeat (any_goals (first | go_big_quiet_step (first | (with_reducible exact D0.out _ _)) | quiet_step (first | (with_reducible exact D0.out _ _))))
        refine wpQuiet_nil ?_
        intro _ hw'
        obtain ⟨⟨dq, osq⟩, hw''⟩ := hw'
        subst hw''
        have T3 := Lib.hid (T2.out.step (below_regrown w2 dq osq))
        generalize grow (redrawn w2 dq) osq = w3 at T3 ⊢
        clear q0 q1 q2 r0 r1 r2 s0 s1 s2 z0 z1 z2 kq0 kq1 kq2 kr0 kr1 kr2 D0
        obtain ⟨q0, q1, q2⟩ := T3.out.boxX.cells
        obtain ⟨r0, r1, r2⟩ := T3.out.boxY.cells
        obtain ⟨s0, s1, s2⟩ := T3.out.boxR.cells
        obtain ⟨z0, z1, z2⟩ := T3.out.boxR.frozen
        go_wp2_with fail
        exact bodyPost_ret (v := .tuple #[.agg #[.int .i64 (0), .int .i64 (0), .int .i64 (0)], .bool false]) (by simp [results, Tryd.results33, go_sem, s0, s1, s2]) rfl ⟨rfl, (((T3.out.low.setCell (p := ⟨w.heap.size + 1 + 1, 0, none⟩) (by show _ ≤ w.heap.size + 1 + 1; omega) _).setCell (p := ⟨w.heap.size + 1 + 1, 1, none⟩) (by show _ ≤ w.heap.size + 1 + 1; omega) _).setCell (p := ⟨w.heap.size + 1 + 1, 2, none⟩) (by show _ ≤ w.heap.size + 1 + 1; omega) _)⟩
      · have hc : ((false && false) || (false && (yk == 1 && (yn == 0 && yb == 0))) || (true && false)) = false := by simp
        rw [hc]
        clear hc
        show Calls Tryd.prog 33 _ w (fun e w' => e = .returned (.tuple #[.agg #[.int .i64 (0), .int .i64 (0), .int .i64 (0)], .bool false]) ∧ Below w.heap.size w w')
        have T0 := Lib.hid (A3.start w xk xn xb yk yn yb)
        have hE := eqVl
        have hG := guardVl
        go_enter Tryd.func33, Tryd.ntmps33
        go_wp2_with fail
        refine (isPtr_any xk xn xb _).mono ?_
        rintro e w1 ⟨rfl, hb⟩
        have T1 := Lib.hid (T0.out.step hb)
        clear hb
        obtain ⟨q0, q1, q2⟩ := T1.out.boxX.cells
        obtain ⟨r0, r1, r2⟩ := T1.out.boxY.cells
        obtain ⟨s0, s1, s2⟩ := T1.out.boxR.cells
        obtain ⟨z0, z1, z2⟩ := T1.out.boxR.frozen
        have kq0 := cell_regrown q0
        have kq1 := cell_regrown q1
        have kq2 := cell_regrown q2
        have kr0 := cell_regrown r0
        have kr1 := cell_regrown r1
        have kr2 := cell_regrown r2
        have C0 : ∀ d os, Calls Tryd.prog 32 #[.agg #[.int .i64 (xk), .int .i64 (xn), .int .i64 (xb)]] (grow (redrawn w1 d) os) fun e w'' => e = .returned (.bool false) ∧ ∃ p : Regrown, w'' = grow (redrawn w1 p.d) p.os := fun d os => Calls.regrown_of (by have := isPtr_any xk xn xb (grow (redrawn w1 d) os); rw [hx] at this; exact this)
        have D0 := Lib.hid C0
        clear C0
        go_wp2_with fail
        refine wp_region_quiet_below (by kernel_rfl) (by kernel_rfl) ?_
        repeat (any_goals (first | go_big_quiet_step (first | (with_reducible exact D0.out _ _)) | quiet_step (first | (with_reducible exact D0.out _ _))))
        refine wpQuiet_nil ?_
        intro _ hw'
        obtain ⟨⟨dq, osq⟩, hw''⟩ := hw'
        subst hw''
        have T2 := Lib.hid (T1.out.step (below_regrown w1 dq osq))
        generalize grow (redrawn w1 dq) osq = w2 at T2 ⊢
        clear q0 q1 q2 r0 r1 r2 s0 s1 s2 z0 z1 z2 kq0 kq1 kq2 kr0 kr1 kr2 D0
        obtain ⟨q0, q1, q2⟩ := T2.out.boxX.cells
        obtain ⟨r0, r1, r2⟩ := T2.out.boxY.cells
        obtain ⟨s0, s1, s2⟩ := T2.out.boxR.cells
        obtain ⟨z0, z1, z2⟩ := T2.out.boxR.frozen
        have kq0 := cell_regrown q0
        have kq1 := cell_regrown q1
        have kq2 := cell_regrown q2
        have kr0 := cell_regrown r0
        have kr1 := cell_regrown r1
        have kr2 := cell_regrown r2
        have C0 : ∀ d os, Calls Tryd.prog 13 #[.int .i64 0] (grow (redrawn w2 d) os) fun e w'' => e = .returned (.agg #[.int .i64 (1), .int .i64 (0), .int .i64 (0)]) ∧ ∃ p : Regrown, w'' = grow (redrawn w2 p.d) p.os := fun d os => Calls.regrown_of (of_any 0 _)
        have D0 := Lib.hid C0
        clear C0
        have C1 : ∀ d os, Calls Tryd.prog 32 #[.agg #[.int .i64 (yk), .int .i64 (yn), .int .i64 (yb)]] (grow (redrawn w2 d) os) fun e w'' => e = .returned (.bool false) ∧ ∃ p : Regrown, w'' = grow (redrawn w2 p.d) p.os := fun d os => Calls.regrown_of (by have := isPtr_any yk yn yb (grow (redrawn w2 d) os); rw [hy] at this; exact this)
        have D1 := Lib.hid C1
        clear C1
        go_wp2_with fail
        refine wp_region_quiet_below (by kernel_rfl) (by kernel_rfl) ?_
        repeat (any_goals (first | go_big_quiet_step (first | (with_reducible exact D0.out _ _) | (with_reducible exact D1.out _ _)) | quiet_step (first | (with_reducible exact D0.out _ _) | (with_reducible exact D1.out _ _))))
        refine wpQuiet_nil ?_
        intro _ hw'
        obtain ⟨⟨dq, osq⟩, hw''⟩ := hw'
        subst hw''
        have T3 := Lib.hid (T2.out.step (below_regrown w2 dq osq))
        generalize grow (redrawn w2 dq) osq = w3 at T3 ⊢
        clear q0 q1 q2 r0 r1 r2 s0 s1 s2 z0 z1 z2 kq0 kq1 kq2 kr0 kr1 kr2 D0 D1
        obtain ⟨q0, q1, q2⟩ := T3.out.boxX.cells
        obtain ⟨r0, r1, r2⟩ := T3.out.boxY.cells
        obtain ⟨s0, s1, s2⟩ := T3.out.boxR.cells
        obtain ⟨z0, z1, z2⟩ := T3.out.boxR.frozen
        go_wp2_with fail
        exact bodyPost_ret (v := .tuple #[.agg #[.int .i64 (0), .int .i64 (0), .int .i64 (0)], .bool false]) (by simp [results, Tryd.results33, go_sem, s0, s1, s2]) rfl ⟨rfl, (((T3.out.low.setCell (p := ⟨w.heap.size + 1 + 1, 0, none⟩) (by show _ ≤ w.heap.size + 1 + 1; omega) _).setCell (p := ⟨w.heap.size + 1 + 1, 1, none⟩) (by show _ ≤ w.heap.size + 1 + 1; omega) _).setCell (p := ⟨w.heap.size + 1 + 1, 2, none⟩) (by show _ ≤ w.heap.size + 1 + 1; omega) _)⟩
    · cases hz : (xk == 1 && (xn == 0 && xb == 0))
      · have hc : ((false && true) || (false && (yk == 1 && (yn == 0 && yb == 0))) || (false && true)) = false := by simp
        rw [hc]
        clear hc
        show Calls Tryd.prog 33 _ w (fun e w' => e = .returned (.tuple #[.agg #[.int .i64 (0), .int .i64 (0), .int .i64 (0)], .bool false]) ∧ Below w.heap.size w w')
        have T0 := Lib.hid (A3.start w xk xn xb yk yn yb)
        have hE := eqVl
        have hG := guardVl
        go_enter Tryd.func33, Tryd.ntmps33
        go_wp2_with fail
        refine (isPtr_any xk xn xb _).mono ?_
        rintro e w1 ⟨rfl, hb⟩
        have T1 := Lib.hid (T0.out.step hb)
        clear hb
        obtain ⟨q0, q1, q2⟩ := T1.out.boxX.cells
        obtain ⟨r0, r1, r2⟩ := T1.out.boxY.cells
        obtain ⟨s0, s1, s2⟩ := T1.out.boxR.cells
        obtain ⟨z0, z1, z2⟩ := T1.out.boxR.frozen
        have kq0 := cell_regrown q0
        have kq1 := cell_regrown q1
        have kq2 := cell_regrown q2
        have kr0 := cell_regrown r0
        have kr1 := cell_regrown r1
        have kr2 := cell_regrown r2
        have C0 : ∀ d os, Calls Tryd.prog 32 #[.agg #[.int .i64 (xk), .int .i64 (xn), .int .i64 (xb)]] (grow (redrawn w1 d) os) fun e w'' => e = .returned (.bool false) ∧ ∃ p : Regrown, w'' = grow (redrawn w1 p.d) p.os := fun d os => Calls.regrown_of (by have := isPtr_any xk xn xb (grow (redrawn w1 d) os); rw [hx] at this; exact this)
        have D0 := Lib.hid C0
        clear C0
        go_wp2_with fail
        refine wp_region_quiet_below (by kernel_rfl) (by kernel_rfl) ?_
        repeat (any_goals (first | go_big_quiet_step (first | (with_reducible exact D0.out _ _)) | quiet_step (first | (with_reducible exact D0.out _ _))))
        refine wpQuiet_nil ?_
        intro _ hw'
        obtain ⟨⟨dq, osq⟩, hw''⟩ := hw'
        subst hw''
        have T2 := Lib.hid (T1.out.step (below_regrown w1 dq osq))
        generalize grow (redrawn w1 dq) osq = w2 at T2 ⊢
        clear q0 q1 q2 r0 r1 r2 s0 s1 s2 z0 z1 z2 kq0 kq1 kq2 kr0 kr1 kr2 D0
        obtain ⟨q0, q1, q2⟩ := T2.out.boxX.cells
        obtain ⟨r0, r1, r2⟩ := T2.out.boxY.cells
        obtain ⟨s0, s1, s2⟩ := T2.out.boxR.cells
        obtain ⟨z0, z1, z2⟩ := T2.out.boxR.frozen
        have kq0 := cell_regrown q0
        have kq1 := cell_regrown q1
        have kq2 := cell_regrown q2
        have kr0 := cell_regrown r0
        have kr1 := cell_regrown r1
        have kr2 := cell_regrown r2
        have C0 : ∀ d os, Calls Tryd.prog 13 #[.int .i64 0] (grow (redrawn w2 d) os) fun e w'' => e = .returned (.agg #[.int .i64 (1), .int .i64 (0), .int .i64 (0)]) ∧ ∃ p : Regrown, w'' = grow (redrawn w2 p.d) p.os := fun d os => Calls.regrown_of (of_any 0 _)
        have D0 := Lib.hid C0
        clear C0
        go_wp2_with fail
        refine wp_region_quiet_below (by kernel_rfl) (by kernel_rfl) ?_
        repeat (any_goals (first | go_big_quiet_step (first | (with_reducible exact D0.out _ _)) | quiet_step (first | (with_reducible exact D0.out _ _))))
        refine wpQuiet_nil ?_
        intro _ hw'
        obtain ⟨⟨dq, osq⟩, hw''⟩ := hw'
        subst hw''
        have T3 := Lib.hid (T2.out.step (below_regrown w2 dq osq))
        generalize grow (redrawn w2 dq) osq = w3 at T3 ⊢
        clear q0 q1 q2 r0 r1 r2 s0 s1 s2 z0 z1 z2 kq0 kq1 kq2 kr0 kr1 kr2 D0
        obtain ⟨q0, q1, q2⟩ := T3.out.boxX.cells
        obtain ⟨r0, r1, r2⟩ := T3.out.boxY.cells
        obtain ⟨s0, s1, s2⟩ := T3.out.boxR.cells
        obtain ⟨z0, z1, z2⟩ := T3.out.boxR.frozen
        go_wp2_with fail
        exact bodyPost_ret (v := .tuple #[.agg #[.int .i64 (0), .int .i64 (0), .int .i64 (0)], .bool false]) (by simp [results, Tryd.results33, go_sem, s0, s1, s2]) rfl ⟨rfl, (((T3.out.low.setCell (p := ⟨w.heap.size + 1 + 1, 0, none⟩) (by show _ ≤ w.heap.size + 1 + 1; omega) _).setCell (p := ⟨w.heap.size + 1 + 1, 1, none⟩) (by show _ ≤ w.heap.size + 1 + 1; omega) _).setCell (p := ⟨w.heap.size + 1 + 1, 2, none⟩) (by show _ ≤ w.heap.size + 1 + 1; omega) _)⟩
      · have hc : ((false && true) || (false && (yk == 1 && (yn == 0 && yb == 0))) || (true && true)) = true := by simp
        rw [hc]
        clear hc
        show Calls Tryd.prog 33 _ w (fun e w' => e = .returned (.tuple #[.agg #[.int .i64 (1), .int .i64 (t2i ((xk == yk && (xn == yn && xb == yb)) == (op == 21))), .int .i64 (0)], .bool true]) ∧ Below w.heap.size w w')
        have T0 := Lib.hid (A3.start w xk xn xb yk yn yb)
        have hE := eqVl
        have hG := guardVl
        go_enter Tryd.func33, Tryd.ntmps33
        go_wp2_with fail
        refine (isPtr_any xk xn xb _).mono ?_
        rintro e w1 ⟨rfl, hb⟩
        have T1 := Lib.hid (T0.out.step hb)
        clear hb
        obtain ⟨q0, q1, q2⟩ := T1.out.boxX.cells
        obtain ⟨r0, r1, r2⟩ := T1.out.boxY.cells
        obtain ⟨s0, s1, s2⟩ := T1.out.boxR.cells
        obtain ⟨z0, z1, z2⟩ := T1.out.boxR.frozen
        have kq0 := cell_regrown q0
        have kq1 := cell_regrown q1
        have kq2 := cell_regrown q2
        have kr0 := cell_regrown r0
        have kr1 := cell_regrown r1
        have kr2 := cell_regrown r2
        have C0 : ∀ d os, Calls Tryd.prog 32 #[.agg #[.int .i64 (xk), .int .i64 (xn), .int .i64 (xb)]] (grow (redrawn w1 d) os) fun e w'' => e = .returned (.bool false) ∧ ∃ p : Regrown, w'' = grow (redrawn w1 p.d) p.os := fun d os => Calls.regrown_of (by have := isPtr_any xk xn xb (grow (redrawn w1 d) os); rw [hx] at this; exact this)
        have D0 := Lib.hid C0
        clear C0
        go_wp2_with fail
        refine wp_region_quiet_below (by kernel_rfl) (by kernel_rfl) ?_
        repeat (any_goals (first | go_big_quiet_step (first | (with_reducible exact D0.out _ _)) | quiet_step (first | (with_reducible exact D0.out _ _))))
        refine wpQuiet_nil ?_
        intro _ hw'
        obtain ⟨⟨dq, osq⟩, hw''⟩ := hw'
        subst hw''
        have T2 := Lib.hid (T1.out.step (below_regrown w1 dq osq))
        generalize grow (redrawn w1 dq) osq = w2 at T2 ⊢
        clear q0 q1 q2 r0 r1 r2 s0 s1 s2 z0 z1 z2 kq0 kq1 kq2 kr0 kr1 kr2 D0
        obtain ⟨q0, q1, q2⟩ := T2.out.boxX.cells
        obtain ⟨r0, r1, r2⟩ := T2.out.boxY.cells
        obtain ⟨s0, s1, s2⟩ := T2.out.boxR.cells
        obtain ⟨z0, z1, z2⟩ := T2.out.boxR.frozen
        have kq0 := cell_regrown q0
        have kq1 := cell_regrown q1
        have kq2 := cell_regrown q2
        have kr0 := cell_regrown r0
        have kr1 := cell_regrown r1
        have kr2 := cell_regrown r2
        have C0 : ∀ d os, Calls Tryd.prog 13 #[.int .i64 0] (grow (redrawn w2 d) os) fun e w'' => e = .returned (.agg #[.int .i64 (1), .int .i64 (0), .int .i64 (0)]) ∧ ∃ p : Regrown, w'' = grow (redrawn w2 p.d) p.os := fun d os => Calls.regrown_of (of_any 0 _)
        have D0 := Lib.hid C0
        clear C0
        have C1 : ∀ d os, Calls Tryd.prog 32 #[.agg #[.int .i64 (yk), .int .i64 (yn), .int .i64 (yb)]] (grow (redrawn w2 d) os) fun e w'' => e = .returned (.bool true) ∧ ∃ p : Regrown, w'' = grow (redrawn w2 p.d) p.os := fun d os => Calls.regrown_of (by have := isPtr_any yk yn yb (grow (redrawn w2 d) os); rw [hy] at this; exact this)
        have D1 := Lib.hid C1
        clear C1
        go_wp2_with fail
        refine wp_region_quiet_below (by kernel_rfl) (by kernel_rfl) ?_
        repeat (any_goals (first | go_big_quiet_step (first | (with_reducible exact D0.out _ _) | (with_reducible exact D1.out _ _)) | quiet_step (first | (with_reducible exact D0.out _ _) | (with_reducible exact D1.out _ _))))
        refine wpQuiet_nil ?_
        intro _ hw'
        obtain ⟨⟨dq, osq⟩, hw''⟩ := hw'
        subst hw''
        have T3 := Lib.hid (T2.out.step (below_regrown w2 dq osq))
        generalize grow (redrawn w2 dq) osq = w3 at T3 ⊢
        clear q0 q1 q2 r0 r1 r2 s0 s1 s2 z0 z1 z2 kq0 kq1 kq2 kr0 kr1 kr2 D0 D1
        obtain ⟨q0, q1, q2⟩ := T3.out.boxX.cells
        obtain ⟨r0, r1, r2⟩ := T3.out.boxY.cells
        obtain ⟨s0, s1, s2⟩ := T3.out.boxR.cells
        obtain ⟨z0, z1, z2⟩ := T3.out.boxR.frozen
        go_wp2_with fail
        refine (HT.out ((xk == yk && (xn == yn && xb == yb)) == (op == 21)) _).mono ?_
        rintro e w4 ⟨rfl, hb⟩
        have T4 := Lib.hid (T3.out.step hb)
        clear hb q0 q1 q2 r0 r1 r2 s0 s1 s2 z0 z1 z2
        obtain ⟨q0, q1, q2⟩ := T4.out.boxX.cells
        obtain ⟨r0, r1, r2⟩ := T4.out.boxY.cells
        obtain ⟨s0, s1, s2⟩ := T4.out.boxR.cells
        obtain ⟨z0, z1, z2⟩ := T4.out.boxR.frozen
        go_wp2_with fail
        exact bodyPost_ret (v := .tuple #[.agg #[.int .i64 (1), .int .i64 (t2i ((xk == yk && (xn == yn && xb == yb)) == (op == 21))), .int .i64 (0)], .bool true]) (by simp [results, Tryd.results33, go_sem, s0, s1, s2]) rfl ⟨rfl, (((T4.out.low.setCell (p := ⟨w.heap.size + 1 + 1, 0, none⟩) (by show _ ≤ w.heap.size + 1 + 1; omega) _).setCell (p := ⟨w.heap.size + 1 + 1, 1, none⟩) (by show _ ≤ w.heap.size + 1 + 1; omega) _).setCell (p := ⟨w.heap.size + 1 + 1, 2, none⟩) (by show _ ≤ w.heap.size + 1 + 1; omega) _)⟩
  · have hz := hxz hx
    clear hxz
    cases hy : ptrB ⟨yk, yn, yb⟩
    · cases hw : (yk == 1 && (yn == 0 && yb == 0))
      · rw [hz]
        have hc : ((true && false) || (true && false) || (false && false)) = false := by simp
        rw [hc]
        clear hc
        show Calls Tryd.prog 33 _ w (fun e w' => e = .returned (.tuple #[.agg #[.int .i64 (0), .int .i64 (0), .int .i64 (0)], .bool false]) ∧ Below w.heap.size w w')
        have T0 := Lib.hid (A3.start w xk xn xb yk yn yb)
        have hE := eqVl
        have hG := guardVl
        go_enter Tryd.func33, Tryd.ntmps33
        go_wp2_with fail
        refine (isPtr_any xk xn xb _).mono ?_
        rintro e w1 ⟨rfl, hb⟩
        have T1 := Lib.hid (T0.out.step hb)
        clear hb
        obtain ⟨q0, q1, q2⟩ := T1.out.boxX.cells
        obtain ⟨r0, r1, r2⟩ := T1.out.boxY.cells
        obtain ⟨s0, s1, s2⟩ := T1.out.boxR.cells
        obtain ⟨z0, z1, z2⟩ := T1.out.boxR.frozen
        go_wp2_with fail
        refine (isPtr_any yk yn yb _).mono ?_
        rintro e w2 ⟨rfl, hb⟩
        have T2 := Lib.hid (T1.out.step hb)
        clear hb q0 q1 q2 r0 r1 r2 s0 s1 s2 z0 z1 z2
        obtain ⟨q0, q1, q2⟩ := T2.out.boxX.cells
        obtain ⟨r0, r1, r2⟩ := T2.out.boxY.cells
        obtain ⟨s0, s1, s2⟩ := T2.out.boxR.cells
        obtain ⟨z0, z1, z2⟩ := T2.out.boxR.frozen
        have kq0 := cell_regrown q0
        have kq1 := cell_regrown q1
        have kq2 := cell_regrown q2
        have kr0 := cell_regrown r0
        have kr1 := cell_regrown r1
        have kr2 := cell_regrown r2
        have C0 : ∀ d os, Calls Tryd.prog 32 #[.agg #[.int .i64 (xk), .int .i64 (xn), .int .i64 (xb)]] (grow (redrawn w2 d) os) fun e w'' => e = .returned (.bool true) ∧ ∃ p : Regrown, w'' = grow (redrawn w2 p.d) p.os := fun d os => Calls.regrown_of (by have := isPtr_any xk xn xb (grow (redrawn w2 d) os); rw [hx] at this; exact this)
        have D0 := Lib.hid C0
        clear C0
        have C1 : ∀ d os, Calls Tryd.prog 13 #[.int .i64 0] (grow (redrawn w2 d) os) fun e w'' => e = .returned (.agg #[.int .i64 (1), .int .i64 (0), .int .i64 (0)]) ∧ ∃ p : Regrown, w'' = grow (redrawn w2 p.d) p.os := fun d os => Calls.regrown_of (of_any 0 _)
        have D1 := Lib.hid C1
        clear C1
        go_wp2_with fail
        refine wp_region_quiet_below (by kernel_rfl) (by kernel_rfl) ?_
        repeat (any_goals (first | go_big_quiet_step (first | (with_reducible exact D0.out _ _) | (with_reducible exact D1.out _ _)) | quiet_step (first | (with_reducible exact D0.out _ _) | (with_reducible exact D1.out _ _))))
        refine wpQuiet_nil ?_
        intro _ hw'
        obtain ⟨⟨dq, osq⟩, hw''⟩ := hw'
        subst hw''
        have T3 := Lib.hid (T2.out.step (below_regrown w2 dq osq))
        generalize grow (redrawn w2 dq) osq = w3 at T3 ⊢
        clear q0 q1 q2 r0 r1 r2 s0 s1 s2 z0 z1 z2 kq0 kq1 kq2 kr0 kr1 kr2 D0 D1
        obtain ⟨q0, q1, q2⟩ := T3.out.boxX.cells
        obtain ⟨r0, r1, r2⟩ := T3.out.boxY.cells
        obtain ⟨s0, s1, s2⟩ := T3.out.boxR.cells
        obtain ⟨z0, z1, z2⟩ := T3.out.boxR.frozen
        have kq0 := cell_regrown q0
        have kq1 := cell_regrown q1
        have kq2 := cell_regrown q2
        have kr0 := cell_regrown r0
        have kr1 := cell_regrown r1
        have kr2 := cell_regrown r2
        have C0 : ∀ d os, Calls Tryd.prog 13 #[.int .i64 0] (grow (redrawn w3 d) os) fun e w'' => e = .returned (.agg #[.int .i64 (1), .int .i64 (0), .int .i64 (0)]) ∧ ∃ p : Regrown, w'' = grow (redrawn w3 p.d) p.os := fun d os => Calls.regrown_of (of_any 0 _)
        have D0 := Lib.hid C0
        clear C0
        go_wp2_with fail
        refine wp_region_quiet_below (by kernel_rfl) (by kernel_rfl) ?_
        repeat (any_goals (first | go_big_quiet_step (first | (with_reducible exact D0.out _ _)) | quiet_step (first | (with_reducible exact D0.out _ _))))
        refine wpQuiet_nil ?_
        intro _ hw'
        obtain ⟨⟨dq, osq⟩, hw''⟩ := hw'
        subst hw''
        have T4 := Lib.hid (T3.out.step (below_regrown w3 dq osq))
        generalize grow (redrawn w3 dq) osq = w4 at T4 ⊢
        clear q0 q1 q2 r0 r1 r2 s0 s1 s2 z0 z1 z2 kq0 kq1 kq2 kr0 kr1 kr2 D0
        obtain ⟨q0, q1, q2⟩ := T4.out.boxX.cells
        obtain ⟨r0, r1, r2⟩ := T4.out.boxY.cells
        obtain ⟨s0, s1, s2⟩ := T4.out.boxR.cells
        obtain ⟨z0, z1, z2⟩ := T4.out.boxR.frozen
        go_wp2_with fail
        exact bodyPost_ret (v := .tuple #[.agg #[.int .i64 (0), .int .i64 (0), .int .i64 (0)], .bool false]) (by simp [results, Tryd.results33, go_sem, s0, s1, s2]) rfl ⟨rfl, (((T4.out.low.setCell (p := ⟨w.heap.size + 1 + 1, 0, none⟩) (by show _ ≤ w.heap.size + 1 + 1; omega) _).setCell (p := ⟨w.heap.size + 1 + 1, 1, none⟩) (by show _ ≤ w.heap.size + 1 + 1; omega) _).setCell (p := ⟨w.heap.size + 1 + 1, 2, none⟩) (by show _ ≤ w.heap.size + 1 + 1; omega) _)⟩
      · rw [hz]
        have hc : ((true && false) || (true && true) || (false && false)) = true := by simp
        rw [hc]
        clear hc
        show Calls Tryd.prog 33 _ w (fun e w' => e = .returned (.tuple #[.agg #[.int .i64 (1), .int .i64 (t2i ((xk == yk && (xn == yn && xb == yb)) == (op == 21))), .int .i64 (0)], .bool true]) ∧ Below w.heap.size w w')
        have T0 := Lib.hid (A3.start w xk xn xb yk yn yb)
        have hE := eqVl
        have hG := guardVl
        go_enter Tryd.func33, Tryd.ntmps33
        go_wp2_with fail
        refine (isPtr_any xk xn xb _).mono ?_
        rintro e w1 ⟨rfl, hb⟩
        have T1 := Lib.hid (T0.out.step hb)
        clear hb
        obtain ⟨q0, q1, q2⟩ := T1.out.boxX.cells
        obtain ⟨r0, r1, r2⟩ := T1.out.boxY.cells
        obtain ⟨s0, s1, s2⟩ := T1.out.boxR.cells
        obtain ⟨z0, z1, z2⟩ := T1.out.boxR.frozen
        go_wp2_with fail
        refine (isPtr_any yk yn yb _).mono ?_
        rintro e w2 ⟨rfl, hb⟩
        have T2 := Lib.hid (T1.out.step hb)
        clear hb q0 q1 q2 r0 r1 r2 s0 s1 s2 z0 z1 z2
        obtain ⟨q0, q1, q2⟩ := T2.out.boxX.cells
        obtain ⟨r0, r1, r2⟩ := T2.out.boxY.cells
        obtain ⟨s0, s1, s2⟩ := T2.out.boxR.cells
        obtain ⟨z0, z1, z2⟩ := T2.out.boxR.frozen
        have kq0 := cell_regrown q0
        have kq1 := cell_regrown q1
        have kq2 := cell_regrown q2
        have kr0 := cell_regrown r0
        have kr1 := cell_regrown r1
        have kr2 := cell_regrown r2
        have C0 : ∀ d os, Calls Tryd.prog 32 #[.agg #[.int .i64 (xk), .int .i64 (xn), .int .i64 (xb)]] (grow (redrawn w2 d) os) fun e w'' => e = .returned (.bool true) ∧ ∃ p : Regrown, w'' = grow (redrawn w2 p.d) p.os := fun d os => Calls.regrown_of (by have := isPtr_any xk xn xb (grow (redrawn w2 d) os); rw [hx] at this; exact this)
        have D0 := Lib.hid C0
        clear C0
        have C1 : ∀ d os, Calls Tryd.prog 13 #[.int .i64 0] (grow (redrawn w2 d) os) fun e w'' => e = .returned (.agg #[.int .i64 (1), .int .i64 (0), .int .i64 (0)]) ∧ ∃ p : Regrown, w'' = grow (redrawn w2 p.d) p.os := fun d os => Calls.regrown_of (of_any 0 _)
        have D1 := Lib.hid C1
        clear C1
        go_wp2_with fail
        refine wp_region_quiet_below (by kernel_rfl) (by kernel_rfl) ?_
        repeat (any_goals (first | go_big_quiet_step (first | (with_reducible exact D0.out _ _) | (with_reducible exact D1.out _ _)) | quiet_step (first | (with_reducible exact D0.out _ _) | (with_reducible exact D1.out _ _))))
        refine wpQuiet_nil ?_
        intro _ hw'
        obtain ⟨⟨dq, osq⟩, hw''⟩ := hw'
        subst hw''
        have T3 := Lib.hid (T2.out.step (below_regrown w2 dq osq))
        generalize grow (redrawn w2 dq) osq = w3 at T3 ⊢
        clear q0 q1 q2 r0 r1 r2 s0 s1 s2 z0 z1 z2 kq0 kq1 kq2 kr0 kr1 kr2 D0 D1
        obtain ⟨q0, q1, q2⟩ := T3.out.boxX.cells
        obtain ⟨r0, r1, r2⟩ := T3.out.boxY.cells
        obtain ⟨s0, s1, s2⟩ := T3.out.boxR.cells
        obtain ⟨z0, z1, z2⟩ := T3.out.boxR.frozen
        go_wp2_with fail
        refine (HT.out ((xk == yk && (xn == yn && xb == yb)) == (op == 21)) _).mono ?_
        rintro e w4 ⟨rfl, hb⟩
        have T4 := Lib.hid (T3.out.step hb)
        clear hb q0 q1 q2 r0 r1 r2 s0 s1 s2 z0 z1 z2
        obtain ⟨q0, q1, q2⟩ := T4.out.boxX.cells
        obtain ⟨r0, r1, r2⟩ := T4.out.boxY.cells
        obtain ⟨s0, s1, s2⟩ := T4.out.boxR.cells
        obtain ⟨z0, z1, z2⟩ := T4.out.boxR.frozen
        go_wp2_with fail
        exact bodyPost_ret (v := .tuple #[.agg #[.int .i64 (1), .int .i64 (t2i ((xk == yk && (xn == yn && xb == yb)) == (op == 21))), .int .i64 (0)], .bool true]) (by simp [results, Tryd.results33, go_sem, s0, s1, s2]) rfl ⟨rfl, (((T4.out.low.setCell (p := ⟨w.heap.size + 1 + 1, 0, none⟩) (by show _ ≤ w.heap.size + 1 + 1; omega) _).setCell (p := ⟨w.heap.size + 1 + 1, 1, none⟩) (by show _ ≤ w.heap.size + 1 + 1; omega) _).setCell (p := ⟨w.heap.size + 1 + 1, 2, none⟩) (by show _ ≤ w.heap.size + 1 + 1; omega) _)⟩
    · have hc : ((true && true) || (true && (yk == 1 && (yn == 0 && yb == 0))) || ((xk == 1 && (xn == 0 && xb == 0)) && true)) = true := by simp
      rw [hc]
      clear hc
      show Calls Tryd.prog 33 _ w (fun e w' => e = .returned (.tuple #[.agg #[.int .i64 (1), .int .i64 (t2i ((xk == yk && (xn == yn && xb == yb)) == (op == 21))), .int .i64 (0)], .bool true]) ∧ Below w.heap.size w w')
      have T0 := Lib.hid (A3.start w xk xn xb yk yn yb)
      have hE := eqVl
      have hG := guardVl
      go_enter Tryd.func33, Tryd.ntmps33
      go_wp2_with fail
      refine (isPtr_any xk xn xb _).mono ?_
      rintro e w1 ⟨rfl, hb⟩
      have T1 := Lib.hid (T0.out.step hb)
      clear hb
      obtain ⟨q0, q1, q2⟩ := T1.out.boxX.cells
      obtain ⟨r0, r1, r2⟩ := T1.out.boxY.cells
      obtain ⟨s0, s1, s2⟩ := T1.out.boxR.cells
      obtain ⟨z0, z1, z2⟩ := T1.out.boxR.frozen
      go_wp2_with fail
      refine (isPtr_any yk yn yb _).mono ?_
      rintro e w2 ⟨rfl, hb⟩
      have T2 := Lib.hid (T1.out.step hb)
      clear hb q0 q1 q2 r0 r1 r2 s0 s1 s2 z0 z1 z2
      obtain ⟨q0, q1, q2⟩ := T2.out.boxX.cells
      obtain ⟨r0, r1, r2⟩ := T2.out.boxY.cells
      obtain ⟨s0, s1, s2⟩ := T2.out.boxR.cells
      obtain ⟨z0, z1, z2⟩ := T2.out.boxR.frozen
      go_wp2_with fail
      refine (HT.out ((xk == yk && (xn == yn && xb == yb)) == (op == 21)) _).mono ?_
      rintro e w3 ⟨rfl, hb⟩
      have T3 := Lib.hid (T2.out.step hb)
      clear hb q0 q1 q2 r0 r1 r2 s0 s1 s2 z0 z1 z2
      obtain ⟨q0, q1, q2⟩ := T3.out.boxX.cells
      obtain ⟨r0, r1, r2⟩ := T3.out.boxY.cells
      obtain ⟨s0, s1, s2⟩ := T3.out.boxR.cells
      obtain ⟨z0, z1, z2⟩ := T3.out.boxR.frozen
      go_wp2_with fail
      exact bodyPost_ret (v := .tuple #[.agg #[.int .i64 (1), .int .i64 (t2i ((xk == yk && (xn == yn && xb == yb)) == (op == 21))), .int .i64 (0)], .bool true]) (by simp [results, Tryd.results33, go_sem, s0, s1, s2]) rfl ⟨rfl, (((T3.out.low.setCell (p := ⟨w.heap.size + 1 + 1, 0, none⟩) (by show _ ≤ w.heap.size + 1 + 1; omega) _).setCell (p := ⟨w.heap.size + 1 + 1, 1, none⟩) (by show _ ≤ w.heap.size + 1 + 1; omega) _).setCell (p := ⟨w.heap.size + 1 + 1, 2, none⟩) (by show _ ≤ w.heap.size + 1 + 1; omega) _)⟩

set_option maxHeartbeats 16000000 in
set_option maxRecDepth 100000 in
theorem bin_any (op xk xn xb yk yn yb : Int) (fx : Fits xn) (fy : Fits yn) (w : World) : Calls Tryd.prog 12 #[.int .i64 op, .agg #[.int .i64 (xk), .int .i64 (xn), .int .i64 (xb)], .agg #[.int .i64 (yk), .int .i64 (yn), .int .i64 (yb)]] w (RV (binV op ⟨xk, xn, xb⟩ ⟨yk, yn, yb⟩) w) := by
  have HI := Lib.hid (fun W => ints_any op xn yn fx fy W)
  have HA := Lib.hid (fun W => alike_any op xk xn xb yk yn yb W)
  obtain ⟨fx0, fx1⟩ := fx
  obtain ⟨fy0, fy1⟩ := fy
  have hexx : intB ⟨xk, xn, xb⟩ = true → ptrB ⟨xk, xn, xb⟩ = false := fun h => by
    simp only [intB, Bool.and_eq_true, decide_eq_true_eq] at h
    simp [ptrB, h.1]
  have hexy : intB ⟨yk, yn, yb⟩ = true → ptrB ⟨yk, yn, yb⟩ = false := fun h => by
    simp only [intB, Bool.and_eq_true, decide_eq_true_eq] at h
    simp [ptrB, h.1]
  have hbx : ptrB ⟨xk, xn, xb⟩ = true → 1 ≤ xb := fun h => by
    simp only [ptrB, Bool.and_eq_true, decide_eq_true_eq] at h
    exact h.2
  have hby : ptrB ⟨yk, yn, yb⟩ = true → 1 ≤ yb := fun h => by
    simp only [ptrB, Bool.and_eq_true, decide_eq_true_eq] at h
    exact h.2
  have eo1 : decide (op = 11) = (op == 11) := rfl
  have eo2 : decide (op = 12) = (op == 12) := rfl
  have eo3 : decide (op = 21) = (op == 21) := rfl
  have eo4 : decide (op = 22) = (op == 22) := rfl
  have hV : binV op ⟨xk, xn, xb⟩ ⟨yk, yn, yb⟩ = if intB ⟨xk, xn, xb⟩ && intB ⟨yk, yn, yb⟩ then intsV op xn yn
    else if (op == 11) && ptrB ⟨xk, xn, xb⟩ && intB ⟨yk, yn, yb⟩ then some (Pv xb (wrap64 (xn + yn)))
    else if (op == 11) && intB ⟨xk, xn, xb⟩ && ptrB ⟨yk, yn, yb⟩ then some (Pv yb (wrap64 (xn + yn)))
    else if (op == 12) && ptrB ⟨xk, xn, xb⟩ && intB ⟨yk, yn, yb⟩ then some (Pv xb (wrap64 (xn - yn)))
    else if (op == 21) || (op == 22) then alikeV op ⟨xk, xn, xb⟩ ⟨yk, yn, yb⟩ else none := by
    rw [binV, eo1, eo2, eo3, eo4]
  rw [hV]
  clear hV eo1 eo2 eo3 eo4
  generalize intsV op xn yn = ri at HI ⊢
  generalize alikeV op ⟨xk, xn, xb⟩ ⟨yk, yn, yb⟩ = ra at HA ⊢
  cases hix : intB ⟨xk, xn, xb⟩
  · cases hpx : ptrB ⟨xk, xn, xb⟩
    · clear hexx hbx
      cases hiy : intB ⟨yk, yn, yb⟩
      · cases hpy : ptrB ⟨yk, yn, yb⟩
        · clear hexy hby
          by_cases h11 : op = 11
          · subst h11
            have t11 : ((11 : Int) == 11) = true := rfl
            have t12 : ((11 : Int) == 12) = false := rfl
            have t21 : ((11 : Int) == 21) = false := rfl
            have t22 : ((11 : Int) == 22) = false := rfl
            rw [t11, t12, t21, t22]
            clear t11 t12 t21 t22
            have hite : (if ((false && false) : Bool) = true then ri else if ((true && false && false) : Bool) = true then some (Pv xb (wrap64 (xn + yn))) else if ((true && false && false) : Bool) = true then some (Pv yb (wrap64 (xn + yn))) else if ((false && false && false) : Bool) = true then some (Pv xb (wrap64 (xn - yn))) else if ((false || false) : Bool) = true then ra else none) = none := by rfl
            rw [hite]
            clear hite
            show Calls Tryd.prog 12 _ w (fun e w' => e = .returned (.tuple #[.agg #[.int .i64 (0), .int .i64 (0), .int .i64 (0)], .bool false]) ∧ Below w.heap.size w w')
            have T0 := Lib.hid (A3.start w xk xn xb yk yn yb)
            go_enter Tryd.func12, Tryd.ntmps12
            go_wp2_with fail
            refine (isInt_any xk xn xb _).mono ?_
            rintro e w1 ⟨rfl, hb⟩
            have T1 := Lib.hid (T0.out.step hb)
            clear hb
            obtain ⟨q0, q1, q2⟩ := T1.out.boxX.cells
            obtain ⟨r0, r1, r2⟩ := T1.out.boxY.cells
            obtain ⟨s0, s1, s2⟩ := T1.out.boxR.cells
            obtain ⟨z0, z1, z2⟩ := T1.out.boxR.frozen
            go_wp2_with fail
            refine (isPtr_any xk xn xb _).mono ?_
            rintro e w2 ⟨rfl, hb⟩
            have T2 := Lib.hid (T1.out.step hb)
            clear hb q0 q1 q2 r0 r1 r2 s0 s1 s2 z0 z1 z2
            obtain ⟨q0, q1, q2⟩ := T2.out.boxX.cells
            obtain ⟨r0, r1, r2⟩ := T2.out.boxY.cells
            obtain ⟨s0, s1, s2⟩ := T2.out.boxR.cells
            obtain ⟨z0, z1, z2⟩ := T2.out.boxR.frozen
            go_wp2_with fail
            refine (isInt_any xk xn xb _).mono ?_
            rintro e w3 ⟨rfl, hb⟩
            have T3 := Lib.hid (T2.out.step hb)
            clear hb q0 q1 q2 r0 r1 r2 s0 s1 s2 z0 z1 z2
            obtain ⟨q0, q1, q2⟩ := T3.out.boxX.cells
            obtain ⟨r0, r1, r2⟩ := T3.out.boxY.cells
            obtain ⟨s0, s1, s2⟩ := T3.out.boxR.cells
            obtain ⟨z0, z1, z2⟩ := T3.out.boxR.frozen
            go_wp2_with fail
            exact bodyPost_ret (v := .tuple #[.agg #[.int .i64 (0), .int .i64 (0), .int .i64 (0)], .bool false]) (by simp [results, Tryd.results12, go_sem, s0, s1, s2]) rfl ⟨rfl, (((T3.out.low.setCell (p := ⟨w.heap.size + 1 + 1, 0, none⟩) (by show _ ≤ w.heap.size + 1 + 1; omega) _).setCell (p := ⟨w.heap.size + 1 + 1, 1, none⟩) (by show _ ≤ w.heap.size + 1 + 1; omega) _).setCell (p := ⟨w.heap.size + 1 + 1, 2, none⟩) (by show _ ≤ w.heap.size + 1 + 1; omega) _)⟩
          · have n11 : (op == 11) = false := by simpa using h11
            clear h11
            by_cases h12 : op = 12
            · subst h12
              have t11 : ((12 : Int) == 11) = false := rfl
              have t12 : ((12 : Int) == 12) = true := rfl
              have t21 : ((12 : Int) == 21) = false := rfl
              have t22 : ((12 : Int) == 22) = false := rfl
              rw [t11, t12, t21, t22]
              clear t11 t12 t21 t22 n11
              have hite : (if ((false && false) : Bool) = true then ri else if ((false && false && false) : Bool) = true then some (Pv xb (wrap64 (xn + yn))) else if ((false && false && false) : Bool) = true then some (Pv yb (wrap64 (xn + yn))) else if ((true && false && false) : Bool) = true then some (Pv xb (wrap64 (xn - yn))) else if ((false || false) : Bool) = true then ra else none) = none := by rfl
              rw [hite]
              clear hite
              show Calls Tryd.prog 12 _ w (fun e w' => e = .returned (.tuple #[.agg #[.int .i64 (0), .int .i64 (0), .int .i64 (0)], .bool false]) ∧ Below w.heap.size w w')
              have T0 := Lib.hid (A3.start w xk xn xb yk yn yb)
              go_enter Tryd.func12, Tryd.ntmps12
              go_wp2_with fail
              refine (isInt_any xk xn xb _).mono ?_
              rintro e w1 ⟨rfl, hb⟩
              have T1 := Lib.hid (T0.out.step hb)
              clear hb
              obtain ⟨q0, q1, q2⟩ := T1.out.boxX.cells
              obtain ⟨r0, r1, r2⟩ := T1.out.boxY.cells
              obtain ⟨s0, s1, s2⟩ := T1.out.boxR.cells
              obtain ⟨z0, z1, z2⟩ := T1.out.boxR.frozen
              go_wp2_with fail
              refine (isPtr_any xk xn xb _).mono ?_
              rintro e w2 ⟨rfl, hb⟩
              have T2 := Lib.hid (T1.out.step hb)
              clear hb q0 q1 q2 r0 r1 r2 s0 s1 s2 z0 z1 z2
              obtain ⟨q0, q1, q2⟩ := T2.out.boxX.cells
              obtain ⟨r0, r1, r2⟩ := T2.out.boxY.cells
              obtain ⟨s0, s1, s2⟩ := T2.out.boxR.cells
              obtain ⟨z0, z1, z2⟩ := T2.out.boxR.frozen
              go_wp2_with fail
              exact bodyPost_ret (v := .tuple #[.agg #[.int .i64 (0), .int .i64 (0), .int .i64 (0)], .bool false]) (by simp [results, Tryd.results12, go_sem, s0, s1, s2]) rfl ⟨rfl, (((T2.out.low.setCell (p := ⟨w.heap.size + 1 + 1, 0, none⟩) (by show _ ≤ w.heap.size + 1 + 1; omega) _).setCell (p := ⟨w.heap.size + 1 + 1, 1, none⟩) (by show _ ≤ w.heap.size + 1 + 1; omega) _).setCell (p := ⟨w.heap.size + 1 + 1, 2, none⟩) (by show _ ≤ w.heap.size + 1 + 1; omega) _)⟩
            · have n12 : (op == 12) = false := by simpa using h12
              clear h12
              by_cases h21 : op = 21
              · subst h21
                have t11 : ((21 : Int) == 11) = false := rfl
                have t12 : ((21 : Int) == 12) = false := rfl
                have t21 : ((21 : Int) == 21) = true := rfl
                have t22 : ((21 : Int) == 22) = false := rfl
                rw [t11, t12, t21, t22]
                clear t11 t12 t21 t22 n11 n12
                have hite : (if ((false && false) : Bool) = true then ri else if ((false && false && false) : Bool) = true then some (Pv xb (wrap64 (xn + yn))) else if ((false && false && false) : Bool) = true then some (Pv yb (wrap64 (xn + yn))) else if ((false && false && false) : Bool) = true then some (Pv xb (wrap64 (xn - yn))) else if ((true || false) : Bool) = true then ra else none) = ra := by rfl
                rw [hite]
                clear hite
                show Calls Tryd.prog 12 _ w (fun e w' => e = .returned (.tuple #[.agg #[.int .i64 (vk ra), .int .i64 (vn ra), .int .i64 (vb ra)], .bool ra.isSome]) ∧ Below w.heap.size w w')
                have T0 := Lib.hid (A3.start w xk xn xb yk yn yb)
                go_enter Tryd.func12, Tryd.ntmps12
                go_wp2_with fail
                refine (isInt_any xk xn xb _).mono ?_
                rintro e w1 ⟨rfl, hb⟩
                have T1 := Lib.hid (T0.out.step hb)
                clear hb
                obtain ⟨q0, q1, q2⟩ := T1.out.boxX.cells
                obtain ⟨r0, r1, r2⟩ := T1.out.boxY.cells
                obtain ⟨s0, s1, s2⟩ := T1.out.boxR.cells
                obtain ⟨z0, z1, z2⟩ := T1.out.boxR.frozen
                go_wp2_with fail
                refine (HA.out _).mono ?_
                rintro e w2 ⟨rfl, hb⟩
                have T2 := Lib.hid (T1.out.step hb)
                clear hb q0 q1 q2 r0 r1 r2 s0 s1 s2 z0 z1 z2
                obtain ⟨q0, q1, q2⟩ := T2.out.boxX.cells
                obtain ⟨r0, r1, r2⟩ := T2.out.boxY.cells
                obtain ⟨s0, s1, s2⟩ := T2.out.boxR.cells
                obtain ⟨z0, z1, z2⟩ := T2.out.boxR.frozen
                go_wp2_with fail
                exact bodyPost_ret (v := .tuple #[.agg #[.int .i64 (vk ra), .int .i64 (vn ra), .int .i64 (vb ra)], .bool ra.isSome]) (by simp [results, Tryd.results12, go_sem, s0, s1, s2]) rfl ⟨rfl, (((T2.out.low.setCell (p := ⟨w.heap.size + 1 + 1, 0, none⟩) (by show _ ≤ w.heap.size + 1 + 1; omega) _).setCell (p := ⟨w.heap.size + 1 + 1, 1, none⟩) (by show _ ≤ w.heap.size + 1 + 1; omega) _).setCell (p := ⟨w.heap.size + 1 + 1, 2, none⟩) (by show _ ≤ w.heap.size + 1 + 1; omega) _)⟩
              · have n21 : (op == 21) = false := by simpa using h21
                clear h21
                by_cases h22 : op = 22
                · subst h22
                  have t11 : ((22 : Int) == 11) = false := rfl
                  have t12 : ((22 : Int) == 12) = false := rfl
                  have t21 : ((22 : Int) == 21) = false := rfl
                  have t22 : ((22 : Int) == 22) = true := rfl
                  rw [t11, t12, t21, t22]
                  clear t11 t12 t21 t22 n11 n12 n21
                  have hite : (if ((false && false) : Bool) = true then ri else if ((false && false && false) : Bool) = true then some (Pv xb (wrap64 (xn + yn))) else if ((false && false && false) : Bool) = true then some (Pv yb (wrap64 (xn + yn))) else if ((false && false && false) : Bool) = true then some (Pv xb (wrap64 (xn - yn))) else if ((false || true) : Bool) = true then ra else none) = ra := by rfl
                  rw [hite]
                  clear hite
                  show Calls Tryd.prog 12 _ w (fun e w' => e = .returned (.tuple #[.agg #[.int .i64 (vk ra), .int .i64 (vn ra), .int .i64 (vb ra)], .bool ra.isSome]) ∧ Below w.heap.size w w')
                  have T0 := Lib.hid (A3.start w xk xn xb yk yn yb)
                  go_enter Tryd.func12, Tryd.ntmps12
                  go_wp2_with fail
                  refine (isInt_any xk xn xb _).mono ?_
                  rintro e w1 ⟨rfl, hb⟩
                  have T1 := Lib.hid (T0.out.step hb)
                  clear hb
                  obtain ⟨q0, q1, q2⟩ := T1.out.boxX.cells
                  obtain ⟨r0, r1, r2⟩ := T1.out.boxY.cells
                  obtain ⟨s0, s1, s2⟩ := T1.out.boxR.cells
                  obtain ⟨z0, z1, z2⟩ := T1.out.boxR.frozen
                  go_wp2_with fail
                  refine (HA.out _).mono ?_
                  rintro e w2 ⟨rfl, hb⟩
                  have T2 := Lib.hid (T1.out.step hb)
                  clear hb q0 q1 q2 r0 r1 r2 s0 s1 s2 z0 z1 z2
                  obtain ⟨q0, q1, q2⟩ := T2.out.boxX.cells
                  obtain ⟨r0, r1, r2⟩ := T2.out.boxY.cells
                  obtain ⟨s0, s1, s2⟩ := T2.out.boxR.cells
                  obtain ⟨z0, z1, z2⟩ := T2.out.boxR.frozen
                  go_wp2_with fail
                  exact bodyPost_ret (v := .tuple #[.agg #[.int .i64 (vk ra), .int .i64 (vn ra), .int .i64 (vb ra)], .bool ra.isSome]) (by simp [results, Tryd.results12, go_sem, s0, s1, s2]) rfl ⟨rfl, (((T2.out.low.setCell (p := ⟨w.heap.size + 1 + 1, 0, none⟩) (by show _ ≤ w.heap.size + 1 + 1; omega) _).setCell (p := ⟨w.heap.size + 1 + 1, 1, none⟩) (by show _ ≤ w.heap.size + 1 + 1; omega) _).setCell (p := ⟨w.heap.size + 1 + 1, 2, none⟩) (by show _ ≤ w.heap.size + 1 + 1; omega) _)⟩
                · have n22 : (op == 22) = false := by simpa using h22
                  clear h22
                  rw [n11, n12, n21, n22]
                  have hite : (if ((false && false) : Bool) = true then ri else if ((false && false && false) : Bool) = true then some (Pv xb (wrap64 (xn + yn))) else if ((false && false && false) : Bool) = true then some (Pv yb (wrap64 (xn + yn))) else if ((false && false && false) : Bool) = true then some (Pv xb (wrap64 (xn - yn))) else if ((false || false) : Bool) = true then ra else none) = none := by rfl
                  rw [hite]
                  clear hite
                  show Calls Tryd.prog 12 _ w (fun e w' => e = .returned (.tuple #[.agg #[.int .i64 (0), .int .i64 (0), .int .i64 (0)], .bool false]) ∧ Below w.heap.size w w')
                  have T0 := Lib.hid (A3.start w xk xn xb yk yn yb)
                  go_enter Tryd.func12, Tryd.ntmps12
                  go_wp2_with fail
                  refine (isInt_any xk xn xb _).mono ?_
                  rintro e w1 ⟨rfl, hb⟩
                  have T1 := Lib.hid (T0.out.step hb)
                  clear hb
                  obtain ⟨q0, q1, q2⟩ := T1.out.boxX.cells
                  obtain ⟨r0, r1, r2⟩ := T1.out.boxY.cells
                  obtain ⟨s0, s1, s2⟩ := T1.out.boxR.cells
                  obtain ⟨z0, z1, z2⟩ := T1.out.boxR.frozen
                  go_wp2_with fail
                  exact bodyPost_ret (v := .tuple #[.agg #[.int .i64 (0), .int .i64 (0), .int .i64 (0)], .bool false]) (by simp [results, Tryd.results12, go_sem, s0, s1, s2]) rfl ⟨rfl, (((T1.out.low.setCell (p := ⟨w.heap.size + 1 + 1, 0, none⟩) (by show _ ≤ w.heap.size + 1 + 1; omega) _).setCell (p := ⟨w.heap.size + 1 + 1, 1, none⟩) (by show _ ≤ w.heap.size + 1 + 1; omega) _).setCell (p := ⟨w.heap.size + 1 + 1, 2, none⟩) (by show _ ≤ w.heap.size + 1 + 1; omega) _)⟩
        · have hby1 := hby hpy
          clear hexy hby
          by_cases h11 : op = 11
          · subst h11
            have t11 : ((11 : Int) == 11) = true := rfl
            have t12 : ((11 : Int) == 12) = false := rfl
            have t21 : ((11 : Int) == 21) = false := rfl
            have t22 : ((11 : Int) == 22) = false := rfl
            rw [t11, t12, t21, t22]
            clear t11 t12 t21 t22
            have hite : (if ((false && false) : Bool) = true then ri else if ((true && false && false) : Bool) = true then some (Pv xb (wrap64 (xn + yn))) else if ((true && false && true) : Bool) = true then some (Pv yb (wrap64 (xn + yn))) else if ((false && false && false) : Bool) = true then some (Pv xb (wrap64 (xn - yn))) else if ((false || false) : Bool) = true then ra else none) = none := by rfl
            rw [hite]
            clear hite
            show Calls Tryd.prog 12 _ w (fun e w' => e = .returned (.tuple #[.agg #[.int .i64 (0), .int .i64 (0), .int .i64 (0)], .bool false]) ∧ Below w.heap.size w w')
            have T0 := Lib.hid (A3.start w xk xn xb yk yn yb)
            go_enter Tryd.func12, Tryd.ntmps12
            go_wp2_with fail
            refine (isInt_any xk xn xb _).mono ?_
            rintro e w1 ⟨rfl, hb⟩
            have T1 := Lib.hid (T0.out.step hb)
            clear hb
            obtain ⟨q0, q1, q2⟩ := T1.out.boxX.cells
            obtain ⟨r0, r1, r2⟩ := T1.out.boxY.cells
            obtain ⟨s0, s1, s2⟩ := T1.out.boxR.cells
            obtain ⟨z0, z1, z2⟩ := T1.out.boxR.frozen
            go_wp2_with fail
            refine (isPtr_any xk xn xb _).mono ?_
            rintro e w2 ⟨rfl, hb⟩
            have T2 := Lib.hid (T1.out.step hb)
            clear hb q0 q1 q2 r0 r1 r2 s0 s1 s2 z0 z1 z2
            obtain ⟨q0, q1, q2⟩ := T2.out.boxX.cells
            obtain ⟨r0, r1, r2⟩ := T2.out.boxY.cells
            obtain ⟨s0, s1, s2⟩ := T2.out.boxR.cells
            obtain ⟨z0, z1, z2⟩ := T2.out.boxR.frozen
            go_wp2_with fail
            refine (isInt_any xk xn xb _).mono ?_
            rintro e w3 ⟨rfl, hb⟩
            have T3 := Lib.hid (T2.out.step hb)
            clear hb q0 q1 q2 r0 r1 r2 s0 s1 s2 z0 z1 z2
            obtain ⟨q0, q1, q2⟩ := T3.out.boxX.cells
            obtain ⟨r0, r1, r2⟩ := T3.out.boxY.cells
            obtain ⟨s0, s1, s2⟩ := T3.out.boxR.cells
            obtain ⟨z0, z1, z2⟩ := T3.out.boxR.frozen
            go_wp2_with fail
            exact bodyPost_ret (v := .tuple #[.agg #[.int .i64 (0), .int .i64 (0), .int .i64 (0)], .bool false]) (by simp [results, Tryd.results12, go_sem, s0, s1, s2]) rfl ⟨rfl, (((T3.out.low.setCell (p := ⟨w.heap.size + 1 + 1, 0, none⟩) (by show _ ≤ w.heap.size + 1 + 1; omega) _).setCell (p := ⟨w.heap.size + 1 + 1, 1, none⟩) (by show _ ≤ w.heap.size + 1 + 1; omega) _).setCell (p := ⟨w.heap.size + 1 + 1, 2, none⟩) (by show _ ≤ w.heap.size + 1 + 1; omega) _)⟩
          · have n11 : (op == 11) = false := by simpa using h11
            clear h11
            by_cases h12 : op = 12
            · subst h12
              have t11 : ((12 : Int) == 11) = false := rfl
              have t12 : ((12 : Int) == 12) = true := rfl
              have t21 : ((12 : Int) == 21) = false := rfl
              have t22 : ((12 : Int) == 22) = false := rfl
              rw [t11, t12, t21, t22]
              clear t11 t12 t21 t22 n11
              have hite : (if ((false && false) : Bool) = true then ri else if ((false && false && false) : Bool) = true then some (Pv xb (wrap64 (xn + yn))) else if ((false && false && true) : Bool) = true then some (Pv yb (wrap64 (xn + yn))) else if ((true && false && false) : Bool) = true then some (Pv xb (wrap64 (xn - yn))) else if ((false || false) : Bool) = true then ra else none) = none := by rfl
              rw [hite]
              clear hite
              show Calls Tryd.prog 12 _ w (fun e w' => e = .returned (.tuple #[.agg #[.int .i64 (0), .int .i64 (0), .int .i64 (0)], .bool false]) ∧ Below w.heap.size w w')
              have T0 := Lib.hid (A3.start w xk xn xb yk yn yb)
              go_enter Tryd.func12, Tryd.ntmps12
              go_wp2_with fail
              refine (isInt_any xk xn xb _).mono ?_
              rintro e w1 ⟨rfl, hb⟩
              have T1 := Lib.hid (T0.out.step hb)
              clear hb
              obtain ⟨q0, q1, q2⟩ := T1.out.boxX.cells
              obtain ⟨r0, r1, r2⟩ := T1.out.boxY.cells
              obtain ⟨s0, s1, s2⟩ := T1.out.boxR.cells
              obtain ⟨z0, z1, z2⟩ := T1.out.boxR.frozen
              go_wp2_with fail
              refine (isPtr_any xk xn xb _).mono ?_
              rintro e w2 ⟨rfl, hb⟩
              have T2 := Lib.hid (T1.out.step hb)
              clear hb q0 q1 q2 r0 r1 r2 s0 s1 s2 z0 z1 z2
              obtain ⟨q0, q1, q2⟩ := T2.out.boxX.cells
              obtain ⟨r0, r1, r2⟩ := T2.out.boxY.cells
              obtain ⟨s0, s1, s2⟩ := T2.out.boxR.cells
              obtain ⟨z0, z1, z2⟩ := T2.out.boxR.frozen
              go_wp2_with fail
              exact bodyPost_ret (v := .tuple #[.agg #[.int .i64 (0), .int .i64 (0), .int .i64 (0)], .bool false]) (by simp [results, Tryd.results12, go_sem, s0, s1, s2]) rfl ⟨rfl, (((T2.out.low.setCell (p := ⟨w.heap.size + 1 + 1, 0, none⟩) (by show _ ≤ w.heap.size + 1 + 1; omega) _).setCell (p := ⟨w.heap.size + 1 + 1, 1, none⟩) (by show _ ≤ w.heap.size + 1 + 1; omega) _).setCell (p := ⟨w.heap.size + 1 + 1, 2, none⟩) (by show _ ≤ w.heap.size + 1 + 1; omega) _)⟩
            · have n12 : (op == 12) = false := by simpa using h12
              clear h12
              by_cases h21 : op = 21
              · subst h21
                have t11 : ((21 : Int) == 11) = false := rfl
                have t12 : ((21 : Int) == 12) = false := rfl
                have t21 : ((21 : Int) == 21) = true := rfl
                have t22 : ((21 : Int) == 22) = false := rfl
                rw [t11, t12, t21, t22]
                clear t11 t12 t21 t22 n11 n12
                have hite : (if ((false && false) : Bool) = true then ri else if ((false && false && false) : Bool) = true then some (Pv xb (wrap64 (xn + yn))) else if ((false && false && true) : Bool) = true then some (Pv yb (wrap64 (xn + yn))) else if ((false && false && false) : Bool) = true then some (Pv xb (wrap64 (xn - yn))) else if ((true || false) : Bool) = true then ra else none) = ra := by rfl
                rw [hite]
                clear hite
                show Calls Tryd.prog 12 _ w (fun e w' => e = .returned (.tuple #[.agg #[.int .i64 (vk ra), .int .i64 (vn ra), .int .i64 (vb ra)], .bool ra.isSome]) ∧ Below w.heap.size w w')
                have T0 := Lib.hid (A3.start w xk xn xb yk yn yb)
                go_enter Tryd.func12, Tryd.ntmps12
                go_wp2_with fail
                refine (isInt_any xk xn xb _).mono ?_
                rintro e w1 ⟨rfl, hb⟩
                have T1 := Lib.hid (T0.out.step hb)
                clear hb
                obtain ⟨q0, q1, q2⟩ := T1.out.boxX.cells
                obtain ⟨r0, r1, r2⟩ := T1.out.boxY.cells
                obtain ⟨s0, s1, s2⟩ := T1.out.boxR.cells
                obtain ⟨z0, z1, z2⟩ := T1.out.boxR.frozen
                go_wp2_with fail
                refine (HA.out _).mono ?_
                rintro e w2 ⟨rfl, hb⟩
                have T2 := Lib.hid (T1.out.step hb)
                clear hb q0 q1 q2 r0 r1 r2 s0 s1 s2 z0 z1 z2
                obtain ⟨q0, q1, q2⟩ := T2.out.boxX.cells
                obtain ⟨r0, r1, r2⟩ := T2.out.boxY.cells
                obtain ⟨s0, s1, s2⟩ := T2.out.boxR.cells
                obtain ⟨z0, z1, z2⟩ := T2.out.boxR.frozen
                go_wp2_with fail
                exact bodyPost_ret (v := .tuple #[.agg #[.int .i64 (vk ra), .int .i64 (vn ra), .int .i64 (vb ra)], .bool ra.isSome]) (by simp [results, Tryd.results12, go_sem, s0, s1, s2]) rfl ⟨rfl, (((T2.out.low.setCell (p := ⟨w.heap.size + 1 + 1, 0, none⟩) (by show _ ≤ w.heap.size + 1 + 1; omega) _).setCell (p := ⟨w.heap.size + 1 + 1, 1, none⟩) (by show _ ≤ w.heap.size + 1 + 1; omega) _).setCell (p := ⟨w.heap.size + 1 + 1, 2, none⟩) (by show _ ≤ w.heap.size + 1 + 1; omega) _)⟩
              · have n21 : (op == 21) = false := by simpa using h21
                clear h21
                by_cases h22 : op = 22
                · subst h22
                  have t11 : ((22 : Int) == 11) = false := rfl
                  have t12 : ((22 : Int) == 12) = false := rfl
                  have t21 : ((22 : Int) == 21) = false := rfl
                  have t22 : ((22 : Int) == 22) = true := rfl
                  rw [t11, t12, t21, t22]
                  clear t11 t12 t21 t22 n11 n12 n21
                  have hite : (if ((false && false) : Bool) = true then ri else if ((false && false && false) : Bool) = true then some (Pv xb (wrap64 (xn + yn))) else if ((false && false && true) : Bool) = true then some (Pv yb (wrap64 (xn + yn))) else if ((false && false && false) : Bool) = true then some (Pv xb (wrap64 (xn - yn))) else if ((false || true) : Bool) = true then ra else none) = ra := by rfl
                  rw [hite]
                  clear hite
                  show Calls Tryd.prog 12 _ w (fun e w' => e = .returned (.tuple #[.agg #[.int .i64 (vk ra), .int .i64 (vn ra), .int .i64 (vb ra)], .bool ra.isSome]) ∧ Below w.heap.size w w')
                  have T0 := Lib.hid (A3.start w xk xn xb yk yn yb)
                  go_enter Tryd.func12, Tryd.ntmps12
                  go_wp2_with fail
                  refine (isInt_any xk xn xb _).mono ?_
                  rintro e w1 ⟨rfl, hb⟩
                  have T1 := Lib.hid (T0.out.step hb)
                  clear hb
                  obtain ⟨q0, q1, q2⟩ := T1.out.boxX.cells
                  obtain ⟨r0, r1, r2⟩ := T1.out.boxY.cells
                  obtain ⟨s0, s1, s2⟩ := T1.out.boxR.cells
                  obtain ⟨z0, z1, z2⟩ := T1.out.boxR.frozen
                  go_wp2_with fail
                  refine (HA.out _).mono ?_
                  rintro e w2 ⟨rfl, hb⟩
                  have T2 := Lib.hid (T1.out.step hb)
                  clear hb q0 q1 q2 r0 r1 r2 s0 s1 s2 z0 z1 z2
                  obtain ⟨q0, q1, q2⟩ := T2.out.boxX.cells
                  obtain ⟨r0, r1, r2⟩ := T2.out.boxY.cells
                  obtain ⟨s0, s1, s2⟩ := T2.out.boxR.cells
                  obtain ⟨z0, z1, z2⟩ := T2.out.boxR.frozen
                  go_wp2_with fail
                  exact bodyPost_ret (v := .tuple #[.agg #[.int .i64 (vk ra), .int .i64 (vn ra), .int .i64 (vb ra)], .bool ra.isSome]) (by simp [results, Tryd.results12, go_sem, s0, s1, s2]) rfl ⟨rfl, (((T2.out.low.setCell (p := ⟨w.heap.size + 1 + 1, 0, none⟩) (by show _ ≤ w.heap.size + 1 + 1; omega) _).setCell (p := ⟨w.heap.size + 1 + 1, 1, none⟩) (by show _ ≤ w.heap.size + 1 + 1; omega) _).setCell (p := ⟨w.heap.size + 1 + 1, 2, none⟩) (by show _ ≤ w.heap.size + 1 + 1; omega) _)⟩
                · have n22 : (op == 22) = false := by simpa using h22
                  clear h22
                  rw [n11, n12, n21, n22]
                  have hite : (if ((false && false) : Bool) = true then ri else if ((false && false && false) : Bool) = true then some (Pv xb (wrap64 (xn + yn))) else if ((false && false && true) : Bool) = true then some (Pv yb (wrap64 (xn + yn))) else if ((false && false && false) : Bool) = true then some (Pv xb (wrap64 (xn - yn))) else if ((false || false) : Bool) = true then ra else none) = none := by rfl
                  rw [hite]
                  clear hite
                  show Calls Tryd.prog 12 _ w (fun e w' => e = .returned (.tuple #[.agg #[.int .i64 (0), .int .i64 (0), .int .i64 (0)], .bool false]) ∧ Below w.heap.size w w')
                  have T0 := Lib.hid (A3.start w xk xn xb yk yn yb)
                  go_enter Tryd.func12, Tryd.ntmps12
                  go_wp2_with fail
                  refine (isInt_any xk xn xb _).mono ?_
                  rintro e w1 ⟨rfl, hb⟩
                  have T1 := Lib.hid (T0.out.step hb)
                  clear hb
                  obtain ⟨q0, q1, q2⟩ := T1.out.boxX.cells
                  obtain ⟨r0, r1, r2⟩ := T1.out.boxY.cells
                  obtain ⟨s0, s1, s2⟩ := T1.out.boxR.cells
                  obtain ⟨z0, z1, z2⟩ := T1.out.boxR.frozen
                  go_wp2_with fail
                  exact bodyPost_ret (v := .tuple #[.agg #[.int .i64 (0), .int .i64 (0), .int .i64 (0)], .bool false]) (by simp [results, Tryd.results12, go_sem, s0, s1, s2]) rfl ⟨rfl, (((T1.out.low.setCell (p := ⟨w.heap.size + 1 + 1, 0, none⟩) (by show _ ≤ w.heap.size + 1 + 1; omega) _).setCell (p := ⟨w.heap.size + 1 + 1, 1, none⟩) (by show _ ≤ w.heap.size + 1 + 1; omega) _).setCell (p := ⟨w.heap.size + 1 + 1, 2, none⟩) (by show _ ≤ w.heap.size + 1 + 1; omega) _)⟩
      · have hpy := hexy hiy
        rw [hpy]
        clear hexy hby
        by_cases h11 : op = 11
        · subst h11
          have t11 : ((11 : Int) == 11) = true := rfl
          have t12 : ((11 : Int) == 12) = false := rfl
          have t21 : ((11 : Int) == 21) = false := rfl
          have t22 : ((11 : Int) == 22) = false := rfl
          rw [t11, t12, t21, t22]
          clear t11 t12 t21 t22
          have hite : (if ((false && true) : Bool) = true then ri else if ((true && false && true) : Bool) = true then some (Pv xb (wrap64 (xn + yn))) else if ((true && false && false) : Bool) = true then some (Pv yb (wrap64 (xn + yn))) else if ((false && false && true) : Bool) = true then some (Pv xb (wrap64 (xn - yn))) else if ((false || false) : Bool) = true then ra else none) = none := by rfl
          rw [hite]
          clear hite
          show Calls Tryd.prog 12 _ w (fun e w' => e = .returned (.tuple #[.agg #[.int .i64 (0), .int .i64 (0), .int .i64 (0)], .bool false]) ∧ Below w.heap.size w w')
          have T0 := Lib.hid (A3.start w xk xn xb yk yn yb)
          go_enter Tryd.func12, Tryd.ntmps12
          go_wp2_with fail
          refine (isInt_any xk xn xb _).mono ?_
          rintro e w1 ⟨rfl, hb⟩
          have T1 := Lib.hid (T0.out.step hb)
          clear hb
          obtain ⟨q0, q1, q2⟩ := T1.out.boxX.cells
          obtain ⟨r0, r1, r2⟩ := T1.out.boxY.cells
          obtain ⟨s0, s1, s2⟩ := T1.out.boxR.cells
          obtain ⟨z0, z1, z2⟩ := T1.out.boxR.frozen
          go_wp2_with fail
          refine (isPtr_any xk xn xb _).mono ?_
          rintro e w2 ⟨rfl, hb⟩
          have T2 := Lib.hid (T1.out.step hb)
          clear hb q0 q1 q2 r0 r1 r2 s0 s1 s2 z0 z1 z2
          obtain ⟨q0, q1, q2⟩ := T2.out.boxX.cells
          obtain ⟨r0, r1, r2⟩ := T2.out.boxY.cells
          obtain ⟨s0, s1, s2⟩ := T2.out.boxR.cells
          obtain ⟨z0, z1, z2⟩ := T2.out.boxR.frozen
          go_wp2_with fail
          refine (isInt_any xk xn xb _).mono ?_
          rintro e w3 ⟨rfl, hb⟩
          have T3 := Lib.hid (T2.out.step hb)
          clear hb q0 q1 q2 r0 r1 r2 s0 s1 s2 z0 z1 z2
          obtain ⟨q0, q1, q2⟩ := T3.out.boxX.cells
          obtain ⟨r0, r1, r2⟩ := T3.out.boxY.cells
          obtain ⟨s0, s1, s2⟩ := T3.out.boxR.cells
          obtain ⟨z0, z1, z2⟩ := T3.out.boxR.frozen
          go_wp2_with fail
          exact bodyPost_ret (v := .tuple #[.agg #[.int .i64 (0), .int .i64 (0), .int .i64 (0)], .bool false]) (by simp [results, Tryd.results12, go_sem, s0, s1, s2]) rfl ⟨rfl, (((T3.out.low.setCell (p := ⟨w.heap.size + 1 + 1, 0, none⟩) (by show _ ≤ w.heap.size + 1 + 1; omega) _).setCell (p := ⟨w.heap.size + 1 + 1, 1, none⟩) (by show _ ≤ w.heap.size + 1 + 1; omega) _).setCell (p := ⟨w.heap.size + 1 + 1, 2, none⟩) (by show _ ≤ w.heap.size + 1 + 1; omega) _)⟩
        · have n11 : (op == 11) = false := by simpa using h11
          clear h11
          by_cases h12 : op = 12
          · subst h12
            have t11 : ((12 : Int) == 11) = false := rfl
            have t12 : ((12 : Int) == 12) = true := rfl
            have t21 : ((12 : Int) == 21) = false := rfl
            have t22 : ((12 : Int) == 22) = false := rfl
            rw [t11, t12, t21, t22]
            clear t11 t12 t21 t22 n11
            have hite : (if ((false && true) : Bool) = true then ri else if ((false && false && true) : Bool) = true then some (Pv xb (wrap64 (xn + yn))) else if ((false && false && false) : Bool) = true then some (Pv yb (wrap64 (xn + yn))) else if ((true && false && true) : Bool) = true then some (Pv xb (wrap64 (xn - yn))) else if ((false || false) : Bool) = true then ra else none) = none := by rfl
            rw [hite]
            clear hite
            show Calls Tryd.prog 12 _ w (fun e w' => e = .returned (.tuple #[.agg #[.int .i64 (0), .int .i64 (0), .int .i64 (0)], .bool false]) ∧ Below w.heap.size w w')
            have T0 := Lib.hid (A3.start w xk xn xb yk yn yb)
            go_enter Tryd.func12, Tryd.ntmps12
            go_wp2_with fail
            refine (isInt_any xk xn xb _).mono ?_
            rintro e w1 ⟨rfl, hb⟩
            have T1 := Lib.hid (T0.out.step hb)
            clear hb
            obtain ⟨q0, q1, q2⟩ := T1.out.boxX.cells
            obtain ⟨r0, r1, r2⟩ := T1.out.boxY.cells
            obtain ⟨s0, s1, s2⟩ := T1.out.boxR.cells
            obtain ⟨z0, z1, z2⟩ := T1.out.boxR.frozen
            go_wp2_with fail
            refine (isPtr_any xk xn xb _).mono ?_
            rintro e w2 ⟨rfl, hb⟩
            have T2 := Lib.hid (T1.out.step hb)
            clear hb q0 q1 q2 r0 r1 r2 s0 s1 s2 z0 z1 z2
            obtain ⟨q0, q1, q2⟩ := T2.out.boxX.cells
            obtain ⟨r0, r1, r2⟩ := T2.out.boxY.cells
            obtain ⟨s0, s1, s2⟩ := T2.out.boxR.cells
            obtain ⟨z0, z1, z2⟩ := T2.out.boxR.frozen
            go_wp2_with fail
            exact bodyPost_ret (v := .tuple #[.agg #[.int .i64 (0), .int .i64 (0), .int .i64 (0)], .bool false]) (by simp [results, Tryd.results12, go_sem, s0, s1, s2]) rfl ⟨rfl, (((T2.out.low.setCell (p := ⟨w.heap.size + 1 + 1, 0, none⟩) (by show _ ≤ w.heap.size + 1 + 1; omega) _).setCell (p := ⟨w.heap.size + 1 + 1, 1, none⟩) (by show _ ≤ w.heap.size + 1 + 1; omega) _).setCell (p := ⟨w.heap.size + 1 + 1, 2, none⟩) (by show _ ≤ w.heap.size + 1 + 1; omega) _)⟩
          · have n12 : (op == 12) = false := by simpa using h12
            clear h12
            by_cases h21 : op = 21
            · subst h21
              have t11 : ((21 : Int) == 11) = false := rfl
              have t12 : ((21 : Int) == 12) = false := rfl
              have t21 : ((21 : Int) == 21) = true := rfl
              have t22 : ((21 : Int) == 22) = false := rfl
              rw [t11, t12, t21, t22]
              clear t11 t12 t21 t22 n11 n12
              have hite : (if ((false && true) : Bool) = true then ri else if ((false && false && true) : Bool) = true then some (Pv xb (wrap64 (xn + yn))) else if ((false && false && false) : Bool) = true then some (Pv yb (wrap64 (xn + yn))) else if ((false && false && true) : Bool) = true then some (Pv xb (wrap64 (xn - yn))) else if ((true || false) : Bool) = true then ra else none) = ra := by rfl
              rw [hite]
              clear hite
              show Calls Tryd.prog 12 _ w (fun e w' => e = .returned (.tuple #[.agg #[.int .i64 (vk ra), .int .i64 (vn ra), .int .i64 (vb ra)], .bool ra.isSome]) ∧ Below w.heap.size w w')
              have T0 := Lib.hid (A3.start w xk xn xb yk yn yb)
              go_enter Tryd.func12, Tryd.ntmps12
              go_wp2_with fail
              refine (isInt_any xk xn xb _).mono ?_
              rintro e w1 ⟨rfl, hb⟩
              have T1 := Lib.hid (T0.out.step hb)
              clear hb
              obtain ⟨q0, q1, q2⟩ := T1.out.boxX.cells
              obtain ⟨r0, r1, r2⟩ := T1.out.boxY.cells
              obtain ⟨s0, s1, s2⟩ := T1.out.boxR.cells
              obtain ⟨z0, z1, z2⟩ := T1.out.boxR.frozen
              go_wp2_with fail
              refine (HA.out _).mono ?_
              rintro e w2 ⟨rfl, hb⟩
              have T2 := Lib.hid (T1.out.step hb)
              clear hb q0 q1 q2 r0 r1 r2 s0 s1 s2 z0 z1 z2
              obtain ⟨q0, q1, q2⟩ := T2.out.boxX.cells
              obtain ⟨r0, r1, r2⟩ := T2.out.boxY.cells
              obtain ⟨s0, s1, s2⟩ := T2.out.boxR.cells
              obtain ⟨z0, z1, z2⟩ := T2.out.boxR.frozen
              go_wp2_with fail
              exact bodyPost_ret (v := .tuple #[.agg #[.int .i64 (vk ra), .int .i64 (vn ra), .int .i64 (vb ra)], .bool ra.isSome]) (by simp [results, Tryd.results12, go_sem, s0, s1, s2]) rfl ⟨rfl, (((T2.out.low.setCell (p := ⟨w.heap.size + 1 + 1, 0, none⟩) (by show _ ≤ w.heap.size + 1 + 1; omega) _).setCell (p := ⟨w.heap.size + 1 + 1, 1, none⟩) (by show _ ≤ w.heap.size + 1 + 1; omega) _).setCell (p := ⟨w.heap.size + 1 + 1, 2, none⟩) (by show _ ≤ w.heap.size + 1 + 1; omega) _)⟩
            · have n21 : (op == 21) = false := by simpa using h21
              clear h21
              by_cases h22 : op = 22
              · subst h22
                have t11 : ((22 : Int) == 11) = false := rfl
                have t12 : ((22 : Int) == 12) = false := rfl
                have t21 : ((22 : Int) == 21) = false := rfl
                have t22 : ((22 : Int) == 22) = true := rfl
                rw [t11, t12, t21, t22]
                clear t11 t12 t21 t22 n11 n12 n21
                have hite : (if ((false && true) : Bool) = true then ri else if ((false && false && true) : Bool) = true then some (Pv xb (wrap64 (xn + yn))) else if ((false && false && false) : Bool) = true then some (Pv yb (wrap64 (xn + yn))) else if ((false && false && true) : Bool) = true then some (Pv xb (wrap64 (xn - yn))) else if ((false || true) : Bool) = true then ra else none) = ra := by rfl
                rw [hite]
                clear hite
                show Calls Tryd.prog 12 _ w (fun e w' => e = .returned (.tuple #[.agg #[.int .i64 (vk ra), .int .i64 (vn ra), .int .i64 (vb ra)], .bool ra.isSome]) ∧ Below w.heap.size w w')
                have T0 := Lib.hid (A3.start w xk xn xb yk yn yb)
                go_enter Tryd.func12, Tryd.ntmps12
                go_wp2_with fail
                refine (isInt_any xk xn xb _).mono ?_
                rintro e w1 ⟨rfl, hb⟩
                have T1 := Lib.hid (T0.out.step hb)
                clear hb
                obtain ⟨q0, q1, q2⟩ := T1.out.boxX.cells
                obtain ⟨r0, r1, r2⟩ := T1.out.boxY.cells
                obtain ⟨s0, s1, s2⟩ := T1.out.boxR.cells
                obtain ⟨z0, z1, z2⟩ := T1.out.boxR.frozen
                go_wp2_with fail
                refine (HA.out _).mono ?_
                rintro e w2 ⟨rfl, hb⟩
                have T2 := Lib.hid (T1.out.step hb)
                clear hb q0 q1 q2 r0 r1 r2 s0 s1 s2 z0 z1 z2
                obtain ⟨q0, q1, q2⟩ := T2.out.boxX.cells
                obtain ⟨r0, r1, r2⟩ := T2.out.boxY.cells
                obtain ⟨s0, s1, s2⟩ := T2.out.boxR.cells
                obtain ⟨z0, z1, z2⟩ := T2.out.boxR.frozen
                go_wp2_with fail
                exact bodyPost_ret (v := .tuple #[.agg #[.int .i64 (vk ra), .int .i64 (vn ra), .int .i64 (vb ra)], .bool ra.isSome]) (by simp [results, Tryd.results12, go_sem, s0, s1, s2]) rfl ⟨rfl, (((T2.out.low.setCell (p := ⟨w.heap.size + 1 + 1, 0, none⟩) (by show _ ≤ w.heap.size + 1 + 1; omega) _).setCell (p := ⟨w.heap.size + 1 + 1, 1, none⟩) (by show _ ≤ w.heap.size + 1 + 1; omega) _).setCell (p := ⟨w.heap.size + 1 + 1, 2, none⟩) (by show _ ≤ w.heap.size + 1 + 1; omega) _)⟩
              · have n22 : (op == 22) = false := by simpa using h22
                clear h22
                rw [n11, n12, n21, n22]
                have hite : (if ((false && true) : Bool) = true then ri else if ((false && false && true) : Bool) = true then some (Pv xb (wrap64 (xn + yn))) else if ((false && false && false) : Bool) = true then some (Pv yb (wrap64 (xn + yn))) else if ((false && false && true) : Bool) = true then some (Pv xb (wrap64 (xn - yn))) else if ((false || false) : Bool) = true then ra else none) = none := by rfl
                rw [hite]
                clear hite
                show Calls Tryd.prog 12 _ w (fun e w' => e = .returned (.tuple #[.agg #[.int .i64 (0), .int .i64 (0), .int .i64 (0)], .bool false]) ∧ Below w.heap.size w w')
                have T0 := Lib.hid (A3.start w xk xn xb yk yn yb)
                go_enter Tryd.func12, Tryd.ntmps12
                go_wp2_with fail
                refine (isInt_any xk xn xb _).mono ?_
                rintro e w1 ⟨rfl, hb⟩
                have T1 := Lib.hid (T0.out.step hb)
                clear hb
                obtain ⟨q0, q1, q2⟩ := T1.out.boxX.cells
                obtain ⟨r0, r1, r2⟩ := T1.out.boxY.cells
                obtain ⟨s0, s1, s2⟩ := T1.out.boxR.cells
                obtain ⟨z0, z1, z2⟩ := T1.out.boxR.frozen
                go_wp2_with fail
                exact bodyPost_ret (v := .tuple #[.agg #[.int .i64 (0), .int .i64 (0), .int .i64 (0)], .bool false]) (by simp [results, Tryd.results12, go_sem, s0, s1, s2]) rfl ⟨rfl, (((T1.out.low.setCell (p := ⟨w.heap.size + 1 + 1, 0, none⟩) (by show _ ≤ w.heap.size + 1 + 1; omega) _).setCell (p := ⟨w.heap.size + 1 + 1, 1, none⟩) (by show _ ≤ w.heap.size + 1 + 1; omega) _).setCell (p := ⟨w.heap.size + 1 + 1, 2, none⟩) (by show _ ≤ w.heap.size + 1 + 1; omega) _)⟩
    · have hbx1 := hbx hpx
      clear hexx hbx
      cases hiy : intB ⟨yk, yn, yb⟩
      · cases hpy : ptrB ⟨yk, yn, yb⟩
        · clear hexy hby
          by_cases h11 : op = 11
          · subst h11
            have t11 : ((11 : Int) == 11) = true := rfl
            have t12 : ((11 : Int) == 12) = false := rfl
            have t21 : ((11 : Int) == 21) = false := rfl
            have t22 : ((11 : Int) == 22) = false := rfl
            rw [t11, t12, t21, t22]
            clear t11 t12 t21 t22
            have hite : (if ((false && false) : Bool) = true then ri else if ((true && true && false) : Bool) = true then some (Pv xb (wrap64 (xn + yn))) else if ((true && false && false) : Bool) = true then some (Pv yb (wrap64 (xn + yn))) else if ((false && true && false) : Bool) = true then some (Pv xb (wrap64 (xn - yn))) else if ((false || false) : Bool) = true then ra else none) = none := by rfl
            rw [hite]
            clear hite
            show Calls Tryd.prog 12 _ w (fun e w' => e = .returned (.tuple #[.agg #[.int .i64 (0), .int .i64 (0), .int .i64 (0)], .bool false]) ∧ Below w.heap.size w w')
            have T0 := Lib.hid (A3.start w xk xn xb yk yn yb)
            go_enter Tryd.func12, Tryd.ntmps12
            go_wp2_with fail
            refine (isInt_any xk xn xb _).mono ?_
            rintro e w1 ⟨rfl, hb⟩
            have T1 := Lib.hid (T0.out.step hb)
            clear hb
            obtain ⟨q0, q1, q2⟩ := T1.out.boxX.cells
            obtain ⟨r0, r1, r2⟩ := T1.out.boxY.cells
            obtain ⟨s0, s1, s2⟩ := T1.out.boxR.cells
            obtain ⟨z0, z1, z2⟩ := T1.out.boxR.frozen
            go_wp2_with fail
            refine (isPtr_any xk xn xb _).mono ?_
            rintro e w2 ⟨rfl, hb⟩
            have T2 := Lib.hid (T1.out.step hb)
            clear hb q0 q1 q2 r0 r1 r2 s0 s1 s2 z0 z1 z2
            obtain ⟨q0, q1, q2⟩ := T2.out.boxX.cells
            obtain ⟨r0, r1, r2⟩ := T2.out.boxY.cells
            obtain ⟨s0, s1, s2⟩ := T2.out.boxR.cells
            obtain ⟨z0, z1, z2⟩ := T2.out.boxR.frozen
            go_wp2_with fail
            refine (isInt_any yk yn yb _).mono ?_
            rintro e w3 ⟨rfl, hb⟩
            have T3 := Lib.hid (T2.out.step hb)
            clear hb q0 q1 q2 r0 r1 r2 s0 s1 s2 z0 z1 z2
            obtain ⟨q0, q1, q2⟩ := T3.out.boxX.cells
            obtain ⟨r0, r1, r2⟩ := T3.out.boxY.cells
            obtain ⟨s0, s1, s2⟩ := T3.out.boxR.cells
            obtain ⟨z0, z1, z2⟩ := T3.out.boxR.frozen
            go_wp2_with fail
            refine (isInt_any xk xn xb _).mono ?_
            rintro e w4 ⟨rfl, hb⟩
            have T4 := Lib.hid (T3.out.step hb)
            clear hb q0 q1 q2 r0 r1 r2 s0 s1 s2 z0 z1 z2
            obtain ⟨q0, q1, q2⟩ := T4.out.boxX.cells
            obtain ⟨r0, r1, r2⟩ := T4.out.boxY.cells
            obtain ⟨s0, s1, s2⟩ := T4.out.boxR.cells
            obtain ⟨z0, z1, z2⟩ := T4.out.boxR.frozen
            go_wp2_with fail
            exact bodyPost_ret (v := .tuple #[.agg #[.int .i64 (0), .int .i64 (0), .int .i64 (0)], .bool false]) (by simp [results, Tryd.results12, go_sem, s0, s1, s2]) rfl ⟨rfl, (((T4.out.low.setCell (p := ⟨w.heap.size + 1 + 1, 0, none⟩) (by show _ ≤ w.heap.size + 1 + 1; omega) _).setCell (p := ⟨w.heap.size + 1 + 1, 1, none⟩) (by show _ ≤ w.heap.size + 1 + 1; omega) _).setCell (p := ⟨w.heap.size + 1 + 1, 2, none⟩) (by show _ ≤ w.heap.size + 1 + 1; omega) _)⟩
          · have n11 : (op == 11) = false := by simpa using h11
            clear h11
            by_cases h12 : op = 12
            · subst h12
              have t11 : ((12 : Int) == 11) = false := rfl
              have t12 : ((12 : Int) == 12) = true := rfl
              have t21 : ((12 : Int) == 21) = false := rfl
              have t22 : ((12 : Int) == 22) = false := rfl
              rw [t11, t12, t21, t22]
              clear t11 t12 t21 t22 n11
              have hite : (if ((false && false) : Bool) = true then ri else if ((false && true && false) : Bool) = true then some (Pv xb (wrap64 (xn + yn))) else if ((false && false && false) : Bool) = true then some (Pv yb (wrap64 (xn + yn))) else if ((true && true && false) : Bool) = true then some (Pv xb (wrap64 (xn - yn))) else if ((false || false) : Bool) = true then ra else none) = none := by rfl
              rw [hite]
              clear hite
              show Calls Tryd.prog 12 _ w (fun e w' => e = .returned (.tuple #[.agg #[.int .i64 (0), .int .i64 (0), .int .i64 (0)], .bool false]) ∧ Below w.heap.size w w')
              have T0 := Lib.hid (A3.start w xk xn xb yk yn yb)
              go_enter Tryd.func12, Tryd.ntmps12
              go_wp2_with fail
              refine (isInt_any xk xn xb _).mono ?_
              rintro e w1 ⟨rfl, hb⟩
              have T1 := Lib.hid (T0.out.step hb)
              clear hb
              obtain ⟨q0, q1, q2⟩ := T1.out.boxX.cells
              obtain ⟨r0, r1, r2⟩ := T1.out.boxY.cells
              obtain ⟨s0, s1, s2⟩ := T1.out.boxR.cells
              obtain ⟨z0, z1, z2⟩ := T1.out.boxR.frozen
              go_wp2_with fail
              refine (isPtr_any xk xn xb _).mono ?_
              rintro e w2 ⟨rfl, hb⟩
              have T2 := Lib.hid (T1.out.step hb)
              clear hb q0 q1 q2 r0 r1 r2 s0 s1 s2 z0 z1 z2
              obtain ⟨q0, q1, q2⟩ := T2.out.boxX.cells
              obtain ⟨r0, r1, r2⟩ := T2.out.boxY.cells
              obtain ⟨s0, s1, s2⟩ := T2.out.boxR.cells
              obtain ⟨z0, z1, z2⟩ := T2.out.boxR.frozen
              go_wp2_with fail
              refine (isInt_any yk yn yb _).mono ?_
              rintro e w3 ⟨rfl, hb⟩
              have T3 := Lib.hid (T2.out.step hb)
              clear hb q0 q1 q2 r0 r1 r2 s0 s1 s2 z0 z1 z2
              obtain ⟨q0, q1, q2⟩ := T3.out.boxX.cells
              obtain ⟨r0, r1, r2⟩ := T3.out.boxY.cells
              obtain ⟨s0, s1, s2⟩ := T3.out.boxR.cells
              obtain ⟨z0, z1, z2⟩ := T3.out.boxR.frozen
              go_wp2_with fail
              exact bodyPost_ret (v := .tuple #[.agg #[.int .i64 (0), .int .i64 (0), .int .i64 (0)], .bool false]) (by simp [results, Tryd.results12, go_sem, s0, s1, s2]) rfl ⟨rfl, (((T3.out.low.setCell (p := ⟨w.heap.size + 1 + 1, 0, none⟩) (by show _ ≤ w.heap.size + 1 + 1; omega) _).setCell (p := ⟨w.heap.size + 1 + 1, 1, none⟩) (by show _ ≤ w.heap.size + 1 + 1; omega) _).setCell (p := ⟨w.heap.size + 1 + 1, 2, none⟩) (by show _ ≤ w.heap.size + 1 + 1; omega) _)⟩
            · have n12 : (op == 12) = false := by simpa using h12
              clear h12
              by_cases h21 : op = 21
              · subst h21
                have t11 : ((21 : Int) == 11) = false := rfl
                have t12 : ((21 : Int) == 12) = false := rfl
                have t21 : ((21 : Int) == 21) = true := rfl
                have t22 : ((21 : Int) == 22) = false := rfl
                rw [t11, t12, t21, t22]
                clear t11 t12 t21 t22 n11 n12
                have hite : (if ((false && false) : Bool) = true then ri else if ((false && true && false) : Bool) = true then some (Pv xb (wrap64 (xn + yn))) else if ((false && false && false) : Bool) = true then some (Pv yb (wrap64 (xn + yn))) else if ((false && true && false) : Bool) = true then some (Pv xb (wrap64 (xn - yn))) else if ((true || false) : Bool) = true then ra else none) = ra := by rfl
                rw [hite]
                clear hite
                show Calls Tryd.prog 12 _ w (fun e w' => e = .returned (.tuple #[.agg #[.int .i64 (vk ra), .int .i64 (vn ra), .int .i64 (vb ra)], .bool ra.isSome]) ∧ Below w.heap.size w w')
                have T0 := Lib.hid (A3.start w xk xn xb yk yn yb)
                go_enter Tryd.func12, Tryd.ntmps12
                go_wp2_with fail
                refine (isInt_any xk xn xb _).mono ?_
                rintro e w1 ⟨rfl, hb⟩
                have T1 := Lib.hid (T0.out.step hb)
                clear hb
                obtain ⟨q0, q1, q2⟩ := T1.out.boxX.cells
                obtain ⟨r0, r1, r2⟩ := T1.out.boxY.cells
                obtain ⟨s0, s1, s2⟩ := T1.out.boxR.cells
                obtain ⟨z0, z1, z2⟩ := T1.out.boxR.frozen
                go_wp2_with fail
                refine (HA.out _).mono ?_
                rintro e w2 ⟨rfl, hb⟩
                have T2 := Lib.hid (T1.out.step hb)
                clear hb q0 q1 q2 r0 r1 r2 s0 s1 s2 z0 z1 z2
                obtain ⟨q0, q1, q2⟩ := T2.out.boxX.cells
                obtain ⟨r0, r1, r2⟩ := T2.out.boxY.cells
                obtain ⟨s0, s1, s2⟩ := T2.out.boxR.cells
                obtain ⟨z0, z1, z2⟩ := T2.out.boxR.frozen
                go_wp2_with fail
                exact bodyPost_ret (v := .tuple #[.agg #[.int .i64 (vk ra), .int .i64 (vn ra), .int .i64 (vb ra)], .bool ra.isSome]) (by simp [results, Tryd.results12, go_sem, s0, s1, s2]) rfl ⟨rfl, (((T2.out.low.setCell (p := ⟨w.heap.size + 1 + 1, 0, none⟩) (by show _ ≤ w.heap.size + 1 + 1; omega) _).setCell (p := ⟨w.heap.size + 1 + 1, 1, none⟩) (by show _ ≤ w.heap.size + 1 + 1; omega) _).setCell (p := ⟨w.heap.size + 1 + 1, 2, none⟩) (by show _ ≤ w.heap.size + 1 + 1; omega) _)⟩
              · have n21 : (op == 21) = false := by simpa using h21
                clear h21
                by_cases h22 : op = 22
                · subst h22
                  have t11 : ((22 : Int) == 11) = false := rfl
                  have t12 : ((22 : Int) == 12) = false := rfl
                  have t21 : ((22 : Int) == 21) = false := rfl
                  have t22 : ((22 : Int) == 22) = true := rfl
                  rw [t11, t12, t21, t22]
                  clear t11 t12 t21 t22 n11 n12 n21
                  have hite : (if ((false && false) : Bool) = true then ri else if ((false && true && false) : Bool) = true then some (Pv xb (wrap64 (xn + yn))) else if ((false && false && false) : Bool) = true then some (Pv yb (wrap64 (xn + yn))) else if ((false && true && false) : Bool) = true then some (Pv xb (wrap64 (xn - yn))) else if ((false || true) : Bool) = true then ra else none) = ra := by rfl
                  rw [hite]
                  clear hite
                  show Calls Tryd.prog 12 _ w (fun e w' => e = .returned (.tuple #[.agg #[.int .i64 (vk ra), .int .i64 (vn ra), .int .i64 (vb ra)], .bool ra.isSome]) ∧ Below w.heap.size w w')
                  have T0 := Lib.hid (A3.start w xk xn xb yk yn yb)
                  go_enter Tryd.func12, Tryd.ntmps12
                  go_wp2_with fail
                  refine (isInt_any xk xn xb _).mono ?_
                  rintro e w1 ⟨rfl, hb⟩
                  have T1 := Lib.hid (T0.out.step hb)
                  clear hb
                  obtain ⟨q0, q1, q2⟩ := T1.out.boxX.cells
                  obtain ⟨r0, r1, r2⟩ := T1.out.boxY.cells
                  obtain ⟨s0, s1, s2⟩ := T1.out.boxR.cells
                  obtain ⟨z0, z1, z2⟩ := T1.out.boxR.frozen
                  go_wp2_with fail
                  refine (HA.out _).mono ?_
                  rintro e w2 ⟨rfl, hb⟩
                  have T2 := Lib.hid (T1.out.step hb)
                  clear hb q0 q1 q2 r0 r1 r2 s0 s1 s2 z0 z1 z2
                  obtain ⟨q0, q1, q2⟩ := T2.out.boxX.cells
                  obtain ⟨r0, r1, r2⟩ := T2.out.boxY.cells
                  obtain ⟨s0, s1, s2⟩ := T2.out.boxR.cells
                  obtain ⟨z0, z1, z2⟩ := T2.out.boxR.frozen
                  go_wp2_with fail
                  exact bodyPost_ret (v := .tuple #[.agg #[.int .i64 (vk ra), .int .i64 (vn ra), .int .i64 (vb ra)], .bool ra.isSome]) (by simp [results, Tryd.results12, go_sem, s0, s1, s2]) rfl ⟨rfl, (((T2.out.low.setCell (p := ⟨w.heap.size + 1 + 1, 0, none⟩) (by show _ ≤ w.heap.size + 1 + 1; omega) _).setCell (p := ⟨w.heap.size + 1 + 1, 1, none⟩) (by show _ ≤ w.heap.size + 1 + 1; omega) _).setCell (p := ⟨w.heap.size + 1 + 1, 2, none⟩) (by show _ ≤ w.heap.size + 1 + 1; omega) _)⟩
                · have n22 : (op == 22) = false := by simpa using h22
                  clear h22
                  rw [n11, n12, n21, n22]
                  have hite : (if ((false && false) : Bool) = true then ri else if ((false && true && false) : Bool) = true then some (Pv xb (wrap64 (xn + yn))) else if ((false && false && false) : Bool) = true then some (Pv yb (wrap64 (xn + yn))) else if ((false && true && false) : Bool) = true then some (Pv xb (wrap64 (xn - yn))) else if ((false || false) : Bool) = true then ra else none) = none := by rfl
                  rw [hite]
                  clear hite
                  show Calls Tryd.prog 12 _ w (fun e w' => e = .returned (.tuple #[.agg #[.int .i64 (0), .int .i64 (0), .int .i64 (0)], .bool false]) ∧ Below w.heap.size w w')
                  have T0 := Lib.hid (A3.start w xk xn xb yk yn yb)
                  go_enter Tryd.func12, Tryd.ntmps12
                  go_wp2_with fail
                  refine (isInt_any xk xn xb _).mono ?_
                  rintro e w1 ⟨rfl, hb⟩
                  have T1 := Lib.hid (T0.out.step hb)
                  clear hb
                  obtain ⟨q0, q1, q2⟩ := T1.out.boxX.cells
                  obtain ⟨r0, r1, r2⟩ := T1.out.boxY.cells
                  obtain ⟨s0, s1, s2⟩ := T1.out.boxR.cells
                  obtain ⟨z0, z1, z2⟩ := T1.out.boxR.frozen
                  go_wp2_with fail
                  exact bodyPost_ret (v := .tuple #[.agg #[.int .i64 (0), .int .i64 (0), .int .i64 (0)], .bool false]) (by simp [results, Tryd.results12, go_sem, s0, s1, s2]) rfl ⟨rfl, (((T1.out.low.setCell (p := ⟨w.heap.size + 1 + 1, 0, none⟩) (by show _ ≤ w.heap.size + 1 + 1; omega) _).setCell (p := ⟨w.heap.size + 1 + 1, 1, none⟩) (by show _ ≤ w.heap.size + 1 + 1; omega) _).setCell (p := ⟨w.heap.size + 1 + 1, 2, none⟩) (by show _ ≤ w.heap.size + 1 + 1; omega) _)⟩
        · have hby1 := hby hpy
          clear hexy hby
          by_cases h11 : op = 11
          · subst h11
            have t11 : ((11 : Int) == 11) = true := rfl
            have t12 : ((11 : Int) == 12) = false := rfl
            have t21 : ((11 : Int) == 21) = false := rfl
            have t22 : ((11 : Int) == 22) = false := rfl
            rw [t11, t12, t21, t22]
            clear t11 t12 t21 t22
            have hite : (if ((false && false) : Bool) = true then ri else if ((true && true && false) : Bool) = true then some (Pv xb (wrap64 (xn + yn))) else if ((true && false && true) : Bool) = true then some (Pv yb (wrap64 (xn + yn))) else if ((false && true && false) : Bool) = true then some (Pv xb (wrap64 (xn - yn))) else if ((false || false) : Bool) = true then ra else none) = none := by rfl
            rw [hite]
            clear hite
            show Calls Tryd.prog 12 _ w (fun e w' => e = .returned (.tuple #[.agg #[.int .i64 (0), .int .i64 (0), .int .i64 (0)], .bool false]) ∧ Below w.heap.size w w')
            have T0 := Lib.hid (A3.start w xk xn xb yk yn yb)
            go_enter Tryd.func12, Tryd.ntmps12
            go_wp2_with fail
            refine (isInt_any xk xn xb _).mono ?_
            rintro e w1 ⟨rfl, hb⟩
            have T1 := Lib.hid (T0.out.step hb)
            clear hb
            obtain ⟨q0, q1, q2⟩ := T1.out.boxX.cells
            obtain ⟨r0, r1, r2⟩ := T1.out.boxY.cells
            obtain ⟨s0, s1, s2⟩ := T1.out.boxR.cells
            obtain ⟨z0, z1, z2⟩ := T1.out.boxR.frozen
            go_wp2_with fail
            refine (isPtr_any xk xn xb _).mono ?_
            rintro e w2 ⟨rfl, hb⟩
            have T2 := Lib.hid (T1.out.step hb)
            clear hb q0 q1 q2 r0 r1 r2 s0 s1 s2 z0 z1 z2
            obtain ⟨q0, q1, q2⟩ := T2.out.boxX.cells
            obtain ⟨r0, r1, r2⟩ := T2.out.boxY.cells
            obtain ⟨s0, s1, s2⟩ := T2.out.boxR.cells
            obtain ⟨z0, z1, z2⟩ := T2.out.boxR.frozen
            go_wp2_with fail
            refine (isInt_any yk yn yb _).mono ?_
            rintro e w3 ⟨rfl, hb⟩
            have T3 := Lib.hid (T2.out.step hb)
            clear hb q0 q1 q2 r0 r1 r2 s0 s1 s2 z0 z1 z2
            obtain ⟨q0, q1, q2⟩ := T3.out.boxX.cells
            obtain ⟨r0, r1, r2⟩ := T3.out.boxY.cells
            obtain ⟨s0, s1, s2⟩ := T3.out.boxR.cells
            obtain ⟨z0, z1, z2⟩ := T3.out.boxR.frozen
            go_wp2_with fail
            refine (isInt_any xk xn xb _).mono ?_
            rintro e w4 ⟨rfl, hb⟩
            have T4 := Lib.hid (T3.out.step hb)
            clear hb q0 q1 q2 r0 r1 r2 s0 s1 s2 z0 z1 z2
            obtain ⟨q0, q1, q2⟩ := T4.out.boxX.cells
            obtain ⟨r0, r1, r2⟩ := T4.out.boxY.cells
            obtain ⟨s0, s1, s2⟩ := T4.out.boxR.cells
            obtain ⟨z0, z1, z2⟩ := T4.out.boxR.frozen
            go_wp2_with fail
            exact bodyPost_ret (v := .tuple #[.agg #[.int .i64 (0), .int .i64 (0), .int .i64 (0)], .bool false]) (by simp [results, Tryd.results12, go_sem, s0, s1, s2]) rfl ⟨rfl, (((T4.out.low.setCell (p := ⟨w.heap.size + 1 + 1, 0, none⟩) (by show _ ≤ w.heap.size + 1 + 1; omega) _).setCell (p := ⟨w.heap.size + 1 + 1, 1, none⟩) (by show _ ≤ w.heap.size + 1 + 1; omega) _).setCell (p := ⟨w.heap.size + 1 + 1, 2, none⟩) (by show _ ≤ w.heap.size + 1 + 1; omega) _)⟩
          · have n11 : (op == 11) = false := by simpa using h11
            clear h11
            by_cases h12 : op = 12
            · subst h12
              have t11 : ((12 : Int) == 11) = false := rfl
              have t12 : ((12 : Int) == 12) = true := rfl
              have t21 : ((12 : Int) == 21) = false := rfl
              have t22 : ((12 : Int) == 22) = false := rfl
              rw [t11, t12, t21, t22]
              clear t11 t12 t21 t22 n11
              have hite : (if ((false && false) : Bool) = true then ri else if ((false && true && false) : Bool) = true then some (Pv xb (wrap64 (xn + yn))) else if ((false && false && true) : Bool) = true then some (Pv yb (wrap64 (xn + yn))) else if ((true && true && false) : Bool) = true then some (Pv xb (wrap64 (xn - yn))) else if ((false || false) : Bool) = true then ra else none) = none := by rfl
              rw [hite]
              clear hite
              show Calls Tryd.prog 12 _ w (fun e w' => e = .returned (.tuple #[.agg #[.int .i64 (0), .int .i64 (0), .int .i64 (0)], .bool false]) ∧ Below w.heap.size w w')
              have T0 := Lib.hid (A3.start w xk xn xb yk yn yb)
              go_enter Tryd.func12, Tryd.ntmps12
              go_wp2_with fail
              refine (isInt_any xk xn xb _).mono ?_
              rintro e w1 ⟨rfl, hb⟩
              have T1 := Lib.hid (T0.out.step hb)
              clear hb
              obtain ⟨q0, q1, q2⟩ := T1.out.boxX.cells
              obtain ⟨r0, r1, r2⟩ := T1.out.boxY.cells
              obtain ⟨s0, s1, s2⟩ := T1.out.boxR.cells
              obtain ⟨z0, z1, z2⟩ := T1.out.boxR.frozen
              go_wp2_with fail
              refine (isPtr_any xk xn xb _).mono ?_
              rintro e w2 ⟨rfl, hb⟩
              have T2 := Lib.hid (T1.out.step hb)
              clear hb q0 q1 q2 r0 r1 r2 s0 s1 s2 z0 z1 z2
              obtain ⟨q0, q1, q2⟩ := T2.out.boxX.cells
              obtain ⟨r0, r1, r2⟩ := T2.out.boxY.cells
              obtain ⟨s0, s1, s2⟩ := T2.out.boxR.cells
              obtain ⟨z0, z1, z2⟩ := T2.out.boxR.frozen
              go_wp2_with fail
              refine (isInt_any yk yn yb _).mono ?_
              rintro e w3 ⟨rfl, hb⟩
              have T3 := Lib.hid (T2.out.step hb)
              clear hb q0 q1 q2 r0 r1 r2 s0 s1 s2 z0 z1 z2
              obtain ⟨q0, q1, q2⟩ := T3.out.boxX.cells
              obtain ⟨r0, r1, r2⟩ := T3.out.boxY.cells
              obtain ⟨s0, s1, s2⟩ := T3.out.boxR.cells
              obtain ⟨z0, z1, z2⟩ := T3.out.boxR.frozen
              go_wp2_with fail
              exact bodyPost_ret (v := .tuple #[.agg #[.int .i64 (0), .int .i64 (0), .int .i64 (0)], .bool false]) (by simp [results, Tryd.results12, go_sem, s0, s1, s2]) rfl ⟨rfl, (((T3.out.low.setCell (p := ⟨w.heap.size + 1 + 1, 0, none⟩) (by show _ ≤ w.heap.size + 1 + 1; omega) _).setCell (p := ⟨w.heap.size + 1 + 1, 1, none⟩) (by show _ ≤ w.heap.size + 1 + 1; omega) _).setCell (p := ⟨w.heap.size + 1 + 1, 2, none⟩) (by show _ ≤ w.heap.size + 1 + 1; omega) _)⟩
            · have n12 : (op == 12) = false := by simpa using h12
              clear h12
              by_cases h21 : op = 21
              · subst h21
                have t11 : ((21 : Int) == 11) = false := rfl
                have t12 : ((21 : Int) == 12) = false := rfl
                have t21 : ((21 : Int) == 21) = true := rfl
                have t22 : ((21 : Int) == 22) = false := rfl
                rw [t11, t12, t21, t22]
                clear t11 t12 t21 t22 n11 n12
                have hite : (if ((false && false) : Bool) = true then ri else if ((false && true && false) : Bool) = true then some (Pv xb (wrap64 (xn + yn))) else if ((false && false && true) : Bool) = true then some (Pv yb (wrap64 (xn + yn))) else if ((false && true && false) : Bool) = true then some (Pv xb (wrap64 (xn - yn))) else if ((true || false) : Bool) = true then ra else none) = ra := by rfl
                rw [hite]
                clear hite
                show Calls Tryd.prog 12 _ w (fun e w' => e = .returned (.tuple #[.agg #[.int .i64 (vk ra), .int .i64 (vn ra), .int .i64 (vb ra)], .bool ra.isSome]) ∧ Below w.heap.size w w')
                have T0 := Lib.hid (A3.start w xk xn xb yk yn yb)
                go_enter Tryd.func12, Tryd.ntmps12
                go_wp2_with fail
                refine (isInt_any xk xn xb _).mono ?_
                rintro e w1 ⟨rfl, hb⟩
                have T1 := Lib.hid (T0.out.step hb)
                clear hb
                obtain ⟨q0, q1, q2⟩ := T1.out.boxX.cells
                obtain ⟨r0, r1, r2⟩ := T1.out.boxY.cells
                obtain ⟨s0, s1, s2⟩ := T1.out.boxR.cells
                obtain ⟨z0, z1, z2⟩ := T1.out.boxR.frozen
                go_wp2_with fail
                refine (HA.out _).mono ?_
                rintro e w2 ⟨rfl, hb⟩
                have T2 := Lib.hid (T1.out.step hb)
                clear hb q0 q1 q2 r0 r1 r2 s0 s1 s2 z0 z1 z2
                obtain ⟨q0, q1, q2⟩ := T2.out.boxX.cells
                obtain ⟨r0, r1, r2⟩ := T2.out.boxY.cells
                obtain ⟨s0, s1, s2⟩ := T2.out.boxR.cells
                obtain ⟨z0, z1, z2⟩ := T2.out.boxR.frozen
                go_wp2_with fail
                exact bodyPost_ret (v := .tuple #[.agg #[.int .i64 (vk ra), .int .i64 (vn ra), .int .i64 (vb ra)], .bool ra.isSome]) (by simp [results, Tryd.results12, go_sem, s0, s1, s2]) rfl ⟨rfl, (((T2.out.low.setCell (p := ⟨w.heap.size + 1 + 1, 0, none⟩) (by show _ ≤ w.heap.size + 1 + 1; omega) _).setCell (p := ⟨w.heap.size + 1 + 1, 1, none⟩) (by show _ ≤ w.heap.size + 1 + 1; omega) _).setCell (p := ⟨w.heap.size + 1 + 1, 2, none⟩) (by show _ ≤ w.heap.size + 1 + 1; omega) _)⟩
              · have n21 : (op == 21) = false := by simpa using h21
                clear h21
                by_cases h22 : op = 22
                · subst h22
                  have t11 : ((22 : Int) == 11) = false := rfl
                  have t12 : ((22 : Int) == 12) = false := rfl
                  have t21 : ((22 : Int) == 21) = false := rfl
                  have t22 : ((22 : Int) == 22) = true := rfl
                  rw [t11, t12, t21, t22]
                  clear t11 t12 t21 t22 n11 n12 n21
                  have hite : (if ((false && false) : Bool) = true then ri else if ((false && true && false) : Bool) = true then some (Pv xb (wrap64 (xn + yn))) else if ((false && false && true) : Bool) = true then some (Pv yb (wrap64 (xn + yn))) else if ((false && true && false) : Bool) = true then some (Pv xb (wrap64 (xn - yn))) else if ((false || true) : Bool) = true then ra else none) = ra := by rfl
                  rw [hite]
                  clear hite
                  show Calls Tryd.prog 12 _ w (fun e w' => e = .returned (.tuple #[.agg #[.int .i64 (vk ra), .int .i64 (vn ra), .int .i64 (vb ra)], .bool ra.isSome]) ∧ Below w.heap.size w w')
                  have T0 := Lib.hid (A3.start w xk xn xb yk yn yb)
                  go_enter Tryd.func12, Tryd.ntmps12
                  go_wp2_with fail
                  refine (isInt_any xk xn xb _).mono ?_
                  rintro e w1 ⟨rfl, hb⟩
                  have T1 := Lib.hid (T0.out.step hb)
                  clear hb
                  obtain ⟨q0, q1, q2⟩ := T1.out.boxX.cells
                  obtain ⟨r0, r1, r2⟩ := T1.out.boxY.cells
                  obtain ⟨s0, s1, s2⟩ := T1.out.boxR.cells
                  obtain ⟨z0, z1, z2⟩ := T1.out.boxR.frozen
                  go_wp2_with fail
                  refine (HA.out _).mono ?_
                  rintro e w2 ⟨rfl, hb⟩
                  have T2 := Lib.hid (T1.out.step hb)
                  clear hb q0 q1 q2 r0 r1 r2 s0 s1 s2 z0 z1 z2
                  obtain ⟨q0, q1, q2⟩ := T2.out.boxX.cells
                  obtain ⟨r0, r1, r2⟩ := T2.out.boxY.cells
                  obtain ⟨s0, s1, s2⟩ := T2.out.boxR.cells
                  obtain ⟨z0, z1, z2⟩ := T2.out.boxR.frozen
                  go_wp2_with fail
                  exact bodyPost_ret (v := .tuple #[.agg #[.int .i64 (vk ra), .int .i64 (vn ra), .int .i64 (vb ra)], .bool ra.isSome]) (by simp [results, Tryd.results12, go_sem, s0, s1, s2]) rfl ⟨rfl, (((T2.out.low.setCell (p := ⟨w.heap.size + 1 + 1, 0, none⟩) (by show _ ≤ w.heap.size + 1 + 1; omega) _).setCell (p := ⟨w.heap.size + 1 + 1, 1, none⟩) (by show _ ≤ w.heap.size + 1 + 1; omega) _).setCell (p := ⟨w.heap.size + 1 + 1, 2, none⟩) (by show _ ≤ w.heap.size + 1 + 1; omega) _)⟩
                · have n22 : (op == 22) = false := by simpa using h22
                  clear h22
                  rw [n11, n12, n21, n22]
                  have hite : (if ((false && false) : Bool) = true then ri else if ((false && true && false) : Bool) = true then some (Pv xb (wrap64 (xn + yn))) else if ((false && false && true) : Bool) = true then some (Pv yb (wrap64 (xn + yn))) else if ((false && true && false) : Bool) = true then some (Pv xb (wrap64 (xn - yn))) else if ((false || false) : Bool) = true then ra else none) = none := by rfl
                  rw [hite]
                  clear hite
                  show Calls Tryd.prog 12 _ w (fun e w' => e = .returned (.tuple #[.agg #[.int .i64 (0), .int .i64 (0), .int .i64 (0)], .bool false]) ∧ Below w.heap.size w w')
                  have T0 := Lib.hid (A3.start w xk xn xb yk yn yb)
                  go_enter Tryd.func12, Tryd.ntmps12
                  go_wp2_with fail
                  refine (isInt_any xk xn xb _).mono ?_
                  rintro e w1 ⟨rfl, hb⟩
                  have T1 := Lib.hid (T0.out.step hb)
                  clear hb
                  obtain ⟨q0, q1, q2⟩ := T1.out.boxX.cells
                  obtain ⟨r0, r1, r2⟩ := T1.out.boxY.cells
                  obtain ⟨s0, s1, s2⟩ := T1.out.boxR.cells
                  obtain ⟨z0, z1, z2⟩ := T1.out.boxR.frozen
                  go_wp2_with fail
                  exact bodyPost_ret (v := .tuple #[.agg #[.int .i64 (0), .int .i64 (0), .int .i64 (0)], .bool false]) (by simp [results, Tryd.results12, go_sem, s0, s1, s2]) rfl ⟨rfl, (((T1.out.low.setCell (p := ⟨w.heap.size + 1 + 1, 0, none⟩) (by show _ ≤ w.heap.size + 1 + 1; omega) _).setCell (p := ⟨w.heap.size + 1 + 1, 1, none⟩) (by show _ ≤ w.heap.size + 1 + 1; omega) _).setCell (p := ⟨w.heap.size + 1 + 1, 2, none⟩) (by show _ ≤ w.heap.size + 1 + 1; omega) _)⟩
      · have hpy := hexy hiy
        rw [hpy]
        clear hexy hby
        by_cases h11 : op = 11
        · subst h11
          have t11 : ((11 : Int) == 11) = true := rfl
          have t12 : ((11 : Int) == 12) = false := rfl
          have t21 : ((11 : Int) == 21) = false := rfl
          have t22 : ((11 : Int) == 22) = false := rfl
          rw [t11, t12, t21, t22]
          clear t11 t12 t21 t22
          have hite : (if ((false && true) : Bool) = true then ri else if ((true && true && true) : Bool) = true then some (Pv xb (wrap64 (xn + yn))) else if ((true && false && false) : Bool) = true then some (Pv yb (wrap64 (xn + yn))) else if ((false && true && true) : Bool) = true then some (Pv xb (wrap64 (xn - yn))) else if ((false || false) : Bool) = true then ra else none) = some (Pv xb (wrap64 (xn + yn))) := by rfl
          rw [hite]
          clear hite
          show Calls Tryd.prog 12 _ w (fun e w' => e = .returned (.tuple #[.agg #[.int .i64 (2), .int .i64 (wrap64 (xn + yn)), .int .i64 (xb)], .bool true]) ∧ Below w.heap.size w w')
          rw [show (.agg #[.int .i64 (2), .int .i64 (wrap64 (xn + yn)), .int .i64 (xb)] : Value) = .agg #[.int .i64 (atK xb), .int .i64 (atN xb (wrap64 (xn + yn))), .int .i64 (atB xb)] from by rw [show atK xb = 2 from if_neg (by omega), show atN xb (wrap64 (xn + yn)) = wrap64 (xn + yn) from if_neg (by omega), show atB xb = xb from if_neg (by omega)]]
          have T0 := Lib.hid (A3.start w xk xn xb yk yn yb)
          go_enter Tryd.func12, Tryd.ntmps12
          go_wp2_with fail
          refine (isInt_any xk xn xb _).mono ?_
          rintro e w1 ⟨rfl, hb⟩
          have T1 := Lib.hid (T0.out.step hb)
          clear hb
          obtain ⟨q0, q1, q2⟩ := T1.out.boxX.cells
          obtain ⟨r0, r1, r2⟩ := T1.out.boxY.cells
          obtain ⟨s0, s1, s2⟩ := T1.out.boxR.cells
          obtain ⟨z0, z1, z2⟩ := T1.out.boxR.frozen
          go_wp2_with fail
          refine (isPtr_any xk xn xb _).mono ?_
          rintro e w2 ⟨rfl, hb⟩
          have T2 := Lib.hid (T1.out.step hb)
          clear hb q0 q1 q2 r0 r1 r2 s0 s1 s2 z0 z1 z2
          obtain ⟨q0, q1, q2⟩ := T2.out.boxX.cells
          obtain ⟨r0, r1, r2⟩ := T2.out.boxY.cells
          obtain ⟨s0, s1, s2⟩ := T2.out.boxR.cells
          obtain ⟨z0, z1, z2⟩ := T2.out.boxR.frozen
          go_wp2_with fail
          refine (isInt_any yk yn yb _).mono ?_
          rintro e w3 ⟨rfl, hb⟩
          have T3 := Lib.hid (T2.out.step hb)
          clear hb q0 q1 q2 r0 r1 r2 s0 s1 s2 z0 z1 z2
          obtain ⟨q0, q1, q2⟩ := T3.out.boxX.cells
          obtain ⟨r0, r1, r2⟩ := T3.out.boxY.cells
          obtain ⟨s0, s1, s2⟩ := T3.out.boxR.cells
          obtain ⟨z0, z1, z2⟩ := T3.out.boxR.frozen
          go_wp2_with fail
          refine (at_any xb (wrap64 (xn + yn)) _).mono ?_
          rintro e w4 ⟨rfl, hb⟩
          have T4 := Lib.hid (T3.out.step hb)
          clear hb q0 q1 q2 r0 r1 r2 s0 s1 s2 z0 z1 z2
          obtain ⟨q0, q1, q2⟩ := T4.out.boxX.cells
          obtain ⟨r0, r1, r2⟩ := T4.out.boxY.cells
          obtain ⟨s0, s1, s2⟩ := T4.out.boxR.cells
          obtain ⟨z0, z1, z2⟩ := T4.out.boxR.frozen
          go_wp2_with fail
          exact bodyPost_ret (v := .tuple #[.agg #[.int .i64 (atK xb), .int .i64 (atN xb (wrap64 (xn + yn))), .int .i64 (atB xb)], .bool true]) (by simp [results, Tryd.results12, go_sem, s0, s1, s2]) rfl ⟨rfl, (((T4.out.low.setCell (p := ⟨w.heap.size + 1 + 1, 0, none⟩) (by show _ ≤ w.heap.size + 1 + 1; omega) _).setCell (p := ⟨w.heap.size + 1 + 1, 1, none⟩) (by show _ ≤ w.heap.size + 1 + 1; omega) _).setCell (p := ⟨w.heap.size + 1 + 1, 2, none⟩) (by show _ ≤ w.heap.size + 1 + 1; omega) _)⟩
        · have n11 : (op == 11) = false := by simpa using h11
          clear h11
          by_cases h12 : op = 12
          · subst h12
            have t11 : ((12 : Int) == 11) = false := rfl
            have t12 : ((12 : Int) == 12) = true := rfl
            have t21 : ((12 : Int) == 21) = false := rfl
            have t22 : ((12 : Int) == 22) = false := rfl
            rw [t11, t12, t21, t22]
            clear t11 t12 t21 t22 n11
            have hite : (if ((false && true) : Bool) = true then ri else if ((false && true && true) : Bool) = true then some (Pv xb (wrap64 (xn + yn))) else if ((false && false && false) : Bool) = true then some (Pv yb (wrap64 (xn + yn))) else if ((true && true && true) : Bool) = true then some (Pv xb (wrap64 (xn - yn))) else if ((false || false) : Bool) = true then ra else none) = some (Pv xb (wrap64 (xn - yn))) := by rfl
            rw [hite]
            clear hite
            show Calls Tryd.prog 12 _ w (fun e w' => e = .returned (.tuple #[.agg #[.int .i64 (2), .int .i64 (wrap64 (xn - yn)), .int .i64 (xb)], .bool true]) ∧ Below w.heap.size w w')
            rw [show (.agg #[.int .i64 (2), .int .i64 (wrap64 (xn - yn)), .int .i64 (xb)] : Value) = .agg #[.int .i64 (atK xb), .int .i64 (atN xb (wrap64 (xn - yn))), .int .i64 (atB xb)] from by rw [show atK xb = 2 from if_neg (by omega), show atN xb (wrap64 (xn - yn)) = wrap64 (xn - yn) from if_neg (by omega), show atB xb = xb from if_neg (by omega)]]
            have T0 := Lib.hid (A3.start w xk xn xb yk yn yb)
            go_enter Tryd.func12, Tryd.ntmps12
            go_wp2_with fail
            refine (isInt_any xk xn xb _).mono ?_
            rintro e w1 ⟨rfl, hb⟩
            have T1 := Lib.hid (T0.out.step hb)
            clear hb
            obtain ⟨q0, q1, q2⟩ := T1.out.boxX.cells
            obtain ⟨r0, r1, r2⟩ := T1.out.boxY.cells
            obtain ⟨s0, s1, s2⟩ := T1.out.boxR.cells
            obtain ⟨z0, z1, z2⟩ := T1.out.boxR.frozen
            go_wp2_with fail
            refine (isPtr_any xk xn xb _).mono ?_
            rintro e w2 ⟨rfl, hb⟩
            have T2 := Lib.hid (T1.out.step hb)
            clear hb q0 q1 q2 r0 r1 r2 s0 s1 s2 z0 z1 z2
            obtain ⟨q0, q1, q2⟩ := T2.out.boxX.cells
            obtain ⟨r0, r1, r2⟩ := T2.out.boxY.cells
            obtain ⟨s0, s1, s2⟩ := T2.out.boxR.cells
            obtain ⟨z0, z1, z2⟩ := T2.out.boxR.frozen
            go_wp2_with fail
            refine (isInt_any yk yn yb _).mono ?_
            rintro e w3 ⟨rfl, hb⟩
            have T3 := Lib.hid (T2.out.step hb)
            clear hb q0 q1 q2 r0 r1 r2 s0 s1 s2 z0 z1 z2
            obtain ⟨q0, q1, q2⟩ := T3.out.boxX.cells
            obtain ⟨r0, r1, r2⟩ := T3.out.boxY.cells
            obtain ⟨s0, s1, s2⟩ := T3.out.boxR.cells
            obtain ⟨z0, z1, z2⟩ := T3.out.boxR.frozen
            go_wp2_with fail
            refine (at_any xb (wrap64 (xn - yn)) _).mono ?_
            rintro e w4 ⟨rfl, hb⟩
            have T4 := Lib.hid (T3.out.step hb)
            clear hb q0 q1 q2 r0 r1 r2 s0 s1 s2 z0 z1 z2
            obtain ⟨q0, q1, q2⟩ := T4.out.boxX.cells
            obtain ⟨r0, r1, r2⟩ := T4.out.boxY.cells
            obtain ⟨s0, s1, s2⟩ := T4.out.boxR.cells
            obtain ⟨z0, z1, z2⟩ := T4.out.boxR.frozen
            go_wp2_with fail
            exact bodyPost_ret (v := .tuple #[.agg #[.int .i64 (atK xb), .int .i64 (atN xb (wrap64 (xn - yn))), .int .i64 (atB xb)], .bool true]) (by simp [results, Tryd.results12, go_sem, s0, s1, s2]) rfl ⟨rfl, (((T4.out.low.setCell (p := ⟨w.heap.size + 1 + 1, 0, none⟩) (by show _ ≤ w.heap.size + 1 + 1; omega) _).setCell (p := ⟨w.heap.size + 1 + 1, 1, none⟩) (by show _ ≤ w.heap.size + 1 + 1; omega) _).setCell (p := ⟨w.heap.size + 1 + 1, 2, none⟩) (by show _ ≤ w.heap.size + 1 + 1; omega) _)⟩
          · have n12 : (op == 12) = false := by simpa using h12
            clear h12
            by_cases h21 : op = 21
            · subst h21
              have t11 : ((21 : Int) == 11) = false := rfl
              have t12 : ((21 : Int) == 12) = false := rfl
              have t21 : ((21 : Int) == 21) = true := rfl
              have t22 : ((21 : Int) == 22) = false := rfl
              rw [t11, t12, t21, t22]
              clear t11 t12 t21 t22 n11 n12
              have hite : (if ((false && true) : Bool) = true then ri else if ((false && true && true) : Bool) = true then some (Pv xb (wrap64 (xn + yn))) else if ((false && false && false) : Bool) = true then some (Pv yb (wrap64 (xn + yn))) else if ((false && true && true) : Bool) = true then some (Pv xb (wrap64 (xn - yn))) else if ((true || false) : Bool) = true then ra else none) = ra := by rfl
              rw [hite]
              clear hite
              show Calls Tryd.prog 12 _ w (fun e w' => e = .returned (.tuple #[.agg #[.int .i64 (vk ra), .int .i64 (vn ra), .int .i64 (vb ra)], .bool ra.isSome]) ∧ Below w.heap.size w w')
              have T0 := Lib.hid (A3.start w xk xn xb yk yn yb)
              go_enter Tryd.func12, Tryd.ntmps12
              go_wp2_with fail
              refine (isInt_any xk xn xb _).mono ?_
              rintro e w1 ⟨rfl, hb⟩
              have T1 := Lib.hid (T0.out.step hb)
              clear hb
              obtain ⟨q0, q1, q2⟩ := T1.out.boxX.cells
              obtain ⟨r0, r1, r2⟩ := T1.out.boxY.cells
              obtain ⟨s0, s1, s2⟩ := T1.out.boxR.cells
              obtain ⟨z0, z1, z2⟩ := T1.out.boxR.frozen
              go_wp2_with fail
              refine (HA.out _).mono ?_
              rintro e w2 ⟨rfl, hb⟩
              have T2 := Lib.hid (T1.out.step hb)
              clear hb q0 q1 q2 r0 r1 r2 s0 s1 s2 z0 z1 z2
              obtain ⟨q0, q1, q2⟩ := T2.out.boxX.cells
              obtain ⟨r0, r1, r2⟩ := T2.out.boxY.cells
              obtain ⟨s0, s1, s2⟩ := T2.out.boxR.cells
              obtain ⟨z0, z1, z2⟩ := T2.out.boxR.frozen
              go_wp2_with fail
              exact bodyPost_ret (v := .tuple #[.agg #[.int .i64 (vk ra), .int .i64 (vn ra), .int .i64 (vb ra)], .bool ra.isSome]) (by simp [results, Tryd.results12, go_sem, s0, s1, s2]) rfl ⟨rfl, (((T2.out.low.setCell (p := ⟨w.heap.size + 1 + 1, 0, none⟩) (by show _ ≤ w.heap.size + 1 + 1; omega) _).setCell (p := ⟨w.heap.size + 1 + 1, 1, none⟩) (by show _ ≤ w.heap.size + 1 + 1; omega) _).setCell (p := ⟨w.heap.size + 1 + 1, 2, none⟩) (by show _ ≤ w.heap.size + 1 + 1; omega) _)⟩
            · have n21 : (op == 21) = false := by simpa using h21
              clear h21
              by_cases h22 : op = 22
              · subst h22
                have t11 : ((22 : Int) == 11) = false := rfl
                have t12 : ((22 : Int) == 12) = false := rfl
                have t21 : ((22 : Int) == 21) = false := rfl
                have t22 : ((22 : Int) == 22) = true := rfl
                rw [t11, t12, t21, t22]
                clear t11 t12 t21 t22 n11 n12 n21
                have hite : (if ((false && true) : Bool) = true then ri else if ((false && true && true) : Bool) = true then some (Pv xb (wrap64 (xn + yn))) else if ((false && false && false) : Bool) = true then some (Pv yb (wrap64 (xn + yn))) else if ((false && true && true) : Bool) = true then some (Pv xb (wrap64 (xn - yn))) else if ((false || true) : Bool) = true then ra else none) = ra := by rfl
                rw [hite]
                clear hite
                show Calls Tryd.prog 12 _ w (fun e w' => e = .returned (.tuple #[.agg #[.int .i64 (vk ra), .int .i64 (vn ra), .int .i64 (vb ra)], .bool ra.isSome]) ∧ Below w.heap.size w w')
                have T0 := Lib.hid (A3.start w xk xn xb yk yn yb)
                go_enter Tryd.func12, Tryd.ntmps12
                go_wp2_with fail
                refine (isInt_any xk xn xb _).mono ?_
                rintro e w1 ⟨rfl, hb⟩
                have T1 := Lib.hid (T0.out.step hb)
                clear hb
                obtain ⟨q0, q1, q2⟩ := T1.out.boxX.cells
                obtain ⟨r0, r1, r2⟩ := T1.out.boxY.cells
                obtain ⟨s0, s1, s2⟩ := T1.out.boxR.cells
                obtain ⟨z0, z1, z2⟩ := T1.out.boxR.frozen
                go_wp2_with fail
                refine (HA.out _).mono ?_
                rintro e w2 ⟨rfl, hb⟩
                have T2 := Lib.hid (T1.out.step hb)
                clear hb q0 q1 q2 r0 r1 r2 s0 s1 s2 z0 z1 z2
                obtain ⟨q0, q1, q2⟩ := T2.out.boxX.cells
                obtain ⟨r0, r1, r2⟩ := T2.out.boxY.cells
                obtain ⟨s0, s1, s2⟩ := T2.out.boxR.cells
                obtain ⟨z0, z1, z2⟩ := T2.out.boxR.frozen
                go_wp2_with fail
                exact bodyPost_ret (v := .tuple #[.agg #[.int .i64 (vk ra), .int .i64 (vn ra), .int .i64 (vb ra)], .bool ra.isSome]) (by simp [results, Tryd.results12, go_sem, s0, s1, s2]) rfl ⟨rfl, (((T2.out.low.setCell (p := ⟨w.heap.size + 1 + 1, 0, none⟩) (by show _ ≤ w.heap.size + 1 + 1; omega) _).setCell (p := ⟨w.heap.size + 1 + 1, 1, none⟩) (by show _ ≤ w.heap.size + 1 + 1; omega) _).setCell (p := ⟨w.heap.size + 1 + 1, 2, none⟩) (by show _ ≤ w.heap.size + 1 + 1; omega) _)⟩
              · have n22 : (op == 22) = false := by simpa using h22
                clear h22
                rw [n11, n12, n21, n22]
                have hite : (if ((false && true) : Bool) = true then ri else if ((false && true && true) : Bool) = true then some (Pv xb (wrap64 (xn + yn))) else if ((false && false && false) : Bool) = true then some (Pv yb (wrap64 (xn + yn))) else if ((false && true && true) : Bool) = true then some (Pv xb (wrap64 (xn - yn))) else if ((false || false) : Bool) = true then ra else none) = none := by rfl
                rw [hite]
                clear hite
                show Calls Tryd.prog 12 _ w (fun e w' => e = .returned (.tuple #[.agg #[.int .i64 (0), .int .i64 (0), .int .i64 (0)], .bool false]) ∧ Below w.heap.size w w')
                have T0 := Lib.hid (A3.start w xk xn xb yk yn yb)
                go_enter Tryd.func12, Tryd.ntmps12
                go_wp2_with fail
                refine (isInt_any xk xn xb _).mono ?_
                rintro e w1 ⟨rfl, hb⟩
                have T1 := Lib.hid (T0.out.step hb)
                clear hb
                obtain ⟨q0, q1, q2⟩ := T1.out.boxX.cells
                obtain ⟨r0, r1, r2⟩ := T1.out.boxY.cells
                obtain ⟨s0, s1, s2⟩ := T1.out.boxR.cells
                obtain ⟨z0, z1, z2⟩ := T1.out.boxR.frozen
                go_wp2_with fail
                exact bodyPost_ret (v := .tuple #[.agg #[.int .i64 (0), .int .i64 (0), .int .i64 (0)], .bool false]) (by simp [results, Tryd.results12, go_sem, s0, s1, s2]) rfl ⟨rfl, (((T1.out.low.setCell (p := ⟨w.heap.size + 1 + 1, 0, none⟩) (by show _ ≤ w.heap.size + 1 + 1; omega) _).setCell (p := ⟨w.heap.size + 1 + 1, 1, none⟩) (by show _ ≤ w.heap.size + 1 + 1; omega) _).setCell (p := ⟨w.heap.size + 1 + 1, 2, none⟩) (by show _ ≤ w.heap.size + 1 + 1; omega) _)⟩
  · have hpx := hexx hix
    rw [hpx]
    clear hexx hbx
    cases hiy : intB ⟨yk, yn, yb⟩
    · cases hpy : ptrB ⟨yk, yn, yb⟩
      · clear hexy hby
        by_cases h11 : op = 11
        · subst h11
          have t11 : ((11 : Int) == 11) = true := rfl
          have t12 : ((11 : Int) == 12) = false := rfl
          have t21 : ((11 : Int) == 21) = false := rfl
          have t22 : ((11 : Int) == 22) = false := rfl
          rw [t11, t12, t21, t22]
          clear t11 t12 t21 t22
          have hite : (if ((true && false) : Bool) = true then ri else if ((true && false && false) : Bool) = true then some (Pv xb (wrap64 (xn + yn))) else if ((true && true && false) : Bool) = true then some (Pv yb (wrap64 (xn + yn))) else if ((false && false && false) : Bool) = true then some (Pv xb (wrap64 (xn - yn))) else if ((false || false) : Bool) = true then ra else none) = none := by rfl
          rw [hite]
          clear hite
          show Calls Tryd.prog 12 _ w (fun e w' => e = .returned (.tuple #[.agg #[.int .i64 (0), .int .i64 (0), .int .i64 (0)], .bool false]) ∧ Below w.heap.size w w')
          have T0 := Lib.hid (A3.start w xk xn xb yk yn yb)
          go_enter Tryd.func12, Tryd.ntmps12
          go_wp2_with fail
          refine (isInt_any xk xn xb _).mono ?_
          rintro e w1 ⟨rfl, hb⟩
          have T1 := Lib.hid (T0.out.step hb)
          clear hb
          obtain ⟨q0, q1, q2⟩ := T1.out.boxX.cells
          obtain ⟨r0, r1, r2⟩ := T1.out.boxY.cells
          obtain ⟨s0, s1, s2⟩ := T1.out.boxR.cells
          obtain ⟨z0, z1, z2⟩ := T1.out.boxR.frozen
          go_wp2_with fail
          refine (isInt_any yk yn yb _).mono ?_
          rintro e w2 ⟨rfl, hb⟩
          have T2 := Lib.hid (T1.out.step hb)
          clear hb q0 q1 q2 r0 r1 r2 s0 s1 s2 z0 z1 z2
          obtain ⟨q0, q1, q2⟩ := T2.out.boxX.cells
          obtain ⟨r0, r1, r2⟩ := T2.out.boxY.cells
          obtain ⟨s0, s1, s2⟩ := T2.out.boxR.cells
          obtain ⟨z0, z1, z2⟩ := T2.out.boxR.frozen
          go_wp2_with fail
          refine (isPtr_any xk xn xb _).mono ?_
          rintro e w3 ⟨rfl, hb⟩
          have T3 := Lib.hid (T2.out.step hb)
          clear hb q0 q1 q2 r0 r1 r2 s0 s1 s2 z0 z1 z2
          obtain ⟨q0, q1, q2⟩ := T3.out.boxX.cells
          obtain ⟨r0, r1, r2⟩ := T3.out.boxY.cells
          obtain ⟨s0, s1, s2⟩ := T3.out.boxR.cells
          obtain ⟨z0, z1, z2⟩ := T3.out.boxR.frozen
          go_wp2_with fail
          refine (isInt_any xk xn xb _).mono ?_
          rintro e w4 ⟨rfl, hb⟩
          have T4 := Lib.hid (T3.out.step hb)
          clear hb q0 q1 q2 r0 r1 r2 s0 s1 s2 z0 z1 z2
          obtain ⟨q0, q1, q2⟩ := T4.out.boxX.cells
          obtain ⟨r0, r1, r2⟩ := T4.out.boxY.cells
          obtain ⟨s0, s1, s2⟩ := T4.out.boxR.cells
          obtain ⟨z0, z1, z2⟩ := T4.out.boxR.frozen
          go_wp2_with fail
          refine (isPtr_any yk yn yb _).mono ?_
          rintro e w5 ⟨rfl, hb⟩
          have T5 := Lib.hid (T4.out.step hb)
          clear hb q0 q1 q2 r0 r1 r2 s0 s1 s2 z0 z1 z2
          obtain ⟨q0, q1, q2⟩ := T5.out.boxX.cells
          obtain ⟨r0, r1, r2⟩ := T5.out.boxY.cells
          obtain ⟨s0, s1, s2⟩ := T5.out.boxR.cells
          obtain ⟨z0, z1, z2⟩ := T5.out.boxR.frozen
          go_wp2_with fail
          exact bodyPost_ret (v := .tuple #[.agg #[.int .i64 (0), .int .i64 (0), .int .i64 (0)], .bool false]) (by simp [results, Tryd.results12, go_sem, s0, s1, s2]) rfl ⟨rfl, (((T5.out.low.setCell (p := ⟨w.heap.size + 1 + 1, 0, none⟩) (by show _ ≤ w.heap.size + 1 + 1; omega) _).setCell (p := ⟨w.heap.size + 1 + 1, 1, none⟩) (by show _ ≤ w.heap.size + 1 + 1; omega) _).setCell (p := ⟨w.heap.size + 1 + 1, 2, none⟩) (by show _ ≤ w.heap.size + 1 + 1; omega) _)⟩
        · have n11 : (op == 11) = false := by simpa using h11
          clear h11
          by_cases h12 : op = 12
          · subst h12
            have t11 : ((12 : Int) == 11) = false := rfl
            have t12 : ((12 : Int) == 12) = true := rfl
            have t21 : ((12 : Int) == 21) = false := rfl
            have t22 : ((12 : Int) == 22) = false := rfl
            rw [t11, t12, t21, t22]
            clear t11 t12 t21 t22 n11
            have hite : (if ((true && false) : Bool) = true then ri else if ((false && false && false) : Bool) = true then some (Pv xb (wrap64 (xn + yn))) else if ((false && true && false) : Bool) = true then some (Pv yb (wrap64 (xn + yn))) else if ((true && false && false) : Bool) = true then some (Pv xb (wrap64 (xn - yn))) else if ((false || false) : Bool) = true then ra else none) = none := by rfl
            rw [hite]
            clear hite
            show Calls Tryd.prog 12 _ w (fun e w' => e = .returned (.tuple #[.agg #[.int .i64 (0), .int .i64 (0), .int .i64 (0)], .bool false]) ∧ Below w.heap.size w w')
            have T0 := Lib.hid (A3.start w xk xn xb yk yn yb)
            go_enter Tryd.func12, Tryd.ntmps12
            go_wp2_with fail
            refine (isInt_any xk xn xb _).mono ?_
            rintro e w1 ⟨rfl, hb⟩
            have T1 := Lib.hid (T0.out.step hb)
            clear hb
            obtain ⟨q0, q1, q2⟩ := T1.out.boxX.cells
            obtain ⟨r0, r1, r2⟩ := T1.out.boxY.cells
            obtain ⟨s0, s1, s2⟩ := T1.out.boxR.cells
            obtain ⟨z0, z1, z2⟩ := T1.out.boxR.frozen
            go_wp2_with fail
            refine (isInt_any yk yn yb _).mono ?_
            rintro e w2 ⟨rfl, hb⟩
            have T2 := Lib.hid (T1.out.step hb)
            clear hb q0 q1 q2 r0 r1 r2 s0 s1 s2 z0 z1 z2
            obtain ⟨q0, q1, q2⟩ := T2.out.boxX.cells
            obtain ⟨r0, r1, r2⟩ := T2.out.boxY.cells
            obtain ⟨s0, s1, s2⟩ := T2.out.boxR.cells
            obtain ⟨z0, z1, z2⟩ := T2.out.boxR.frozen
            go_wp2_with fail
            refine (isPtr_any xk xn xb _).mono ?_
            rintro e w3 ⟨rfl, hb⟩
            have T3 := Lib.hid (T2.out.step hb)
            clear hb q0 q1 q2 r0 r1 r2 s0 s1 s2 z0 z1 z2
            obtain ⟨q0, q1, q2⟩ := T3.out.boxX.cells
            obtain ⟨r0, r1, r2⟩ := T3.out.boxY.cells
            obtain ⟨s0, s1, s2⟩ := T3.out.boxR.cells
            obtain ⟨z0, z1, z2⟩ := T3.out.boxR.frozen
            go_wp2_with fail
            exact bodyPost_ret (v := .tuple #[.agg #[.int .i64 (0), .int .i64 (0), .int .i64 (0)], .bool false]) (by simp [results, Tryd.results12, go_sem, s0, s1, s2]) rfl ⟨rfl, (((T3.out.low.setCell (p := ⟨w.heap.size + 1 + 1, 0, none⟩) (by show _ ≤ w.heap.size + 1 + 1; omega) _).setCell (p := ⟨w.heap.size + 1 + 1, 1, none⟩) (by show _ ≤ w.heap.size + 1 + 1; omega) _).setCell (p := ⟨w.heap.size + 1 + 1, 2, none⟩) (by show _ ≤ w.heap.size + 1 + 1; omega) _)⟩
          · have n12 : (op == 12) = false := by simpa using h12
            clear h12
            by_cases h21 : op = 21
            · subst h21
              have t11 : ((21 : Int) == 11) = false := rfl
              have t12 : ((21 : Int) == 12) = false := rfl
              have t21 : ((21 : Int) == 21) = true := rfl
              have t22 : ((21 : Int) == 22) = false := rfl
              rw [t11, t12, t21, t22]
              clear t11 t12 t21 t22 n11 n12
              have hite : (if ((true && false) : Bool) = true then ri else if ((false && false && false) : Bool) = true then some (Pv xb (wrap64 (xn + yn))) else if ((false && true && false) : Bool) = true then some (Pv yb (wrap64 (xn + yn))) else if ((false && false && false) : Bool) = true then some (Pv xb (wrap64 (xn - yn))) else if ((true || false) : Bool) = true then ra else none) = ra := by rfl
              rw [hite]
              clear hite
              show Calls Tryd.prog 12 _ w (fun e w' => e = .returned (.tuple #[.agg #[.int .i64 (vk ra), .int .i64 (vn ra), .int .i64 (vb ra)], .bool ra.isSome]) ∧ Below w.heap.size w w')
              have T0 := Lib.hid (A3.start w xk xn xb yk yn yb)
              go_enter Tryd.func12, Tryd.ntmps12
              go_wp2_with fail
              refine (isInt_any xk xn xb _).mono ?_
              rintro e w1 ⟨rfl, hb⟩
              have T1 := Lib.hid (T0.out.step hb)
              clear hb
              obtain ⟨q0, q1, q2⟩ := T1.out.boxX.cells
              obtain ⟨r0, r1, r2⟩ := T1.out.boxY.cells
              obtain ⟨s0, s1, s2⟩ := T1.out.boxR.cells
              obtain ⟨z0, z1, z2⟩ := T1.out.boxR.frozen
              go_wp2_with fail
              refine (isInt_any yk yn yb _).mono ?_
              rintro e w2 ⟨rfl, hb⟩
              have T2 := Lib.hid (T1.out.step hb)
              clear hb q0 q1 q2 r0 r1 r2 s0 s1 s2 z0 z1 z2
              obtain ⟨q0, q1, q2⟩ := T2.out.boxX.cells
              obtain ⟨r0, r1, r2⟩ := T2.out.boxY.cells
              obtain ⟨s0, s1, s2⟩ := T2.out.boxR.cells
              obtain ⟨z0, z1, z2⟩ := T2.out.boxR.frozen
              go_wp2_with fail
              refine (HA.out _).mono ?_
              rintro e w3 ⟨rfl, hb⟩
              have T3 := Lib.hid (T2.out.step hb)
              clear hb q0 q1 q2 r0 r1 r2 s0 s1 s2 z0 z1 z2
              obtain ⟨q0, q1, q2⟩ := T3.out.boxX.cells
              obtain ⟨r0, r1, r2⟩ := T3.out.boxY.cells
              obtain ⟨s0, s1, s2⟩ := T3.out.boxR.cells
              obtain ⟨z0, z1, z2⟩ := T3.out.boxR.frozen
              go_wp2_with fail
              exact bodyPost_ret (v := .tuple #[.agg #[.int .i64 (vk ra), .int .i64 (vn ra), .int .i64 (vb ra)], .bool ra.isSome]) (by simp [results, Tryd.results12, go_sem, s0, s1, s2]) rfl ⟨rfl, (((T3.out.low.setCell (p := ⟨w.heap.size + 1 + 1, 0, none⟩) (by show _ ≤ w.heap.size + 1 + 1; omega) _).setCell (p := ⟨w.heap.size + 1 + 1, 1, none⟩) (by show _ ≤ w.heap.size + 1 + 1; omega) _).setCell (p := ⟨w.heap.size + 1 + 1, 2, none⟩) (by show _ ≤ w.heap.size + 1 + 1; omega) _)⟩
            · have n21 : (op == 21) = false := by simpa using h21
              clear h21
              by_cases h22 : op = 22
              · subst h22
                have t11 : ((22 : Int) == 11) = false := rfl
                have t12 : ((22 : Int) == 12) = false := rfl
                have t21 : ((22 : Int) == 21) = false := rfl
                have t22 : ((22 : Int) == 22) = true := rfl
                rw [t11, t12, t21, t22]
                clear t11 t12 t21 t22 n11 n12 n21
                have hite : (if ((true && false) : Bool) = true then ri else if ((false && false && false) : Bool) = true then some (Pv xb (wrap64 (xn + yn))) else if ((false && true && false) : Bool) = true then some (Pv yb (wrap64 (xn + yn))) else if ((false && false && false) : Bool) = true then some (Pv xb (wrap64 (xn - yn))) else if ((false || true) : Bool) = true then ra else none) = ra := by rfl
                rw [hite]
                clear hite
                show Calls Tryd.prog 12 _ w (fun e w' => e = .returned (.tuple #[.agg #[.int .i64 (vk ra), .int .i64 (vn ra), .int .i64 (vb ra)], .bool ra.isSome]) ∧ Below w.heap.size w w')
                have T0 := Lib.hid (A3.start w xk xn xb yk yn yb)
                go_enter Tryd.func12, Tryd.ntmps12
                go_wp2_with fail
                refine (isInt_any xk xn xb _).mono ?_
                rintro e w1 ⟨rfl, hb⟩
                have T1 := Lib.hid (T0.out.step hb)
                clear hb
                obtain ⟨q0, q1, q2⟩ := T1.out.boxX.cells
                obtain ⟨r0, r1, r2⟩ := T1.out.boxY.cells
                obtain ⟨s0, s1, s2⟩ := T1.out.boxR.cells
                obtain ⟨z0, z1, z2⟩ := T1.out.boxR.frozen
                go_wp2_with fail
                refine (isInt_any yk yn yb _).mono ?_
                rintro e w2 ⟨rfl, hb⟩
                have T2 := Lib.hid (T1.out.step hb)
                clear hb q0 q1 q2 r0 r1 r2 s0 s1 s2 z0 z1 z2
                obtain ⟨q0, q1, q2⟩ := T2.out.boxX.cells
                obtain ⟨r0, r1, r2⟩ := T2.out.boxY.cells
                obtain ⟨s0, s1, s2⟩ := T2.out.boxR.cells
                obtain ⟨z0, z1, z2⟩ := T2.out.boxR.frozen
                go_wp2_with fail
                refine (HA.out _).mono ?_
                rintro e w3 ⟨rfl, hb⟩
                have T3 := Lib.hid (T2.out.step hb)
                clear hb q0 q1 q2 r0 r1 r2 s0 s1 s2 z0 z1 z2
                obtain ⟨q0, q1, q2⟩ := T3.out.boxX.cells
                obtain ⟨r0, r1, r2⟩ := T3.out.boxY.cells
                obtain ⟨s0, s1, s2⟩ := T3.out.boxR.cells
                obtain ⟨z0, z1, z2⟩ := T3.out.boxR.frozen
                go_wp2_with fail
                exact bodyPost_ret (v := .tuple #[.agg #[.int .i64 (vk ra), .int .i64 (vn ra), .int .i64 (vb ra)], .bool ra.isSome]) (by simp [results, Tryd.results12, go_sem, s0, s1, s2]) rfl ⟨rfl, (((T3.out.low.setCell (p := ⟨w.heap.size + 1 + 1, 0, none⟩) (by show _ ≤ w.heap.size + 1 + 1; omega) _).setCell (p := ⟨w.heap.size + 1 + 1, 1, none⟩) (by show _ ≤ w.heap.size + 1 + 1; omega) _).setCell (p := ⟨w.heap.size + 1 + 1, 2, none⟩) (by show _ ≤ w.heap.size + 1 + 1; omega) _)⟩
              · have n22 : (op == 22) = false := by simpa using h22
                clear h22
                rw [n11, n12, n21, n22]
                have hite : (if ((true && false) : Bool) = true then ri else if ((false && false && false) : Bool) = true then some (Pv xb (wrap64 (xn + yn))) else if ((false && true && false) : Bool) = true then some (Pv yb (wrap64 (xn + yn))) else if ((false && false && false) : Bool) = true then some (Pv xb (wrap64 (xn - yn))) else if ((false || false) : Bool) = true then ra else none) = none := by rfl
                rw [hite]
                clear hite
                show Calls Tryd.prog 12 _ w (fun e w' => e = .returned (.tuple #[.agg #[.int .i64 (0), .int .i64 (0), .int .i64 (0)], .bool false]) ∧ Below w.heap.size w w')
                have T0 := Lib.hid (A3.start w xk xn xb yk yn yb)
                go_enter Tryd.func12, Tryd.ntmps12
                go_wp2_with fail
                refine (isInt_any xk xn xb _).mono ?_
                rintro e w1 ⟨rfl, hb⟩
                have T1 := Lib.hid (T0.out.step hb)
                clear hb
                obtain ⟨q0, q1, q2⟩ := T1.out.boxX.cells
                obtain ⟨r0, r1, r2⟩ := T1.out.boxY.cells
                obtain ⟨s0, s1, s2⟩ := T1.out.boxR.cells
                obtain ⟨z0, z1, z2⟩ := T1.out.boxR.frozen
                go_wp2_with fail
                refine (isInt_any yk yn yb _).mono ?_
                rintro e w2 ⟨rfl, hb⟩
                have T2 := Lib.hid (T1.out.step hb)
                clear hb q0 q1 q2 r0 r1 r2 s0 s1 s2 z0 z1 z2
                obtain ⟨q0, q1, q2⟩ := T2.out.boxX.cells
                obtain ⟨r0, r1, r2⟩ := T2.out.boxY.cells
                obtain ⟨s0, s1, s2⟩ := T2.out.boxR.cells
                obtain ⟨z0, z1, z2⟩ := T2.out.boxR.frozen
                go_wp2_with fail
                exact bodyPost_ret (v := .tuple #[.agg #[.int .i64 (0), .int .i64 (0), .int .i64 (0)], .bool false]) (by simp [results, Tryd.results12, go_sem, s0, s1, s2]) rfl ⟨rfl, (((T2.out.low.setCell (p := ⟨w.heap.size + 1 + 1, 0, none⟩) (by show _ ≤ w.heap.size + 1 + 1; omega) _).setCell (p := ⟨w.heap.size + 1 + 1, 1, none⟩) (by show _ ≤ w.heap.size + 1 + 1; omega) _).setCell (p := ⟨w.heap.size + 1 + 1, 2, none⟩) (by show _ ≤ w.heap.size + 1 + 1; omega) _)⟩
      · have hby1 := hby hpy
        clear hexy hby
        by_cases h11 : op = 11
        · subst h11
          have t11 : ((11 : Int) == 11) = true := rfl
          have t12 : ((11 : Int) == 12) = false := rfl
          have t21 : ((11 : Int) == 21) = false := rfl
          have t22 : ((11 : Int) == 22) = false := rfl
          rw [t11, t12, t21, t22]
          clear t11 t12 t21 t22
          have hite : (if ((true && false) : Bool) = true then ri else if ((true && false && false) : Bool) = true then some (Pv xb (wrap64 (xn + yn))) else if ((true && true && true) : Bool) = true then some (Pv yb (wrap64 (xn + yn))) else if ((false && false && false) : Bool) = true then some (Pv xb (wrap64 (xn - yn))) else if ((false || false) : Bool) = true then ra else none) = some (Pv yb (wrap64 (xn + yn))) := by rfl
          rw [hite]
          clear hite
          show Calls Tryd.prog 12 _ w (fun e w' => e = .returned (.tuple #[.agg #[.int .i64 (2), .int .i64 (wrap64 (xn + yn)), .int .i64 (yb)], .bool true]) ∧ Below w.heap.size w w')
          rw [show (.agg #[.int .i64 (2), .int .i64 (wrap64 (xn + yn)), .int .i64 (yb)] : Value) = .agg #[.int .i64 (atK yb), .int .i64 (atN yb (wrap64 (xn + yn))), .int .i64 (atB yb)] from by rw [show atK yb = 2 from if_neg (by omega), show atN yb (wrap64 (xn + yn)) = wrap64 (xn + yn) from if_neg (by omega), show atB yb = yb from if_neg (by omega)]]
          have T0 := Lib.hid (A3.start w xk xn xb yk yn yb)
          go_enter Tryd.func12, Tryd.ntmps12
          go_wp2_with fail
          refine (isInt_any xk xn xb _).mono ?_
          rintro e w1 ⟨rfl, hb⟩
          have T1 := Lib.hid (T0.out.step hb)
          clear hb
          obtain ⟨q0, q1, q2⟩ := T1.out.boxX.cells
          obtain ⟨r0, r1, r2⟩ := T1.out.boxY.cells
          obtain ⟨s0, s1, s2⟩ := T1.out.boxR.cells
          obtain ⟨z0, z1, z2⟩ := T1.out.boxR.frozen
          go_wp2_with fail
          refine (isInt_any yk yn yb _).mono ?_
          rintro e w2 ⟨rfl, hb⟩
          have T2 := Lib.hid (T1.out.step hb)
          clear hb q0 q1 q2 r0 r1 r2 s0 s1 s2 z0 z1 z2
          obtain ⟨q0, q1, q2⟩ := T2.out.boxX.cells
          obtain ⟨r0, r1, r2⟩ := T2.out.boxY.cells
          obtain ⟨s0, s1, s2⟩ := T2.out.boxR.cells
          obtain ⟨z0, z1, z2⟩ := T2.out.boxR.frozen
          go_wp2_with fail
          refine (isPtr_any xk xn xb _).mono ?_
          rintro e w3 ⟨rfl, hb⟩
          have T3 := Lib.hid (T2.out.step hb)
          clear hb q0 q1 q2 r0 r1 r2 s0 s1 s2 z0 z1 z2
          obtain ⟨q0, q1, q2⟩ := T3.out.boxX.cells
          obtain ⟨r0, r1, r2⟩ := T3.out.boxY.cells
          obtain ⟨s0, s1, s2⟩ := T3.out.boxR.cells
          obtain ⟨z0, z1, z2⟩ := T3.out.boxR.frozen
          go_wp2_with fail
          refine (isInt_any xk xn xb _).mono ?_
          rintro e w4 ⟨rfl, hb⟩
          have T4 := Lib.hid (T3.out.step hb)
          clear hb q0 q1 q2 r0 r1 r2 s0 s1 s2 z0 z1 z2
          obtain ⟨q0, q1, q2⟩ := T4.out.boxX.cells
          obtain ⟨r0, r1, r2⟩ := T4.out.boxY.cells
          obtain ⟨s0, s1, s2⟩ := T4.out.boxR.cells
          obtain ⟨z0, z1, z2⟩ := T4.out.boxR.frozen
          go_wp2_with fail
          refine (isPtr_any yk yn yb _).mono ?_
          rintro e w5 ⟨rfl, hb⟩
          have T5 := Lib.hid (T4.out.step hb)
          clear hb q0 q1 q2 r0 r1 r2 s0 s1 s2 z0 z1 z2
          obtain ⟨q0, q1, q2⟩ := T5.out.boxX.cells
          obtain ⟨r0, r1, r2⟩ := T5.out.boxY.cells
          obtain ⟨s0, s1, s2⟩ := T5.out.boxR.cells
          obtain ⟨z0, z1, z2⟩ := T5.out.boxR.frozen
          go_wp2_with fail
          refine (at_any yb (wrap64 (xn + yn)) _).mono ?_
          rintro e w6 ⟨rfl, hb⟩
          have T6 := Lib.hid (T5.out.step hb)
          clear hb q0 q1 q2 r0 r1 r2 s0 s1 s2 z0 z1 z2
          obtain ⟨q0, q1, q2⟩ := T6.out.boxX.cells
          obtain ⟨r0, r1, r2⟩ := T6.out.boxY.cells
          obtain ⟨s0, s1, s2⟩ := T6.out.boxR.cells
          obtain ⟨z0, z1, z2⟩ := T6.out.boxR.frozen
          go_wp2_with fail
          exact bodyPost_ret (v := .tuple #[.agg #[.int .i64 (atK yb), .int .i64 (atN yb (wrap64 (xn + yn))), .int .i64 (atB yb)], .bool true]) (by simp [results, Tryd.results12, go_sem, s0, s1, s2]) rfl ⟨rfl, (((T6.out.low.setCell (p := ⟨w.heap.size + 1 + 1, 0, none⟩) (by show _ ≤ w.heap.size + 1 + 1; omega) _).setCell (p := ⟨w.heap.size + 1 + 1, 1, none⟩) (by show _ ≤ w.heap.size + 1 + 1; omega) _).setCell (p := ⟨w.heap.size + 1 + 1, 2, none⟩) (by show _ ≤ w.heap.size + 1 + 1; omega) _)⟩
        · have n11 : (op == 11) = false := by simpa using h11
          clear h11
          by_cases h12 : op = 12
          · subst h12
            have t11 : ((12 : Int) == 11) = false := rfl
            have t12 : ((12 : Int) == 12) = true := rfl
            have t21 : ((12 : Int) == 21) = false := rfl
            have t22 : ((12 : Int) == 22) = false := rfl
            rw [t11, t12, t21, t22]
            clear t11 t12 t21 t22 n11
            have hite : (if ((true && false) : Bool) = true then ri else if ((false && false && false) : Bool) = true then some (Pv xb (wrap64 (xn + yn))) else if ((false && true && true) : Bool) = true then some (Pv yb (wrap64 (xn + yn))) else if ((true && false && false) : Bool) = true then some (Pv xb (wrap64 (xn - yn))) else if ((false || false) : Bool) = true then ra else none) = none := by rfl
            rw [hite]
            clear hite
            show Calls Tryd.prog 12 _ w (fun e w' => e = .returned (.tuple #[.agg #[.int .i64 (0), .int .i64 (0), .int .i64 (0)], .bool false]) ∧ Below w.heap.size w w')
            have T0 := Lib.hid (A3.start w xk xn xb yk yn yb)
            go_enter Tryd.func12, Tryd.ntmps12
            go_wp2_with fail
            refine (isInt_any xk xn xb _).mono ?_
            rintro e w1 ⟨rfl, hb⟩
            have T1 := Lib.hid (T0.out.step hb)
            clear hb
            obtain ⟨q0, q1, q2⟩ := T1.out.boxX.cells
            obtain ⟨r0, r1, r2⟩ := T1.out.boxY.cells
            obtain ⟨s0, s1, s2⟩ := T1.out.boxR.cells
            obtain ⟨z0, z1, z2⟩ := T1.out.boxR.frozen
            go_wp2_with fail
            refine (isInt_any yk yn yb _).mono ?_
            rintro e w2 ⟨rfl, hb⟩
            have T2 := Lib.hid (T1.out.step hb)
            clear hb q0 q1 q2 r0 r1 r2 s0 s1 s2 z0 z1 z2
            obtain ⟨q0, q1, q2⟩ := T2.out.boxX.cells
            obtain ⟨r0, r1, r2⟩ := T2.out.boxY.cells
            obtain ⟨s0, s1, s2⟩ := T2.out.boxR.cells
            obtain ⟨z0, z1, z2⟩ := T2.out.boxR.frozen
            go_wp2_with fail
            refine (isPtr_any xk xn xb _).mono ?_
            rintro e w3 ⟨rfl, hb⟩
            have T3 := Lib.hid (T2.out.step hb)
            clear hb q0 q1 q2 r0 r1 r2 s0 s1 s2 z0 z1 z2
            obtain ⟨q0, q1, q2⟩ := T3.out.boxX.cells
            obtain ⟨r0, r1, r2⟩ := T3.out.boxY.cells
            obtain ⟨s0, s1, s2⟩ := T3.out.boxR.cells
            obtain ⟨z0, z1, z2⟩ := T3.out.boxR.frozen
            go_wp2_with fail
            exact bodyPost_ret (v := .tuple #[.agg #[.int .i64 (0), .int .i64 (0), .int .i64 (0)], .bool false]) (by simp [results, Tryd.results12, go_sem, s0, s1, s2]) rfl ⟨rfl, (((T3.out.low.setCell (p := ⟨w.heap.size + 1 + 1, 0, none⟩) (by show _ ≤ w.heap.size + 1 + 1; omega) _).setCell (p := ⟨w.heap.size + 1 + 1, 1, none⟩) (by show _ ≤ w.heap.size + 1 + 1; omega) _).setCell (p := ⟨w.heap.size + 1 + 1, 2, none⟩) (by show _ ≤ w.heap.size + 1 + 1; omega) _)⟩
          · have n12 : (op == 12) = false := by simpa using h12
            clear h12
            by_cases h21 : op = 21
            · subst h21
              have t11 : ((21 : Int) == 11) = false := rfl
              have t12 : ((21 : Int) == 12) = false := rfl
              have t21 : ((21 : Int) == 21) = true := rfl
              have t22 : ((21 : Int) == 22) = false := rfl
              rw [t11, t12, t21, t22]
              clear t11 t12 t21 t22 n11 n12
              have hite : (if ((true && false) : Bool) = true then ri else if ((false && false && false) : Bool) = true then some (Pv xb (wrap64 (xn + yn))) else if ((false && true && true) : Bool) = true then some (Pv yb (wrap64 (xn + yn))) else if ((false && false && false) : Bool) = true then some (Pv xb (wrap64 (xn - yn))) else if ((true || false) : Bool) = true then ra else none) = ra := by rfl
              rw [hite]
              clear hite
              show Calls Tryd.prog 12 _ w (fun e w' => e = .returned (.tuple #[.agg #[.int .i64 (vk ra), .int .i64 (vn ra), .int .i64 (vb ra)], .bool ra.isSome]) ∧ Below w.heap.size w w')
              have T0 := Lib.hid (A3.start w xk xn xb yk yn yb)
              go_enter Tryd.func12, Tryd.ntmps12
              go_wp2_with fail
              refine (isInt_any xk xn xb _).mono ?_
              rintro e w1 ⟨rfl, hb⟩
              have T1 := Lib.hid (T0.out.step hb)
              clear hb
              obtain ⟨q0, q1, q2⟩ := T1.out.boxX.cells
              obtain ⟨r0, r1, r2⟩ := T1.out.boxY.cells
              obtain ⟨s0, s1, s2⟩ := T1.out.boxR.cells
              obtain ⟨z0, z1, z2⟩ := T1.out.boxR.frozen
              go_wp2_with fail
              refine (isInt_any yk yn yb _).mono ?_
              rintro e w2 ⟨rfl, hb⟩
              have T2 := Lib.hid (T1.out.step hb)
              clear hb q0 q1 q2 r0 r1 r2 s0 s1 s2 z0 z1 z2
              obtain ⟨q0, q1, q2⟩ := T2.out.boxX.cells
              obtain ⟨r0, r1, r2⟩ := T2.out.boxY.cells
              obtain ⟨s0, s1, s2⟩ := T2.out.boxR.cells
              obtain ⟨z0, z1, z2⟩ := T2.out.boxR.frozen
              go_wp2_with fail
              refine (HA.out _).mono ?_
              rintro e w3 ⟨rfl, hb⟩
              have T3 := Lib.hid (T2.out.step hb)
              clear hb q0 q1 q2 r0 r1 r2 s0 s1 s2 z0 z1 z2
              obtain ⟨q0, q1, q2⟩ := T3.out.boxX.cells
              obtain ⟨r0, r1, r2⟩ := T3.out.boxY.cells
              obtain ⟨s0, s1, s2⟩ := T3.out.boxR.cells
              obtain ⟨z0, z1, z2⟩ := T3.out.boxR.frozen
              go_wp2_with fail
              exact bodyPost_ret (v := .tuple #[.agg #[.int .i64 (vk ra), .int .i64 (vn ra), .int .i64 (vb ra)], .bool ra.isSome]) (by simp [results, Tryd.results12, go_sem, s0, s1, s2]) rfl ⟨rfl, (((T3.out.low.setCell (p := ⟨w.heap.size + 1 + 1, 0, none⟩) (by show _ ≤ w.heap.size + 1 + 1; omega) _).setCell (p := ⟨w.heap.size + 1 + 1, 1, none⟩) (by show _ ≤ w.heap.size + 1 + 1; omega) _).setCell (p := ⟨w.heap.size + 1 + 1, 2, none⟩) (by show _ ≤ w.heap.size + 1 + 1; omega) _)⟩
            · have n21 : (op == 21) = false := by simpa using h21
              clear h21
              by_cases h22 : op = 22
              · subst h22
                have t11 : ((22 : Int) == 11) = false := rfl
                have t12 : ((22 : Int) == 12) = false := rfl
                have t21 : ((22 : Int) == 21) = false := rfl
                have t22 : ((22 : Int) == 22) = true := rfl
                rw [t11, t12, t21, t22]
                clear t11 t12 t21 t22 n11 n12 n21
                have hite : (if ((true && false) : Bool) = true then ri else if ((false && false && false) : Bool) = true then some (Pv xb (wrap64 (xn + yn))) else if ((false && true && true) : Bool) = true then some (Pv yb (wrap64 (xn + yn))) else if ((false && false && false) : Bool) = true then some (Pv xb (wrap64 (xn - yn))) else if ((false || true) : Bool) = true then ra else none) = ra := by rfl
                rw [hite]
                clear hite
                show Calls Tryd.prog 12 _ w (fun e w' => e = .returned (.tuple #[.agg #[.int .i64 (vk ra), .int .i64 (vn ra), .int .i64 (vb ra)], .bool ra.isSome]) ∧ Below w.heap.size w w')
                have T0 := Lib.hid (A3.start w xk xn xb yk yn yb)
                go_enter Tryd.func12, Tryd.ntmps12
                go_wp2_with fail
                refine (isInt_any xk xn xb _).mono ?_
                rintro e w1 ⟨rfl, hb⟩
                have T1 := Lib.hid (T0.out.step hb)
                clear hb
                obtain ⟨q0, q1, q2⟩ := T1.out.boxX.cells
                obtain ⟨r0, r1, r2⟩ := T1.out.boxY.cells
                obtain ⟨s0, s1, s2⟩ := T1.out.boxR.cells
                obtain ⟨z0, z1, z2⟩ := T1.out.boxR.frozen
                go_wp2_with fail
                refine (isInt_any yk yn yb _).mono ?_
                rintro e w2 ⟨rfl, hb⟩
                have T2 := Lib.hid (T1.out.step hb)
                clear hb q0 q1 q2 r0 r1 r2 s0 s1 s2 z0 z1 z2
                obtain ⟨q0, q1, q2⟩ := T2.out.boxX.cells
                obtain ⟨r0, r1, r2⟩ := T2.out.boxY.cells
                obtain ⟨s0, s1, s2⟩ := T2.out.boxR.cells
                obtain ⟨z0, z1, z2⟩ := T2.out.boxR.frozen
                go_wp2_with fail
                refine (HA.out _).mono ?_
                rintro e w3 ⟨rfl, hb⟩
                have T3 := Lib.hid (T2.out.step hb)
                clear hb q0 q1 q2 r0 r1 r2 s0 s1 s2 z0 z1 z2
                obtain ⟨q0, q1, q2⟩ := T3.out.boxX.cells
                obtain ⟨r0, r1, r2⟩ := T3.out.boxY.cells
                obtain ⟨s0, s1, s2⟩ := T3.out.boxR.cells
                obtain ⟨z0, z1, z2⟩ := T3.out.boxR.frozen
                go_wp2_with fail
                exact bodyPost_ret (v := .tuple #[.agg #[.int .i64 (vk ra), .int .i64 (vn ra), .int .i64 (vb ra)], .bool ra.isSome]) (by simp [results, Tryd.results12, go_sem, s0, s1, s2]) rfl ⟨rfl, (((T3.out.low.setCell (p := ⟨w.heap.size + 1 + 1, 0, none⟩) (by show _ ≤ w.heap.size + 1 + 1; omega) _).setCell (p := ⟨w.heap.size + 1 + 1, 1, none⟩) (by show _ ≤ w.heap.size + 1 + 1; omega) _).setCell (p := ⟨w.heap.size + 1 + 1, 2, none⟩) (by show _ ≤ w.heap.size + 1 + 1; omega) _)⟩
              · have n22 : (op == 22) = false := by simpa using h22
                clear h22
                rw [n11, n12, n21, n22]
                have hite : (if ((true && false) : Bool) = true then ri else if ((false && false && false) : Bool) = true then some (Pv xb (wrap64 (xn + yn))) else if ((false && true && true) : Bool) = true then some (Pv yb (wrap64 (xn + yn))) else if ((false && false && false) : Bool) = true then some (Pv xb (wrap64 (xn - yn))) else if ((false || false) : Bool) = true then ra else none) = none := by rfl
                rw [hite]
                clear hite
                show Calls Tryd.prog 12 _ w (fun e w' => e = .returned (.tuple #[.agg #[.int .i64 (0), .int .i64 (0), .int .i64 (0)], .bool false]) ∧ Below w.heap.size w w')
                have T0 := Lib.hid (A3.start w xk xn xb yk yn yb)
                go_enter Tryd.func12, Tryd.ntmps12
                go_wp2_with fail
                refine (isInt_any xk xn xb _).mono ?_
                rintro e w1 ⟨rfl, hb⟩
                have T1 := Lib.hid (T0.out.step hb)
                clear hb
                obtain ⟨q0, q1, q2⟩ := T1.out.boxX.cells
                obtain ⟨r0, r1, r2⟩ := T1.out.boxY.cells
                obtain ⟨s0, s1, s2⟩ := T1.out.boxR.cells
                obtain ⟨z0, z1, z2⟩ := T1.out.boxR.frozen
                go_wp2_with fail
                refine (isInt_any yk yn yb _).mono ?_
                rintro e w2 ⟨rfl, hb⟩
                have T2 := Lib.hid (T1.out.step hb)
                clear hb q0 q1 q2 r0 r1 r2 s0 s1 s2 z0 z1 z2
                obtain ⟨q0, q1, q2⟩ := T2.out.boxX.cells
                obtain ⟨r0, r1, r2⟩ := T2.out.boxY.cells
                obtain ⟨s0, s1, s2⟩ := T2.out.boxR.cells
                obtain ⟨z0, z1, z2⟩ := T2.out.boxR.frozen
                go_wp2_with fail
                exact bodyPost_ret (v := .tuple #[.agg #[.int .i64 (0), .int .i64 (0), .int .i64 (0)], .bool false]) (by simp [results, Tryd.results12, go_sem, s0, s1, s2]) rfl ⟨rfl, (((T2.out.low.setCell (p := ⟨w.heap.size + 1 + 1, 0, none⟩) (by show _ ≤ w.heap.size + 1 + 1; omega) _).setCell (p := ⟨w.heap.size + 1 + 1, 1, none⟩) (by show _ ≤ w.heap.size + 1 + 1; omega) _).setCell (p := ⟨w.heap.size + 1 + 1, 2, none⟩) (by show _ ≤ w.heap.size + 1 + 1; omega) _)⟩
    · have hpy := hexy hiy
      rw [hpy]
      clear hexy hby
      show Calls Tryd.prog 12 _ w (RV ri w)
      show Calls Tryd.prog 12 _ w (fun e w' => e = .returned (.tuple #[.agg #[.int .i64 (vk ri), .int .i64 (vn ri), .int .i64 (vb ri)], .bool ri.isSome]) ∧ Below w.heap.size w w')
      have T0 := Lib.hid (A3.start w xk xn xb yk yn yb)
      go_enter Tryd.func12, Tryd.ntmps12
      go_wp2_with fail
      refine (isInt_any xk xn xb _).mono ?_
      rintro e w1 ⟨rfl, hb⟩
      have T1 := Lib.hid (T0.out.step hb)
      clear hb
      obtain ⟨q0, q1, q2⟩ := T1.out.boxX.cells
      obtain ⟨r0, r1, r2⟩ := T1.out.boxY.cells
      obtain ⟨s0, s1, s2⟩ := T1.out.boxR.cells
      obtain ⟨z0, z1, z2⟩ := T1.out.boxR.frozen
      go_wp2_with fail
      refine (isInt_any yk yn yb _).mono ?_
      rintro e w2 ⟨rfl, hb⟩
      have T2 := Lib.hid (T1.out.step hb)
      clear hb q0 q1 q2 r0 r1 r2 s0 s1 s2 z0 z1 z2
      obtain ⟨q0, q1, q2⟩ := T2.out.boxX.cells
      obtain ⟨r0, r1, r2⟩ := T2.out.boxY.cells
      obtain ⟨s0, s1, s2⟩ := T2.out.boxR.cells
      obtain ⟨z0, z1, z2⟩ := T2.out.boxR.frozen
      go_wp2_with fail
      refine (HI.out _).mono ?_
      rintro e w3 ⟨rfl, hb⟩
      have T3 := Lib.hid (T2.out.step hb)
      clear hb q0 q1 q2 r0 r1 r2 s0 s1 s2 z0 z1 z2
      obtain ⟨q0, q1, q2⟩ := T3.out.boxX.cells
      obtain ⟨r0, r1, r2⟩ := T3.out.boxY.cells
      obtain ⟨s0, s1, s2⟩ := T3.out.boxR.cells
      obtain ⟨z0, z1, z2⟩ := T3.out.boxR.frozen
      go_wp2_with fail
      exact bodyPost_ret (v := .tuple #[.agg #[.int .i64 (vk ri), .int .i64 (vn ri), .int .i64 (vb ri)], .bool ri.isSome]) (by simp [results, Tryd.results12, go_sem, s0, s1, s2]) rfl ⟨rfl, (((T3.out.low.setCell (p := ⟨w.heap.size + 1 + 1, 0, none⟩) (by show _ ≤ w.heap.size + 1 + 1; omega) _).setCell (p := ⟨w.heap.size + 1 + 1, 1, none⟩) (by show _ ≤ w.heap.size + 1 + 1; omega) _).setCell (p := ⟨w.heap.size + 1 + 1, 2, none⟩) (by show _ ≤ w.heap.size + 1 + 1; omega) _)⟩
end Go.Proofs.YtipeehmbloneoaaDoor

