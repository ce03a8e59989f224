/-
  The reference's Bin: it answers what val.Bin does, for every operation and every two values.
-/
import Derived.Test.YtipeehmbloneoaaDoorRefs
namespace Go.Proofs.YtipeehmbloneoaaDoor
open Go.RowKit Go.Sort

theorem good_int {x : Vl} (h : intB x = true) : goodB x = true := by
  simp [intB] at h
  simp [goodB, h.1, h.2]
theorem good_ptr {x : Vl} (h : ptrB x = true) : goodB x = true := by
  simp [ptrB] at h
  simp [goodB, h.1, h.2]
theorem not_good {x : Vl} (h : goodB x = false) : intB x = false ∧ ptrB x = false ∧ eqB x (Iv 0) = false := by
  refine ⟨?_, ?_, ?_⟩
  · cases e : intB x
    · rfl
    · rw [good_int e] at h; exact h
  · cases e : ptrB x
    · rfl
    · rw [good_ptr e] at h; exact h
  · cases e : eqB x (Iv 0)
    · rfl
    · simp [eqB, Iv] at e
      simp [goodB, e.1, e.2.2] at h
theorem not_undef {x : Vl} (h : x.k = 0) : intB x = false ∧ ptrB x = false ∧ eqB x (Iv 0) = false := by
  simp [intB, ptrB, eqB, Iv, h]
theorem binV_none {op : Int} {x y : Vl} (h : (intB x = false ∧ ptrB x = false ∧ eqB x (Iv 0) = false) ∨ (intB y = false ∧ ptrB y = false ∧ eqB y (Iv 0) = false)) : binV op x y = none := by
  rcases h with ⟨h1, h2, h3⟩ | ⟨h1, h2, h3⟩ <;> simp [binV, alikeV, h1, h2, h3]
theorem kinds {x : Vl} (h : goodB x = true) (h0 : ¬x.k = 0) : (x.k = 1 ∧ x.b = 0) ∨ (x.k = 2 ∧ 1 ≤ x.b) := by
  by_cases h1 : x.k = 1
  · left; exact ⟨h1, by simpa [goodB, h1] using h⟩
  · right; simpa [goodB, h0, h1] using h
theorem rat_is (b n : Int) (h : 1 ≤ b) (w : World) : Calls Tryd.prog 29 #[.int .i64 b, .int .i64 n] w (R3 2 n b w) := by
  have := rat_any b n w
  rwa [show atK b = 2 from if_neg (by omega), show atN b n = n from if_neg (by omega), show atB b = b from if_neg (by omega)] at this

set_option maxHeartbeats 4000000 in
theorem rbin_bx (op xk xn xb yk yn yb : Int) (hgx : goodB ⟨xk, xn, xb⟩ = false) (w : World) : Calls Tryd.prog 19 #[.int .i64 op, .agg #[.int .i64 (xk), .int .i64 (xn), .int .i64 (xb)], .agg #[.int .i64 (yk), .int .i64 (yn), .int .i64 (yb)]] w (RV (binV op ⟨xk, xn, xb⟩ ⟨yk, yn, yb⟩) w) := by
  rw [show binV op _ _ = none from binV_none (Or.inl (not_good hgx))]
  show Calls Tryd.prog 19 _ w (fun e w' => e = .returned (.tuple #[.agg #[.int .i64 (0), .int .i64 (0), .int .i64 (0)], .bool false]) ∧ Below w.heap.size w w')
  have T0 := Lib.hid (A3.start w xk xn xb yk yn yb)
  have hE := eqVl
  have hG := guardVl
  go_enter Tryd.func19, Tryd.ntmps19
  go_wp2_with fail
  refine (rgood_is xk xn xb false hgx _).mono ?_
  rintro e w1 ⟨rfl, hb⟩
  have T1 := Lib.hid (T0.out.step hb)
  clear hb
  obtain ⟨q0, q1, q2⟩ := T1.out.boxX.cells
  obtain ⟨r0, r1, r2⟩ := T1.out.boxY.cells
  obtain ⟨s0, s1, s2⟩ := T1.out.boxR.cells
  obtain ⟨z0, z1, z2⟩ := T1.out.boxR.frozen
  go_wp2_with fail
  exact bodyPost_ret (v := .tuple #[.agg #[.int .i64 (0), .int .i64 (0), .int .i64 (0)], .bool false]) (by simp [results, Tryd.results19, go_sem, s0, s1, s2]) rfl ⟨rfl, (((T1.out.low.setCell (p := ⟨w.heap.size + 1 + 1, 0, none⟩) (by show _ ≤ w.heap.size + 1 + 1; omega) _).setCell (p := ⟨w.heap.size + 1 + 1, 1, none⟩) (by show _ ≤ w.heap.size + 1 + 1; omega) _).setCell (p := ⟨w.heap.size + 1 + 1, 2, none⟩) (by show _ ≤ w.heap.size + 1 + 1; omega) _)⟩

set_option maxHeartbeats 4000000 in
theorem rbin_by (op xk xn xb yk yn yb : Int) (hgx : goodB ⟨xk, xn, xb⟩ = true) (hgy : goodB ⟨yk, yn, yb⟩ = false) (w : World) : Calls Tryd.prog 19 #[.int .i64 op, .agg #[.int .i64 (xk), .int .i64 (xn), .int .i64 (xb)], .agg #[.int .i64 (yk), .int .i64 (yn), .int .i64 (yb)]] w (RV (binV op ⟨xk, xn, xb⟩ ⟨yk, yn, yb⟩) w) := by
  rw [show binV op _ _ = none from binV_none (Or.inr (not_good hgy))]
  show Calls Tryd.prog 19 _ w (fun e w' => e = .returned (.tuple #[.agg #[.int .i64 (0), .int .i64 (0), .int .i64 (0)], .bool false]) ∧ Below w.heap.size w w')
  have T0 := Lib.hid (A3.start w xk xn xb yk yn yb)
  have hE := eqVl
  have hG := guardVl
  go_enter Tryd.func19, Tryd.ntmps19
  go_wp2_with fail
  refine (rgood_is xk xn xb true hgx _).mono ?_
  rintro e w1 ⟨rfl, hb⟩
  have T1 := Lib.hid (T0.out.step hb)
  clear hb
  obtain ⟨q0, q1, q2⟩ := T1.out.boxX.cells
  obtain ⟨r0, r1, r2⟩ := T1.out.boxY.cells
  obtain ⟨s0, s1, s2⟩ := T1.out.boxR.cells
  obtain ⟨z0, z1, z2⟩ := T1.out.boxR.frozen
  go_wp2_with fail
  refine (rgood_is yk yn yb false hgy _).mono ?_
  rintro e w2 ⟨rfl, hb⟩
  have T2 := Lib.hid (T1.out.step hb)
  clear hb q0 q1 q2 r0 r1 r2 s0 s1 s2 z0 z1 z2
  obtain ⟨q0, q1, q2⟩ := T2.out.boxX.cells
  obtain ⟨r0, r1, r2⟩ := T2.out.boxY.cells
  obtain ⟨s0, s1, s2⟩ := T2.out.boxR.cells
  obtain ⟨z0, z1, z2⟩ := T2.out.boxR.frozen
  go_wp2_with fail
  exact bodyPost_ret (v := .tuple #[.agg #[.int .i64 (0), .int .i64 (0), .int .i64 (0)], .bool false]) (by simp [results, Tryd.results19, go_sem, s0, s1, s2]) rfl ⟨rfl, (((T2.out.low.setCell (p := ⟨w.heap.size + 1 + 1, 0, none⟩) (by show _ ≤ w.heap.size + 1 + 1; omega) _).setCell (p := ⟨w.heap.size + 1 + 1, 1, none⟩) (by show _ ≤ w.heap.size + 1 + 1; omega) _).setCell (p := ⟨w.heap.size + 1 + 1, 2, none⟩) (by show _ ≤ w.heap.size + 1 + 1; omega) _)⟩

set_option maxHeartbeats 4000000 in
theorem rbin_ux (op xn xb yk yn yb : Int) (hgx : goodB ⟨0, xn, xb⟩ = true) (hgy : goodB ⟨yk, yn, yb⟩ = true) (w : World) : Calls Tryd.prog 19 #[.int .i64 op, .agg #[.int .i64 (0), .int .i64 (xn), .int .i64 (xb)], .agg #[.int .i64 (yk), .int .i64 (yn), .int .i64 (yb)]] w (RV (binV op ⟨0, xn, xb⟩ ⟨yk, yn, yb⟩) w) := by
  rw [show binV op _ _ = none from binV_none (Or.inl (not_undef rfl))]
  show Calls Tryd.prog 19 _ w (fun e w' => e = .returned (.tuple #[.agg #[.int .i64 (0), .int .i64 (0), .int .i64 (0)], .bool false]) ∧ Below w.heap.size w w')
  have T0 := Lib.hid (A3.start w 0 xn xb yk yn yb)
  have hE := eqVl
  have hG := guardVl
  go_enter Tryd.func19, Tryd.ntmps19
  go_wp2_with fail
  refine (rgood_is 0 xn xb true hgx _).mono ?_
  rintro e w1 ⟨rfl, hb⟩
  have T1 := Lib.hid (T0.out.step hb)
  clear hb
  obtain ⟨q0, q1, q2⟩ := T1.out.boxX.cells
  obtain ⟨r0, r1, r2⟩ := T1.out.boxY.cells
  obtain ⟨s0, s1, s2⟩ := T1.out.boxR.cells
  obtain ⟨z0, z1, z2⟩ := T1.out.boxR.frozen
  go_wp2_with fail
  refine (rgood_is yk yn yb true hgy _).mono ?_
  rintro e w2 ⟨rfl, hb⟩
  have T2 := Lib.hid (T1.out.step hb)
  clear hb q0 q1 q2 r0 r1 r2 s0 s1 s2 z0 z1 z2
  obtain ⟨q0, q1, q2⟩ := T2.out.boxX.cells
  obtain ⟨r0, r1, r2⟩ := T2.out.boxY.cells
  obtain ⟨s0, s1, s2⟩ := T2.out.boxR.cells
  obtain ⟨z0, z1, z2⟩ := T2.out.boxR.frozen
  go_wp2_with fail
  exact bodyPost_ret (v := .tuple #[.agg #[.int .i64 (0), .int .i64 (0), .int .i64 (0)], .bool false]) (by simp [results, Tryd.results19, go_sem, s0, s1, s2]) rfl ⟨rfl, (((T2.out.low.setCell (p := ⟨w.heap.size + 1 + 1, 0, none⟩) (by show _ ≤ w.heap.size + 1 + 1; omega) _).setCell (p := ⟨w.heap.size + 1 + 1, 1, none⟩) (by show _ ≤ w.heap.size + 1 + 1; omega) _).setCell (p := ⟨w.heap.size + 1 + 1, 2, none⟩) (by show _ ≤ w.heap.size + 1 + 1; omega) _)⟩

set_option maxHeartbeats 4000000 in
theorem rbin_uy (op xk xn xb yn yb : Int) (hgx : goodB ⟨xk, xn, xb⟩ = true) (hgy : goodB ⟨0, yn, yb⟩ = true) (h0 : ¬xk = 0) (w : World) : Calls Tryd.prog 19 #[.int .i64 op, .agg #[.int .i64 (xk), .int .i64 (xn), .int .i64 (xb)], .agg #[.int .i64 (0), .int .i64 (yn), .int .i64 (yb)]] w (RV (binV op ⟨xk, xn, xb⟩ ⟨0, yn, yb⟩) w) := by
  rw [show binV op _ _ = none from binV_none (Or.inr (not_undef rfl))]
  show Calls Tryd.prog 19 _ w (fun e w' => e = .returned (.tuple #[.agg #[.int .i64 (0), .int .i64 (0), .int .i64 (0)], .bool false]) ∧ Below w.heap.size w w')
  have t0 : (xk == 0) = false := by simpa using h0
  clear h0
  have T0 := Lib.hid (A3.start w xk xn xb 0 yn yb)
  have hE := eqVl
  have hG := guardVl
  go_enter Tryd.func19, Tryd.ntmps19
  go_wp2_with fail
  refine (rgood_is xk xn xb true hgx _).mono ?_
  rintro e w1 ⟨rfl, hb⟩
  have T1 := Lib.hid (T0.out.step hb)
  clear hb
  obtain ⟨q0, q1, q2⟩ := T1.out.boxX.cells
  obtain ⟨r0, r1, r2⟩ := T1.out.boxY.cells
  obtain ⟨s0, s1, s2⟩ := T1.out.boxR.cells
  obtain ⟨z0, z1, z2⟩ := T1.out.boxR.frozen
  go_wp2_with fail
  refine (rgood_is 0 yn yb true hgy _).mono ?_
  rintro e w2 ⟨rfl, hb⟩
  have T2 := Lib.hid (T1.out.step hb)
  clear hb q0 q1 q2 r0 r1 r2 s0 s1 s2 z0 z1 z2
  obtain ⟨q0, q1, q2⟩ := T2.out.boxX.cells
  obtain ⟨r0, r1, r2⟩ := T2.out.boxY.cells
  obtain ⟨s0, s1, s2⟩ := T2.out.boxR.cells
  obtain ⟨z0, z1, z2⟩ := T2.out.boxR.frozen
  go_wp2_with fail
  exact bodyPost_ret (v := .tuple #[.agg #[.int .i64 (0), .int .i64 (0), .int .i64 (0)], .bool false]) (by simp [results, Tryd.results19, go_sem, s0, s1, s2]) rfl ⟨rfl, (((T2.out.low.setCell (p := ⟨w.heap.size + 1 + 1, 0, none⟩) (by show _ ≤ w.heap.size + 1 + 1; omega) _).setCell (p := ⟨w.heap.size + 1 + 1, 1, none⟩) (by show _ ≤ w.heap.size + 1 + 1; omega) _).setCell (p := ⟨w.heap.size + 1 + 1, 2, none⟩) (by show _ ≤ w.heap.size + 1 + 1; omega) _)⟩

set_option maxHeartbeats 4000000 in
theorem rbin_ii (op xn yn : Int) (fx : Fits xn) (fy : Fits yn) (w : World) : Calls Tryd.prog 19 #[.int .i64 op, .agg #[.int .i64 (1), .int .i64 (xn), .int .i64 (0)], .agg #[.int .i64 (1), .int .i64 (yn), .int .i64 (0)]] w (RV (binV op ⟨1, xn, 0⟩ ⟨1, yn, 0⟩) w) := by
  rw [show binV op ⟨1, xn, 0⟩ ⟨1, yn, 0⟩ = intsV op xn yn from rfl]
  have T0 := Lib.hid (A3.start w 1 xn 0 1 yn 0)
  have hE := eqVl
  have hG := guardVl
  go_enter Tryd.func19, Tryd.ntmps19
  go_wp2_with fail
  refine (rgood_is 1 xn 0 true rfl _).mono ?_
  rintro e w1 ⟨rfl, hb⟩
  have T1 := Lib.hid (T0.out.step hb)
  clear hb
  obtain ⟨q0, q1, q2⟩ := T1.out.boxX.cells
  obtain ⟨r0, r1, r2⟩ := T1.out.boxY.cells
  obtain ⟨s0, s1, s2⟩ := T1.out.boxR.cells
  obtain ⟨z0, z1, z2⟩ := T1.out.boxR.frozen
  go_wp2_with fail
  refine (rgood_is 1 yn 0 true rfl _).mono ?_
  rintro e w2 ⟨rfl, hb⟩
  have T2 := Lib.hid (T1.out.step hb)
  clear hb q0 q1 q2 r0 r1 r2 s0 s1 s2 z0 z1 z2
  obtain ⟨q0, q1, q2⟩ := T2.out.boxX.cells
  obtain ⟨r0, r1, r2⟩ := T2.out.boxY.cells
  obtain ⟨s0, s1, s2⟩ := T2.out.boxR.cells
  obtain ⟨z0, z1, z2⟩ := T2.out.boxR.frozen
  go_wp2_with fail
  refine (rints_any op xn yn fx fy _).mono ?_
  rintro e w3 ⟨rfl, hb⟩
  have T3 := Lib.hid (T2.out.step hb)
  clear hb q0 q1 q2 r0 r1 r2 s0 s1 s2 z0 z1 z2
  obtain ⟨q0, q1, q2⟩ := T3.out.boxX.cells
  obtain ⟨r0, r1, r2⟩ := T3.out.boxY.cells
  obtain ⟨s0, s1, s2⟩ := T3.out.boxR.cells
  obtain ⟨z0, z1, z2⟩ := T3.out.boxR.frozen
  go_wp2_with fail
  exact bodyPost_ret (v := .tuple #[.agg #[.int .i64 (vk (intsV op xn yn)), .int .i64 (vn (intsV op xn yn)), .int .i64 (vb (intsV op xn yn))], .bool (intsV op xn yn).isSome]) (by simp [results, Tryd.results19, go_sem, s0, s1, s2]) rfl ⟨rfl, (((T3.out.low.setCell (p := ⟨w.heap.size + 1 + 1, 0, none⟩) (by show _ ≤ w.heap.size + 1 + 1; omega) _).setCell (p := ⟨w.heap.size + 1 + 1, 1, none⟩) (by show _ ≤ w.heap.size + 1 + 1; omega) _).setCell (p := ⟨w.heap.size + 1 + 1, 2, none⟩) (by show _ ≤ w.heap.size + 1 + 1; omega) _)⟩

set_option maxHeartbeats 4000000 in
theorem rbin_pi11 (xn xb yn : Int) (fx : Fits xn) (fy : Fits yn) (hxb : 1 ≤ xb) (w : World) : Calls Tryd.prog 19 #[.int .i64 11, .agg #[.int .i64 (2), .int .i64 (xn), .int .i64 (xb)], .agg #[.int .i64 (1), .int .i64 (yn), .int .i64 (0)]] w (RV (binV 11 ⟨2, xn, xb⟩ ⟨1, yn, 0⟩) w) := by
  have ⟨fx0, fx1⟩ := fx
  have ⟨fy0, fy1⟩ := fy
  rw [show binV 11 _ _ = some (Pv xb (wrap64 (xn + yn))) from by simp [binV, intB, ptrB, Pv, hxb]]
  show Calls Tryd.prog 19 _ w (fun e w' => e = .returned (.tuple #[.agg #[.int .i64 (2), .int .i64 (wrap64 (xn + yn)), .int .i64 (xb)], .bool true]) ∧ Below w.heap.size w w')
  have T0 := Lib.hid (A3.start w 2 xn xb 1 yn 0)
  have hE := eqVl
  have hG := guardVl
  go_enter Tryd.func19, Tryd.ntmps19
  go_wp2_with fail
  refine (rgood_is 2 xn xb true (by simp [goodB, hxb]) _).mono ?_
  rintro e w1 ⟨rfl, hb⟩
  have T1 := Lib.hid (T0.out.step hb)
  clear hb
  obtain ⟨q0, q1, q2⟩ := T1.out.boxX.cells
  obtain ⟨r0, r1, r2⟩ := T1.out.boxY.cells
  obtain ⟨s0, s1, s2⟩ := T1.out.boxR.cells
  obtain ⟨z0, z1, z2⟩ := T1.out.boxR.frozen
  go_wp2_with fail
  refine (rgood_is 1 yn 0 true rfl _).mono ?_
  rintro e w2 ⟨rfl, hb⟩
  have T2 := Lib.hid (T1.out.step hb)
  clear hb q0 q1 q2 r0 r1 r2 s0 s1 s2 z0 z1 z2
  obtain ⟨q0, q1, q2⟩ := T2.out.boxX.cells
  obtain ⟨r0, r1, r2⟩ := T2.out.boxY.cells
  obtain ⟨s0, s1, s2⟩ := T2.out.boxR.cells
  obtain ⟨z0, z1, z2⟩ := T2.out.boxR.frozen
  go_wp2_with fail
  refine (rat_is xb (wrap64 (xn + yn)) hxb _).mono ?_
  rintro e w3 ⟨rfl, hb⟩
  have T3 := Lib.hid (T2.out.step hb)
  clear hb q0 q1 q2 r0 r1 r2 s0 s1 s2 z0 z1 z2
  obtain ⟨q0, q1, q2⟩ := T3.out.boxX.cells
  obtain ⟨r0, r1, r2⟩ := T3.out.boxY.cells
  obtain ⟨s0, s1, s2⟩ := T3.out.boxR.cells
  obtain ⟨z0, z1, z2⟩ := T3.out.boxR.frozen
  go_wp2_with fail
  exact bodyPost_ret (v := .tuple #[.agg #[.int .i64 (2), .int .i64 (wrap64 (xn + yn)), .int .i64 (xb)], .bool true]) (by simp [results, Tryd.results19, go_sem, s0, s1, s2]) rfl ⟨rfl, (((T3.out.low.setCell (p := ⟨w.heap.size + 1 + 1, 0, none⟩) (by show _ ≤ w.heap.size + 1 + 1; omega) _).setCell (p := ⟨w.heap.size + 1 + 1, 1, none⟩) (by show _ ≤ w.heap.size + 1 + 1; omega) _).setCell (p := ⟨w.heap.size + 1 + 1, 2, none⟩) (by show _ ≤ w.heap.size + 1 + 1; omega) _)⟩

set_option maxHeartbeats 4000000 in
theorem rbin_ip11 (xn yn yb : Int) (fx : Fits xn) (fy : Fits yn) (hyb : 1 ≤ yb) (w : World) : Calls Tryd.prog 19 #[.int .i64 11, .agg #[.int .i64 (1), .int .i64 (xn), .int .i64 (0)], .agg #[.int .i64 (2), .int .i64 (yn), .int .i64 (yb)]] w (RV (binV 11 ⟨1, xn, 0⟩ ⟨2, yn, yb⟩) w) := by
  have ⟨fx0, fx1⟩ := fx
  have ⟨fy0, fy1⟩ := fy
  rw [show binV 11 _ _ = some (Pv yb (wrap64 (xn + yn))) from by simp [binV, intB, ptrB, Pv, hyb]]
  show Calls Tryd.prog 19 _ w (fun e w' => e = .returned (.tuple #[.agg #[.int .i64 (2), .int .i64 (wrap64 (xn + yn)), .int .i64 (yb)], .bool true]) ∧ Below w.heap.size w w')
  have T0 := Lib.hid (A3.start w 1 xn 0 2 yn yb)
  have hE := eqVl
  have hG := guardVl
  go_enter Tryd.func19, Tryd.ntmps19
  go_wp2_with fail
  refine (rgood_is 1 xn 0 true rfl _).mono ?_
  rintro e w1 ⟨rfl, hb⟩
  have T1 := Lib.hid (T0.out.step hb)
  clear hb
  obtain ⟨q0, q1, q2⟩ := T1.out.boxX.cells
  obtain ⟨r0, r1, r2⟩ := T1.out.boxY.cells
  obtain ⟨s0, s1, s2⟩ := T1.out.boxR.cells
  obtain ⟨z0, z1, z2⟩ := T1.out.boxR.frozen
  go_wp2_with fail
  refine (rgood_is 2 yn yb true (by simp [goodB, hyb]) _).mono ?_
  rintro e w2 ⟨rfl, hb⟩
  have T2 := Lib.hid (T1.out.step hb)
  clear hb q0 q1 q2 r0 r1 r2 s0 s1 s2 z0 z1 z2
  obtain ⟨q0, q1, q2⟩ := T2.out.boxX.cells
  obtain ⟨r0, r1, r2⟩ := T2.out.boxY.cells
  obtain ⟨s0, s1, s2⟩ := T2.out.boxR.cells
  obtain ⟨z0, z1, z2⟩ := T2.out.boxR.frozen
  go_wp2_with fail
  refine (rat_is yb (wrap64 (xn + yn)) hyb _).mono ?_
  rintro e w3 ⟨rfl, hb⟩
  have T3 := Lib.hid (T2.out.step hb)
  clear hb q0 q1 q2 r0 r1 r2 s0 s1 s2 z0 z1 z2
  obtain ⟨q0, q1, q2⟩ := T3.out.boxX.cells
  obtain ⟨r0, r1, r2⟩ := T3.out.boxY.cells
  obtain ⟨s0, s1, s2⟩ := T3.out.boxR.cells
  obtain ⟨z0, z1, z2⟩ := T3.out.boxR.frozen
  go_wp2_with fail
  exact bodyPost_ret (v := .tuple #[.agg #[.int .i64 (2), .int .i64 (wrap64 (xn + yn)), .int .i64 (yb)], .bool true]) (by simp [results, Tryd.results19, go_sem, s0, s1, s2]) rfl ⟨rfl, (((T3.out.low.setCell (p := ⟨w.heap.size + 1 + 1, 0, none⟩) (by show _ ≤ w.heap.size + 1 + 1; omega) _).setCell (p := ⟨w.heap.size + 1 + 1, 1, none⟩) (by show _ ≤ w.heap.size + 1 + 1; omega) _).setCell (p := ⟨w.heap.size + 1 + 1, 2, none⟩) (by show _ ≤ w.heap.size + 1 + 1; omega) _)⟩

set_option maxHeartbeats 4000000 in
theorem rbin_pi12 (xn xb yn : Int) (fx : Fits xn) (fy : Fits yn) (hxb : 1 ≤ xb) (w : World) : Calls Tryd.prog 19 #[.int .i64 12, .agg #[.int .i64 (2), .int .i64 (xn), .int .i64 (xb)], .agg #[.int .i64 (1), .int .i64 (yn), .int .i64 (0)]] w (RV (binV 12 ⟨2, xn, xb⟩ ⟨1, yn, 0⟩) w) := by
  have ⟨fx0, fx1⟩ := fx
  have ⟨fy0, fy1⟩ := fy
  rw [show binV 12 _ _ = some (Pv xb (wrap64 (xn - yn))) from by simp [binV, intB, ptrB, Pv, hxb]]
  show Calls Tryd.prog 19 _ w (fun e w' => e = .returned (.tuple #[.agg #[.int .i64 (2), .int .i64 (wrap64 (xn - yn)), .int .i64 (xb)], .bool true]) ∧ Below w.heap.size w w')
  have T0 := Lib.hid (A3.start w 2 xn xb 1 yn 0)
  have hE := eqVl
  have hG := guardVl
  go_enter Tryd.func19, Tryd.ntmps19
  go_wp2_with fail
  refine (rgood_is 2 xn xb true (by simp [goodB, hxb]) _).mono ?_
  rintro e w1 ⟨rfl, hb⟩
  have T1 := Lib.hid (T0.out.step hb)
  clear hb
  obtain ⟨q0, q1, q2⟩ := T1.out.boxX.cells
  obtain ⟨r0, r1, r2⟩ := T1.out.boxY.cells
  obtain ⟨s0, s1, s2⟩ := T1.out.boxR.cells
  obtain ⟨z0, z1, z2⟩ := T1.out.boxR.frozen
  go_wp2_with fail
  refine (rgood_is 1 yn 0 true rfl _).mono ?_
  rintro e w2 ⟨rfl, hb⟩
  have T2 := Lib.hid (T1.out.step hb)
  clear hb q0 q1 q2 r0 r1 r2 s0 s1 s2 z0 z1 z2
  obtain ⟨q0, q1, q2⟩ := T2.out.boxX.cells
  obtain ⟨r0, r1, r2⟩ := T2.out.boxY.cells
  obtain ⟨s0, s1, s2⟩ := T2.out.boxR.cells
  obtain ⟨z0, z1, z2⟩ := T2.out.boxR.frozen
  go_wp2_with fail
  refine (rat_is xb (wrap64 (xn - yn)) hxb _).mono ?_
  rintro e w3 ⟨rfl, hb⟩
  have T3 := Lib.hid (T2.out.step hb)
  clear hb q0 q1 q2 r0 r1 r2 s0 s1 s2 z0 z1 z2
  obtain ⟨q0, q1, q2⟩ := T3.out.boxX.cells
  obtain ⟨r0, r1, r2⟩ := T3.out.boxY.cells
  obtain ⟨s0, s1, s2⟩ := T3.out.boxR.cells
  obtain ⟨z0, z1, z2⟩ := T3.out.boxR.frozen
  go_wp2_with fail
  exact bodyPost_ret (v := .tuple #[.agg #[.int .i64 (2), .int .i64 (wrap64 (xn - yn)), .int .i64 (xb)], .bool true]) (by simp [results, Tryd.results19, go_sem, s0, s1, s2]) rfl ⟨rfl, (((T3.out.low.setCell (p := ⟨w.heap.size + 1 + 1, 0, none⟩) (by show _ ≤ w.heap.size + 1 + 1; omega) _).setCell (p := ⟨w.heap.size + 1 + 1, 1, none⟩) (by show _ ≤ w.heap.size + 1 + 1; omega) _).setCell (p := ⟨w.heap.size + 1 + 1, 2, none⟩) (by show _ ≤ w.heap.size + 1 + 1; omega) _)⟩

set_option maxHeartbeats 4000000 in
theorem rbin_pi21z (xn xb : Int) (hxb : 1 ≤ xb) (w : World) : Calls Tryd.prog 19 #[.int .i64 21, .agg #[.int .i64 (2), .int .i64 (xn), .int .i64 (xb)], .agg #[.int .i64 (1), .int .i64 (0), .int .i64 (0)]] w (RV (binV 21 ⟨2, xn, xb⟩ ⟨1, 0, 0⟩) w) := by
  rw [show binV 21 _ _ = some (truthV false) from by simp [binV, alikeV, intB, ptrB, eqB, Iv, truthV, hxb]]
  show Calls Tryd.prog 19 _ w (fun e w' => e = .returned (.tuple #[.agg #[.int .i64 (1), .int .i64 (t2i false), .int .i64 (0)], .bool true]) ∧ Below w.heap.size w w')
  have T0 := Lib.hid (A3.start w 2 xn xb 1 0 0)
  have hE := eqVl
  have hG := guardVl
  go_enter Tryd.func19, Tryd.ntmps19
  go_wp2_with fail
  refine (rgood_is 2 xn xb true (by simp [goodB, hxb]) _).mono ?_
  rintro e w1 ⟨rfl, hb⟩
  have T1 := Lib.hid (T0.out.step hb)
  clear hb
  obtain ⟨q0, q1, q2⟩ := T1.out.boxX.cells
  obtain ⟨r0, r1, r2⟩ := T1.out.boxY.cells
  obtain ⟨s0, s1, s2⟩ := T1.out.boxR.cells
  obtain ⟨z0, z1, z2⟩ := T1.out.boxR.frozen
  go_wp2_with fail
  refine (rgood_is 1 0 0 true rfl _).mono ?_
  rintro e w2 ⟨rfl, hb⟩
  have T2 := Lib.hid (T1.out.step hb)
  clear hb q0 q1 q2 r0 r1 r2 s0 s1 s2 z0 z1 z2
  obtain ⟨q0, q1, q2⟩ := T2.out.boxX.cells
  obtain ⟨r0, r1, r2⟩ := T2.out.boxY.cells
  obtain ⟨s0, s1, s2⟩ := T2.out.boxR.cells
  obtain ⟨z0, z1, z2⟩ := T2.out.boxR.frozen
  go_wp2_with fail
  refine (bit_any false _).mono ?_
  rintro e w3 ⟨rfl, hb⟩
  have T3 := Lib.hid (T2.out.step hb)
  clear hb q0 q1 q2 r0 r1 r2 s0 s1 s2 z0 z1 z2
  obtain ⟨q0, q1, q2⟩ := T3.out.boxX.cells
  obtain ⟨r0, r1, r2⟩ := T3.out.boxY.cells
  obtain ⟨s0, s1, s2⟩ := T3.out.boxR.cells
  obtain ⟨z0, z1, z2⟩ := T3.out.boxR.frozen
  go_wp2_with fail
  exact bodyPost_ret (v := .tuple #[.agg #[.int .i64 (1), .int .i64 (t2i false), .int .i64 (0)], .bool true]) (by simp [results, Tryd.results19, go_sem, s0, s1, s2]) rfl ⟨rfl, (((T3.out.low.setCell (p := ⟨w.heap.size + 1 + 1, 0, none⟩) (by show _ ≤ w.heap.size + 1 + 1; omega) _).setCell (p := ⟨w.heap.size + 1 + 1, 1, none⟩) (by show _ ≤ w.heap.size + 1 + 1; omega) _).setCell (p := ⟨w.heap.size + 1 + 1, 2, none⟩) (by show _ ≤ w.heap.size + 1 + 1; omega) _)⟩

set_option maxHeartbeats 4000000 in
theorem rbin_pi21n (xn xb yn : Int) (hxb : 1 ≤ xb) (hz : ¬yn = 0) (w : World) : Calls Tryd.prog 19 #[.int .i64 21, .agg #[.int .i64 (2), .int .i64 (xn), .int .i64 (xb)], .agg #[.int .i64 (1), .int .i64 (yn), .int .i64 (0)]] w (RV (binV 21 ⟨2, xn, xb⟩ ⟨1, yn, 0⟩) w) := by
  have tz : (yn != 0) = true := by simpa using hz
  rw [show binV 21 _ _ = none from by simp [binV, alikeV, intB, ptrB, eqB, Iv, hxb, hz]]
  show Calls Tryd.prog 19 _ w (fun e w' => e = .returned (.tuple #[.agg #[.int .i64 (0), .int .i64 (0), .int .i64 (0)], .bool false]) ∧ Below w.heap.size w w')
  have T0 := Lib.hid (A3.start w 2 xn xb 1 yn 0)
  have hE := eqVl
  have hG := guardVl
  go_enter Tryd.func19, Tryd.ntmps19
  go_wp2_with fail
  refine (rgood_is 2 xn xb true (by simp [goodB, hxb]) _).mono ?_
  rintro e w1 ⟨rfl, hb⟩
  have T1 := Lib.hid (T0.out.step hb)
  clear hb
  obtain ⟨q0, q1, q2⟩ := T1.out.boxX.cells
  obtain ⟨r0, r1, r2⟩ := T1.out.boxY.cells
  obtain ⟨s0, s1, s2⟩ := T1.out.boxR.cells
  obtain ⟨z0, z1, z2⟩ := T1.out.boxR.frozen
  go_wp2_with fail
  refine (rgood_is 1 yn 0 true rfl _).mono ?_
  rintro e w2 ⟨rfl, hb⟩
  have T2 := Lib.hid (T1.out.step hb)
  clear hb q0 q1 q2 r0 r1 r2 s0 s1 s2 z0 z1 z2
  obtain ⟨q0, q1, q2⟩ := T2.out.boxX.cells
  obtain ⟨r0, r1, r2⟩ := T2.out.boxY.cells
  obtain ⟨s0, s1, s2⟩ := T2.out.boxR.cells
  obtain ⟨z0, z1, z2⟩ := T2.out.boxR.frozen
  go_wp2_with fail
  exact bodyPost_ret (v := .tuple #[.agg #[.int .i64 (0), .int .i64 (0), .int .i64 (0)], .bool false]) (by simp [results, Tryd.results19, go_sem, s0, s1, s2]) rfl ⟨rfl, (((T2.out.low.setCell (p := ⟨w.heap.size + 1 + 1, 0, none⟩) (by show _ ≤ w.heap.size + 1 + 1; omega) _).setCell (p := ⟨w.heap.size + 1 + 1, 1, none⟩) (by show _ ≤ w.heap.size + 1 + 1; omega) _).setCell (p := ⟨w.heap.size + 1 + 1, 2, none⟩) (by show _ ≤ w.heap.size + 1 + 1; omega) _)⟩

set_option maxHeartbeats 4000000 in
theorem rbin_ip21z (yn yb : Int) (hyb : 1 ≤ yb) (w : World) : Calls Tryd.prog 19 #[.int .i64 21, .agg #[.int .i64 (1), .int .i64 (0), .int .i64 (0)], .agg #[.int .i64 (2), .int .i64 (yn), .int .i64 (yb)]] w (RV (binV 21 ⟨1, 0, 0⟩ ⟨2, yn, yb⟩) w) := by
  rw [show binV 21 _ _ = some (truthV false) from by simp [binV, alikeV, intB, ptrB, eqB, Iv, truthV, hyb]]
  show Calls Tryd.prog 19 _ w (fun e w' => e = .returned (.tuple #[.agg #[.int .i64 (1), .int .i64 (t2i false), .int .i64 (0)], .bool true]) ∧ Below w.heap.size w w')
  have T0 := Lib.hid (A3.start w 1 0 0 2 yn yb)
  have hE := eqVl
  have hG := guardVl
  go_enter Tryd.func19, Tryd.ntmps19
  go_wp2_with fail
  refine (rgood_is 1 0 0 true rfl _).mono ?_
  rintro e w1 ⟨rfl, hb⟩
  have T1 := Lib.hid (T0.out.step hb)
  clear hb
  obtain ⟨q0, q1, q2⟩ := T1.out.boxX.cells
  obtain ⟨r0, r1, r2⟩ := T1.out.boxY.cells
  obtain ⟨s0, s1, s2⟩ := T1.out.boxR.cells
  obtain ⟨z0, z1, z2⟩ := T1.out.boxR.frozen
  go_wp2_with fail
  refine (rgood_is 2 yn yb true (by simp [goodB, hyb]) _).mono ?_
  rintro e w2 ⟨rfl, hb⟩
  have T2 := Lib.hid (T1.out.step hb)
  clear hb q0 q1 q2 r0 r1 r2 s0 s1 s2 z0 z1 z2
  obtain ⟨q0, q1, q2⟩ := T2.out.boxX.cells
  obtain ⟨r0, r1, r2⟩ := T2.out.boxY.cells
  obtain ⟨s0, s1, s2⟩ := T2.out.boxR.cells
  obtain ⟨z0, z1, z2⟩ := T2.out.boxR.frozen
  go_wp2_with fail
  refine (bit_any false _).mono ?_
  rintro e w3 ⟨rfl, hb⟩
  have T3 := Lib.hid (T2.out.step hb)
  clear hb q0 q1 q2 r0 r1 r2 s0 s1 s2 z0 z1 z2
  obtain ⟨q0, q1, q2⟩ := T3.out.boxX.cells
  obtain ⟨r0, r1, r2⟩ := T3.out.boxY.cells
  obtain ⟨s0, s1, s2⟩ := T3.out.boxR.cells
  obtain ⟨z0, z1, z2⟩ := T3.out.boxR.frozen
  go_wp2_with fail
  exact bodyPost_ret (v := .tuple #[.agg #[.int .i64 (1), .int .i64 (t2i false), .int .i64 (0)], .bool true]) (by simp [results, Tryd.results19, go_sem, s0, s1, s2]) rfl ⟨rfl, (((T3.out.low.setCell (p := ⟨w.heap.size + 1 + 1, 0, none⟩) (by show _ ≤ w.heap.size + 1 + 1; omega) _).setCell (p := ⟨w.heap.size + 1 + 1, 1, none⟩) (by show _ ≤ w.heap.size + 1 + 1; omega) _).setCell (p := ⟨w.heap.size + 1 + 1, 2, none⟩) (by show _ ≤ w.heap.size + 1 + 1; omega) _)⟩

set_option maxHeartbeats 4000000 in
theorem rbin_ip21n (xn yn yb : Int) (hyb : 1 ≤ yb) (hz : ¬xn = 0) (w : World) : Calls Tryd.prog 19 #[.int .i64 21, .agg #[.int .i64 (1), .int .i64 (xn), .int .i64 (0)], .agg #[.int .i64 (2), .int .i64 (yn), .int .i64 (yb)]] w (RV (binV 21 ⟨1, xn, 0⟩ ⟨2, yn, yb⟩) w) := by
  have tz : (xn != 0) = true := by simpa using hz
  rw [show binV 21 _ _ = none from by simp [binV, alikeV, intB, ptrB, eqB, Iv, hyb, hz]]
  show Calls Tryd.prog 19 _ w (fun e w' => e = .returned (.tuple #[.agg #[.int .i64 (0), .int .i64 (0), .int .i64 (0)], .bool false]) ∧ Below w.heap.size w w')
  have T0 := Lib.hid (A3.start w 1 xn 0 2 yn yb)
  have hE := eqVl
  have hG := guardVl
  go_enter Tryd.func19, Tryd.ntmps19
  go_wp2_with fail
  refine (rgood_is 1 xn 0 true rfl _).mono ?_
  rintro e w1 ⟨rfl, hb⟩
  have T1 := Lib.hid (T0.out.step hb)
  clear hb
  obtain ⟨q0, q1, q2⟩ := T1.out.boxX.cells
  obtain ⟨r0, r1, r2⟩ := T1.out.boxY.cells
  obtain ⟨s0, s1, s2⟩ := T1.out.boxR.cells
  obtain ⟨z0, z1, z2⟩ := T1.out.boxR.frozen
  go_wp2_with fail
  refine (rgood_is 2 yn yb true (by simp [goodB, hyb]) _).mono ?_
  rintro e w2 ⟨rfl, hb⟩
  have T2 := Lib.hid (T1.out.step hb)
  clear hb q0 q1 q2 r0 r1 r2 s0 s1 s2 z0 z1 z2
  obtain ⟨q0, q1, q2⟩ := T2.out.boxX.cells
  obtain ⟨r0, r1, r2⟩ := T2.out.boxY.cells
  obtain ⟨s0, s1, s2⟩ := T2.out.boxR.cells
  obtain ⟨z0, z1, z2⟩ := T2.out.boxR.frozen
  go_wp2_with fail
  exact bodyPost_ret (v := .tuple #[.agg #[.int .i64 (0), .int .i64 (0), .int .i64 (0)], .bool false]) (by simp [results, Tryd.results19, go_sem, s0, s1, s2]) rfl ⟨rfl, (((T2.out.low.setCell (p := ⟨w.heap.size + 1 + 1, 0, none⟩) (by show _ ≤ w.heap.size + 1 + 1; omega) _).setCell (p := ⟨w.heap.size + 1 + 1, 1, none⟩) (by show _ ≤ w.heap.size + 1 + 1; omega) _).setCell (p := ⟨w.heap.size + 1 + 1, 2, none⟩) (by show _ ≤ w.heap.size + 1 + 1; omega) _)⟩

set_option maxHeartbeats 4000000 in
theorem rbin_pp21 (xn xb yn yb : Int) (hxb : 1 ≤ xb) (hyb : 1 ≤ yb) (w : World) : Calls Tryd.prog 19 #[.int .i64 21, .agg #[.int .i64 (2), .int .i64 (xn), .int .i64 (xb)], .agg #[.int .i64 (2), .int .i64 (yn), .int .i64 (yb)]] w (RV (binV 21 ⟨2, xn, xb⟩ ⟨2, yn, yb⟩) w) := by
  rw [show binV 21 _ _ = some (truthV ((xn == yn && xb == yb))) from by simp [binV, alikeV, intB, ptrB, eqB, Iv, truthV, hxb, hyb]]
  show Calls Tryd.prog 19 _ w (fun e w' => e = .returned (.tuple #[.agg #[.int .i64 (1), .int .i64 (t2i ((xn == yn && xb == yb))), .int .i64 (0)], .bool true]) ∧ Below w.heap.size w w')
  have T0 := Lib.hid (A3.start w 2 xn xb 2 yn yb)
  have hE := eqVl
  have hG := guardVl
  go_enter Tryd.func19, Tryd.ntmps19
  go_wp2_with fail
  refine (rgood_is 2 xn xb true (by simp [goodB, hxb]) _).mono ?_
  rintro e w1 ⟨rfl, hb⟩
  have T1 := Lib.hid (T0.out.step hb)
  clear hb
  obtain ⟨q0, q1, q2⟩ := T1.out.boxX.cells
  obtain ⟨r0, r1, r2⟩ := T1.out.boxY.cells
  obtain ⟨s0, s1, s2⟩ := T1.out.boxR.cells
  obtain ⟨z0, z1, z2⟩ := T1.out.boxR.frozen
  go_wp2_with fail
  refine (rgood_is 2 yn yb true (by simp [goodB, hyb]) _).mono ?_
  rintro e w2 ⟨rfl, hb⟩
  have T2 := Lib.hid (T1.out.step hb)
  clear hb q0 q1 q2 r0 r1 r2 s0 s1 s2 z0 z1 z2
  obtain ⟨q0, q1, q2⟩ := T2.out.boxX.cells
  obtain ⟨r0, r1, r2⟩ := T2.out.boxY.cells
  obtain ⟨s0, s1, s2⟩ := T2.out.boxR.cells
  obtain ⟨z0, z1, z2⟩ := T2.out.boxR.frozen
  go_wp2_with fail
  refine (bit_any ((xn == yn && xb == yb)) _).mono ?_
  rintro e w3 ⟨rfl, hb⟩
  have T3 := Lib.hid (T2.out.step hb)
  clear hb q0 q1 q2 r0 r1 r2 s0 s1 s2 z0 z1 z2
  obtain ⟨q0, q1, q2⟩ := T3.out.boxX.cells
  obtain ⟨r0, r1, r2⟩ := T3.out.boxY.cells
  obtain ⟨s0, s1, s2⟩ := T3.out.boxR.cells
  obtain ⟨z0, z1, z2⟩ := T3.out.boxR.frozen
  go_wp2_with fail
  exact bodyPost_ret (v := .tuple #[.agg #[.int .i64 (1), .int .i64 (t2i ((xn == yn && xb == yb))), .int .i64 (0)], .bool true]) (by simp [results, Tryd.results19, go_sem, s0, s1, s2]) rfl ⟨rfl, (((T3.out.low.setCell (p := ⟨w.heap.size + 1 + 1, 0, none⟩) (by show _ ≤ w.heap.size + 1 + 1; omega) _).setCell (p := ⟨w.heap.size + 1 + 1, 1, none⟩) (by show _ ≤ w.heap.size + 1 + 1; omega) _).setCell (p := ⟨w.heap.size + 1 + 1, 2, none⟩) (by show _ ≤ w.heap.size + 1 + 1; omega) _)⟩

set_option maxHeartbeats 4000000 in
theorem rbin_pi22z (xn xb : Int) (hxb : 1 ≤ xb) (w : World) : Calls Tryd.prog 19 #[.int .i64 22, .agg #[.int .i64 (2), .int .i64 (xn), .int .i64 (xb)], .agg #[.int .i64 (1), .int .i64 (0), .int .i64 (0)]] w (RV (binV 22 ⟨2, xn, xb⟩ ⟨1, 0, 0⟩) w) := by
  rw [show binV 22 _ _ = some (truthV true) from by simp [binV, alikeV, intB, ptrB, eqB, Iv, truthV, hxb]]
  show Calls Tryd.prog 19 _ w (fun e w' => e = .returned (.tuple #[.agg #[.int .i64 (1), .int .i64 (t2i true), .int .i64 (0)], .bool true]) ∧ Below w.heap.size w w')
  have T0 := Lib.hid (A3.start w 2 xn xb 1 0 0)
  have hE := eqVl
  have hG := guardVl
  go_enter Tryd.func19, Tryd.ntmps19
  go_wp2_with fail
  refine (rgood_is 2 xn xb true (by simp [goodB, hxb]) _).mono ?_
  rintro e w1 ⟨rfl, hb⟩
  have T1 := Lib.hid (T0.out.step hb)
  clear hb
  obtain ⟨q0, q1, q2⟩ := T1.out.boxX.cells
  obtain ⟨r0, r1, r2⟩ := T1.out.boxY.cells
  obtain ⟨s0, s1, s2⟩ := T1.out.boxR.cells
  obtain ⟨z0, z1, z2⟩ := T1.out.boxR.frozen
  go_wp2_with fail
  refine (rgood_is 1 0 0 true rfl _).mono ?_
  rintro e w2 ⟨rfl, hb⟩
  have T2 := Lib.hid (T1.out.step hb)
  clear hb q0 q1 q2 r0 r1 r2 s0 s1 s2 z0 z1 z2
  obtain ⟨q0, q1, q2⟩ := T2.out.boxX.cells
  obtain ⟨r0, r1, r2⟩ := T2.out.boxY.cells
  obtain ⟨s0, s1, s2⟩ := T2.out.boxR.cells
  obtain ⟨z0, z1, z2⟩ := T2.out.boxR.frozen
  go_wp2_with fail
  refine (bit_any true _).mono ?_
  rintro e w3 ⟨rfl, hb⟩
  have T3 := Lib.hid (T2.out.step hb)
  clear hb q0 q1 q2 r0 r1 r2 s0 s1 s2 z0 z1 z2
  obtain ⟨q0, q1, q2⟩ := T3.out.boxX.cells
  obtain ⟨r0, r1, r2⟩ := T3.out.boxY.cells
  obtain ⟨s0, s1, s2⟩ := T3.out.boxR.cells
  obtain ⟨z0, z1, z2⟩ := T3.out.boxR.frozen
  go_wp2_with fail
  exact bodyPost_ret (v := .tuple #[.agg #[.int .i64 (1), .int .i64 (t2i true), .int .i64 (0)], .bool true]) (by simp [results, Tryd.results19, go_sem, s0, s1, s2]) rfl ⟨rfl, (((T3.out.low.setCell (p := ⟨w.heap.size + 1 + 1, 0, none⟩) (by show _ ≤ w.heap.size + 1 + 1; omega) _).setCell (p := ⟨w.heap.size + 1 + 1, 1, none⟩) (by show _ ≤ w.heap.size + 1 + 1; omega) _).setCell (p := ⟨w.heap.size + 1 + 1, 2, none⟩) (by show _ ≤ w.heap.size + 1 + 1; omega) _)⟩

set_option maxHeartbeats 4000000 in
theorem rbin_pi22n (xn xb yn : Int) (hxb : 1 ≤ xb) (hz : ¬yn = 0) (w : World) : Calls Tryd.prog 19 #[.int .i64 22, .agg #[.int .i64 (2), .int .i64 (xn), .int .i64 (xb)], .agg #[.int .i64 (1), .int .i64 (yn), .int .i64 (0)]] w (RV (binV 22 ⟨2, xn, xb⟩ ⟨1, yn, 0⟩) w) := by
  have tz : (yn != 0) = true := by simpa using hz
  rw [show binV 22 _ _ = none from by simp [binV, alikeV, intB, ptrB, eqB, Iv, hxb, hz]]
  show Calls Tryd.prog 19 _ w (fun e w' => e = .returned (.tuple #[.agg #[.int .i64 (0), .int .i64 (0), .int .i64 (0)], .bool false]) ∧ Below w.heap.size w w')
  have T0 := Lib.hid (A3.start w 2 xn xb 1 yn 0)
  have hE := eqVl
  have hG := guardVl
  go_enter Tryd.func19, Tryd.ntmps19
  go_wp2_with fail
  refine (rgood_is 2 xn xb true (by simp [goodB, hxb]) _).mono ?_
  rintro e w1 ⟨rfl, hb⟩
  have T1 := Lib.hid (T0.out.step hb)
  clear hb
  obtain ⟨q0, q1, q2⟩ := T1.out.boxX.cells
  obtain ⟨r0, r1, r2⟩ := T1.out.boxY.cells
  obtain ⟨s0, s1, s2⟩ := T1.out.boxR.cells
  obtain ⟨z0, z1, z2⟩ := T1.out.boxR.frozen
  go_wp2_with fail
  refine (rgood_is 1 yn 0 true rfl _).mono ?_
  rintro e w2 ⟨rfl, hb⟩
  have T2 := Lib.hid (T1.out.step hb)
  clear hb q0 q1 q2 r0 r1 r2 s0 s1 s2 z0 z1 z2
  obtain ⟨q0, q1, q2⟩ := T2.out.boxX.cells
  obtain ⟨r0, r1, r2⟩ := T2.out.boxY.cells
  obtain ⟨s0, s1, s2⟩ := T2.out.boxR.cells
  obtain ⟨z0, z1, z2⟩ := T2.out.boxR.frozen
  go_wp2_with fail
  exact bodyPost_ret (v := .tuple #[.agg #[.int .i64 (0), .int .i64 (0), .int .i64 (0)], .bool false]) (by simp [results, Tryd.results19, go_sem, s0, s1, s2]) rfl ⟨rfl, (((T2.out.low.setCell (p := ⟨w.heap.size + 1 + 1, 0, none⟩) (by show _ ≤ w.heap.size + 1 + 1; omega) _).setCell (p := ⟨w.heap.size + 1 + 1, 1, none⟩) (by show _ ≤ w.heap.size + 1 + 1; omega) _).setCell (p := ⟨w.heap.size + 1 + 1, 2, none⟩) (by show _ ≤ w.heap.size + 1 + 1; omega) _)⟩

set_option maxHeartbeats 4000000 in
theorem rbin_ip22z (yn yb : Int) (hyb : 1 ≤ yb) (w : World) : Calls Tryd.prog 19 #[.int .i64 22, .agg #[.int .i64 (1), .int .i64 (0), .int .i64 (0)], .agg #[.int .i64 (2), .int .i64 (yn), .int .i64 (yb)]] w (RV (binV 22 ⟨1, 0, 0⟩ ⟨2, yn, yb⟩) w) := by
  rw [show binV 22 _ _ = some (truthV true) from by simp [binV, alikeV, intB, ptrB, eqB, Iv, truthV, hyb]]
  show Calls Tryd.prog 19 _ w (fun e w' => e = .returned (.tuple #[.agg #[.int .i64 (1), .int .i64 (t2i true), .int .i64 (0)], .bool true]) ∧ Below w.heap.size w w')
  have T0 := Lib.hid (A3.start w 1 0 0 2 yn yb)
  have hE := eqVl
  have hG := guardVl
  go_enter Tryd.func19, Tryd.ntmps19
  go_wp2_with fail
  refine (rgood_is 1 0 0 true rfl _).mono ?_
  rintro e w1 ⟨rfl, hb⟩
  have T1 := Lib.hid (T0.out.step hb)
  clear hb
  obtain ⟨q0, q1, q2⟩ := T1.out.boxX.cells
  obtain ⟨r0, r1, r2⟩ := T1.out.boxY.cells
  obtain ⟨s0, s1, s2⟩ := T1.out.boxR.cells
  obtain ⟨z0, z1, z2⟩ := T1.out.boxR.frozen
  go_wp2_with fail
  refine (rgood_is 2 yn yb true (by simp [goodB, hyb]) _).mono ?_
  rintro e w2 ⟨rfl, hb⟩
  have T2 := Lib.hid (T1.out.step hb)
  clear hb q0 q1 q2 r0 r1 r2 s0 s1 s2 z0 z1 z2
  obtain ⟨q0, q1, q2⟩ := T2.out.boxX.cells
  obtain ⟨r0, r1, r2⟩ := T2.out.boxY.cells
  obtain ⟨s0, s1, s2⟩ := T2.out.boxR.cells
  obtain ⟨z0, z1, z2⟩ := T2.out.boxR.frozen
  go_wp2_with fail
  refine (bit_any true _).mono ?_
  rintro e w3 ⟨rfl, hb⟩
  have T3 := Lib.hid (T2.out.step hb)
  clear hb q0 q1 q2 r0 r1 r2 s0 s1 s2 z0 z1 z2
  obtain ⟨q0, q1, q2⟩ := T3.out.boxX.cells
  obtain ⟨r0, r1, r2⟩ := T3.out.boxY.cells
  obtain ⟨s0, s1, s2⟩ := T3.out.boxR.cells
  obtain ⟨z0, z1, z2⟩ := T3.out.boxR.frozen
  go_wp2_with fail
  exact bodyPost_ret (v := .tuple #[.agg #[.int .i64 (1), .int .i64 (t2i true), .int .i64 (0)], .bool true]) (by simp [results, Tryd.results19, go_sem, s0, s1, s2]) rfl ⟨rfl, (((T3.out.low.setCell (p := ⟨w.heap.size + 1 + 1, 0, none⟩) (by show _ ≤ w.heap.size + 1 + 1; omega) _).setCell (p := ⟨w.heap.size + 1 + 1, 1, none⟩) (by show _ ≤ w.heap.size + 1 + 1; omega) _).setCell (p := ⟨w.heap.size + 1 + 1, 2, none⟩) (by show _ ≤ w.heap.size + 1 + 1; omega) _)⟩

set_option maxHeartbeats 4000000 in
theorem rbin_ip22n (xn yn yb : Int) (hyb : 1 ≤ yb) (hz : ¬xn = 0) (w : World) : Calls Tryd.prog 19 #[.int .i64 22, .agg #[.int .i64 (1), .int .i64 (xn), .int .i64 (0)], .agg #[.int .i64 (2), .int .i64 (yn), .int .i64 (yb)]] w (RV (binV 22 ⟨1, xn, 0⟩ ⟨2, yn, yb⟩) w) := by
  have tz : (xn != 0) = true := by simpa using hz
  rw [show binV 22 _ _ = none from by simp [binV, alikeV, intB, ptrB, eqB, Iv, hyb, hz]]
  show Calls Tryd.prog 19 _ w (fun e w' => e = .returned (.tuple #[.agg #[.int .i64 (0), .int .i64 (0), .int .i64 (0)], .bool false]) ∧ Below w.heap.size w w')
  have T0 := Lib.hid (A3.start w 1 xn 0 2 yn yb)
  have hE := eqVl
  have hG := guardVl
  go_enter Tryd.func19, Tryd.ntmps19
  go_wp2_with fail
  refine (rgood_is 1 xn 0 true rfl _).mono ?_
  rintro e w1 ⟨rfl, hb⟩
  have T1 := Lib.hid (T0.out.step hb)
  clear hb
  obtain ⟨q0, q1, q2⟩ := T1.out.boxX.cells
  obtain ⟨r0, r1, r2⟩ := T1.out.boxY.cells
  obtain ⟨s0, s1, s2⟩ := T1.out.boxR.cells
  obtain ⟨z0, z1, z2⟩ := T1.out.boxR.frozen
  go_wp2_with fail
  refine (rgood_is 2 yn yb true (by simp [goodB, hyb]) _).mono ?_
  rintro e w2 ⟨rfl, hb⟩
  have T2 := Lib.hid (T1.out.step hb)
  clear hb q0 q1 q2 r0 r1 r2 s0 s1 s2 z0 z1 z2
  obtain ⟨q0, q1, q2⟩ := T2.out.boxX.cells
  obtain ⟨r0, r1, r2⟩ := T2.out.boxY.cells
  obtain ⟨s0, s1, s2⟩ := T2.out.boxR.cells
  obtain ⟨z0, z1, z2⟩ := T2.out.boxR.frozen
  go_wp2_with fail
  exact bodyPost_ret (v := .tuple #[.agg #[.int .i64 (0), .int .i64 (0), .int .i64 (0)], .bool false]) (by simp [results, Tryd.results19, go_sem, s0, s1, s2]) rfl ⟨rfl, (((T2.out.low.setCell (p := ⟨w.heap.size + 1 + 1, 0, none⟩) (by show _ ≤ w.heap.size + 1 + 1; omega) _).setCell (p := ⟨w.heap.size + 1 + 1, 1, none⟩) (by show _ ≤ w.heap.size + 1 + 1; omega) _).setCell (p := ⟨w.heap.size + 1 + 1, 2, none⟩) (by show _ ≤ w.heap.size + 1 + 1; omega) _)⟩

set_option maxHeartbeats 4000000 in
theorem rbin_pp22 (xn xb yn yb : Int) (hxb : 1 ≤ xb) (hyb : 1 ≤ yb) (w : World) : Calls Tryd.prog 19 #[.int .i64 22, .agg #[.int .i64 (2), .int .i64 (xn), .int .i64 (xb)], .agg #[.int .i64 (2), .int .i64 (yn), .int .i64 (yb)]] w (RV (binV 22 ⟨2, xn, xb⟩ ⟨2, yn, yb⟩) w) := by
  rw [show binV 22 _ _ = some (truthV (!(xn == yn) || !(xb == yb))) from by simp [binV, alikeV, intB, ptrB, eqB, Iv, truthV, hxb, hyb]]
  show Calls Tryd.prog 19 _ w (fun e w' => e = .returned (.tuple #[.agg #[.int .i64 (1), .int .i64 (t2i (!(xn == yn) || !(xb == yb))), .int .i64 (0)], .bool true]) ∧ Below w.heap.size w w')
  have T0 := Lib.hid (A3.start w 2 xn xb 2 yn yb)
  have hE := eqVl
  have hG := guardVl
  go_enter Tryd.func19, Tryd.ntmps19
  go_wp2_with fail
  refine (rgood_is 2 xn xb true (by simp [goodB, hxb]) _).mono ?_
  rintro e w1 ⟨rfl, hb⟩
  have T1 := Lib.hid (T0.out.step hb)
  clear hb
  obtain ⟨q0, q1, q2⟩ := T1.out.boxX.cells
  obtain ⟨r0, r1, r2⟩ := T1.out.boxY.cells
  obtain ⟨s0, s1, s2⟩ := T1.out.boxR.cells
  obtain ⟨z0, z1, z2⟩ := T1.out.boxR.frozen
  go_wp2_with fail
  refine (rgood_is 2 yn yb true (by simp [goodB, hyb]) _).mono ?_
  rintro e w2 ⟨rfl, hb⟩
  have T2 := Lib.hid (T1.out.step hb)
  clear hb q0 q1 q2 r0 r1 r2 s0 s1 s2 z0 z1 z2
  obtain ⟨q0, q1, q2⟩ := T2.out.boxX.cells
  obtain ⟨r0, r1, r2⟩ := T2.out.boxY.cells
  obtain ⟨s0, s1, s2⟩ := T2.out.boxR.cells
  obtain ⟨z0, z1, z2⟩ := T2.out.boxR.frozen
  go_wp2_with fail
  refine (bit_any (!(xn == yn) || !(xb == yb)) _).mono ?_
  rintro e w3 ⟨rfl, hb⟩
  have T3 := Lib.hid (T2.out.step hb)
  clear hb q0 q1 q2 r0 r1 r2 s0 s1 s2 z0 z1 z2
  obtain ⟨q0, q1, q2⟩ := T3.out.boxX.cells
  obtain ⟨r0, r1, r2⟩ := T3.out.boxY.cells
  obtain ⟨s0, s1, s2⟩ := T3.out.boxR.cells
  obtain ⟨z0, z1, z2⟩ := T3.out.boxR.frozen
  go_wp2_with fail
  exact bodyPost_ret (v := .tuple #[.agg #[.int .i64 (1), .int .i64 (t2i (!(xn == yn) || !(xb == yb))), .int .i64 (0)], .bool true]) (by simp [results, Tryd.results19, go_sem, s0, s1, s2]) rfl ⟨rfl, (((T3.out.low.setCell (p := ⟨w.heap.size + 1 + 1, 0, none⟩) (by show _ ≤ w.heap.size + 1 + 1; omega) _).setCell (p := ⟨w.heap.size + 1 + 1, 1, none⟩) (by show _ ≤ w.heap.size + 1 + 1; omega) _).setCell (p := ⟨w.heap.size + 1 + 1, 2, none⟩) (by show _ ≤ w.heap.size + 1 + 1; omega) _)⟩

set_option maxHeartbeats 4000000 in
theorem rbin_pi0 (op xn xb yn : Int) (hxb : 1 ≤ xb) (h11 : ¬op = 11) (h12 : ¬op = 12) (h21 : ¬op = 21) (h22 : ¬op = 22) (w : World) : Calls Tryd.prog 19 #[.int .i64 op, .agg #[.int .i64 (2), .int .i64 (xn), .int .i64 (xb)], .agg #[.int .i64 (1), .int .i64 (yn), .int .i64 (0)]] w (RV (binV op ⟨2, xn, xb⟩ ⟨1, yn, 0⟩) w) := by
  have t11 : (op == 11) = false := by simpa using h11
  have t12 : (op == 12) = false := by simpa using h12
  have t21 : (op == 21) = false := by simpa using h21
  have t22 : (op == 22) = false := by simpa using h22
  have n21 : (op != 21) = true := by simpa using h21
  have n22 : (op != 22) = true := by simpa using h22
  rw [show binV op _ _ = none from by simp [binV, intB, ptrB, h11, h12, h21, h22, hxb]]
  show Calls Tryd.prog 19 _ w (fun e w' => e = .returned (.tuple #[.agg #[.int .i64 (0), .int .i64 (0), .int .i64 (0)], .bool false]) ∧ Below w.heap.size w w')
  clear h11 h12 h21 h22
  have T0 := Lib.hid (A3.start w 2 xn xb 1 yn 0)
  have hE := eqVl
  have hG := guardVl
  go_enter Tryd.func19, Tryd.ntmps19
  go_wp2_with fail
  refine (rgood_is 2 xn xb true (by simp [goodB, hxb]) _).mono ?_
  rintro e w1 ⟨rfl, hb⟩
  have T1 := Lib.hid (T0.out.step hb)
  clear hb
  obtain ⟨q0, q1, q2⟩ := T1.out.boxX.cells
  obtain ⟨r0, r1, r2⟩ := T1.out.boxY.cells
  obtain ⟨s0, s1, s2⟩ := T1.out.boxR.cells
  obtain ⟨z0, z1, z2⟩ := T1.out.boxR.frozen
  go_wp2_with fail
  refine (rgood_is 1 yn 0 true rfl _).mono ?_
  rintro e w2 ⟨rfl, hb⟩
  have T2 := Lib.hid (T1.out.step hb)
  clear hb q0 q1 q2 r0 r1 r2 s0 s1 s2 z0 z1 z2
  obtain ⟨q0, q1, q2⟩ := T2.out.boxX.cells
  obtain ⟨r0, r1, r2⟩ := T2.out.boxY.cells
  obtain ⟨s0, s1, s2⟩ := T2.out.boxR.cells
  obtain ⟨z0, z1, z2⟩ := T2.out.boxR.frozen
  go_wp2_with fail
  exact bodyPost_ret (v := .tuple #[.agg #[.int .i64 (0), .int .i64 (0), .int .i64 (0)], .bool false]) (by simp [results, Tryd.results19, go_sem, s0, s1, s2]) rfl ⟨rfl, (((T2.out.low.setCell (p := ⟨w.heap.size + 1 + 1, 0, none⟩) (by show _ ≤ w.heap.size + 1 + 1; omega) _).setCell (p := ⟨w.heap.size + 1 + 1, 1, none⟩) (by show _ ≤ w.heap.size + 1 + 1; omega) _).setCell (p := ⟨w.heap.size + 1 + 1, 2, none⟩) (by show _ ≤ w.heap.size + 1 + 1; omega) _)⟩

set_option maxHeartbeats 4000000 in
theorem rbin_ip0 (op xn yn yb : Int) (hyb : 1 ≤ yb) (h11 : ¬op = 11) (h12 : ¬op = 12) (h21 : ¬op = 21) (h22 : ¬op = 22) (w : World) : Calls Tryd.prog 19 #[.int .i64 op, .agg #[.int .i64 (1), .int .i64 (xn), .int .i64 (0)], .agg #[.int .i64 (2), .int .i64 (yn), .int .i64 (yb)]] w (RV (binV op ⟨1, xn, 0⟩ ⟨2, yn, yb⟩) w) := by
  have t11 : (op == 11) = false := by simpa using h11
  have t12 : (op == 12) = false := by simpa using h12
  have t21 : (op == 21) = false := by simpa using h21
  have t22 : (op == 22) = false := by simpa using h22
  have n21 : (op != 21) = true := by simpa using h21
  have n22 : (op != 22) = true := by simpa using h22
  rw [show binV op _ _ = none from by simp [binV, intB, ptrB, h11, h12, h21, h22, hyb]]
  show Calls Tryd.prog 19 _ w (fun e w' => e = .returned (.tuple #[.agg #[.int .i64 (0), .int .i64 (0), .int .i64 (0)], .bool false]) ∧ Below w.heap.size w w')
  clear h11 h12 h21 h22
  have T0 := Lib.hid (A3.start w 1 xn 0 2 yn yb)
  have hE := eqVl
  have hG := guardVl
  go_enter Tryd.func19, Tryd.ntmps19
  go_wp2_with fail
  refine (rgood_is 1 xn 0 true rfl _).mono ?_
  rintro e w1 ⟨rfl, hb⟩
  have T1 := Lib.hid (T0.out.step hb)
  clear hb
  obtain ⟨q0, q1, q2⟩ := T1.out.boxX.cells
  obtain ⟨r0, r1, r2⟩ := T1.out.boxY.cells
  obtain ⟨s0, s1, s2⟩ := T1.out.boxR.cells
  obtain ⟨z0, z1, z2⟩ := T1.out.boxR.frozen
  go_wp2_with fail
  refine (rgood_is 2 yn yb true (by simp [goodB, hyb]) _).mono ?_
  rintro e w2 ⟨rfl, hb⟩
  have T2 := Lib.hid (T1.out.step hb)
  clear hb q0 q1 q2 r0 r1 r2 s0 s1 s2 z0 z1 z2
  obtain ⟨q0, q1, q2⟩ := T2.out.boxX.cells
  obtain ⟨r0, r1, r2⟩ := T2.out.boxY.cells
  obtain ⟨s0, s1, s2⟩ := T2.out.boxR.cells
  obtain ⟨z0, z1, z2⟩ := T2.out.boxR.frozen
  go_wp2_with fail
  exact bodyPost_ret (v := .tuple #[.agg #[.int .i64 (0), .int .i64 (0), .int .i64 (0)], .bool false]) (by simp [results, Tryd.results19, go_sem, s0, s1, s2]) rfl ⟨rfl, (((T2.out.low.setCell (p := ⟨w.heap.size + 1 + 1, 0, none⟩) (by show _ ≤ w.heap.size + 1 + 1; omega) _).setCell (p := ⟨w.heap.size + 1 + 1, 1, none⟩) (by show _ ≤ w.heap.size + 1 + 1; omega) _).setCell (p := ⟨w.heap.size + 1 + 1, 2, none⟩) (by show _ ≤ w.heap.size + 1 + 1; omega) _)⟩

set_option maxHeartbeats 4000000 in
theorem rbin_pp11 (xn xb yn yb : Int) (hxb : 1 ≤ xb) (hyb : 1 ≤ yb) (w : World) : Calls Tryd.prog 19 #[.int .i64 11, .agg #[.int .i64 (2), .int .i64 (xn), .int .i64 (xb)], .agg #[.int .i64 (2), .int .i64 (yn), .int .i64 (yb)]] w (RV (binV 11 ⟨2, xn, xb⟩ ⟨2, yn, yb⟩) w) := by
  rw [show binV 11 _ _ = none from by simp [binV, intB, ptrB, hxb, hyb]]
  show Calls Tryd.prog 19 _ w (fun e w' => e = .returned (.tuple #[.agg #[.int .i64 (0), .int .i64 (0), .int .i64 (0)], .bool false]) ∧ Below w.heap.size w w')
  have T0 := Lib.hid (A3.start w 2 xn xb 2 yn yb)
  have hE := eqVl
  have hG := guardVl
  go_enter Tryd.func19, Tryd.ntmps19
  go_wp2_with fail
  refine (rgood_is 2 xn xb true (by simp [goodB, hxb]) _).mono ?_
  rintro e w1 ⟨rfl, hb⟩
  have T1 := Lib.hid (T0.out.step hb)
  clear hb
  obtain ⟨q0, q1, q2⟩ := T1.out.boxX.cells
  obtain ⟨r0, r1, r2⟩ := T1.out.boxY.cells
  obtain ⟨s0, s1, s2⟩ := T1.out.boxR.cells
  obtain ⟨z0, z1, z2⟩ := T1.out.boxR.frozen
  go_wp2_with fail
  refine (rgood_is 2 yn yb true (by simp [goodB, hyb]) _).mono ?_
  rintro e w2 ⟨rfl, hb⟩
  have T2 := Lib.hid (T1.out.step hb)
  clear hb q0 q1 q2 r0 r1 r2 s0 s1 s2 z0 z1 z2
  obtain ⟨q0, q1, q2⟩ := T2.out.boxX.cells
  obtain ⟨r0, r1, r2⟩ := T2.out.boxY.cells
  obtain ⟨s0, s1, s2⟩ := T2.out.boxR.cells
  obtain ⟨z0, z1, z2⟩ := T2.out.boxR.frozen
  go_wp2_with fail
  exact bodyPost_ret (v := .tuple #[.agg #[.int .i64 (0), .int .i64 (0), .int .i64 (0)], .bool false]) (by simp [results, Tryd.results19, go_sem, s0, s1, s2]) rfl ⟨rfl, (((T2.out.low.setCell (p := ⟨w.heap.size + 1 + 1, 0, none⟩) (by show _ ≤ w.heap.size + 1 + 1; omega) _).setCell (p := ⟨w.heap.size + 1 + 1, 1, none⟩) (by show _ ≤ w.heap.size + 1 + 1; omega) _).setCell (p := ⟨w.heap.size + 1 + 1, 2, none⟩) (by show _ ≤ w.heap.size + 1 + 1; omega) _)⟩

set_option maxHeartbeats 4000000 in
theorem rbin_pp12 (xn xb yn yb : Int) (hxb : 1 ≤ xb) (hyb : 1 ≤ yb) (w : World) : Calls Tryd.prog 19 #[.int .i64 12, .agg #[.int .i64 (2), .int .i64 (xn), .int .i64 (xb)], .agg #[.int .i64 (2), .int .i64 (yn), .int .i64 (yb)]] w (RV (binV 12 ⟨2, xn, xb⟩ ⟨2, yn, yb⟩) w) := by
  rw [show binV 12 _ _ = none from by simp [binV, intB, ptrB, hxb, hyb]]
  show Calls Tryd.prog 19 _ w (fun e w' => e = .returned (.tuple #[.agg #[.int .i64 (0), .int .i64 (0), .int .i64 (0)], .bool false]) ∧ Below w.heap.size w w')
  have T0 := Lib.hid (A3.start w 2 xn xb 2 yn yb)
  have hE := eqVl
  have hG := guardVl
  go_enter Tryd.func19, Tryd.ntmps19
  go_wp2_with fail
  refine (rgood_is 2 xn xb true (by simp [goodB, hxb]) _).mono ?_
  rintro e w1 ⟨rfl, hb⟩
  have T1 := Lib.hid (T0.out.step hb)
  clear hb
  obtain ⟨q0, q1, q2⟩ := T1.out.boxX.cells
  obtain ⟨r0, r1, r2⟩ := T1.out.boxY.cells
  obtain ⟨s0, s1, s2⟩ := T1.out.boxR.cells
  obtain ⟨z0, z1, z2⟩ := T1.out.boxR.frozen
  go_wp2_with fail
  refine (rgood_is 2 yn yb true (by simp [goodB, hyb]) _).mono ?_
  rintro e w2 ⟨rfl, hb⟩
  have T2 := Lib.hid (T1.out.step hb)
  clear hb q0 q1 q2 r0 r1 r2 s0 s1 s2 z0 z1 z2
  obtain ⟨q0, q1, q2⟩ := T2.out.boxX.cells
  obtain ⟨r0, r1, r2⟩ := T2.out.boxY.cells
  obtain ⟨s0, s1, s2⟩ := T2.out.boxR.cells
  obtain ⟨z0, z1, z2⟩ := T2.out.boxR.frozen
  go_wp2_with fail
  exact bodyPost_ret (v := .tuple #[.agg #[.int .i64 (0), .int .i64 (0), .int .i64 (0)], .bool false]) (by simp [results, Tryd.results19, go_sem, s0, s1, s2]) rfl ⟨rfl, (((T2.out.low.setCell (p := ⟨w.heap.size + 1 + 1, 0, none⟩) (by show _ ≤ w.heap.size + 1 + 1; omega) _).setCell (p := ⟨w.heap.size + 1 + 1, 1, none⟩) (by show _ ≤ w.heap.size + 1 + 1; omega) _).setCell (p := ⟨w.heap.size + 1 + 1, 2, none⟩) (by show _ ≤ w.heap.size + 1 + 1; omega) _)⟩

set_option maxHeartbeats 4000000 in
theorem rbin_ip12 (xn yn yb : Int) (hyb : 1 ≤ yb) (w : World) : Calls Tryd.prog 19 #[.int .i64 12, .agg #[.int .i64 (1), .int .i64 (xn), .int .i64 (0)], .agg #[.int .i64 (2), .int .i64 (yn), .int .i64 (yb)]] w (RV (binV 12 ⟨1, xn, 0⟩ ⟨2, yn, yb⟩) w) := by
  rw [show binV 12 _ _ = none from by simp [binV, intB, ptrB, hyb]]
  show Calls Tryd.prog 19 _ w (fun e w' => e = .returned (.tuple #[.agg #[.int .i64 (0), .int .i64 (0), .int .i64 (0)], .bool false]) ∧ Below w.heap.size w w')
  have T0 := Lib.hid (A3.start w 1 xn 0 2 yn yb)
  have hE := eqVl
  have hG := guardVl
  go_enter Tryd.func19, Tryd.ntmps19
  go_wp2_with fail
  refine (rgood_is 1 xn 0 true rfl _).mono ?_
  rintro e w1 ⟨rfl, hb⟩
  have T1 := Lib.hid (T0.out.step hb)
  clear hb
  obtain ⟨q0, q1, q2⟩ := T1.out.boxX.cells
  obtain ⟨r0, r1, r2⟩ := T1.out.boxY.cells
  obtain ⟨s0, s1, s2⟩ := T1.out.boxR.cells
  obtain ⟨z0, z1, z2⟩ := T1.out.boxR.frozen
  go_wp2_with fail
  refine (rgood_is 2 yn yb true (by simp [goodB, hyb]) _).mono ?_
  rintro e w2 ⟨rfl, hb⟩
  have T2 := Lib.hid (T1.out.step hb)
  clear hb q0 q1 q2 r0 r1 r2 s0 s1 s2 z0 z1 z2
  obtain ⟨q0, q1, q2⟩ := T2.out.boxX.cells
  obtain ⟨r0, r1, r2⟩ := T2.out.boxY.cells
  obtain ⟨s0, s1, s2⟩ := T2.out.boxR.cells
  obtain ⟨z0, z1, z2⟩ := T2.out.boxR.frozen
  go_wp2_with fail
  exact bodyPost_ret (v := .tuple #[.agg #[.int .i64 (0), .int .i64 (0), .int .i64 (0)], .bool false]) (by simp [results, Tryd.results19, go_sem, s0, s1, s2]) rfl ⟨rfl, (((T2.out.low.setCell (p := ⟨w.heap.size + 1 + 1, 0, none⟩) (by show _ ≤ w.heap.size + 1 + 1; omega) _).setCell (p := ⟨w.heap.size + 1 + 1, 1, none⟩) (by show _ ≤ w.heap.size + 1 + 1; omega) _).setCell (p := ⟨w.heap.size + 1 + 1, 2, none⟩) (by show _ ≤ w.heap.size + 1 + 1; omega) _)⟩

set_option maxHeartbeats 4000000 in
theorem rbin_pp0 (op xn xb yn yb : Int) (hxb : 1 ≤ xb) (hyb : 1 ≤ yb) (h11 : ¬op = 11) (h12 : ¬op = 12) (h21 : ¬op = 21) (h22 : ¬op = 22) (w : World) : Calls Tryd.prog 19 #[.int .i64 op, .agg #[.int .i64 (2), .int .i64 (xn), .int .i64 (xb)], .agg #[.int .i64 (2), .int .i64 (yn), .int .i64 (yb)]] w (RV (binV op ⟨2, xn, xb⟩ ⟨2, yn, yb⟩) w) := by
  have t11 : (op == 11) = false := by simpa using h11
  have t12 : (op == 12) = false := by simpa using h12
  have t21 : (op == 21) = false := by simpa using h21
  have t22 : (op == 22) = false := by simpa using h22
  have n21 : (op != 21) = true := by simpa using h21
  have n22 : (op != 22) = true := by simpa using h22
  rw [show binV op _ _ = none from by simp [binV, intB, ptrB, h11, h12, h21, h22]]
  show Calls Tryd.prog 19 _ w (fun e w' => e = .returned (.tuple #[.agg #[.int .i64 (0), .int .i64 (0), .int .i64 (0)], .bool false]) ∧ Below w.heap.size w w')
  clear h11 h12 h21 h22
  have T0 := Lib.hid (A3.start w 2 xn xb 2 yn yb)
  have hE := eqVl
  have hG := guardVl
  go_enter Tryd.func19, Tryd.ntmps19
  go_wp2_with fail
  refine (rgood_is 2 xn xb true (by simp [goodB, hxb]) _).mono ?_
  rintro e w1 ⟨rfl, hb⟩
  have T1 := Lib.hid (T0.out.step hb)
  clear hb
  obtain ⟨q0, q1, q2⟩ := T1.out.boxX.cells
  obtain ⟨r0, r1, r2⟩ := T1.out.boxY.cells
  obtain ⟨s0, s1, s2⟩ := T1.out.boxR.cells
  obtain ⟨z0, z1, z2⟩ := T1.out.boxR.frozen
  go_wp2_with fail
  refine (rgood_is 2 yn yb true (by simp [goodB, hyb]) _).mono ?_
  rintro e w2 ⟨rfl, hb⟩
  have T2 := Lib.hid (T1.out.step hb)
  clear hb q0 q1 q2 r0 r1 r2 s0 s1 s2 z0 z1 z2
  obtain ⟨q0, q1, q2⟩ := T2.out.boxX.cells
  obtain ⟨r0, r1, r2⟩ := T2.out.boxY.cells
  obtain ⟨s0, s1, s2⟩ := T2.out.boxR.cells
  obtain ⟨z0, z1, z2⟩ := T2.out.boxR.frozen
  go_wp2_with fail
  exact bodyPost_ret (v := .tuple #[.agg #[.int .i64 (0), .int .i64 (0), .int .i64 (0)], .bool false]) (by simp [results, Tryd.results19, go_sem, s0, s1, s2]) rfl ⟨rfl, (((T2.out.low.setCell (p := ⟨w.heap.size + 1 + 1, 0, none⟩) (by show _ ≤ w.heap.size + 1 + 1; omega) _).setCell (p := ⟨w.heap.size + 1 + 1, 1, none⟩) (by show _ ≤ w.heap.size + 1 + 1; omega) _).setCell (p := ⟨w.heap.size + 1 + 1, 2, none⟩) (by show _ ≤ w.heap.size + 1 + 1; omega) _)⟩

theorem rbin_any (op xk xn xb yk yn yb : Int) (fx : Fits xn) (fy : Fits yn) (w : World) : Calls Tryd.prog 19 #[.int .i64 op, .agg #[.int .i64 (xk), .int .i64 (xn), .int .i64 (xb)], .agg #[.int .i64 (yk), .int .i64 (yn), .int .i64 (yb)]] w (RV (binV op ⟨xk, xn, xb⟩ ⟨yk, yn, yb⟩) w) := by
  cases hgx : goodB ⟨xk, xn, xb⟩
  · exact rbin_bx op _ _ _ _ _ _ hgx w
  cases hgy : goodB ⟨yk, yn, yb⟩
  · exact rbin_by op _ _ _ _ _ _ hgx hgy w
  by_cases hx : xk = 0
  · subst hx; exact rbin_ux op _ _ _ _ _ hgx hgy w
  by_cases hy : yk = 0
  · subst hy; exact rbin_uy op _ _ _ _ _ hgx hgy hx w
  have hx' := kinds hgx hx
  have hy' := kinds hgy hy
  simp only at hx' hy'
  rcases hx' with ⟨rfl, rfl⟩ | ⟨rfl, hxb⟩ <;> rcases hy' with ⟨rfl, rfl⟩ | ⟨rfl, hyb⟩
  · exact rbin_ii op xn yn fx fy w
  · by_cases h11 : op = 11
    · subst h11; exact rbin_ip11 xn yn yb fx fy hyb w
    by_cases h12 : op = 12
    · subst h12; exact rbin_ip12 xn yn yb hyb w
    by_cases h21 : op = 21
    · subst h21
      by_cases hz : xn = 0
      · subst hz; exact rbin_ip21z yn yb hyb w
      · exact rbin_ip21n xn yn yb hyb hz w
    by_cases h22 : op = 22
    · subst h22
      by_cases hz : xn = 0
      · subst hz; exact rbin_ip22z yn yb hyb w
      · exact rbin_ip22n xn yn yb hyb hz w
    exact rbin_ip0 op xn yn yb hyb h11 h12 h21 h22 w
  · by_cases h11 : op = 11
    · subst h11; exact rbin_pi11 xn xb yn fx fy hxb w
    by_cases h12 : op = 12
    · subst h12; exact rbin_pi12 xn xb yn fx fy hxb w
    by_cases h21 : op = 21
    · subst h21
      by_cases hz : yn = 0
      · subst hz; exact rbin_pi21z xn xb hxb w
      · exact rbin_pi21n xn xb yn hxb hz w
    by_cases h22 : op = 22
    · subst h22
      by_cases hz : yn = 0
      · subst hz; exact rbin_pi22z xn xb hxb w
      · exact rbin_pi22n xn xb yn hxb hz w
    exact rbin_pi0 op xn xb yn hxb h11 h12 h21 h22 w
  · by_cases h11 : op = 11
    · subst h11; exact rbin_pp11 xn xb yn yb hxb hyb w
    by_cases h12 : op = 12
    · subst h12; exact rbin_pp12 xn xb yn yb hxb hyb w
    by_cases h21 : op = 21
    · subst h21; exact rbin_pp21 xn xb yn yb hxb hyb w
    by_cases h22 : op = 22
    · subst h22; exact rbin_pp22 xn xb yn yb hxb hyb w
    exact rbin_pp0 op xn xb yn yb hxb hyb h11 h12 h21 h22 w
end Go.Proofs.YtipeehmbloneoaaDoor

