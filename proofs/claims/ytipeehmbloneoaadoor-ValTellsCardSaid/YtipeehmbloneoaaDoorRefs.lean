/-
  The reference's Ext, Un, True, Flip, Swap: they answer what val's do, for every value and operation.
-/
import Derived.Test.YtipeehmbloneoaaDoorBag
import Derived.Test.YtipeehmbloneoaaDoorRints
namespace Go.Proofs.YtipeehmbloneoaaDoor
open Go.RowKit Go.Sort

theorem ext8_any (n : Int) (w : World) : Calls Tryd.prog 36 #[.int .i64 n, .int .u64 8] w (fun e w' => e = .returned (.int .i64 (wrap64 (IntKind.i8.wrap n))) ∧ w = w') := by
  have hm : bits .and .i64 n 255 = n % 256 := and_low n 8 (by omega)
  have hi : wrap64 (IntKind.i8.wrap n) = if 128 ≤ n % 256 then n % 256 - 256 else n % 256 := by
    simp [IntKind.wrap, IntKind.bits, IntKind.signed]
    unfold wrap64; split <;> omega
  have h0 : 0 ≤ n % 256 := by omega
  have h1 : n % 256 < 256 := by omega
  rw [hi]
  clear hi
  generalize n % 256 = m at hm h0 h1 ⊢
  by_cases h : 128 ≤ m
  · rw [if_pos h]
    go_enter Tryd.func36, Tryd.ntmps36
    go_wp2
    all_goals (first | (exfalso; omega) | (go_ret; exact ⟨rfl, rfl⟩))
  · rw [if_neg h]
    go_enter Tryd.func36, Tryd.ntmps36
    go_wp2
    all_goals (first | (exfalso; omega) | (go_ret; exact ⟨rfl, rfl⟩))
theorem ext32_any (n : Int) (w : World) : Calls Tryd.prog 36 #[.int .i64 n, .int .u64 32] w (fun e w' => e = .returned (.int .i64 (wrap64 (wrap32 n))) ∧ w = w') := by
  have hm : bits .and .i64 n 4294967295 = n % 4294967296 := and_low n 32 (by omega)
  have hi : wrap64 (wrap32 n) = if 2147483648 ≤ n % 4294967296 then n % 4294967296 - 4294967296 else n % 4294967296 := by
    unfold wrap64 wrap32; split <;> omega
  have h0 : 0 ≤ n % 4294967296 := by omega
  have h1 : n % 4294967296 < 4294967296 := by omega
  rw [hi]
  clear hi
  generalize n % 4294967296 = m at hm h0 h1 ⊢
  by_cases h : 2147483648 ≤ m
  · rw [if_pos h]
    go_enter Tryd.func36, Tryd.ntmps36
    go_wp2
    all_goals (first | (exfalso; omega) | (go_ret; exact ⟨rfl, rfl⟩))
  · rw [if_neg h]
    go_enter Tryd.func36, Tryd.ntmps36
    go_wp2
    all_goals (first | (exfalso; omega) | (go_ret; exact ⟨rfl, rfl⟩))
theorem not_V (n : Int) (h : Fits n) : bits .xor .i64 (-1) n = -1 - n := by
  have e : V (-1) = BitVec.allOnes 64 := by rfl
  have h2 := toInt_V n h
  rw [BitVec.toInt_eq_toNat_bmod] at h2
  rw [xor_V, e, BitVec.allOnes_xor, BitVec.toInt_not]
  unfold Fits at h
  simp at h2 ⊢
  rw [← wrap64_bmod] at h2 ⊢
  unfold wrap64 at *
  omega
theorem not_neg (n : Int) (h : Fits n) : wrap64 (bits .xor .i64 (-1) n + 1) = wrap64 (-n) := by
  rw [not_V n h]
  congr 1
  omega
theorem not_less (n : Int) (h : Fits n) : wrap64 (-1 - n) = bits .xor .i64 (-1) n := by
  rw [not_V n h]
  unfold Fits at h
  exact wrap_fits ⟨by omega, by omega⟩

set_option maxHeartbeats 4000000 in
theorem rgood_is (k n b : Int) (t : Bool) (h : goodB ⟨k, n, b⟩ = t) (w : World) : Calls Tryd.prog 26 #[.agg #[.int .i64 k, .int .i64 n, .int .i64 b]] w (BB t w) := by
  subst h; exact rgood_any k n b w
theorem run_any (op k n b : Int) (fn : Fits n) (w : World) : Calls Tryd.prog 18 #[.int .i64 op, .agg #[.int .i64 (k), .int .i64 (n), .int .i64 (b)]] w (RV (unV op ⟨k, n, b⟩) w) := by
  have T0 := Lib.hid (A2.start w k n b)
  have FN := Lib.hid fn
  clear fn
  cases hg : goodB ⟨k, n, b⟩
  · have e : unV op ⟨k, n, b⟩ = none := by
      have : intB ⟨k, n, b⟩ = false := by
        cases h : intB ⟨k, n, b⟩
        · rfl
        · simp [intB] at h
          simp [goodB, h.1, h.2] at hg
      simp [unV, this]
    rw [e]
    clear e
    show Calls Tryd.prog 18 _ w (fun e w' => e = .returned (.tuple #[.agg #[.int .i64 (0), .int .i64 (0), .int .i64 (0)], .bool false]) ∧ Below w.heap.size w w')
    go_enter Tryd.func18, Tryd.ntmps18
    go_wp2_with fail
    refine (rgood_is k n b false hg _).mono ?_
    rintro e w1 ⟨rfl, hb⟩
    have T1 := Lib.hid (T0.out.step hb)
    clear hb
    obtain ⟨q0, q1, q2⟩ := T1.out.boxX.cells
    obtain ⟨s0, s1, s2⟩ := T1.out.boxR.cells
    obtain ⟨z0, z1, z2⟩ := T1.out.boxR.frozen
    go_wp2_with fail
    exact bodyPost_ret (v := .tuple #[.agg #[.int .i64 (0), .int .i64 (0), .int .i64 (0)], .bool false]) (by simp [results, Tryd.results18, go_sem, s0, s1, s2]) rfl ⟨rfl, (((T1.out.low.setCell (p := ⟨w.heap.size + 1, 0, none⟩) (by show _ ≤ w.heap.size + 1; omega) _).setCell (p := ⟨w.heap.size + 1, 1, none⟩) (by show _ ≤ w.heap.size + 1; omega) _).setCell (p := ⟨w.heap.size + 1, 2, none⟩) (by show _ ≤ w.heap.size + 1; omega) _)⟩
  · cases hk : (k == 1)
    · have e : unV op ⟨k, n, b⟩ = none := by
        have : intB ⟨k, n, b⟩ = false := by simp [intB]; intro h; simp [h] at hk
        simp [unV, this]
      rw [e]
      clear e
      show Calls Tryd.prog 18 _ w (fun e w' => e = .returned (.tuple #[.agg #[.int .i64 (0), .int .i64 (0), .int .i64 (0)], .bool false]) ∧ Below w.heap.size w w')
      go_enter Tryd.func18, Tryd.ntmps18
      go_wp2_with fail
      refine (rgood_is k n b true hg _).mono ?_
      rintro e w1 ⟨rfl, hb⟩
      have T1 := Lib.hid (T0.out.step hb)
      clear hb
      obtain ⟨q0, q1, q2⟩ := T1.out.boxX.cells
      obtain ⟨s0, s1, s2⟩ := T1.out.boxR.cells
      obtain ⟨z0, z1, z2⟩ := T1.out.boxR.frozen
      go_wp2_with fail
      exact bodyPost_ret (v := .tuple #[.agg #[.int .i64 (0), .int .i64 (0), .int .i64 (0)], .bool false]) (by simp [results, Tryd.results18, go_sem, s0, s1, s2]) rfl ⟨rfl, (((T1.out.low.setCell (p := ⟨w.heap.size + 1, 0, none⟩) (by show _ ≤ w.heap.size + 1; omega) _).setCell (p := ⟨w.heap.size + 1, 1, none⟩) (by show _ ≤ w.heap.size + 1; omega) _).setCell (p := ⟨w.heap.size + 1, 2, none⟩) (by show _ ≤ w.heap.size + 1; omega) _)⟩
    · have hx : intB ⟨k, n, b⟩ = true := by
        have h1 : k = 1 := by simpa using hk
        subst h1
        simp [goodB] at hg
        simp [intB, hg]
      have HX := Lib.hid hx
      clear hx
      by_cases h1 : op = 1
      · subst h1
        have e : unV 1 ⟨k, n, b⟩ = some (Iv (wrap64 (-n))) := by simp [unV, HX.out]
        rw [e]
        clear e
        rw [← not_neg n FN.out]
        show Calls Tryd.prog 18 _ w (fun e w' => e = .returned (.tuple #[.agg #[.int .i64 (1), .int .i64 (wrap64 (bits .xor .i64 (-1) n + 1)), .int .i64 (0)], .bool true]) ∧ Below w.heap.size w w')
        go_enter Tryd.func18, Tryd.ntmps18
        go_wp2_with fail
        refine (rgood_is k n b true hg _).mono ?_
        rintro e w1 ⟨rfl, hb⟩
        have T1 := Lib.hid (T0.out.step hb)
        clear hb
        obtain ⟨q0, q1, q2⟩ := T1.out.boxX.cells
        obtain ⟨s0, s1, s2⟩ := T1.out.boxR.cells
        obtain ⟨z0, z1, z2⟩ := T1.out.boxR.frozen
        go_wp2_with fail
        refine (rof_any (wrap64 (bits .xor .i64 (-1) n + 1)) _).mono ?_
        rintro e w2 ⟨rfl, hb⟩
        have T2 := Lib.hid (T1.out.step hb)
        clear hb q0 q1 q2 s0 s1 s2 z0 z1 z2
        obtain ⟨q0, q1, q2⟩ := T2.out.boxX.cells
        obtain ⟨s0, s1, s2⟩ := T2.out.boxR.cells
        obtain ⟨z0, z1, z2⟩ := T2.out.boxR.frozen
        go_wp2_with fail
        exact bodyPost_ret (v := .tuple #[.agg #[.int .i64 (1), .int .i64 (wrap64 (bits .xor .i64 (-1) n + 1)), .int .i64 (0)], .bool true]) (by simp [results, Tryd.results18, go_sem, s0, s1, s2]) rfl ⟨rfl, (((T2.out.low.setCell (p := ⟨w.heap.size + 1, 0, none⟩) (by show _ ≤ w.heap.size + 1; omega) _).setCell (p := ⟨w.heap.size + 1, 1, none⟩) (by show _ ≤ w.heap.size + 1; omega) _).setCell (p := ⟨w.heap.size + 1, 2, none⟩) (by show _ ≤ w.heap.size + 1; omega) _)⟩
      · have t1 : (op == 1) = false := by simpa using h1
        have u1 := Lib.hid h1
        clear h1
        by_cases h2 : op = 2
        · subst h2
          have e : unV 2 ⟨k, n, b⟩ = some (Iv (bits .xor .i64 (-1) n)) := by simp [unV, HX.out]
          rw [e]
          clear e t1
          rw [← not_less n FN.out]
          show Calls Tryd.prog 18 _ w (fun e w' => e = .returned (.tuple #[.agg #[.int .i64 (1), .int .i64 (wrap64 (-1 - n)), .int .i64 (0)], .bool true]) ∧ Below w.heap.size w w')
          go_enter Tryd.func18, Tryd.ntmps18
          go_wp2_with fail
          refine (rgood_is k n b true hg _).mono ?_
          rintro e w1 ⟨rfl, hb⟩
          have T1 := Lib.hid (T0.out.step hb)
          clear hb
          obtain ⟨q0, q1, q2⟩ := T1.out.boxX.cells
          obtain ⟨s0, s1, s2⟩ := T1.out.boxR.cells
          obtain ⟨z0, z1, z2⟩ := T1.out.boxR.frozen
          go_wp2_with fail
          refine (rof_any (wrap64 (-1 - n)) _).mono ?_
          rintro e w2 ⟨rfl, hb⟩
          have T2 := Lib.hid (T1.out.step hb)
          clear hb q0 q1 q2 s0 s1 s2 z0 z1 z2
          obtain ⟨q0, q1, q2⟩ := T2.out.boxX.cells
          obtain ⟨s0, s1, s2⟩ := T2.out.boxR.cells
          obtain ⟨z0, z1, z2⟩ := T2.out.boxR.frozen
          go_wp2_with fail
          exact bodyPost_ret (v := .tuple #[.agg #[.int .i64 (1), .int .i64 (wrap64 (-1 - n)), .int .i64 (0)], .bool true]) (by simp [results, Tryd.results18, go_sem, s0, s1, s2]) rfl ⟨rfl, (((T2.out.low.setCell (p := ⟨w.heap.size + 1, 0, none⟩) (by show _ ≤ w.heap.size + 1; omega) _).setCell (p := ⟨w.heap.size + 1, 1, none⟩) (by show _ ≤ w.heap.size + 1; omega) _).setCell (p := ⟨w.heap.size + 1, 2, none⟩) (by show _ ≤ w.heap.size + 1; omega) _)⟩
        · have t2 : (op == 2) = false := by simpa using h2
          have u2 := Lib.hid h2
          clear h2
          by_cases h3 : op = 3
          · subst h3
            have e : unV 3 ⟨k, n, b⟩ = some (Iv (wrap64 (IntKind.i8.wrap n))) := by simp [unV, HX.out]
            rw [e]
            clear e t1 t2
            show Calls Tryd.prog 18 _ w (fun e w' => e = .returned (.tuple #[.agg #[.int .i64 (1), .int .i64 (wrap64 (IntKind.i8.wrap n)), .int .i64 (0)], .bool true]) ∧ Below w.heap.size w w')
            go_enter Tryd.func18, Tryd.ntmps18
            go_wp2_with fail
            refine (rgood_is k n b true hg _).mono ?_
            rintro e w1 ⟨rfl, hb⟩
            have T1 := Lib.hid (T0.out.step hb)
            clear hb
            obtain ⟨q0, q1, q2⟩ := T1.out.boxX.cells
            obtain ⟨s0, s1, s2⟩ := T1.out.boxR.cells
            obtain ⟨z0, z1, z2⟩ := T1.out.boxR.frozen
            go_wp2_with fail
            refine (ext8_any n _).mono ?_
            rintro e w' ⟨rfl, rfl⟩
            go_wp2_with fail
            refine (rof_any (wrap64 (IntKind.i8.wrap n)) _).mono ?_
            rintro e w2 ⟨rfl, hb⟩
            have T2 := Lib.hid (T1.out.step hb)
            clear hb q0 q1 q2 s0 s1 s2 z0 z1 z2
            obtain ⟨q0, q1, q2⟩ := T2.out.boxX.cells
            obtain ⟨s0, s1, s2⟩ := T2.out.boxR.cells
            obtain ⟨z0, z1, z2⟩ := T2.out.boxR.frozen
            go_wp2_with fail
            exact bodyPost_ret (v := .tuple #[.agg #[.int .i64 (1), .int .i64 (wrap64 (IntKind.i8.wrap n)), .int .i64 (0)], .bool true]) (by simp [results, Tryd.results18, go_sem, s0, s1, s2]) rfl ⟨rfl, (((T2.out.low.setCell (p := ⟨w.heap.size + 1, 0, none⟩) (by show _ ≤ w.heap.size + 1; omega) _).setCell (p := ⟨w.heap.size + 1, 1, none⟩) (by show _ ≤ w.heap.size + 1; omega) _).setCell (p := ⟨w.heap.size + 1, 2, none⟩) (by show _ ≤ w.heap.size + 1; omega) _)⟩
          · have t3 : (op == 3) = false := by simpa using h3
            have u3 := Lib.hid h3
            clear h3
            by_cases h4 : op = 4
            · subst h4
              have e : unV 4 ⟨k, n, b⟩ = some (Iv (wrap64 (wrap32 n))) := by simp [unV, HX.out]
              rw [e]
              clear e t1 t2 t3
              show Calls Tryd.prog 18 _ w (fun e w' => e = .returned (.tuple #[.agg #[.int .i64 (1), .int .i64 (wrap64 (wrap32 n)), .int .i64 (0)], .bool true]) ∧ Below w.heap.size w w')
              go_enter Tryd.func18, Tryd.ntmps18
              go_wp2_with fail
              refine (rgood_is k n b true hg _).mono ?_
              rintro e w1 ⟨rfl, hb⟩
              have T1 := Lib.hid (T0.out.step hb)
              clear hb
              obtain ⟨q0, q1, q2⟩ := T1.out.boxX.cells
              obtain ⟨s0, s1, s2⟩ := T1.out.boxR.cells
              obtain ⟨z0, z1, z2⟩ := T1.out.boxR.frozen
              go_wp2_with fail
              refine (ext32_any n _).mono ?_
              rintro e w' ⟨rfl, rfl⟩
              go_wp2_with fail
              refine (rof_any (wrap64 (wrap32 n)) _).mono ?_
              rintro e w2 ⟨rfl, hb⟩
              have T2 := Lib.hid (T1.out.step hb)
              clear hb q0 q1 q2 s0 s1 s2 z0 z1 z2
              obtain ⟨q0, q1, q2⟩ := T2.out.boxX.cells
              obtain ⟨s0, s1, s2⟩ := T2.out.boxR.cells
              obtain ⟨z0, z1, z2⟩ := T2.out.boxR.frozen
              go_wp2_with fail
              exact bodyPost_ret (v := .tuple #[.agg #[.int .i64 (1), .int .i64 (wrap64 (wrap32 n)), .int .i64 (0)], .bool true]) (by simp [results, Tryd.results18, go_sem, s0, s1, s2]) rfl ⟨rfl, (((T2.out.low.setCell (p := ⟨w.heap.size + 1, 0, none⟩) (by show _ ≤ w.heap.size + 1; omega) _).setCell (p := ⟨w.heap.size + 1, 1, none⟩) (by show _ ≤ w.heap.size + 1; omega) _).setCell (p := ⟨w.heap.size + 1, 2, none⟩) (by show _ ≤ w.heap.size + 1; omega) _)⟩
            · have t4 : (op == 4) = false := by simpa using h4
              have u4 := Lib.hid h4
              clear h4
              have e : unV op ⟨k, n, b⟩ = none := by simp [unV, u1.out, u2.out, u3.out, u4.out]
              rw [e]
              clear e
              show Calls Tryd.prog 18 _ w (fun e w' => e = .returned (.tuple #[.agg #[.int .i64 (0), .int .i64 (0), .int .i64 (0)], .bool false]) ∧ Below w.heap.size w w')
              go_enter Tryd.func18, Tryd.ntmps18
              go_wp2_with fail
              refine (rgood_is k n b true hg _).mono ?_
              rintro e w1 ⟨rfl, hb⟩
              have T1 := Lib.hid (T0.out.step hb)
              clear hb
              obtain ⟨q0, q1, q2⟩ := T1.out.boxX.cells
              obtain ⟨s0, s1, s2⟩ := T1.out.boxR.cells
              obtain ⟨z0, z1, z2⟩ := T1.out.boxR.frozen
              go_wp2_with fail
              exact bodyPost_ret (v := .tuple #[.agg #[.int .i64 (0), .int .i64 (0), .int .i64 (0)], .bool false]) (by simp [results, Tryd.results18, go_sem, s0, s1, s2]) rfl ⟨rfl, (((T1.out.low.setCell (p := ⟨w.heap.size + 1, 0, none⟩) (by show _ ≤ w.heap.size + 1; omega) _).setCell (p := ⟨w.heap.size + 1, 1, none⟩) (by show _ ≤ w.heap.size + 1; omega) _).setCell (p := ⟨w.heap.size + 1, 2, none⟩) (by show _ ≤ w.heap.size + 1; omega) _)⟩

theorem rtrue_any (k n b : Int) (w : World) : Calls Tryd.prog 21 #[.agg #[.int .i64 (k), .int .i64 (n), .int .i64 (b)]] w (RT (trueB ⟨k, n, b⟩) (toldB ⟨k, n, b⟩) w) := by
  cases hg : goodB ⟨k, n, b⟩
  · have hi : intB ⟨k, n, b⟩ = false := by
      cases h : intB ⟨k, n, b⟩
      · rfl
      · simp [intB] at h
        simp [goodB, h.1, h.2] at hg
    have hp : ptrB ⟨k, n, b⟩ = false := by
      cases h : ptrB ⟨k, n, b⟩
      · rfl
      · simp [ptrB] at h
        simp [goodB, h.1, h.2] at hg
    rw [show trueB ⟨k, n, b⟩ = false from by simp [trueB, hi, hp], show toldB ⟨k, n, b⟩ = false from by simp [toldB, hi, hp]]
    clear hi hp
    go_enter Tryd.func21, Tryd.ntmps21
    go_wp2_with fail
    refine (rgood_is k n b false hg _).mono ?_
    rintro e w1 ⟨rfl, hb⟩
    have B1 := Lib.hid (And.intro ((Box.new w (.int .i64 k) (.int .i64 n) (.int .i64 b) rfl).below hb) (((Below.refl _ _).alloc (Nat.le_refl _) _).trans (hb.mono (by simp)) : Below w.heap.size w w1))
    obtain ⟨q0, q1, q2⟩ := B1.out.1.cells
    clear hb
    go_wp2_with fail
    go_ret2
    exact ⟨rfl, B1.out.2⟩
  · by_cases h0 : k = 0
    · subst h0
      rw [show trueB ⟨0, n, b⟩ = false from by simp [trueB, intB, ptrB], show toldB ⟨0, n, b⟩ = false from by simp [toldB, intB, ptrB]]
      go_enter Tryd.func21, Tryd.ntmps21
      go_wp2_with fail
      refine (rgood_is 0 n b true hg _).mono ?_
      rintro e w1 ⟨rfl, hb⟩
      have B1 := Lib.hid (And.intro ((Box.new w (.int .i64 0) (.int .i64 n) (.int .i64 b) rfl).below hb) (((Below.refl _ _).alloc (Nat.le_refl _) _).trans (hb.mono (by simp)) : Below w.heap.size w w1))
      obtain ⟨q0, q1, q2⟩ := B1.out.1.cells
      clear hb
      go_wp2_with fail
      go_ret2
      exact ⟨rfl, B1.out.2⟩
    · have t0 : (k == 0) = false := by simpa using h0
      by_cases h2 : k = 2
      · subst h2
        have hb1 : 1 ≤ b := by simpa [goodB] using hg
        rw [show trueB ⟨2, n, b⟩ = true from by simp [trueB, intB, ptrB, hb1], show toldB ⟨2, n, b⟩ = true from by simp [toldB, ptrB, hb1]]
        clear hb1 h0
        go_enter Tryd.func21, Tryd.ntmps21
        go_wp2_with fail
        refine (rgood_is 2 n b true hg _).mono ?_
        rintro e w1 ⟨rfl, hb⟩
        have B1 := Lib.hid (And.intro ((Box.new w (.int .i64 2) (.int .i64 n) (.int .i64 b) rfl).below hb) (((Below.refl _ _).alloc (Nat.le_refl _) _).trans (hb.mono (by simp)) : Below w.heap.size w w1))
        obtain ⟨q0, q1, q2⟩ := B1.out.1.cells
        clear hb
        go_wp2_with fail
        go_ret2
        exact ⟨rfl, B1.out.2⟩
      · have t2 : (k == 2) = false := by simpa using h2
        have h1 : k = 1 ∧ b = 0 := by
          by_cases h1 : k = 1
          · exact ⟨h1, by simpa [goodB, h1] using hg⟩
          · simp [goodB, h0, h1, h2] at hg
        rw [show trueB ⟨k, n, b⟩ = (n != 0) from by simp [trueB, intB, h1.1, h1.2], show toldB ⟨k, n, b⟩ = true from by simp [toldB, intB, h1.1, h1.2]]
        clear h0 h1 h2
        go_enter Tryd.func21, Tryd.ntmps21
        go_wp2_with fail
        refine (rgood_is k n b true hg _).mono ?_
        rintro e w1 ⟨rfl, hb⟩
        have B1 := Lib.hid (And.intro ((Box.new w (.int .i64 k) (.int .i64 n) (.int .i64 b) rfl).below hb) (((Below.refl _ _).alloc (Nat.le_refl _) _).trans (hb.mono (by simp)) : Below w.heap.size w w1))
        obtain ⟨q0, q1, q2⟩ := B1.out.1.cells
        clear hb
        go_wp2_with fail
        go_ret2
        exact ⟨rfl, B1.out.2⟩

def RIB (r : Option Int) (w : World) (e : Ending) (w' : World) : Prop := e = .returned (.tuple #[.int .i64 (r.getD 0), .bool r.isSome]) ∧ Below w.heap.size w w'
set_option maxHeartbeats 4000000 in
theorem rflip_any (op : Int) (w : World) : Calls Tryd.prog 23 #[.int .i64 op] w (RIB (flipV op) w) := by
  go_enter Tryd.func23, Tryd.ntmps23
  go_wp2
  go_loopg [5] 6 (fun g s5 wr => ∃ k : Nat, k ≤ 6 ∧ 6 - k ≤ g ∧ s5 = .int .i64 k ∧ wr = w.alloc (.cells #[.int .i64 21, .int .i64 22, .int .i64 23, .int .i64 26, .int .i64 24, .int .i64 25] 3) ∧ Hid ((0 < k → op ≠ 21) ∧ (1 < k → op ≠ 22) ∧ (2 < k → op ≠ 23) ∧ (3 < k → op ≠ 26) ∧ (4 < k → op ≠ 24) ∧ (5 < k → op ≠ 25)))
  case atStart => exact ⟨0, by omega, by omega, rfl, rfl, Lib.hid (by omega)⟩
  case round =>
    obtain ⟨k, hk, hg, rfl, rfl, X⟩ := hrel
    by_cases h6 : k = 6
    · subst h6
      have e : flipV op = none := by
        have := X.out
        have h1 : op ≠ 21 := this.1 (by omega)
        have h2 : op ≠ 22 := this.2.1 (by omega)
        have h3 : op ≠ 23 := this.2.2.1 (by omega)
        have h4 : op ≠ 26 := this.2.2.2.1 (by omega)
        have h5 : op ≠ 24 := this.2.2.2.2.1 (by omega)
        have h6 : op ≠ 25 := this.2.2.2.2.2 (by omega)
        simp [flipV, h1, h2, h3, h4, h5, h6]
      go_wp2
      go_ret2
      exact ⟨by rw [e]; rfl, (Below.refl _ _).alloc (Nat.le_refl _) _⟩
    · have h : k = 0 ∨ k = 1 ∨ k = 2 ∨ k = 3 ∨ k = 4 ∨ k = 5 := by omega
      clear hk h6
      rcases h with rfl | rfl | rfl | rfl | rfl | rfl
      · by_cases h : op = 21
        · subst h
          clear X
          show _
          rw [show flipV 21 = some 22 from rfl]
          go_wp2
          go_ret2
          exact ⟨rfl, (Below.refl _ _).alloc (Nat.le_refl _) _⟩
        · have t : (21 == op) = false := by simpa using fun e => h e.symm
          have HH := Lib.hid h
          clear h
          go_wp2
          go_roundg 5
          case measure => omega
          case rel => exact ⟨1, by omega, by omega, by go_num, rfl, Lib.hid (by have := X.out; have := HH.out; omega)⟩
      · by_cases h : op = 22
        · subst h
          clear X
          show _
          rw [show flipV 22 = some 21 from rfl]
          go_wp2
          go_ret2
          exact ⟨rfl, (Below.refl _ _).alloc (Nat.le_refl _) _⟩
        · have t : (22 == op) = false := by simpa using fun e => h e.symm
          have HH := Lib.hid h
          clear h
          go_wp2
          go_roundg 4
          case measure => omega
          case rel => exact ⟨2, by omega, by omega, by go_num, rfl, Lib.hid (by have := X.out; have := HH.out; omega)⟩
      · by_cases h : op = 23
        · subst h
          clear X
          show _
          rw [show flipV 23 = some 26 from rfl]
          go_wp2
          go_ret2
          exact ⟨rfl, (Below.refl _ _).alloc (Nat.le_refl _) _⟩
        · have t : (23 == op) = false := by simpa using fun e => h e.symm
          have HH := Lib.hid h
          clear h
          go_wp2
          go_roundg 3
          case measure => omega
          case rel => exact ⟨3, by omega, by omega, by go_num, rfl, Lib.hid (by have := X.out; have := HH.out; omega)⟩
      · by_cases h : op = 26
        · subst h
          clear X
          show _
          rw [show flipV 26 = some 23 from rfl]
          go_wp2
          go_ret2
          exact ⟨rfl, (Below.refl _ _).alloc (Nat.le_refl _) _⟩
        · have t : (26 == op) = false := by simpa using fun e => h e.symm
          have HH := Lib.hid h
          clear h
          go_wp2
          go_roundg 2
          case measure => omega
          case rel => exact ⟨4, by omega, by omega, by go_num, rfl, Lib.hid (by have := X.out; have := HH.out; omega)⟩
      · by_cases h : op = 24
        · subst h
          clear X
          show _
          rw [show flipV 24 = some 25 from rfl]
          go_wp2
          go_ret2
          exact ⟨rfl, (Below.refl _ _).alloc (Nat.le_refl _) _⟩
        · have t : (24 == op) = false := by simpa using fun e => h e.symm
          have HH := Lib.hid h
          clear h
          go_wp2
          go_roundg 1
          case measure => omega
          case rel => exact ⟨5, by omega, by omega, by go_num, rfl, Lib.hid (by have := X.out; have := HH.out; omega)⟩
      · by_cases h : op = 25
        · subst h
          clear X
          show _
          rw [show flipV 25 = some 24 from rfl]
          go_wp2
          go_ret2
          exact ⟨rfl, (Below.refl _ _).alloc (Nat.le_refl _) _⟩
        · have t : (25 == op) = false := by simpa using fun e => h e.symm
          have HH := Lib.hid h
          clear h
          go_wp2
          go_roundg 0
          case measure => omega
          case rel => exact ⟨6, by omega, by omega, by go_num, rfl, Lib.hid (by have := X.out; have := HH.out; omega)⟩
set_option maxHeartbeats 4000000 in
theorem rswap_any (op : Int) (w : World) : Calls Tryd.prog 25 #[.int .i64 op] w (RI (swapV op) w) := by
  by_cases h11 : op = 11
  · subst h11
    show Calls Tryd.prog 25 _ w (fun e w' => e = .returned (.tuple #[.int .i64 11, .bool true]) ∧ w = w')
    go_enter Tryd.func25, Tryd.ntmps25
    go_wp2
    go_ret2
    exact ⟨rfl, rfl⟩
  · skip
    by_cases h13 : op = 13
    · subst h13
      show Calls Tryd.prog 25 _ w (fun e w' => e = .returned (.tuple #[.int .i64 13, .bool true]) ∧ w = w')
      go_enter Tryd.func25, Tryd.ntmps25
      go_wp2
      go_ret2
      exact ⟨rfl, rfl⟩
    · skip
      by_cases h16 : op = 16
      · subst h16
        show Calls Tryd.prog 25 _ w (fun e w' => e = .returned (.tuple #[.int .i64 16, .bool true]) ∧ w = w')
        go_enter Tryd.func25, Tryd.ntmps25
        go_wp2
        go_ret2
        exact ⟨rfl, rfl⟩
      · skip
        by_cases h17 : op = 17
        · subst h17
          show Calls Tryd.prog 25 _ w (fun e w' => e = .returned (.tuple #[.int .i64 17, .bool true]) ∧ w = w')
          go_enter Tryd.func25, Tryd.ntmps25
          go_wp2
          go_ret2
          exact ⟨rfl, rfl⟩
        · skip
          by_cases h18 : op = 18
          · subst h18
            show Calls Tryd.prog 25 _ w (fun e w' => e = .returned (.tuple #[.int .i64 18, .bool true]) ∧ w = w')
            go_enter Tryd.func25, Tryd.ntmps25
            go_wp2
            go_ret2
            exact ⟨rfl, rfl⟩
          · skip
            by_cases h21 : op = 21
            · subst h21
              show Calls Tryd.prog 25 _ w (fun e w' => e = .returned (.tuple #[.int .i64 21, .bool true]) ∧ w = w')
              go_enter Tryd.func25, Tryd.ntmps25
              go_wp2
              go_ret2
              exact ⟨rfl, rfl⟩
            · skip
              by_cases h22 : op = 22
              · subst h22
                show Calls Tryd.prog 25 _ w (fun e w' => e = .returned (.tuple #[.int .i64 22, .bool true]) ∧ w = w')
                go_enter Tryd.func25, Tryd.ntmps25
                go_wp2
                go_ret2
                exact ⟨rfl, rfl⟩
              · skip
                by_cases h23 : op = 23
                · subst h23
                  show Calls Tryd.prog 25 _ w (fun e w' => e = .returned (.tuple #[.int .i64 25, .bool true]) ∧ w = w')
                  go_enter Tryd.func25, Tryd.ntmps25
                  go_wp2
                  go_ret2
                  exact ⟨rfl, rfl⟩
                · skip
                  by_cases h25 : op = 25
                  · subst h25
                    show Calls Tryd.prog 25 _ w (fun e w' => e = .returned (.tuple #[.int .i64 23, .bool true]) ∧ w = w')
                    go_enter Tryd.func25, Tryd.ntmps25
                    go_wp2
                    go_ret2
                    exact ⟨rfl, rfl⟩
                  · skip
                    by_cases h24 : op = 24
                    · subst h24
                      show Calls Tryd.prog 25 _ w (fun e w' => e = .returned (.tuple #[.int .i64 26, .bool true]) ∧ w = w')
                      go_enter Tryd.func25, Tryd.ntmps25
                      go_wp2
                      go_ret2
                      exact ⟨rfl, rfl⟩
                    · skip
                      by_cases h26 : op = 26
                      · subst h26
                        show Calls Tryd.prog 25 _ w (fun e w' => e = .returned (.tuple #[.int .i64 24, .bool true]) ∧ w = w')
                        go_enter Tryd.func25, Tryd.ntmps25
                        go_wp2
                        go_ret2
                        exact ⟨rfl, rfl⟩
                      · skip
                        rw [show swapV op = none from by simp [swapV, h11, h13, h16, h17, h18, h21, h22, h23, h25, h24, h26]]
                        have t11 : (op == 11) = false := by simpa using h11
                        have t13 : (op == 13) = false := by simpa using h13
                        have t16 : (op == 16) = false := by simpa using h16
                        have t17 : (op == 17) = false := by simpa using h17
                        have t18 : (op == 18) = false := by simpa using h18
                        have t21 : (op == 21) = false := by simpa using h21
                        have t22 : (op == 22) = false := by simpa using h22
                        have t23 : (op == 23) = false := by simpa using h23
                        have t25 : (op == 25) = false := by simpa using h25
                        have t24 : (op == 24) = false := by simpa using h24
                        have t26 : (op == 26) = false := by simpa using h26
                        clear h11 h13 h16 h17 h18 h21 h22 h23 h25 h24 h26
                        show Calls Tryd.prog 25 _ w (fun e w' => e = .returned (.tuple #[.int .i64 0, .bool false]) ∧ w = w')
                        go_enter Tryd.func25, Tryd.ntmps25
                        go_wp2
                        go_ret2
                        exact ⟨rfl, rfl⟩
end Go.Proofs.YtipeehmbloneoaaDoor

