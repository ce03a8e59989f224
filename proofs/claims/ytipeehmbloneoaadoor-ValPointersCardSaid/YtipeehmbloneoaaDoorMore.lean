/-
  val.Un, True, Flip, Swap, Text: what they answer, for every value and operation.
-/
import Derived.Test.YtipeehmbloneoaaDoorBin
import Derived.Test.YtipeehmbloneoaaDoorShelf
import Derived.Lib.AppendIntMem
import Derived.Lib.ItoaLen
namespace Go.Proofs.YtipeehmbloneoaaDoor
open Go.RowKit Go.Sort

def unV (op : Int) (x : Vl) : Option Vl :=
  if intB x then
    if op = 1 then some (Iv (wrap64 (-x.n)))
    else if op = 2 then some (Iv (bits .xor .i64 (-1) x.n))
    else if op = 3 then some (Iv (wrap64 (IntKind.i8.wrap x.n)))
    else if op = 4 then some (Iv (wrap64 (wrap32 x.n)))
    else none
  else none

/-- the blocks of a call of one value: the one, and the one of its result -/
structure A2 (w0 W : World) (k n b : Int) : Prop where
  boxX : Box W w0.heap.size (.int .i64 k) (.int .i64 n) (.int .i64 b)
  boxR : Box W (w0.heap.size + 1) (.int .i64 0) (.int .i64 0) (.int .i64 0)
  low : Below w0.heap.size w0 W
theorem A2.step {w0 W W' : World} {k n b : Int} (h : A2 w0 W k n b) (hb : Below W.heap.size W W') : A2 w0 W' k n b :=
  ⟨h.boxX.below hb, h.boxR.below hb, h.low.trans (hb.mono h.low.size)⟩
theorem A2.start (w : World) (k n b : Int) : A2 w ((w.alloc (.cells #[.int .i64 k, .int .i64 n, .int .i64 b] 24)).alloc (.cells #[.int .i64 0, .int .i64 0, .int .i64 0] 24)) k n b :=
  ⟨(Box.new w _ _ _ rfl).alloc _, Box.new _ _ _ _ (by simp), ((Below.refl _ _).alloc (Nat.le_refl _) _).alloc (by simp) _⟩

set_option maxHeartbeats 4000000 in
theorem un_any (op k n b : Int) (fn : Fits n) (w : World) : Calls Tryd.prog 17 #[.int .i64 op, .agg #[.int .i64 (k), .int .i64 (n), .int .i64 (b)]] w (RV (unV op ⟨k, n, b⟩) w) := by
  obtain ⟨f0, f1⟩ := fn
  have T0 := Lib.hid (A2.start w k n b)
  cases hx : intB ⟨k, n, b⟩
  · have e : unV op ⟨k, n, b⟩ = none := by simp [unV, hx]
    rw [e]
    clear e
    show Calls Tryd.prog 17 _ w (fun e w' => e = .returned (.tuple #[.agg #[.int .i64 (0), .int .i64 (0), .int .i64 (0)], .bool false]) ∧ Below w.heap.size w w')
    go_enter Tryd.func17, Tryd.ntmps17
    go_wp2_with fail
    refine (isInt_any k n b _).mono ?_
    rw [hx]
    rintro e w1 ⟨rfl, hb⟩
    have T1 := Lib.hid (T0.out.step hb)
    clear hb
    obtain ⟨q0, q1, q2⟩ := T1.out.boxX.cells
    obtain ⟨s0, s1, s2⟩ := T1.out.boxR.cells
    obtain ⟨z0, z1, z2⟩ := T1.out.boxR.frozen
    go_wp2_with fail
    exact bodyPost_ret (v := .tuple #[.agg #[.int .i64 (0), .int .i64 (0), .int .i64 (0)], .bool false]) (by simp [results, Tryd.results17, go_sem, s0, s1, s2]) rfl ⟨rfl, (((T1.out.low.setCell (p := ⟨w.heap.size + 1, 0, none⟩) (by show _ ≤ w.heap.size + 1; omega) _).setCell (p := ⟨w.heap.size + 1, 1, none⟩) (by show _ ≤ w.heap.size + 1; omega) _).setCell (p := ⟨w.heap.size + 1, 2, none⟩) (by show _ ≤ w.heap.size + 1; omega) _)⟩
  · skip
    by_cases h1 : op = 1
    · subst h1
      have e : unV 1 ⟨k, n, b⟩ = some (Iv (wrap64 (-n))) := by simp [unV, hx]
      rw [e]
      clear e
      show Calls Tryd.prog 17 _ w (fun e w' => e = .returned (.tuple #[.agg #[.int .i64 (1), .int .i64 (wrap64 (-n)), .int .i64 (0)], .bool true]) ∧ Below w.heap.size w w')
      go_enter Tryd.func17, Tryd.ntmps17
      go_wp2_with fail
      refine (isInt_any k n b _).mono ?_
      rw [hx]
      rintro e w1 ⟨rfl, hb⟩
      have T1 := Lib.hid (T0.out.step hb)
      clear hb
      obtain ⟨q0, q1, q2⟩ := T1.out.boxX.cells
      obtain ⟨s0, s1, s2⟩ := T1.out.boxR.cells
      obtain ⟨z0, z1, z2⟩ := T1.out.boxR.frozen
      go_wp2_with fail
      refine (of_any (wrap64 (-n)) _).mono ?_
      rintro e w2 ⟨rfl, hb⟩
      have T2 := Lib.hid (T1.out.step hb)
      clear hb q0 q1 q2 s0 s1 s2 z0 z1 z2
      obtain ⟨q0, q1, q2⟩ := T2.out.boxX.cells
      obtain ⟨s0, s1, s2⟩ := T2.out.boxR.cells
      obtain ⟨z0, z1, z2⟩ := T2.out.boxR.frozen
      go_wp2_with fail
      exact bodyPost_ret (v := .tuple #[.agg #[.int .i64 (1), .int .i64 (wrap64 (-n)), .int .i64 (0)], .bool true]) (by simp [results, Tryd.results17, go_sem, s0, s1, s2]) rfl ⟨rfl, (((T2.out.low.setCell (p := ⟨w.heap.size + 1, 0, none⟩) (by show _ ≤ w.heap.size + 1; omega) _).setCell (p := ⟨w.heap.size + 1, 1, none⟩) (by show _ ≤ w.heap.size + 1; omega) _).setCell (p := ⟨w.heap.size + 1, 2, none⟩) (by show _ ≤ w.heap.size + 1; omega) _)⟩
    · have t1 : (op == 1) = false := by simpa using h1
      have u1 := Lib.hid h1
      clear h1
      by_cases h2 : op = 2
      · subst h2
        have e : unV 2 ⟨k, n, b⟩ = some (Iv (bits .xor .i64 (-1) n)) := by simp [unV, hx]
        rw [e]
        clear e t1
        show Calls Tryd.prog 17 _ w (fun e w' => e = .returned (.tuple #[.agg #[.int .i64 (1), .int .i64 (bits .xor .i64 (-1) n), .int .i64 (0)], .bool true]) ∧ Below w.heap.size w w')
        go_enter Tryd.func17, Tryd.ntmps17
        go_wp2_with fail
        refine (isInt_any k n b _).mono ?_
        rw [hx]
        rintro e w1 ⟨rfl, hb⟩
        have T1 := Lib.hid (T0.out.step hb)
        clear hb
        obtain ⟨q0, q1, q2⟩ := T1.out.boxX.cells
        obtain ⟨s0, s1, s2⟩ := T1.out.boxR.cells
        obtain ⟨z0, z1, z2⟩ := T1.out.boxR.frozen
        go_wp2_with fail
        refine (of_any (bits .xor .i64 (-1) n) _).mono ?_
        rintro e w2 ⟨rfl, hb⟩
        have T2 := Lib.hid (T1.out.step hb)
        clear hb q0 q1 q2 s0 s1 s2 z0 z1 z2
        obtain ⟨q0, q1, q2⟩ := T2.out.boxX.cells
        obtain ⟨s0, s1, s2⟩ := T2.out.boxR.cells
        obtain ⟨z0, z1, z2⟩ := T2.out.boxR.frozen
        go_wp2_with fail
        exact bodyPost_ret (v := .tuple #[.agg #[.int .i64 (1), .int .i64 (bits .xor .i64 (-1) n), .int .i64 (0)], .bool true]) (by simp [results, Tryd.results17, go_sem, s0, s1, s2]) rfl ⟨rfl, (((T2.out.low.setCell (p := ⟨w.heap.size + 1, 0, none⟩) (by show _ ≤ w.heap.size + 1; omega) _).setCell (p := ⟨w.heap.size + 1, 1, none⟩) (by show _ ≤ w.heap.size + 1; omega) _).setCell (p := ⟨w.heap.size + 1, 2, none⟩) (by show _ ≤ w.heap.size + 1; omega) _)⟩
      · have t2 : (op == 2) = false := by simpa using h2
        have u2 := Lib.hid h2
        clear h2
        by_cases h3 : op = 3
        · subst h3
          have e : unV 3 ⟨k, n, b⟩ = some (Iv (wrap64 (IntKind.i8.wrap n))) := by simp [unV, hx]
          rw [e]
          clear e t1 t2
          show Calls Tryd.prog 17 _ w (fun e w' => e = .returned (.tuple #[.agg #[.int .i64 (1), .int .i64 (wrap64 (IntKind.i8.wrap n)), .int .i64 (0)], .bool true]) ∧ Below w.heap.size w w')
          go_enter Tryd.func17, Tryd.ntmps17
          go_wp2_with fail
          refine (isInt_any k n b _).mono ?_
          rw [hx]
          rintro e w1 ⟨rfl, hb⟩
          have T1 := Lib.hid (T0.out.step hb)
          clear hb
          obtain ⟨q0, q1, q2⟩ := T1.out.boxX.cells
          obtain ⟨s0, s1, s2⟩ := T1.out.boxR.cells
          obtain ⟨z0, z1, z2⟩ := T1.out.boxR.frozen
          go_wp2_with fail
          refine (of_any (wrap64 (IntKind.i8.wrap n)) _).mono ?_
          rintro e w2 ⟨rfl, hb⟩
          have T2 := Lib.hid (T1.out.step hb)
          clear hb q0 q1 q2 s0 s1 s2 z0 z1 z2
          obtain ⟨q0, q1, q2⟩ := T2.out.boxX.cells
          obtain ⟨s0, s1, s2⟩ := T2.out.boxR.cells
          obtain ⟨z0, z1, z2⟩ := T2.out.boxR.frozen
          go_wp2_with fail
          exact bodyPost_ret (v := .tuple #[.agg #[.int .i64 (1), .int .i64 (wrap64 (IntKind.i8.wrap n)), .int .i64 (0)], .bool true]) (by simp [results, Tryd.results17, go_sem, s0, s1, s2]) rfl ⟨rfl, (((T2.out.low.setCell (p := ⟨w.heap.size + 1, 0, none⟩) (by show _ ≤ w.heap.size + 1; omega) _).setCell (p := ⟨w.heap.size + 1, 1, none⟩) (by show _ ≤ w.heap.size + 1; omega) _).setCell (p := ⟨w.heap.size + 1, 2, none⟩) (by show _ ≤ w.heap.size + 1; omega) _)⟩
        · have t3 : (op == 3) = false := by simpa using h3
          have u3 := Lib.hid h3
          clear h3
          by_cases h4 : op = 4
          · subst h4
            have e : unV 4 ⟨k, n, b⟩ = some (Iv (wrap64 (wrap32 n))) := by simp [unV, hx]
            rw [e]
            clear e t1 t2 t3
            show Calls Tryd.prog 17 _ w (fun e w' => e = .returned (.tuple #[.agg #[.int .i64 (1), .int .i64 (wrap64 (wrap32 n)), .int .i64 (0)], .bool true]) ∧ Below w.heap.size w w')
            go_enter Tryd.func17, Tryd.ntmps17
            go_wp2_with fail
            refine (isInt_any k n b _).mono ?_
            rw [hx]
            rintro e w1 ⟨rfl, hb⟩
            have T1 := Lib.hid (T0.out.step hb)
            clear hb
            obtain ⟨q0, q1, q2⟩ := T1.out.boxX.cells
            obtain ⟨s0, s1, s2⟩ := T1.out.boxR.cells
            obtain ⟨z0, z1, z2⟩ := T1.out.boxR.frozen
            go_wp2_with fail
            refine (of_any (wrap64 (wrap32 n)) _).mono ?_
            rintro e w2 ⟨rfl, hb⟩
            have T2 := Lib.hid (T1.out.step hb)
            clear hb q0 q1 q2 s0 s1 s2 z0 z1 z2
            obtain ⟨q0, q1, q2⟩ := T2.out.boxX.cells
            obtain ⟨s0, s1, s2⟩ := T2.out.boxR.cells
            obtain ⟨z0, z1, z2⟩ := T2.out.boxR.frozen
            go_wp2_with fail
            exact bodyPost_ret (v := .tuple #[.agg #[.int .i64 (1), .int .i64 (wrap64 (wrap32 n)), .int .i64 (0)], .bool true]) (by simp [results, Tryd.results17, go_sem, s0, s1, s2]) rfl ⟨rfl, (((T2.out.low.setCell (p := ⟨w.heap.size + 1, 0, none⟩) (by show _ ≤ w.heap.size + 1; omega) _).setCell (p := ⟨w.heap.size + 1, 1, none⟩) (by show _ ≤ w.heap.size + 1; omega) _).setCell (p := ⟨w.heap.size + 1, 2, none⟩) (by show _ ≤ w.heap.size + 1; omega) _)⟩
          · have t4 : (op == 4) = false := by simpa using h4
            have u4 := Lib.hid h4
            clear h4
            have e : unV op ⟨k, n, b⟩ = none := by simp [unV, u1.out, u2.out, u3.out, u4.out]
            rw [e]
            clear e
            show Calls Tryd.prog 17 _ w (fun e w' => e = .returned (.tuple #[.agg #[.int .i64 (0), .int .i64 (0), .int .i64 (0)], .bool false]) ∧ Below w.heap.size w w')
            go_enter Tryd.func17, Tryd.ntmps17
            go_wp2_with fail
            refine (isInt_any k n b _).mono ?_
            rw [hx]
            rintro e w1 ⟨rfl, hb⟩
            have T1 := Lib.hid (T0.out.step hb)
            clear hb
            obtain ⟨q0, q1, q2⟩ := T1.out.boxX.cells
            obtain ⟨s0, s1, s2⟩ := T1.out.boxR.cells
            obtain ⟨z0, z1, z2⟩ := T1.out.boxR.frozen
            go_wp2_with fail
            exact bodyPost_ret (v := .tuple #[.agg #[.int .i64 (0), .int .i64 (0), .int .i64 (0)], .bool false]) (by simp [results, Tryd.results17, go_sem, s0, s1, s2]) rfl ⟨rfl, (((T1.out.low.setCell (p := ⟨w.heap.size + 1, 0, none⟩) (by show _ ≤ w.heap.size + 1; omega) _).setCell (p := ⟨w.heap.size + 1, 1, none⟩) (by show _ ≤ w.heap.size + 1; omega) _).setCell (p := ⟨w.heap.size + 1, 2, none⟩) (by show _ ≤ w.heap.size + 1; omega) _)⟩

def trueB (x : Vl) : Bool := if intB x then x.n != 0 else ptrB x
def toldB (x : Vl) : Bool := intB x || ptrB x
def RT (t ok : Bool) (w : World) (e : Ending) (w' : World) : Prop := e = .returned (.tuple #[.bool t, .bool ok]) ∧ Below w.heap.size w w'
theorem true_any (k n b : Int) (w : World) : Calls Tryd.prog 20 #[.agg #[.int .i64 (k), .int .i64 (n), .int .i64 (b)]] w (RT (trueB ⟨k, n, b⟩) (toldB ⟨k, n, b⟩) w) := by
  cases hx : intB ⟨k, n, b⟩
  · cases hp : ptrB ⟨k, n, b⟩
    · rw [show trueB ⟨k, n, b⟩ = false from by simp [trueB, hx, hp], show toldB ⟨k, n, b⟩ = false from by simp [toldB, hx, hp]]
      go_enter Tryd.func20, Tryd.ntmps20
      go_wp2_with fail
      refine (isInt_any k n b _).mono ?_
      rw [hx]
      rintro e w1 ⟨rfl, hb⟩
      have B1 := Lib.hid (And.intro ((Box.new w (.int .i64 k) (.int .i64 n) (.int .i64 b) rfl).below hb) (((Below.refl _ _).alloc (Nat.le_refl _) _).trans (hb.mono (by simp)) : Below w.heap.size w w1))
      obtain ⟨q0, q1, q2⟩ := B1.out.1.cells
      clear hb
      go_wp2_with fail
      refine (isPtr_any k n b _).mono ?_
      rw [hp]
      rintro e w2 ⟨rfl, hb⟩
      have B2 := Lib.hid (B1.out.2.trans (hb.mono B1.out.2.size))
      clear hb
      go_wp2_with fail
      go_ret2
      exact ⟨rfl, B2.out⟩
    · rw [show trueB ⟨k, n, b⟩ = true from by simp [trueB, hx, hp], show toldB ⟨k, n, b⟩ = true from by simp [toldB, hp]]
      go_enter Tryd.func20, Tryd.ntmps20
      go_wp2_with fail
      refine (isInt_any k n b _).mono ?_
      rw [hx]
      rintro e w1 ⟨rfl, hb⟩
      have B1 := Lib.hid (And.intro ((Box.new w (.int .i64 k) (.int .i64 n) (.int .i64 b) rfl).below hb) (((Below.refl _ _).alloc (Nat.le_refl _) _).trans (hb.mono (by simp)) : Below w.heap.size w w1))
      obtain ⟨q0, q1, q2⟩ := B1.out.1.cells
      clear hb
      go_wp2_with fail
      refine (isPtr_any k n b _).mono ?_
      rw [hp]
      rintro e w2 ⟨rfl, hb⟩
      have B2 := Lib.hid (B1.out.2.trans (hb.mono B1.out.2.size))
      clear hb
      go_wp2_with fail
      go_ret2
      exact ⟨rfl, B2.out⟩
  · rw [show trueB ⟨k, n, b⟩ = (n != 0) from by simp [trueB, hx], show toldB ⟨k, n, b⟩ = true from by simp [toldB, hx]]
    go_enter Tryd.func20, Tryd.ntmps20
    go_wp2_with fail
    refine (isInt_any k n b _).mono ?_
    rw [hx]
    rintro e w1 ⟨rfl, hb⟩
    have B1 := Lib.hid (And.intro ((Box.new w (.int .i64 k) (.int .i64 n) (.int .i64 b) rfl).below hb) (((Below.refl _ _).alloc (Nat.le_refl _) _).trans (hb.mono (by simp)) : Below w.heap.size w w1))
    obtain ⟨q0, q1, q2⟩ := B1.out.1.cells
    clear hb
    go_wp2_with fail
    go_ret2
    exact ⟨rfl, B1.out.2⟩

def RI (r : Option Int) (w : World) (e : Ending) (w' : World) : Prop := e = .returned (.tuple #[.int .i64 (r.getD 0), .bool r.isSome]) ∧ w = w'
def flipV (op : Int) : Option Int := if op = 21 then some 22 else if op = 22 then some 21 else if op = 23 then some 26 else if op = 26 then some 23 else if op = 24 then some 25 else if op = 25 then some 24 else none
def swapV (op : Int) : Option Int := if op = 11 ∨ op = 13 ∨ op = 16 ∨ op = 17 ∨ op = 18 ∨ op = 21 ∨ op = 22 then some op else if op = 23 then some 25 else if op = 25 then some 23 else if op = 24 then some 26 else if op = 26 then some 24 else none
set_option maxHeartbeats 4000000 in
theorem flip_any (op : Int) (w : World) : Calls Tryd.prog 22 #[.int .i64 op] w (RI (flipV op) w) := by
  by_cases h21 : op = 21
  · subst h21
    show Calls Tryd.prog 22 _ w (fun e w' => e = .returned (.tuple #[.int .i64 22, .bool true]) ∧ w = w')
    go_enter Tryd.func22, Tryd.ntmps22
    go_wp2
    go_ret2
    exact ⟨rfl, rfl⟩
  · skip
    by_cases h22 : op = 22
    · subst h22
      show Calls Tryd.prog 22 _ w (fun e w' => e = .returned (.tuple #[.int .i64 21, .bool true]) ∧ w = w')
      go_enter Tryd.func22, Tryd.ntmps22
      go_wp2
      go_ret2
      exact ⟨rfl, rfl⟩
    · skip
      by_cases h23 : op = 23
      · subst h23
        show Calls Tryd.prog 22 _ w (fun e w' => e = .returned (.tuple #[.int .i64 26, .bool true]) ∧ w = w')
        go_enter Tryd.func22, Tryd.ntmps22
        go_wp2
        go_ret2
        exact ⟨rfl, rfl⟩
      · skip
        by_cases h26 : op = 26
        · subst h26
          show Calls Tryd.prog 22 _ w (fun e w' => e = .returned (.tuple #[.int .i64 23, .bool true]) ∧ w = w')
          go_enter Tryd.func22, Tryd.ntmps22
          go_wp2
          go_ret2
          exact ⟨rfl, rfl⟩
        · skip
          by_cases h24 : op = 24
          · subst h24
            show Calls Tryd.prog 22 _ w (fun e w' => e = .returned (.tuple #[.int .i64 25, .bool true]) ∧ w = w')
            go_enter Tryd.func22, Tryd.ntmps22
            go_wp2
            go_ret2
            exact ⟨rfl, rfl⟩
          · skip
            by_cases h25 : op = 25
            · subst h25
              show Calls Tryd.prog 22 _ w (fun e w' => e = .returned (.tuple #[.int .i64 24, .bool true]) ∧ w = w')
              go_enter Tryd.func22, Tryd.ntmps22
              go_wp2
              go_ret2
              exact ⟨rfl, rfl⟩
            · skip
              rw [show flipV op = none from by simp [flipV, h21, h22, h23, h26, h24, h25]]
              have t21 : (op == 21) = false := by simpa using h21
              have t22 : (op == 22) = false := by simpa using h22
              have t23 : (op == 23) = false := by simpa using h23
              have t26 : (op == 26) = false := by simpa using h26
              have t24 : (op == 24) = false := by simpa using h24
              have t25 : (op == 25) = false := by simpa using h25
              clear h21 h22 h23 h26 h24 h25
              show Calls Tryd.prog 22 _ w (fun e w' => e = .returned (.tuple #[.int .i64 0, .bool false]) ∧ w = w')
              go_enter Tryd.func22, Tryd.ntmps22
              go_wp2
              go_ret2
              exact ⟨rfl, rfl⟩
set_option maxHeartbeats 4000000 in
theorem swap_any (op : Int) (w : World) : Calls Tryd.prog 24 #[.int .i64 op] w (RI (swapV op) w) := by
  by_cases h11 : op = 11
  · subst h11
    show Calls Tryd.prog 24 _ w (fun e w' => e = .returned (.tuple #[.int .i64 11, .bool true]) ∧ w = w')
    go_enter Tryd.func24, Tryd.ntmps24
    go_wp2
    go_ret2
    exact ⟨rfl, rfl⟩
  · skip
    by_cases h13 : op = 13
    · subst h13
      show Calls Tryd.prog 24 _ w (fun e w' => e = .returned (.tuple #[.int .i64 13, .bool true]) ∧ w = w')
      go_enter Tryd.func24, Tryd.ntmps24
      go_wp2
      go_ret2
      exact ⟨rfl, rfl⟩
    · skip
      by_cases h16 : op = 16
      · subst h16
        show Calls Tryd.prog 24 _ w (fun e w' => e = .returned (.tuple #[.int .i64 16, .bool true]) ∧ w = w')
        go_enter Tryd.func24, Tryd.ntmps24
        go_wp2
        go_ret2
        exact ⟨rfl, rfl⟩
      · skip
        by_cases h17 : op = 17
        · subst h17
          show Calls Tryd.prog 24 _ w (fun e w' => e = .returned (.tuple #[.int .i64 17, .bool true]) ∧ w = w')
          go_enter Tryd.func24, Tryd.ntmps24
          go_wp2
          go_ret2
          exact ⟨rfl, rfl⟩
        · skip
          by_cases h18 : op = 18
          · subst h18
            show Calls Tryd.prog 24 _ w (fun e w' => e = .returned (.tuple #[.int .i64 18, .bool true]) ∧ w = w')
            go_enter Tryd.func24, Tryd.ntmps24
            go_wp2
            go_ret2
            exact ⟨rfl, rfl⟩
          · skip
            by_cases h21 : op = 21
            · subst h21
              show Calls Tryd.prog 24 _ w (fun e w' => e = .returned (.tuple #[.int .i64 21, .bool true]) ∧ w = w')
              go_enter Tryd.func24, Tryd.ntmps24
              go_wp2
              go_ret2
              exact ⟨rfl, rfl⟩
            · skip
              by_cases h22 : op = 22
              · subst h22
                show Calls Tryd.prog 24 _ w (fun e w' => e = .returned (.tuple #[.int .i64 22, .bool true]) ∧ w = w')
                go_enter Tryd.func24, Tryd.ntmps24
                go_wp2
                go_ret2
                exact ⟨rfl, rfl⟩
              · skip
                by_cases h23 : op = 23
                · subst h23
                  show Calls Tryd.prog 24 _ w (fun e w' => e = .returned (.tuple #[.int .i64 25, .bool true]) ∧ w = w')
                  go_enter Tryd.func24, Tryd.ntmps24
                  go_wp2
                  go_ret2
                  exact ⟨rfl, rfl⟩
                · skip
                  by_cases h25 : op = 25
                  · subst h25
                    show Calls Tryd.prog 24 _ w (fun e w' => e = .returned (.tuple #[.int .i64 23, .bool true]) ∧ w = w')
                    go_enter Tryd.func24, Tryd.ntmps24
                    go_wp2
                    go_ret2
                    exact ⟨rfl, rfl⟩
                  · skip
                    by_cases h24 : op = 24
                    · subst h24
                      show Calls Tryd.prog 24 _ w (fun e w' => e = .returned (.tuple #[.int .i64 26, .bool true]) ∧ w = w')
                      go_enter Tryd.func24, Tryd.ntmps24
                      go_wp2
                      go_ret2
                      exact ⟨rfl, rfl⟩
                    · skip
                      by_cases h26 : op = 26
                      · subst h26
                        show Calls Tryd.prog 24 _ w (fun e w' => e = .returned (.tuple #[.int .i64 24, .bool true]) ∧ w = w')
                        go_enter Tryd.func24, Tryd.ntmps24
                        go_wp2
                        go_ret2
                        exact ⟨rfl, rfl⟩
                      · skip
                        rw [show swapV op = none from by simp [swapV, h11, h13, h16, h17, h18, h21, h22, h23, h25, h24, h26]]
                        have t11 : (op == 11) = false := by simpa using h11
                        have t13 : (op == 13) = false := by simpa using h13
                        have t16 : (op == 16) = false := by simpa using h16
                        have t17 : (op == 17) = false := by simpa using h17
                        have t18 : (op == 18) = false := by simpa using h18
                        have t21 : (op == 21) = false := by simpa using h21
                        have t22 : (op == 22) = false := by simpa using h22
                        have t23 : (op == 23) = false := by simpa using h23
                        have t25 : (op == 25) = false := by simpa using h25
                        have t24 : (op == 24) = false := by simpa using h24
                        have t26 : (op == 26) = false := by simpa using h26
                        clear h11 h13 h16 h17 h18 h21 h22 h23 h25 h24 h26
                        show Calls Tryd.prog 24 _ w (fun e w' => e = .returned (.tuple #[.int .i64 0, .bool false]) ∧ w = w')
                        go_enter Tryd.func24, Tryd.ntmps24
                        go_wp2
                        go_ret2
                        exact ⟨rfl, rfl⟩

abbrev Tab (w : World) : Prop := Lib.TabIs Tryd.prog w "internal/strconv.uint64pow10" .u64 Lib.pow10Tab
theorem Tab.below {w w' : World} (h : Tab w) (hb : Below w.heap.size w w') : Tab w' := Lib.tabBelow_of_tabIs h w' hb
/-- a text -/
def RS (l : List UInt8) (w : World) (e : Ending) (w' : World) : Prop := e = .returned (.string ⟨l.toArray⟩) ∧ Below w.heap.size w w'
theorem fmt_any (n : Int) (h : Fits n) (w : World) (ht : Tab w) : Calls Tryd.prog 34 #[.int .i64 n, .int .i64 10] w (RS (Lib.itoa n) w) :=
  (Tryd.strconv_FormatInt_10 n h.1 h.2 w ht).mono fun e w' ⟨he, k, os, hw⟩ => ⟨he, by subst hw; exact Lib.below_grow _ _ (Nat.le_refl _) k os⟩
theorem itoa_any (n : Int) (h : Fits n) (w : World) (ht : Tab w) : Calls Tryd.prog 35 #[.int .i64 n] w (RS (Lib.itoa n) w) :=
  (Tryd.strconv_Itoa n h.1 h.2 w ht).mono fun e w' ⟨he, k, os, hw⟩ => ⟨he, by subst hw; exact Lib.below_grow _ _ (Nat.le_refl _) k os⟩
def textV (x : Vl) : List UInt8 := if intB x then Lib.itoa x.n else if ptrB x then [38] ++ Lib.itoa x.b ++ [43] ++ Lib.itoa x.n else [117, 110, 100, 101, 102]
theorem cat4 (a b c d : List UInt8) : (({ data := a.toArray } ++ { data := b.toArray } ++ { data := c.toArray } ++ { data := d.toArray } : ByteArray)) = { data := (a ++ b ++ c ++ d).toArray } := by
  apply ByteArray.ext
  simp [ByteArray.data_append]
theorem ret_str {a b : ByteArray} (h : a = b) : Ending.returned (.string a) = .returned (.string b) := by rw [h]
set_option maxHeartbeats 4000000 in
theorem text_any (k n b : Int) (fn : Fits n) (fb : Fits b) (w : World) (ht : Tab w) : Calls Tryd.prog 16 #[.agg #[.int .i64 (k), .int .i64 (n), .int .i64 (b)]] w (RS (textV ⟨k, n, b⟩) w) := by
  cases hx : intB ⟨k, n, b⟩
  · cases hp : ptrB ⟨k, n, b⟩
    · rw [show textV ⟨k, n, b⟩ = [117, 110, 100, 101, 102] from by simp [textV, hx, hp]]
      have HT := Lib.hid ht
      clear ht
      go_enter Tryd.func16, Tryd.ntmps16
      go_wp2_with fail
      refine (isInt_any k n b _).mono ?_
      rw [hx]
      rintro e w1 ⟨rfl, hb⟩
      have B1 := Lib.hid (And.intro ((Box.new w (.int .i64 k) (.int .i64 n) (.int .i64 b) rfl).below hb) (((Below.refl _ _).alloc (Nat.le_refl _) _).trans (hb.mono (by simp)) : Below w.heap.size w w1))
      obtain ⟨q0, q1, q2⟩ := B1.out.1.cells
      clear hb
      go_wp2_with fail
      refine (isPtr_any k n b _).mono ?_
      rw [hp]
      rintro e w2 ⟨rfl, hb⟩
      have B2 := Lib.hid (B1.out.2.trans (hb.mono B1.out.2.size))
      clear hb
      go_wp2_with fail
      go_ret
      exact ⟨rfl, B2.out⟩
    · rw [show textV ⟨k, n, b⟩ = [38] ++ Lib.itoa b ++ [43] ++ Lib.itoa n from by simp [textV, hx, hp]]
      have ln := Lib.itoa_length_le n fn.1 fn.2
      have lb := Lib.itoa_length_le b fb.1 fb.2
      have HT := Lib.hid ht
      clear ht
      go_enter Tryd.func16, Tryd.ntmps16
      go_wp2_with fail
      refine (isInt_any k n b _).mono ?_
      rw [hx]
      rintro e w1 ⟨rfl, hb⟩
      have B1 := Lib.hid (And.intro ((Box.new w (.int .i64 k) (.int .i64 n) (.int .i64 b) rfl).below hb) (((Below.refl _ _).alloc (Nat.le_refl _) _).trans (hb.mono (by simp)) : Below w.heap.size w w1))
      obtain ⟨q0, q1, q2⟩ := B1.out.1.cells
      clear hb
      go_wp2_with fail
      refine (isPtr_any k n b _).mono ?_
      rw [hp]
      rintro e w2 ⟨rfl, hb⟩
      have B2 := Lib.hid (And.intro (B1.out.1.below hb) (B1.out.2.trans (hb.mono B1.out.2.size)))
      clear hb q0 q1 q2
      obtain ⟨q0, q1, q2⟩ := B2.out.1.cells
      have kq0 := cell_regrown q0
      have kq1 := cell_regrown q1
      have kq2 := cell_regrown q2
      have C0 : ∀ d os, Calls Tryd.prog 35 #[.int .i64 b] (grow (redrawn w2 d) os) fun e w'' => e = .returned (.string ⟨(Lib.itoa b).toArray⟩) ∧ ∃ p : Regrown, w'' = grow (redrawn w2 p.d) p.os := fun d os => Calls.regrown_of (itoa_any b fb _ ((HT.out.below B2.out.2).below (below_regrown w2 d os)))
      have C1 : ∀ d os, Calls Tryd.prog 34 #[.int .i64 n, .int .i64 10] (grow (redrawn w2 d) os) fun e w'' => e = .returned (.string ⟨(Lib.itoa n).toArray⟩) ∧ ∃ p : Regrown, w'' = grow (redrawn w2 p.d) p.os := fun d os => Calls.regrown_of (fmt_any n fn _ ((HT.out.below B2.out.2).below (below_regrown w2 d os)))
      have D0 := Lib.hid C0
      have D1 := Lib.hid C1
      clear C0 C1
      go_wp2_with fail
      refine wp_region_quiet_below (by kernel_rfl) (by kernel_rfl) ?_
      repeat (any_goals (first | go_big_quiet_step (first | (with_reducible exact D0.out _ _) | (with_reducible exact D1.out _ _)) | quiet_step (first | (with_reducible exact D0.out _ _) | (with_reducible exact D1.out _ _))))
      refine wpQuiet_nil ?_
      intro _ hw'
      obtain ⟨⟨dq, osq⟩, hw''⟩ := hw'
      subst hw''
      go_wp2_with fail
      go_ret
      exact ⟨ret_str (cat4 [38] _ [43] _), B2.out.2.trans ((below_regrown w2 dq osq).mono B2.out.2.size)⟩
  · rw [show textV ⟨k, n, b⟩ = Lib.itoa n from by simp [textV, hx]]
    have HT := Lib.hid ht
    clear ht
    go_enter Tryd.func16, Tryd.ntmps16
    go_wp2_with fail
    refine (isInt_any k n b _).mono ?_
    rw [hx]
    rintro e w1 ⟨rfl, hb⟩
    have B1 := Lib.hid (And.intro ((Box.new w (.int .i64 k) (.int .i64 n) (.int .i64 b) rfl).below hb) (((Below.refl _ _).alloc (Nat.le_refl _) _).trans (hb.mono (by simp)) : Below w.heap.size w w1))
    obtain ⟨q0, q1, q2⟩ := B1.out.1.cells
    clear hb
    go_wp2_with fail
    refine (fmt_any n fn _ (HT.out.below B1.out.2)).mono ?_
    rintro e w2 ⟨rfl, hb⟩
    have B2 := Lib.hid (B1.out.2.trans (hb.mono B1.out.2.size))
    clear hb
    go_wp2_with fail
    go_ret
    exact ⟨rfl, B2.out⟩
end Go.Proofs.YtipeehmbloneoaaDoor

