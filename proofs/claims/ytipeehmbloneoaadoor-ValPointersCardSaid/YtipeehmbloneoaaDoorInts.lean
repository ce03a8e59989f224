/-
  val.ints: each operation of two Ints is what 'intsV' says, for every two numbers.
-/
import Derived.Test.YtipeehmbloneoaaDoorSmall
namespace Go.Proofs.YtipeehmbloneoaaDoor
open Go.RowKit

theorem ints11 (a b : Int) (ha : Fits a) (hb' : Fits b) (w : World) : Calls Tryd.prog 31 #[.int .i64 11, .int .i64 a, .int .i64 b] w (RV (some (Iv (wrap64 (a + b)))) w) := by
  obtain ⟨ha0, ha1⟩ := ha
  obtain ⟨hb0, hb1⟩ := hb'
  show Calls Tryd.prog 31 _ w (fun e w' => e = .returned (.tuple #[.agg #[.int .i64 1, .int .i64 (wrap64 (a + b)), .int .i64 0], .bool true]) ∧ Below w.heap.size w w')
  go_enter Tryd.func31, Tryd.ntmps31
  go_wp2_with fail
  refine (of_any (wrap64 (a + b)) _).mono ?_
  rintro e w' ⟨rfl, hb⟩
  have hB := (Box.new w (.int .i64 0) (.int .i64 0) (.int .i64 0) rfl).below hb
  have hl : Below w.heap.size w w' := ((Below.refl _ _).alloc (Nat.le_refl _) _).trans (hb.mono (by simp))
  obtain ⟨c0, c1, c2⟩ := hB.cells
  obtain ⟨f0, f1, f2⟩ := hB.frozen
  clear hb hB
  go_wp2_with fail
  exact bodyPost_ret (v := .tuple #[.agg #[.int .i64 1, .int .i64 (wrap64 (a + b)), .int .i64 0], .bool true]) (by simp [results, Tryd.results31, go_sem, c0, c1, c2]) rfl ⟨rfl, ((hl.setCell (p := ⟨w.heap.size, 0, none⟩) (Nat.le_refl _) _).setCell (p := ⟨w.heap.size, 1, none⟩) (Nat.le_refl _) _).setCell (p := ⟨w.heap.size, 2, none⟩) (Nat.le_refl _) _⟩
theorem ints12 (a b : Int) (ha : Fits a) (hb' : Fits b) (w : World) : Calls Tryd.prog 31 #[.int .i64 12, .int .i64 a, .int .i64 b] w (RV (some (Iv (wrap64 (a - b)))) w) := by
  obtain ⟨ha0, ha1⟩ := ha
  obtain ⟨hb0, hb1⟩ := hb'
  show Calls Tryd.prog 31 _ w (fun e w' => e = .returned (.tuple #[.agg #[.int .i64 1, .int .i64 (wrap64 (a - b)), .int .i64 0], .bool true]) ∧ Below w.heap.size w w')
  go_enter Tryd.func31, Tryd.ntmps31
  go_wp2_with fail
  refine (of_any (wrap64 (a - b)) _).mono ?_
  rintro e w' ⟨rfl, hb⟩
  have hB := (Box.new w (.int .i64 0) (.int .i64 0) (.int .i64 0) rfl).below hb
  have hl : Below w.heap.size w w' := ((Below.refl _ _).alloc (Nat.le_refl _) _).trans (hb.mono (by simp))
  obtain ⟨c0, c1, c2⟩ := hB.cells
  obtain ⟨f0, f1, f2⟩ := hB.frozen
  clear hb hB
  go_wp2_with fail
  exact bodyPost_ret (v := .tuple #[.agg #[.int .i64 1, .int .i64 (wrap64 (a - b)), .int .i64 0], .bool true]) (by simp [results, Tryd.results31, go_sem, c0, c1, c2]) rfl ⟨rfl, ((hl.setCell (p := ⟨w.heap.size, 0, none⟩) (Nat.le_refl _) _).setCell (p := ⟨w.heap.size, 1, none⟩) (Nat.le_refl _) _).setCell (p := ⟨w.heap.size, 2, none⟩) (Nat.le_refl _) _⟩
theorem ints13 (a b : Int) (ha : Fits a) (hb' : Fits b) (w : World) : Calls Tryd.prog 31 #[.int .i64 13, .int .i64 a, .int .i64 b] w (RV (some (Iv (wrap64 (a * b)))) w) := by
  obtain ⟨ha0, ha1⟩ := ha
  obtain ⟨hb0, hb1⟩ := hb'
  show Calls Tryd.prog 31 _ w (fun e w' => e = .returned (.tuple #[.agg #[.int .i64 1, .int .i64 (wrap64 (a * b)), .int .i64 0], .bool true]) ∧ Below w.heap.size w w')
  go_enter Tryd.func31, Tryd.ntmps31
  go_wp2_with fail
  refine (of_any (wrap64 (a * b)) _).mono ?_
  rintro e w' ⟨rfl, hb⟩
  have hB := (Box.new w (.int .i64 0) (.int .i64 0) (.int .i64 0) rfl).below hb
  have hl : Below w.heap.size w w' := ((Below.refl _ _).alloc (Nat.le_refl _) _).trans (hb.mono (by simp))
  obtain ⟨c0, c1, c2⟩ := hB.cells
  obtain ⟨f0, f1, f2⟩ := hB.frozen
  clear hb hB
  go_wp2_with fail
  exact bodyPost_ret (v := .tuple #[.agg #[.int .i64 1, .int .i64 (wrap64 (a * b)), .int .i64 0], .bool true]) (by simp [results, Tryd.results31, go_sem, c0, c1, c2]) rfl ⟨rfl, ((hl.setCell (p := ⟨w.heap.size, 0, none⟩) (Nat.le_refl _) _).setCell (p := ⟨w.heap.size, 1, none⟩) (Nat.le_refl _) _).setCell (p := ⟨w.heap.size, 2, none⟩) (Nat.le_refl _) _⟩
theorem ints16 (a b : Int) (ha : Fits a) (hb' : Fits b) (w : World) : Calls Tryd.prog 31 #[.int .i64 16, .int .i64 a, .int .i64 b] w (RV (some (Iv (bits .and .i64 a b))) w) := by
  obtain ⟨ha0, ha1⟩ := ha
  obtain ⟨hb0, hb1⟩ := hb'
  show Calls Tryd.prog 31 _ w (fun e w' => e = .returned (.tuple #[.agg #[.int .i64 1, .int .i64 (bits .and .i64 a b), .int .i64 0], .bool true]) ∧ Below w.heap.size w w')
  go_enter Tryd.func31, Tryd.ntmps31
  go_wp2_with fail
  refine (of_any (bits .and .i64 a b) _).mono ?_
  rintro e w' ⟨rfl, hb⟩
  have hB := (Box.new w (.int .i64 0) (.int .i64 0) (.int .i64 0) rfl).below hb
  have hl : Below w.heap.size w w' := ((Below.refl _ _).alloc (Nat.le_refl _) _).trans (hb.mono (by simp))
  obtain ⟨c0, c1, c2⟩ := hB.cells
  obtain ⟨f0, f1, f2⟩ := hB.frozen
  clear hb hB
  go_wp2_with fail
  exact bodyPost_ret (v := .tuple #[.agg #[.int .i64 1, .int .i64 (bits .and .i64 a b), .int .i64 0], .bool true]) (by simp [results, Tryd.results31, go_sem, c0, c1, c2]) rfl ⟨rfl, ((hl.setCell (p := ⟨w.heap.size, 0, none⟩) (Nat.le_refl _) _).setCell (p := ⟨w.heap.size, 1, none⟩) (Nat.le_refl _) _).setCell (p := ⟨w.heap.size, 2, none⟩) (Nat.le_refl _) _⟩
theorem ints17 (a b : Int) (ha : Fits a) (hb' : Fits b) (w : World) : Calls Tryd.prog 31 #[.int .i64 17, .int .i64 a, .int .i64 b] w (RV (some (Iv (bits .or .i64 a b))) w) := by
  obtain ⟨ha0, ha1⟩ := ha
  obtain ⟨hb0, hb1⟩ := hb'
  show Calls Tryd.prog 31 _ w (fun e w' => e = .returned (.tuple #[.agg #[.int .i64 1, .int .i64 (bits .or .i64 a b), .int .i64 0], .bool true]) ∧ Below w.heap.size w w')
  go_enter Tryd.func31, Tryd.ntmps31
  go_wp2_with fail
  refine (of_any (bits .or .i64 a b) _).mono ?_
  rintro e w' ⟨rfl, hb⟩
  have hB := (Box.new w (.int .i64 0) (.int .i64 0) (.int .i64 0) rfl).below hb
  have hl : Below w.heap.size w w' := ((Below.refl _ _).alloc (Nat.le_refl _) _).trans (hb.mono (by simp))
  obtain ⟨c0, c1, c2⟩ := hB.cells
  obtain ⟨f0, f1, f2⟩ := hB.frozen
  clear hb hB
  go_wp2_with fail
  exact bodyPost_ret (v := .tuple #[.agg #[.int .i64 1, .int .i64 (bits .or .i64 a b), .int .i64 0], .bool true]) (by simp [results, Tryd.results31, go_sem, c0, c1, c2]) rfl ⟨rfl, ((hl.setCell (p := ⟨w.heap.size, 0, none⟩) (Nat.le_refl _) _).setCell (p := ⟨w.heap.size, 1, none⟩) (Nat.le_refl _) _).setCell (p := ⟨w.heap.size, 2, none⟩) (Nat.le_refl _) _⟩
theorem ints18 (a b : Int) (ha : Fits a) (hb' : Fits b) (w : World) : Calls Tryd.prog 31 #[.int .i64 18, .int .i64 a, .int .i64 b] w (RV (some (Iv (bits .xor .i64 a b))) w) := by
  obtain ⟨ha0, ha1⟩ := ha
  obtain ⟨hb0, hb1⟩ := hb'
  show Calls Tryd.prog 31 _ w (fun e w' => e = .returned (.tuple #[.agg #[.int .i64 1, .int .i64 (bits .xor .i64 a b), .int .i64 0], .bool true]) ∧ Below w.heap.size w w')
  go_enter Tryd.func31, Tryd.ntmps31
  go_wp2_with fail
  refine (of_any (bits .xor .i64 a b) _).mono ?_
  rintro e w' ⟨rfl, hb⟩
  have hB := (Box.new w (.int .i64 0) (.int .i64 0) (.int .i64 0) rfl).below hb
  have hl : Below w.heap.size w w' := ((Below.refl _ _).alloc (Nat.le_refl _) _).trans (hb.mono (by simp))
  obtain ⟨c0, c1, c2⟩ := hB.cells
  obtain ⟨f0, f1, f2⟩ := hB.frozen
  clear hb hB
  go_wp2_with fail
  exact bodyPost_ret (v := .tuple #[.agg #[.int .i64 1, .int .i64 (bits .xor .i64 a b), .int .i64 0], .bool true]) (by simp [results, Tryd.results31, go_sem, c0, c1, c2]) rfl ⟨rfl, ((hl.setCell (p := ⟨w.heap.size, 0, none⟩) (Nat.le_refl _) _).setCell (p := ⟨w.heap.size, 1, none⟩) (Nat.le_refl _) _).setCell (p := ⟨w.heap.size, 2, none⟩) (Nat.le_refl _) _⟩
theorem ints21 (a b : Int) (ha : Fits a) (hb' : Fits b) (w : World) : Calls Tryd.prog 31 #[.int .i64 21, .int .i64 a, .int .i64 b] w (RV (some (truthV (decide (a = b)))) w) := by
  obtain ⟨ha0, ha1⟩ := ha
  obtain ⟨hb0, hb1⟩ := hb'
  show Calls Tryd.prog 31 _ w (fun e w' => e = .returned (.tuple #[.agg #[.int .i64 1, .int .i64 (t2i (decide (a = b))), .int .i64 0], .bool true]) ∧ Below w.heap.size w w')
  have ht : (a == b) = decide (a = b) := by first | rfl | (simp [bne]; rfl) | simp [bne]
  rw [← ht]
  clear ht
  go_enter Tryd.func31, Tryd.ntmps31
  go_wp2_with fail
  refine (truth_any ((a == b)) _).mono ?_
  rintro e w' ⟨rfl, hb⟩
  have hB := (Box.new w (.int .i64 0) (.int .i64 0) (.int .i64 0) rfl).below hb
  have hl : Below w.heap.size w w' := ((Below.refl _ _).alloc (Nat.le_refl _) _).trans (hb.mono (by simp))
  obtain ⟨c0, c1, c2⟩ := hB.cells
  obtain ⟨f0, f1, f2⟩ := hB.frozen
  clear hb hB
  go_wp2_with fail
  exact bodyPost_ret (v := .tuple #[.agg #[.int .i64 1, .int .i64 (t2i (a == b)), .int .i64 0], .bool true]) (by simp [results, Tryd.results31, go_sem, c0, c1, c2]) rfl ⟨rfl, ((hl.setCell (p := ⟨w.heap.size, 0, none⟩) (Nat.le_refl _) _).setCell (p := ⟨w.heap.size, 1, none⟩) (Nat.le_refl _) _).setCell (p := ⟨w.heap.size, 2, none⟩) (Nat.le_refl _) _⟩
theorem ints22 (a b : Int) (ha : Fits a) (hb' : Fits b) (w : World) : Calls Tryd.prog 31 #[.int .i64 22, .int .i64 a, .int .i64 b] w (RV (some (truthV (decide (a ≠ b)))) w) := by
  obtain ⟨ha0, ha1⟩ := ha
  obtain ⟨hb0, hb1⟩ := hb'
  show Calls Tryd.prog 31 _ w (fun e w' => e = .returned (.tuple #[.agg #[.int .i64 1, .int .i64 (t2i (decide (a ≠ b))), .int .i64 0], .bool true]) ∧ Below w.heap.size w w')
  have ht : (a != b) = decide (a ≠ b) := by first | rfl | (simp [bne]; rfl) | simp [bne]
  rw [← ht]
  clear ht
  go_enter Tryd.func31, Tryd.ntmps31
  go_wp2_with fail
  refine (truth_any ((a != b)) _).mono ?_
  rintro e w' ⟨rfl, hb⟩
  have hB := (Box.new w (.int .i64 0) (.int .i64 0) (.int .i64 0) rfl).below hb
  have hl : Below w.heap.size w w' := ((Below.refl _ _).alloc (Nat.le_refl _) _).trans (hb.mono (by simp))
  obtain ⟨c0, c1, c2⟩ := hB.cells
  obtain ⟨f0, f1, f2⟩ := hB.frozen
  clear hb hB
  go_wp2_with fail
  exact bodyPost_ret (v := .tuple #[.agg #[.int .i64 1, .int .i64 (t2i (a != b)), .int .i64 0], .bool true]) (by simp [results, Tryd.results31, go_sem, c0, c1, c2]) rfl ⟨rfl, ((hl.setCell (p := ⟨w.heap.size, 0, none⟩) (Nat.le_refl _) _).setCell (p := ⟨w.heap.size, 1, none⟩) (Nat.le_refl _) _).setCell (p := ⟨w.heap.size, 2, none⟩) (Nat.le_refl _) _⟩
theorem ints23 (a b : Int) (ha : Fits a) (hb' : Fits b) (w : World) : Calls Tryd.prog 31 #[.int .i64 23, .int .i64 a, .int .i64 b] w (RV (some (truthV (decide (a < b)))) w) := by
  obtain ⟨ha0, ha1⟩ := ha
  obtain ⟨hb0, hb1⟩ := hb'
  show Calls Tryd.prog 31 _ w (fun e w' => e = .returned (.tuple #[.agg #[.int .i64 1, .int .i64 (t2i (decide (a < b))), .int .i64 0], .bool true]) ∧ Below w.heap.size w w')
  go_enter Tryd.func31, Tryd.ntmps31
  go_wp2_with fail
  refine (truth_any (decide (a < b)) _).mono ?_
  rintro e w' ⟨rfl, hb⟩
  have hB := (Box.new w (.int .i64 0) (.int .i64 0) (.int .i64 0) rfl).below hb
  have hl : Below w.heap.size w w' := ((Below.refl _ _).alloc (Nat.le_refl _) _).trans (hb.mono (by simp))
  obtain ⟨c0, c1, c2⟩ := hB.cells
  obtain ⟨f0, f1, f2⟩ := hB.frozen
  clear hb hB
  go_wp2_with fail
  exact bodyPost_ret (v := .tuple #[.agg #[.int .i64 1, .int .i64 (t2i (decide (a < b))), .int .i64 0], .bool true]) (by simp [results, Tryd.results31, go_sem, c0, c1, c2]) rfl ⟨rfl, ((hl.setCell (p := ⟨w.heap.size, 0, none⟩) (Nat.le_refl _) _).setCell (p := ⟨w.heap.size, 1, none⟩) (Nat.le_refl _) _).setCell (p := ⟨w.heap.size, 2, none⟩) (Nat.le_refl _) _⟩
theorem ints24 (a b : Int) (ha : Fits a) (hb' : Fits b) (w : World) : Calls Tryd.prog 31 #[.int .i64 24, .int .i64 a, .int .i64 b] w (RV (some (truthV (decide (a ≤ b)))) w) := by
  obtain ⟨ha0, ha1⟩ := ha
  obtain ⟨hb0, hb1⟩ := hb'
  show Calls Tryd.prog 31 _ w (fun e w' => e = .returned (.tuple #[.agg #[.int .i64 1, .int .i64 (t2i (decide (a ≤ b))), .int .i64 0], .bool true]) ∧ Below w.heap.size w w')
  go_enter Tryd.func31, Tryd.ntmps31
  go_wp2_with fail
  refine (truth_any (decide (a ≤ b)) _).mono ?_
  rintro e w' ⟨rfl, hb⟩
  have hB := (Box.new w (.int .i64 0) (.int .i64 0) (.int .i64 0) rfl).below hb
  have hl : Below w.heap.size w w' := ((Below.refl _ _).alloc (Nat.le_refl _) _).trans (hb.mono (by simp))
  obtain ⟨c0, c1, c2⟩ := hB.cells
  obtain ⟨f0, f1, f2⟩ := hB.frozen
  clear hb hB
  go_wp2_with fail
  exact bodyPost_ret (v := .tuple #[.agg #[.int .i64 1, .int .i64 (t2i (decide (a ≤ b))), .int .i64 0], .bool true]) (by simp [results, Tryd.results31, go_sem, c0, c1, c2]) rfl ⟨rfl, ((hl.setCell (p := ⟨w.heap.size, 0, none⟩) (Nat.le_refl _) _).setCell (p := ⟨w.heap.size, 1, none⟩) (Nat.le_refl _) _).setCell (p := ⟨w.heap.size, 2, none⟩) (Nat.le_refl _) _⟩
theorem ints25 (a b : Int) (ha : Fits a) (hb' : Fits b) (w : World) : Calls Tryd.prog 31 #[.int .i64 25, .int .i64 a, .int .i64 b] w (RV (some (truthV (decide (b < a)))) w) := by
  obtain ⟨ha0, ha1⟩ := ha
  obtain ⟨hb0, hb1⟩ := hb'
  show Calls Tryd.prog 31 _ w (fun e w' => e = .returned (.tuple #[.agg #[.int .i64 1, .int .i64 (t2i (decide (b < a))), .int .i64 0], .bool true]) ∧ Below w.heap.size w w')
  go_enter Tryd.func31, Tryd.ntmps31
  go_wp2_with fail
  refine (truth_any (decide (b < a)) _).mono ?_
  rintro e w' ⟨rfl, hb⟩
  have hB := (Box.new w (.int .i64 0) (.int .i64 0) (.int .i64 0) rfl).below hb
  have hl : Below w.heap.size w w' := ((Below.refl _ _).alloc (Nat.le_refl _) _).trans (hb.mono (by simp))
  obtain ⟨c0, c1, c2⟩ := hB.cells
  obtain ⟨f0, f1, f2⟩ := hB.frozen
  clear hb hB
  go_wp2_with fail
  exact bodyPost_ret (v := .tuple #[.agg #[.int .i64 1, .int .i64 (t2i (decide (b < a))), .int .i64 0], .bool true]) (by simp [results, Tryd.results31, go_sem, c0, c1, c2]) rfl ⟨rfl, ((hl.setCell (p := ⟨w.heap.size, 0, none⟩) (Nat.le_refl _) _).setCell (p := ⟨w.heap.size, 1, none⟩) (Nat.le_refl _) _).setCell (p := ⟨w.heap.size, 2, none⟩) (Nat.le_refl _) _⟩
theorem ints26 (a b : Int) (ha : Fits a) (hb' : Fits b) (w : World) : Calls Tryd.prog 31 #[.int .i64 26, .int .i64 a, .int .i64 b] w (RV (some (truthV (decide (b ≤ a)))) w) := by
  obtain ⟨ha0, ha1⟩ := ha
  obtain ⟨hb0, hb1⟩ := hb'
  show Calls Tryd.prog 31 _ w (fun e w' => e = .returned (.tuple #[.agg #[.int .i64 1, .int .i64 (t2i (decide (b ≤ a))), .int .i64 0], .bool true]) ∧ Below w.heap.size w w')
  go_enter Tryd.func31, Tryd.ntmps31
  go_wp2_with fail
  refine (truth_any (decide (b ≤ a)) _).mono ?_
  rintro e w' ⟨rfl, hb⟩
  have hB := (Box.new w (.int .i64 0) (.int .i64 0) (.int .i64 0) rfl).below hb
  have hl : Below w.heap.size w w' := ((Below.refl _ _).alloc (Nat.le_refl _) _).trans (hb.mono (by simp))
  obtain ⟨c0, c1, c2⟩ := hB.cells
  obtain ⟨f0, f1, f2⟩ := hB.frozen
  clear hb hB
  go_wp2_with fail
  exact bodyPost_ret (v := .tuple #[.agg #[.int .i64 1, .int .i64 (t2i (decide (b ≤ a))), .int .i64 0], .bool true]) (by simp [results, Tryd.results31, go_sem, c0, c1, c2]) rfl ⟨rfl, ((hl.setCell (p := ⟨w.heap.size, 0, none⟩) (Nat.le_refl _) _).setCell (p := ⟨w.heap.size, 1, none⟩) (Nat.le_refl _) _).setCell (p := ⟨w.heap.size, 2, none⟩) (Nat.le_refl _) _⟩
theorem ints14 (a b : Int) (ha : Fits a) (hb' : Fits b) (w : World) : Calls Tryd.prog 31 #[.int .i64 14, .int .i64 a, .int .i64 b] w (RV (if b = 0 ∨ a = minI ∧ b = -1 then none else some (Iv (wrap64 (a.tdiv b)))) w) := by
  obtain ⟨ha0, ha1⟩ := ha
  obtain ⟨hb0, hb1⟩ := hb'
  by_cases h0 : b = 0
  · rw [if_pos (Or.inl h0)]
    subst h0
    show Calls Tryd.prog 31 _ w (fun e w' => e = .returned (.tuple #[.agg #[.int .i64 0, .int .i64 (0), .int .i64 0], .bool false]) ∧ Below w.heap.size w w')
    go_enter Tryd.func31, Tryd.ntmps31
    go_wp2_with fail
    exact bodyPost_ret (v := .tuple #[.agg #[.int .i64 0, .int .i64 (0), .int .i64 0], .bool false]) (by simp [results, Tryd.results31, go_sem]) rfl ⟨rfl, (Below.refl _ _).alloc (Nat.le_refl _) _⟩
  · have t0 : (b == 0) = false := by simpa using h0
    by_cases hm : a = minI
    · have tm : (a == -9223372036854775808) = true := by simpa [minI] using hm
      by_cases h1 : b = -1
      · rw [if_pos (Or.inr ⟨hm, h1⟩)]
        subst h1
        clear hm h0
        show Calls Tryd.prog 31 _ w (fun e w' => e = .returned (.tuple #[.agg #[.int .i64 0, .int .i64 (0), .int .i64 0], .bool false]) ∧ Below w.heap.size w w')
        go_enter Tryd.func31, Tryd.ntmps31
        go_wp2_with fail
        exact bodyPost_ret (v := .tuple #[.agg #[.int .i64 0, .int .i64 (0), .int .i64 0], .bool false]) (by simp [results, Tryd.results31, go_sem]) rfl ⟨rfl, (Below.refl _ _).alloc (Nat.le_refl _) _⟩
      · rw [if_neg (by rintro (h | h); exact h0 h; exact h1 h.2)]
        have t1 : (b == -1) = false := by simpa using h1
        have hbne : b ≠ 0 := h0
        clear hm h0 h1
        show Calls Tryd.prog 31 _ w (fun e w' => e = .returned (.tuple #[.agg #[.int .i64 1, .int .i64 (wrap64 (a.tdiv b)), .int .i64 0], .bool true]) ∧ Below w.heap.size w w')
        go_enter Tryd.func31, Tryd.ntmps31
        go_wp2_with fail
        refine (of_any (wrap64 (a.tdiv b)) _).mono ?_
        rintro e w' ⟨rfl, hb⟩
        have hB := (Box.new w (.int .i64 0) (.int .i64 0) (.int .i64 0) rfl).below hb
        have hl : Below w.heap.size w w' := ((Below.refl _ _).alloc (Nat.le_refl _) _).trans (hb.mono (by simp))
        obtain ⟨c0, c1, c2⟩ := hB.cells
        obtain ⟨f0, f1, f2⟩ := hB.frozen
        clear hb hB
        go_wp2_with fail
        exact bodyPost_ret (v := .tuple #[.agg #[.int .i64 1, .int .i64 (wrap64 (a.tdiv b)), .int .i64 0], .bool true]) (by simp [results, Tryd.results31, go_sem, c0, c1, c2]) rfl ⟨rfl, ((hl.setCell (p := ⟨w.heap.size, 0, none⟩) (Nat.le_refl _) _).setCell (p := ⟨w.heap.size, 1, none⟩) (Nat.le_refl _) _).setCell (p := ⟨w.heap.size, 2, none⟩) (Nat.le_refl _) _⟩
    · have tm : (a == -9223372036854775808) = false := by simpa [minI] using hm
      rw [if_neg (by rintro (h | h); exact h0 h; exact hm h.1)]
      have hbne : b ≠ 0 := h0
      clear hm h0
      show Calls Tryd.prog 31 _ w (fun e w' => e = .returned (.tuple #[.agg #[.int .i64 1, .int .i64 (wrap64 (a.tdiv b)), .int .i64 0], .bool true]) ∧ Below w.heap.size w w')
      go_enter Tryd.func31, Tryd.ntmps31
      go_wp2_with fail
      refine (of_any (wrap64 (a.tdiv b)) _).mono ?_
      rintro e w' ⟨rfl, hb⟩
      have hB := (Box.new w (.int .i64 0) (.int .i64 0) (.int .i64 0) rfl).below hb
      have hl : Below w.heap.size w w' := ((Below.refl _ _).alloc (Nat.le_refl _) _).trans (hb.mono (by simp))
      obtain ⟨c0, c1, c2⟩ := hB.cells
      obtain ⟨f0, f1, f2⟩ := hB.frozen
      clear hb hB
      go_wp2_with fail
      exact bodyPost_ret (v := .tuple #[.agg #[.int .i64 1, .int .i64 (wrap64 (a.tdiv b)), .int .i64 0], .bool true]) (by simp [results, Tryd.results31, go_sem, c0, c1, c2]) rfl ⟨rfl, ((hl.setCell (p := ⟨w.heap.size, 0, none⟩) (Nat.le_refl _) _).setCell (p := ⟨w.heap.size, 1, none⟩) (Nat.le_refl _) _).setCell (p := ⟨w.heap.size, 2, none⟩) (Nat.le_refl _) _⟩
theorem ints15 (a b : Int) (ha : Fits a) (hb' : Fits b) (w : World) : Calls Tryd.prog 31 #[.int .i64 15, .int .i64 a, .int .i64 b] w (RV (if b = 0 ∨ a = minI ∧ b = -1 then none else some (Iv (a.tmod b))) w) := by
  obtain ⟨ha0, ha1⟩ := ha
  obtain ⟨hb0, hb1⟩ := hb'
  by_cases h0 : b = 0
  · rw [if_pos (Or.inl h0)]
    subst h0
    show Calls Tryd.prog 31 _ w (fun e w' => e = .returned (.tuple #[.agg #[.int .i64 0, .int .i64 (0), .int .i64 0], .bool false]) ∧ Below w.heap.size w w')
    go_enter Tryd.func31, Tryd.ntmps31
    go_wp2_with fail
    exact bodyPost_ret (v := .tuple #[.agg #[.int .i64 0, .int .i64 (0), .int .i64 0], .bool false]) (by simp [results, Tryd.results31, go_sem]) rfl ⟨rfl, (Below.refl _ _).alloc (Nat.le_refl _) _⟩
  · have t0 : (b == 0) = false := by simpa using h0
    by_cases hm : a = minI
    · have tm : (a == -9223372036854775808) = true := by simpa [minI] using hm
      by_cases h1 : b = -1
      · rw [if_pos (Or.inr ⟨hm, h1⟩)]
        subst h1
        clear hm h0
        show Calls Tryd.prog 31 _ w (fun e w' => e = .returned (.tuple #[.agg #[.int .i64 0, .int .i64 (0), .int .i64 0], .bool false]) ∧ Below w.heap.size w w')
        go_enter Tryd.func31, Tryd.ntmps31
        go_wp2_with fail
        exact bodyPost_ret (v := .tuple #[.agg #[.int .i64 0, .int .i64 (0), .int .i64 0], .bool false]) (by simp [results, Tryd.results31, go_sem]) rfl ⟨rfl, (Below.refl _ _).alloc (Nat.le_refl _) _⟩
      · rw [if_neg (by rintro (h | h); exact h0 h; exact h1 h.2)]
        have t1 : (b == -1) = false := by simpa using h1
        have hbne : b ≠ 0 := h0
        clear hm h0 h1
        show Calls Tryd.prog 31 _ w (fun e w' => e = .returned (.tuple #[.agg #[.int .i64 1, .int .i64 (a.tmod b), .int .i64 0], .bool true]) ∧ Below w.heap.size w w')
        go_enter Tryd.func31, Tryd.ntmps31
        go_wp2_with fail
        refine (of_any (a.tmod b) _).mono ?_
        rintro e w' ⟨rfl, hb⟩
        have hB := (Box.new w (.int .i64 0) (.int .i64 0) (.int .i64 0) rfl).below hb
        have hl : Below w.heap.size w w' := ((Below.refl _ _).alloc (Nat.le_refl _) _).trans (hb.mono (by simp))
        obtain ⟨c0, c1, c2⟩ := hB.cells
        obtain ⟨f0, f1, f2⟩ := hB.frozen
        clear hb hB
        go_wp2_with fail
        exact bodyPost_ret (v := .tuple #[.agg #[.int .i64 1, .int .i64 (a.tmod b), .int .i64 0], .bool true]) (by simp [results, Tryd.results31, go_sem, c0, c1, c2]) rfl ⟨rfl, ((hl.setCell (p := ⟨w.heap.size, 0, none⟩) (Nat.le_refl _) _).setCell (p := ⟨w.heap.size, 1, none⟩) (Nat.le_refl _) _).setCell (p := ⟨w.heap.size, 2, none⟩) (Nat.le_refl _) _⟩
    · have tm : (a == -9223372036854775808) = false := by simpa [minI] using hm
      rw [if_neg (by rintro (h | h); exact h0 h; exact hm h.1)]
      have hbne : b ≠ 0 := h0
      clear hm h0
      show Calls Tryd.prog 31 _ w (fun e w' => e = .returned (.tuple #[.agg #[.int .i64 1, .int .i64 (a.tmod b), .int .i64 0], .bool true]) ∧ Below w.heap.size w w')
      go_enter Tryd.func31, Tryd.ntmps31
      go_wp2_with fail
      refine (of_any (a.tmod b) _).mono ?_
      rintro e w' ⟨rfl, hb⟩
      have hB := (Box.new w (.int .i64 0) (.int .i64 0) (.int .i64 0) rfl).below hb
      have hl : Below w.heap.size w w' := ((Below.refl _ _).alloc (Nat.le_refl _) _).trans (hb.mono (by simp))
      obtain ⟨c0, c1, c2⟩ := hB.cells
      obtain ⟨f0, f1, f2⟩ := hB.frozen
      clear hb hB
      go_wp2_with fail
      exact bodyPost_ret (v := .tuple #[.agg #[.int .i64 1, .int .i64 (a.tmod b), .int .i64 0], .bool true]) (by simp [results, Tryd.results31, go_sem, c0, c1, c2]) rfl ⟨rfl, ((hl.setCell (p := ⟨w.heap.size, 0, none⟩) (Nat.le_refl _) _).setCell (p := ⟨w.heap.size, 1, none⟩) (Nat.le_refl _) _).setCell (p := ⟨w.heap.size, 2, none⟩) (Nat.le_refl _) _⟩
theorem ints19 (a b : Int) (ha : Fits a) (hb' : Fits b) (w : World) : Calls Tryd.prog 31 #[.int .i64 19, .int .i64 a, .int .i64 b] w (RV (if b < 0 ∨ 63 < b then none else some (Iv (wrap64 (a * 2 ^ b.toNat)))) w) := by
  obtain ⟨ha0, ha1⟩ := ha
  obtain ⟨hb0, hb1⟩ := hb'
  by_cases h0 : b < 0
  · rw [if_pos (Or.inl h0)]
    show Calls Tryd.prog 31 _ w (fun e w' => e = .returned (.tuple #[.agg #[.int .i64 0, .int .i64 (0), .int .i64 0], .bool false]) ∧ Below w.heap.size w w')
    go_enter Tryd.func31, Tryd.ntmps31
    go_wp2_with fail
    exact bodyPost_ret (v := .tuple #[.agg #[.int .i64 0, .int .i64 (0), .int .i64 0], .bool false]) (by simp [results, Tryd.results31, go_sem]) rfl ⟨rfl, (Below.refl _ _).alloc (Nat.le_refl _) _⟩
  · by_cases h1 : 63 < b
    · rw [if_pos (Or.inr h1)]
      show Calls Tryd.prog 31 _ w (fun e w' => e = .returned (.tuple #[.agg #[.int .i64 0, .int .i64 (0), .int .i64 0], .bool false]) ∧ Below w.heap.size w w')
      go_enter Tryd.func31, Tryd.ntmps31
      go_wp2_with fail
      exact bodyPost_ret (v := .tuple #[.agg #[.int .i64 0, .int .i64 (0), .int .i64 0], .bool false]) (by simp [results, Tryd.results31, go_sem]) rfl ⟨rfl, (Below.refl _ _).alloc (Nat.le_refl _) _⟩
    · rw [if_neg (by rintro (h | h); exact h0 h; exact h1 h)]
      show Calls Tryd.prog 31 _ w (fun e w' => e = .returned (.tuple #[.agg #[.int .i64 1, .int .i64 (wrap64 (a * 2 ^ b.toNat)), .int .i64 0], .bool true]) ∧ Below w.heap.size w w')
      go_enter Tryd.func31, Tryd.ntmps31
      go_wp2_with fail
      refine (of_any (wrap64 (a * 2 ^ b.toNat)) _).mono ?_
      rintro e w' ⟨rfl, hb⟩
      have hB := (Box.new w (.int .i64 0) (.int .i64 0) (.int .i64 0) rfl).below hb
      have hl : Below w.heap.size w w' := ((Below.refl _ _).alloc (Nat.le_refl _) _).trans (hb.mono (by simp))
      obtain ⟨c0, c1, c2⟩ := hB.cells
      obtain ⟨f0, f1, f2⟩ := hB.frozen
      clear hb hB
      go_wp2_with fail
      exact bodyPost_ret (v := .tuple #[.agg #[.int .i64 1, .int .i64 (wrap64 (a * 2 ^ b.toNat)), .int .i64 0], .bool true]) (by simp [results, Tryd.results31, go_sem, c0, c1, c2]) rfl ⟨rfl, ((hl.setCell (p := ⟨w.heap.size, 0, none⟩) (Nat.le_refl _) _).setCell (p := ⟨w.heap.size, 1, none⟩) (Nat.le_refl _) _).setCell (p := ⟨w.heap.size, 2, none⟩) (Nat.le_refl _) _⟩
theorem ints20 (a b : Int) (ha : Fits a) (hb' : Fits b) (w : World) : Calls Tryd.prog 31 #[.int .i64 20, .int .i64 a, .int .i64 b] w (RV (if b < 0 ∨ 63 < b then none else some (Iv (a / 2 ^ b.toNat))) w) := by
  obtain ⟨ha0, ha1⟩ := ha
  obtain ⟨hb0, hb1⟩ := hb'
  by_cases h0 : b < 0
  · rw [if_pos (Or.inl h0)]
    show Calls Tryd.prog 31 _ w (fun e w' => e = .returned (.tuple #[.agg #[.int .i64 0, .int .i64 (0), .int .i64 0], .bool false]) ∧ Below w.heap.size w w')
    go_enter Tryd.func31, Tryd.ntmps31
    go_wp2_with fail
    exact bodyPost_ret (v := .tuple #[.agg #[.int .i64 0, .int .i64 (0), .int .i64 0], .bool false]) (by simp [results, Tryd.results31, go_sem]) rfl ⟨rfl, (Below.refl _ _).alloc (Nat.le_refl _) _⟩
  · by_cases h1 : 63 < b
    · rw [if_pos (Or.inr h1)]
      show Calls Tryd.prog 31 _ w (fun e w' => e = .returned (.tuple #[.agg #[.int .i64 0, .int .i64 (0), .int .i64 0], .bool false]) ∧ Below w.heap.size w w')
      go_enter Tryd.func31, Tryd.ntmps31
      go_wp2_with fail
      exact bodyPost_ret (v := .tuple #[.agg #[.int .i64 0, .int .i64 (0), .int .i64 0], .bool false]) (by simp [results, Tryd.results31, go_sem]) rfl ⟨rfl, (Below.refl _ _).alloc (Nat.le_refl _) _⟩
    · rw [if_neg (by rintro (h | h); exact h0 h; exact h1 h)]
      show Calls Tryd.prog 31 _ w (fun e w' => e = .returned (.tuple #[.agg #[.int .i64 1, .int .i64 (a / 2 ^ b.toNat), .int .i64 0], .bool true]) ∧ Below w.heap.size w w')
      go_enter Tryd.func31, Tryd.ntmps31
      go_wp2_with fail
      refine (of_any (a / 2 ^ b.toNat) _).mono ?_
      rintro e w' ⟨rfl, hb⟩
      have hB := (Box.new w (.int .i64 0) (.int .i64 0) (.int .i64 0) rfl).below hb
      have hl : Below w.heap.size w w' := ((Below.refl _ _).alloc (Nat.le_refl _) _).trans (hb.mono (by simp))
      obtain ⟨c0, c1, c2⟩ := hB.cells
      obtain ⟨f0, f1, f2⟩ := hB.frozen
      clear hb hB
      go_wp2_with fail
      exact bodyPost_ret (v := .tuple #[.agg #[.int .i64 1, .int .i64 (a / 2 ^ b.toNat), .int .i64 0], .bool true]) (by simp [results, Tryd.results31, go_sem, c0, c1, c2]) rfl ⟨rfl, ((hl.setCell (p := ⟨w.heap.size, 0, none⟩) (Nat.le_refl _) _).setCell (p := ⟨w.heap.size, 1, none⟩) (Nat.le_refl _) _).setCell (p := ⟨w.heap.size, 2, none⟩) (Nat.le_refl _) _⟩

theorem ints_any (op a b : Int) (ha : Fits a) (hb : Fits b) (w : World) : Calls Tryd.prog 31 #[.int .i64 op, .int .i64 a, .int .i64 b] w (RV (intsV op a b) w) := by
  by_cases h11 : op = 11
  · subst h11
    exact ints11 a b ha hb w
  · skip
    by_cases h12 : op = 12
    · subst h12
      exact ints12 a b ha hb w
    · skip
      by_cases h13 : op = 13
      · subst h13
        exact ints13 a b ha hb w
      · skip
        by_cases h14 : op = 14
        · subst h14
          exact ints14 a b ha hb w
        · skip
          by_cases h15 : op = 15
          · subst h15
            exact ints15 a b ha hb w
          · skip
            by_cases h16 : op = 16
            · subst h16
              exact ints16 a b ha hb w
            · skip
              by_cases h17 : op = 17
              · subst h17
                exact ints17 a b ha hb w
              · skip
                by_cases h18 : op = 18
                · subst h18
                  exact ints18 a b ha hb w
                · skip
                  by_cases h19 : op = 19
                  · subst h19
                    exact ints19 a b ha hb w
                  · skip
                    by_cases h20 : op = 20
                    · subst h20
                      exact ints20 a b ha hb w
                    · skip
                      by_cases h21 : op = 21
                      · subst h21
                        exact ints21 a b ha hb w
                      · skip
                        by_cases h22 : op = 22
                        · subst h22
                          exact ints22 a b ha hb w
                        · skip
                          by_cases h23 : op = 23
                          · subst h23
                            exact ints23 a b ha hb w
                          · skip
                            by_cases h24 : op = 24
                            · subst h24
                              exact ints24 a b ha hb w
                            · skip
                              by_cases h25 : op = 25
                              · subst h25
                                exact ints25 a b ha hb w
                              · skip
                                by_cases h26 : op = 26
                                · subst h26
                                  exact ints26 a b ha hb w
                                · skip
                                  have e : intsV op a b = none := by simp only [intsV, if_neg h11, if_neg h12, if_neg h13, if_neg h14, if_neg h15, if_neg h16, if_neg h17, if_neg h18, if_neg h19, if_neg h20, if_neg h21, if_neg h22, if_neg h23, if_neg h24, if_neg h25, if_neg h26]
                                  rw [e]
                                  have t11 : (op == 11) = false := by simpa using h11
                                  have t12 : (op == 12) = false := by simpa using h12
                                  have t13 : (op == 13) = false := by simpa using h13
                                  have t14 : (op == 14) = false := by simpa using h14
                                  have t15 : (op == 15) = false := by simpa using h15
                                  have t16 : (op == 16) = false := by simpa using h16
                                  have t17 : (op == 17) = false := by simpa using h17
                                  have t18 : (op == 18) = false := by simpa using h18
                                  have t19 : (op == 19) = false := by simpa using h19
                                  have t20 : (op == 20) = false := by simpa using h20
                                  have t21 : (op == 21) = false := by simpa using h21
                                  have t22 : (op == 22) = false := by simpa using h22
                                  have t23 : (op == 23) = false := by simpa using h23
                                  have t24 : (op == 24) = false := by simpa using h24
                                  have t25 : (op == 25) = false := by simpa using h25
                                  have t26 : (op == 26) = false := by simpa using h26
                                  clear h11 h12 h13 h14 h15 h16 h17 h18 h19 h20 h21 h22 h23 h24 h25 h26 e
                                  show Calls Tryd.prog 31 _ w (fun e w' => e = .returned (.tuple #[.agg #[.int .i64 0, .int .i64 (0), .int .i64 0], .bool false]) ∧ Below w.heap.size w w')
                                  go_enter Tryd.func31, Tryd.ntmps31
                                  go_wp2_with fail
                                  exact bodyPost_ret (v := .tuple #[.agg #[.int .i64 0, .int .i64 (0), .int .i64 0], .bool false]) (by simp [results, Tryd.results31, go_sem]) rfl ⟨rfl, (Below.refl _ _).alloc (Nat.le_refl _) _⟩
end Go.Proofs.YtipeehmbloneoaaDoor

