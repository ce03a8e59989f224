/-
  The reference's ints: each operation of two Ints is what 'intsV' says, for every two numbers.
-/
import Derived.Test.YtipeehmbloneoaaDoorDiv
namespace Go.Proofs.YtipeehmbloneoaaDoor
open Go.RowKit

theorem div_ex (a b : Int) (ha : Fits a) (hb : Fits b) (w : World) : Calls Tryd.prog 43 #[.int .i64 a, .int .i64 b] w (fun e w' => ∃ (q r : Int) (ok : Bool), e = .returned (.tuple #[.int .i64 q, .int .i64 r, .bool ok]) ∧ w = w') :=
  (div_any a b ha hb w).mono fun _ _ h => ⟨_, _, _, h⟩
theorem div_ok (a b : Int) (ha : Fits a) (hb : Fits b) (h : noDiv a b = false) (w : World) : Calls Tryd.prog 43 #[.int .i64 a, .int .i64 b] w (fun e w' => e = .returned (.tuple #[.int .i64 (a.tdiv b), .int .i64 (a.tmod b), .bool true]) ∧ w = w') :=
  (div_any a b ha hb w).mono fun _ _ hh => by
    unfold RD at hh
    simpa [h] using hh
theorem div_no (a b : Int) (ha : Fits a) (hb : Fits b) (h : noDiv a b = true) (w : World) : Calls Tryd.prog 43 #[.int .i64 a, .int .i64 b] w (fun e w' => e = .returned (.tuple #[.int .i64 0, .int .i64 0, .bool false]) ∧ w = w') :=
  (div_any a b ha hb w).mono fun _ _ hh => by
    unfold RD at hh
    simpa [h] using hh

theorem tdiv_fits {a b : Int} (ha : Fits a) (h : noDiv a b = false) : Fits (a.tdiv b) := by
  unfold Fits at *
  simp only [noDiv, Bool.or_eq_false_iff, Bool.and_eq_false_iff, beq_eq_false_iff_ne, ne_eq] at h
  have h1 := Int.natAbs_tdiv_le_natAbs a b
  refine ⟨by omega, ?_⟩
  by_cases e : a = minI
  · have hb1 : b ≠ -1 := by rcases h.2 with h | h; exact absurd e h; exact h
    unfold minI at e
    subst e
    have hn : (Int.tdiv (-9223372036854775808) b).natAbs = 9223372036854775808 / b.natAbs := Int.natAbs_tdiv _ _
    by_cases h2 : b = 1
    · subst h2; simp
    · have : 2 ≤ b.natAbs := by omega
      have := Nat.div_le_div_left this (by decide : 0 < 2) (a := 9223372036854775808)
      omega
  · unfold minI at e
    omega
theorem fits_shr {a : Int} (h : -9223372036854775808 ≤ a ∧ a ≤ 9223372036854775807) (k : Nat) : Fits (a / 2 ^ k) := by
  have hp : (0 : Int) < 2 ^ k := by exact_mod_cast Nat.two_pow_pos k
  refine ⟨Int.le_ediv_of_mul_le hp ?_, ?_⟩
  · have : (-9223372036854775808 : Int) * 2 ^ k ≤ -9223372036854775808 * 1 := Int.mul_le_mul_of_nonpos_left (by omega) (by omega)
    omega
  · have := Int.ediv_le_ediv (c := 2 ^ k) hp h.2
    have h2 : (9223372036854775807 : Int) / 2 ^ k ≤ 9223372036854775807 := Int.ediv_le_self _ (by omega)
    omega
theorem shl_step (a : Int) (k : Nat) : wrap64 (a * 2 ^ (k + 1)) = wrap64 (wrap64 (a * 2 ^ k) + wrap64 (a * 2 ^ k)) := by
  rw [wrap_add, wrap_add', Int.pow_succ, ← Int.mul_assoc]
  congr 1
  omega
theorem shr_step (a : Int) (k : Nat) : a / 2 ^ (k + 1) = a / 2 ^ k / 2 := by
  rw [Int.pow_succ, Int.ediv_ediv_of_nonneg (by exact_mod_cast Nat.zero_le _)]
theorem shr_half (x : Int) (h0 : -9223372036854775808 ≤ x) (h1 : x ≤ 9223372036854775807) : ∃ y, bits .and .i64 x 1 = y ∧ wrap64 (x - y) = x - y ∧ wrap64 ((x - y).tdiv 2) = x / 2 := by
  have e := and_low x 1 (by omega)
  simp at e
  refine ⟨_, e, wrap_fits ⟨by omega, by omega⟩, ?_⟩
  have : (x - x % 2).tdiv 2 = x / 2 := by
    rw [show x - x % 2 = 2 * (x / 2) by omega]
    exact Int.mul_tdiv_cancel_left _ (by decide)
  rw [this]
  exact wrap_fits ⟨by omega, by omega⟩
theorem rints11 (a b : Int) (ha : Fits a) (hb' : Fits b) (w : World) : Calls Tryd.prog 37 #[.int .i64 11, .int .i64 a, .int .i64 b] w (RV (some (Iv (wrap64 (a + b)))) w) := by
  have ⟨ha0, ha1⟩ := ha
  have ⟨hb0, hb1⟩ := hb'
  show Calls Tryd.prog 37 _ w (fun e w' => e = .returned (.tuple #[.agg #[.int .i64 1, .int .i64 (wrap64 (a + b)), .int .i64 0], .bool true]) ∧ Below w.heap.size w w')
  go_enter Tryd.func37, Tryd.ntmps37
  go_wp2_with fail
  refine (div_ex a b ha hb' _).mono ?_
  rintro e w1 ⟨q, r, ok, rfl, rfl⟩
  clear ha hb'
  go_wp2_with fail
  refine (rof_any (wrap64 (a + b)) _).mono ?_
  rintro e w' ⟨rfl, hb⟩
  have hB := (Box.new w (.int .i64 0) (.int .i64 0) (.int .i64 0) rfl).below hb
  have hl : Below w.heap.size w w' := ((Below.refl _ _).alloc (Nat.le_refl _) _).trans (hb.mono (by simp))
  obtain ⟨c0, c1, c2⟩ := hB.cells
  obtain ⟨f0, f1, f2⟩ := hB.frozen
  clear hb hB
  go_wp2_with fail
  exact bodyPost_ret (v := .tuple #[.agg #[.int .i64 1, .int .i64 (wrap64 (a + b)), .int .i64 0], .bool true]) (by simp [results, Tryd.results37, go_sem, c0, c1, c2]) rfl ⟨rfl, ((hl.setCell (p := ⟨w.heap.size, 0, none⟩) (Nat.le_refl _) _).setCell (p := ⟨w.heap.size, 1, none⟩) (Nat.le_refl _) _).setCell (p := ⟨w.heap.size, 2, none⟩) (Nat.le_refl _) _⟩
theorem rints12 (a b : Int) (ha : Fits a) (hb' : Fits b) (w : World) : Calls Tryd.prog 37 #[.int .i64 12, .int .i64 a, .int .i64 b] w (RV (some (Iv (wrap64 (a - b)))) w) := by
  have ⟨ha0, ha1⟩ := ha
  have ⟨hb0, hb1⟩ := hb'
  show Calls Tryd.prog 37 _ w (fun e w' => e = .returned (.tuple #[.agg #[.int .i64 1, .int .i64 (wrap64 (a - b)), .int .i64 0], .bool true]) ∧ Below w.heap.size w w')
  go_enter Tryd.func37, Tryd.ntmps37
  go_wp2_with fail
  refine (div_ex a b ha hb' _).mono ?_
  rintro e w1 ⟨q, r, ok, rfl, rfl⟩
  clear ha hb'
  go_wp2_with fail
  refine (rof_any (wrap64 (a - b)) _).mono ?_
  rintro e w' ⟨rfl, hb⟩
  have hB := (Box.new w (.int .i64 0) (.int .i64 0) (.int .i64 0) rfl).below hb
  have hl : Below w.heap.size w w' := ((Below.refl _ _).alloc (Nat.le_refl _) _).trans (hb.mono (by simp))
  obtain ⟨c0, c1, c2⟩ := hB.cells
  obtain ⟨f0, f1, f2⟩ := hB.frozen
  clear hb hB
  go_wp2_with fail
  exact bodyPost_ret (v := .tuple #[.agg #[.int .i64 1, .int .i64 (wrap64 (a - b)), .int .i64 0], .bool true]) (by simp [results, Tryd.results37, go_sem, c0, c1, c2]) rfl ⟨rfl, ((hl.setCell (p := ⟨w.heap.size, 0, none⟩) (Nat.le_refl _) _).setCell (p := ⟨w.heap.size, 1, none⟩) (Nat.le_refl _) _).setCell (p := ⟨w.heap.size, 2, none⟩) (Nat.le_refl _) _⟩
theorem rints13 (a b : Int) (ha : Fits a) (hb' : Fits b) (w : World) : Calls Tryd.prog 37 #[.int .i64 13, .int .i64 a, .int .i64 b] w (RV (some (Iv (wrap64 (a * b)))) w) := by
  have ⟨ha0, ha1⟩ := ha
  have ⟨hb0, hb1⟩ := hb'
  show Calls Tryd.prog 37 _ w (fun e w' => e = .returned (.tuple #[.agg #[.int .i64 1, .int .i64 (wrap64 (a * b)), .int .i64 0], .bool true]) ∧ Below w.heap.size w w')
  go_enter Tryd.func37, Tryd.ntmps37
  go_wp2_with fail
  refine (div_ex a b ha hb' _).mono ?_
  rintro e w1 ⟨q, r, ok, rfl, rfl⟩
  clear ha hb'
  go_wp2_with fail
  refine (rof_any (wrap64 (a * b)) _).mono ?_
  rintro e w' ⟨rfl, hb⟩
  have hB := (Box.new w (.int .i64 0) (.int .i64 0) (.int .i64 0) rfl).below hb
  have hl : Below w.heap.size w w' := ((Below.refl _ _).alloc (Nat.le_refl _) _).trans (hb.mono (by simp))
  obtain ⟨c0, c1, c2⟩ := hB.cells
  obtain ⟨f0, f1, f2⟩ := hB.frozen
  clear hb hB
  go_wp2_with fail
  exact bodyPost_ret (v := .tuple #[.agg #[.int .i64 1, .int .i64 (wrap64 (a * b)), .int .i64 0], .bool true]) (by simp [results, Tryd.results37, go_sem, c0, c1, c2]) rfl ⟨rfl, ((hl.setCell (p := ⟨w.heap.size, 0, none⟩) (Nat.le_refl _) _).setCell (p := ⟨w.heap.size, 1, none⟩) (Nat.le_refl _) _).setCell (p := ⟨w.heap.size, 2, none⟩) (Nat.le_refl _) _⟩
theorem rints16 (a b : Int) (ha : Fits a) (hb' : Fits b) (w : World) : Calls Tryd.prog 37 #[.int .i64 16, .int .i64 a, .int .i64 b] w (RV (some (Iv (bits .and .i64 a b))) w) := by
  have ⟨ha0, ha1⟩ := ha
  have ⟨hb0, hb1⟩ := hb'
  show Calls Tryd.prog 37 _ w (fun e w' => e = .returned (.tuple #[.agg #[.int .i64 1, .int .i64 (bits .and .i64 a b), .int .i64 0], .bool true]) ∧ Below w.heap.size w w')
  go_enter Tryd.func37, Tryd.ntmps37
  go_wp2_with fail
  refine (div_ex a b ha hb' _).mono ?_
  rintro e w1 ⟨q, r, ok, rfl, rfl⟩
  clear ha hb'
  go_wp2_with fail
  refine (rof_any (bits .and .i64 a b) _).mono ?_
  rintro e w' ⟨rfl, hb⟩
  have hB := (Box.new w (.int .i64 0) (.int .i64 0) (.int .i64 0) rfl).below hb
  have hl : Below w.heap.size w w' := ((Below.refl _ _).alloc (Nat.le_refl _) _).trans (hb.mono (by simp))
  obtain ⟨c0, c1, c2⟩ := hB.cells
  obtain ⟨f0, f1, f2⟩ := hB.frozen
  clear hb hB
  go_wp2_with fail
  exact bodyPost_ret (v := .tuple #[.agg #[.int .i64 1, .int .i64 (bits .and .i64 a b), .int .i64 0], .bool true]) (by simp [results, Tryd.results37, go_sem, c0, c1, c2]) rfl ⟨rfl, ((hl.setCell (p := ⟨w.heap.size, 0, none⟩) (Nat.le_refl _) _).setCell (p := ⟨w.heap.size, 1, none⟩) (Nat.le_refl _) _).setCell (p := ⟨w.heap.size, 2, none⟩) (Nat.le_refl _) _⟩
theorem rints17 (a b : Int) (ha : Fits a) (hb' : Fits b) (w : World) : Calls Tryd.prog 37 #[.int .i64 17, .int .i64 a, .int .i64 b] w (RV (some (Iv (bits .or .i64 a b))) w) := by
  have ⟨ha0, ha1⟩ := ha
  have ⟨hb0, hb1⟩ := hb'
  show Calls Tryd.prog 37 _ w (fun e w' => e = .returned (.tuple #[.agg #[.int .i64 1, .int .i64 (bits .or .i64 a b), .int .i64 0], .bool true]) ∧ Below w.heap.size w w')
  go_enter Tryd.func37, Tryd.ntmps37
  go_wp2_with fail
  refine (div_ex a b ha hb' _).mono ?_
  rintro e w1 ⟨q, r, ok, rfl, rfl⟩
  clear ha hb'
  go_wp2_with fail
  refine (rof_any (bits .or .i64 a b) _).mono ?_
  rintro e w' ⟨rfl, hb⟩
  have hB := (Box.new w (.int .i64 0) (.int .i64 0) (.int .i64 0) rfl).below hb
  have hl : Below w.heap.size w w' := ((Below.refl _ _).alloc (Nat.le_refl _) _).trans (hb.mono (by simp))
  obtain ⟨c0, c1, c2⟩ := hB.cells
  obtain ⟨f0, f1, f2⟩ := hB.frozen
  clear hb hB
  go_wp2_with fail
  exact bodyPost_ret (v := .tuple #[.agg #[.int .i64 1, .int .i64 (bits .or .i64 a b), .int .i64 0], .bool true]) (by simp [results, Tryd.results37, go_sem, c0, c1, c2]) rfl ⟨rfl, ((hl.setCell (p := ⟨w.heap.size, 0, none⟩) (Nat.le_refl _) _).setCell (p := ⟨w.heap.size, 1, none⟩) (Nat.le_refl _) _).setCell (p := ⟨w.heap.size, 2, none⟩) (Nat.le_refl _) _⟩
theorem rints18 (a b : Int) (ha : Fits a) (hb' : Fits b) (w : World) : Calls Tryd.prog 37 #[.int .i64 18, .int .i64 a, .int .i64 b] w (RV (some (Iv (bits .xor .i64 a b))) w) := by
  have ⟨ha0, ha1⟩ := ha
  have ⟨hb0, hb1⟩ := hb'
  rw [← xor_less a b]
  show Calls Tryd.prog 37 _ w (fun e w' => e = .returned (.tuple #[.agg #[.int .i64 1, .int .i64 (wrap64 (bits .or .i64 a b - bits .and .i64 a b)), .int .i64 0], .bool true]) ∧ Below w.heap.size w w')
  go_enter Tryd.func37, Tryd.ntmps37
  go_wp2_with fail
  refine (div_ex a b ha hb' _).mono ?_
  rintro e w1 ⟨q, r, ok, rfl, rfl⟩
  clear ha hb'
  go_wp2_with fail
  refine (rof_any (wrap64 (bits .or .i64 a b - bits .and .i64 a b)) _).mono ?_
  rintro e w' ⟨rfl, hb⟩
  have hB := (Box.new w (.int .i64 0) (.int .i64 0) (.int .i64 0) rfl).below hb
  have hl : Below w.heap.size w w' := ((Below.refl _ _).alloc (Nat.le_refl _) _).trans (hb.mono (by simp))
  obtain ⟨c0, c1, c2⟩ := hB.cells
  obtain ⟨f0, f1, f2⟩ := hB.frozen
  clear hb hB
  go_wp2_with fail
  exact bodyPost_ret (v := .tuple #[.agg #[.int .i64 1, .int .i64 (wrap64 (bits .or .i64 a b - bits .and .i64 a b)), .int .i64 0], .bool true]) (by simp [results, Tryd.results37, go_sem, c0, c1, c2]) rfl ⟨rfl, ((hl.setCell (p := ⟨w.heap.size, 0, none⟩) (Nat.le_refl _) _).setCell (p := ⟨w.heap.size, 1, none⟩) (Nat.le_refl _) _).setCell (p := ⟨w.heap.size, 2, none⟩) (Nat.le_refl _) _⟩
theorem rints21 (a b : Int) (ha : Fits a) (hb' : Fits b) (w : World) : Calls Tryd.prog 37 #[.int .i64 21, .int .i64 a, .int .i64 b] w (RV (some (truthV (decide (a = b)))) w) := by
  have ⟨ha0, ha1⟩ := ha
  have ⟨hb0, hb1⟩ := hb'
  show Calls Tryd.prog 37 _ w (fun e w' => e = .returned (.tuple #[.agg #[.int .i64 1, .int .i64 (t2i (decide (a = b))), .int .i64 0], .bool true]) ∧ Below w.heap.size w w')
  have ht : (a == b) = decide (a = b) := by first | rfl | (simp [bne]; rfl) | simp [bne]
  rw [← ht]
  clear ht
  go_enter Tryd.func37, Tryd.ntmps37
  go_wp2_with fail
  refine (div_ex a b ha hb' _).mono ?_
  rintro e w1 ⟨q, r, ok, rfl, rfl⟩
  clear ha hb'
  go_wp2_with fail
  refine (bit_any ((a == b)) _).mono ?_
  rintro e w' ⟨rfl, hb⟩
  have hB := (Box.new w (.int .i64 0) (.int .i64 0) (.int .i64 0) rfl).below hb
  have hl : Below w.heap.size w w' := ((Below.refl _ _).alloc (Nat.le_refl _) _).trans (hb.mono (by simp))
  obtain ⟨c0, c1, c2⟩ := hB.cells
  obtain ⟨f0, f1, f2⟩ := hB.frozen
  clear hb hB
  go_wp2_with fail
  exact bodyPost_ret (v := .tuple #[.agg #[.int .i64 1, .int .i64 (t2i (a == b)), .int .i64 0], .bool true]) (by simp [results, Tryd.results37, go_sem, c0, c1, c2]) rfl ⟨rfl, ((hl.setCell (p := ⟨w.heap.size, 0, none⟩) (Nat.le_refl _) _).setCell (p := ⟨w.heap.size, 1, none⟩) (Nat.le_refl _) _).setCell (p := ⟨w.heap.size, 2, none⟩) (Nat.le_refl _) _⟩
theorem rints22 (a b : Int) (ha : Fits a) (hb' : Fits b) (w : World) : Calls Tryd.prog 37 #[.int .i64 22, .int .i64 a, .int .i64 b] w (RV (some (truthV (decide (a ≠ b)))) w) := by
  have ⟨ha0, ha1⟩ := ha
  have ⟨hb0, hb1⟩ := hb'
  show Calls Tryd.prog 37 _ w (fun e w' => e = .returned (.tuple #[.agg #[.int .i64 1, .int .i64 (t2i (decide (a ≠ b))), .int .i64 0], .bool true]) ∧ Below w.heap.size w w')
  have ht : (a != b) = decide (a ≠ b) := by first | rfl | (simp [bne]; rfl) | simp [bne]
  rw [← ht]
  clear ht
  go_enter Tryd.func37, Tryd.ntmps37
  go_wp2_with fail
  refine (div_ex a b ha hb' _).mono ?_
  rintro e w1 ⟨q, r, ok, rfl, rfl⟩
  clear ha hb'
  go_wp2_with fail
  refine (bit_any ((a != b)) _).mono ?_
  rintro e w' ⟨rfl, hb⟩
  have hB := (Box.new w (.int .i64 0) (.int .i64 0) (.int .i64 0) rfl).below hb
  have hl : Below w.heap.size w w' := ((Below.refl _ _).alloc (Nat.le_refl _) _).trans (hb.mono (by simp))
  obtain ⟨c0, c1, c2⟩ := hB.cells
  obtain ⟨f0, f1, f2⟩ := hB.frozen
  clear hb hB
  go_wp2_with fail
  exact bodyPost_ret (v := .tuple #[.agg #[.int .i64 1, .int .i64 (t2i (a != b)), .int .i64 0], .bool true]) (by simp [results, Tryd.results37, go_sem, c0, c1, c2]) rfl ⟨rfl, ((hl.setCell (p := ⟨w.heap.size, 0, none⟩) (Nat.le_refl _) _).setCell (p := ⟨w.heap.size, 1, none⟩) (Nat.le_refl _) _).setCell (p := ⟨w.heap.size, 2, none⟩) (Nat.le_refl _) _⟩
theorem rints23 (a b : Int) (ha : Fits a) (hb' : Fits b) (w : World) : Calls Tryd.prog 37 #[.int .i64 23, .int .i64 a, .int .i64 b] w (RV (some (truthV (decide (a < b)))) w) := by
  have ⟨ha0, ha1⟩ := ha
  have ⟨hb0, hb1⟩ := hb'
  show Calls Tryd.prog 37 _ w (fun e w' => e = .returned (.tuple #[.agg #[.int .i64 1, .int .i64 (t2i (decide (a < b))), .int .i64 0], .bool true]) ∧ Below w.heap.size w w')
  go_enter Tryd.func37, Tryd.ntmps37
  go_wp2_with fail
  refine (div_ex a b ha hb' _).mono ?_
  rintro e w1 ⟨q, r, ok, rfl, rfl⟩
  clear ha hb'
  go_wp2_with fail
  refine (bit_any (decide (a < b)) _).mono ?_
  rintro e w' ⟨rfl, hb⟩
  have hB := (Box.new w (.int .i64 0) (.int .i64 0) (.int .i64 0) rfl).below hb
  have hl : Below w.heap.size w w' := ((Below.refl _ _).alloc (Nat.le_refl _) _).trans (hb.mono (by simp))
  obtain ⟨c0, c1, c2⟩ := hB.cells
  obtain ⟨f0, f1, f2⟩ := hB.frozen
  clear hb hB
  go_wp2_with fail
  exact bodyPost_ret (v := .tuple #[.agg #[.int .i64 1, .int .i64 (t2i (decide (a < b))), .int .i64 0], .bool true]) (by simp [results, Tryd.results37, go_sem, c0, c1, c2]) rfl ⟨rfl, ((hl.setCell (p := ⟨w.heap.size, 0, none⟩) (Nat.le_refl _) _).setCell (p := ⟨w.heap.size, 1, none⟩) (Nat.le_refl _) _).setCell (p := ⟨w.heap.size, 2, none⟩) (Nat.le_refl _) _⟩
theorem rints24 (a b : Int) (ha : Fits a) (hb' : Fits b) (w : World) : Calls Tryd.prog 37 #[.int .i64 24, .int .i64 a, .int .i64 b] w (RV (some (truthV (decide (a ≤ b)))) w) := by
  have ⟨ha0, ha1⟩ := ha
  have ⟨hb0, hb1⟩ := hb'
  show Calls Tryd.prog 37 _ w (fun e w' => e = .returned (.tuple #[.agg #[.int .i64 1, .int .i64 (t2i (decide (a ≤ b))), .int .i64 0], .bool true]) ∧ Below w.heap.size w w')
  go_enter Tryd.func37, Tryd.ntmps37
  go_wp2_with fail
  refine (div_ex a b ha hb' _).mono ?_
  rintro e w1 ⟨q, r, ok, rfl, rfl⟩
  clear ha hb'
  go_wp2_with fail
  refine (bit_any (decide (a ≤ b)) _).mono ?_
  rintro e w' ⟨rfl, hb⟩
  have hB := (Box.new w (.int .i64 0) (.int .i64 0) (.int .i64 0) rfl).below hb
  have hl : Below w.heap.size w w' := ((Below.refl _ _).alloc (Nat.le_refl _) _).trans (hb.mono (by simp))
  obtain ⟨c0, c1, c2⟩ := hB.cells
  obtain ⟨f0, f1, f2⟩ := hB.frozen
  clear hb hB
  go_wp2_with fail
  exact bodyPost_ret (v := .tuple #[.agg #[.int .i64 1, .int .i64 (t2i (decide (a ≤ b))), .int .i64 0], .bool true]) (by simp [results, Tryd.results37, go_sem, c0, c1, c2]) rfl ⟨rfl, ((hl.setCell (p := ⟨w.heap.size, 0, none⟩) (Nat.le_refl _) _).setCell (p := ⟨w.heap.size, 1, none⟩) (Nat.le_refl _) _).setCell (p := ⟨w.heap.size, 2, none⟩) (Nat.le_refl _) _⟩
theorem rints25 (a b : Int) (ha : Fits a) (hb' : Fits b) (w : World) : Calls Tryd.prog 37 #[.int .i64 25, .int .i64 a, .int .i64 b] w (RV (some (truthV (decide (b < a)))) w) := by
  have ⟨ha0, ha1⟩ := ha
  have ⟨hb0, hb1⟩ := hb'
  show Calls Tryd.prog 37 _ w (fun e w' => e = .returned (.tuple #[.agg #[.int .i64 1, .int .i64 (t2i (decide (b < a))), .int .i64 0], .bool true]) ∧ Below w.heap.size w w')
  go_enter Tryd.func37, Tryd.ntmps37
  go_wp2_with fail
  refine (div_ex a b ha hb' _).mono ?_
  rintro e w1 ⟨q, r, ok, rfl, rfl⟩
  clear ha hb'
  go_wp2_with fail
  refine (bit_any (decide (b < a)) _).mono ?_
  rintro e w' ⟨rfl, hb⟩
  have hB := (Box.new w (.int .i64 0) (.int .i64 0) (.int .i64 0) rfl).below hb
  have hl : Below w.heap.size w w' := ((Below.refl _ _).alloc (Nat.le_refl _) _).trans (hb.mono (by simp))
  obtain ⟨c0, c1, c2⟩ := hB.cells
  obtain ⟨f0, f1, f2⟩ := hB.frozen
  clear hb hB
  go_wp2_with fail
  exact bodyPost_ret (v := .tuple #[.agg #[.int .i64 1, .int .i64 (t2i (decide (b < a))), .int .i64 0], .bool true]) (by simp [results, Tryd.results37, go_sem, c0, c1, c2]) rfl ⟨rfl, ((hl.setCell (p := ⟨w.heap.size, 0, none⟩) (Nat.le_refl _) _).setCell (p := ⟨w.heap.size, 1, none⟩) (Nat.le_refl _) _).setCell (p := ⟨w.heap.size, 2, none⟩) (Nat.le_refl _) _⟩
theorem rints26 (a b : Int) (ha : Fits a) (hb' : Fits b) (w : World) : Calls Tryd.prog 37 #[.int .i64 26, .int .i64 a, .int .i64 b] w (RV (some (truthV (decide (b ≤ a)))) w) := by
  have ⟨ha0, ha1⟩ := ha
  have ⟨hb0, hb1⟩ := hb'
  show Calls Tryd.prog 37 _ w (fun e w' => e = .returned (.tuple #[.agg #[.int .i64 1, .int .i64 (t2i (decide (b ≤ a))), .int .i64 0], .bool true]) ∧ Below w.heap.size w w')
  go_enter Tryd.func37, Tryd.ntmps37
  go_wp2_with fail
  refine (div_ex a b ha hb' _).mono ?_
  rintro e w1 ⟨q, r, ok, rfl, rfl⟩
  clear ha hb'
  go_wp2_with fail
  refine (bit_any (decide (b ≤ a)) _).mono ?_
  rintro e w' ⟨rfl, hb⟩
  have hB := (Box.new w (.int .i64 0) (.int .i64 0) (.int .i64 0) rfl).below hb
  have hl : Below w.heap.size w w' := ((Below.refl _ _).alloc (Nat.le_refl _) _).trans (hb.mono (by simp))
  obtain ⟨c0, c1, c2⟩ := hB.cells
  obtain ⟨f0, f1, f2⟩ := hB.frozen
  clear hb hB
  go_wp2_with fail
  exact bodyPost_ret (v := .tuple #[.agg #[.int .i64 1, .int .i64 (t2i (decide (b ≤ a))), .int .i64 0], .bool true]) (by simp [results, Tryd.results37, go_sem, c0, c1, c2]) rfl ⟨rfl, ((hl.setCell (p := ⟨w.heap.size, 0, none⟩) (Nat.le_refl _) _).setCell (p := ⟨w.heap.size, 1, none⟩) (Nat.le_refl _) _).setCell (p := ⟨w.heap.size, 2, none⟩) (Nat.le_refl _) _⟩
theorem rints14 (a b : Int) (ha : Fits a) (hb' : Fits b) (w : World) : Calls Tryd.prog 37 #[.int .i64 14, .int .i64 a, .int .i64 b] w (RV (if b = 0 ∨ a = minI ∧ b = -1 then none else some (Iv (wrap64 (a.tdiv b)))) w) := by
  cases hn : noDiv a b
  · rw [if_neg (by intro h; simp [noDiv] at hn; omega)]
    have hw : wrap64 (a.tdiv b) = a.tdiv b := wrap_fits (tdiv_fits ha hn)
    rw [hw]
    clear hw
    show Calls Tryd.prog 37 _ w (fun e w' => e = .returned (.tuple #[.agg #[.int .i64 1, .int .i64 (a.tdiv b), .int .i64 0], .bool true]) ∧ Below w.heap.size w w')
    go_enter Tryd.func37, Tryd.ntmps37
    go_wp2_with fail
    refine (div_ok a b ha hb' hn _).mono ?_
    rintro e w1 ⟨rfl, rfl⟩
    clear ha hb'
    go_wp2_with fail
    refine (rof_any (a.tdiv b) _).mono ?_
    rintro e w' ⟨rfl, hb⟩
    have hB := (Box.new w (.int .i64 0) (.int .i64 0) (.int .i64 0) rfl).below hb
    have hl : Below w.heap.size w w' := ((Below.refl _ _).alloc (Nat.le_refl _) _).trans (hb.mono (by simp))
    obtain ⟨c0, c1, c2⟩ := hB.cells
    obtain ⟨f0, f1, f2⟩ := hB.frozen
    clear hb hB
    go_wp2_with fail
    exact bodyPost_ret (v := .tuple #[.agg #[.int .i64 1, .int .i64 (a.tdiv b), .int .i64 0], .bool true]) (by simp [results, Tryd.results37, go_sem, c0, c1, c2]) rfl ⟨rfl, ((hl.setCell (p := ⟨w.heap.size, 0, none⟩) (Nat.le_refl _) _).setCell (p := ⟨w.heap.size, 1, none⟩) (Nat.le_refl _) _).setCell (p := ⟨w.heap.size, 2, none⟩) (Nat.le_refl _) _⟩
  · rw [if_pos (by simp [noDiv] at hn; omega)]
    show Calls Tryd.prog 37 _ w (fun e w' => e = .returned (.tuple #[.agg #[.int .i64 0, .int .i64 (0), .int .i64 0], .bool false]) ∧ Below w.heap.size w w')
    go_enter Tryd.func37, Tryd.ntmps37
    go_wp2_with fail
    refine (div_no a b ha hb' hn _).mono ?_
    rintro e w1 ⟨rfl, rfl⟩
    clear ha hb'
    go_wp2_with fail
    exact bodyPost_ret (v := .tuple #[.agg #[.int .i64 0, .int .i64 (0), .int .i64 0], .bool false]) (by simp [results, Tryd.results37, go_sem]) rfl ⟨rfl, (Below.refl _ _).alloc (Nat.le_refl _) _⟩
theorem rints15 (a b : Int) (ha : Fits a) (hb' : Fits b) (w : World) : Calls Tryd.prog 37 #[.int .i64 15, .int .i64 a, .int .i64 b] w (RV (if b = 0 ∨ a = minI ∧ b = -1 then none else some (Iv (a.tmod b))) w) := by
  cases hn : noDiv a b
  · rw [if_neg (by intro h; simp [noDiv] at hn; omega)]
    show Calls Tryd.prog 37 _ w (fun e w' => e = .returned (.tuple #[.agg #[.int .i64 1, .int .i64 (a.tmod b), .int .i64 0], .bool true]) ∧ Below w.heap.size w w')
    go_enter Tryd.func37, Tryd.ntmps37
    go_wp2_with fail
    refine (div_ok a b ha hb' hn _).mono ?_
    rintro e w1 ⟨rfl, rfl⟩
    clear ha hb'
    go_wp2_with fail
    refine (rof_any (a.tmod b) _).mono ?_
    rintro e w' ⟨rfl, hb⟩
    have hB := (Box.new w (.int .i64 0) (.int .i64 0) (.int .i64 0) rfl).below hb
    have hl : Below w.heap.size w w' := ((Below.refl _ _).alloc (Nat.le_refl _) _).trans (hb.mono (by simp))
    obtain ⟨c0, c1, c2⟩ := hB.cells
    obtain ⟨f0, f1, f2⟩ := hB.frozen
    clear hb hB
    go_wp2_with fail
    exact bodyPost_ret (v := .tuple #[.agg #[.int .i64 1, .int .i64 (a.tmod b), .int .i64 0], .bool true]) (by simp [results, Tryd.results37, go_sem, c0, c1, c2]) rfl ⟨rfl, ((hl.setCell (p := ⟨w.heap.size, 0, none⟩) (Nat.le_refl _) _).setCell (p := ⟨w.heap.size, 1, none⟩) (Nat.le_refl _) _).setCell (p := ⟨w.heap.size, 2, none⟩) (Nat.le_refl _) _⟩
  · rw [if_pos (by simp [noDiv] at hn; omega)]
    show Calls Tryd.prog 37 _ w (fun e w' => e = .returned (.tuple #[.agg #[.int .i64 0, .int .i64 (0), .int .i64 0], .bool false]) ∧ Below w.heap.size w w')
    go_enter Tryd.func37, Tryd.ntmps37
    go_wp2_with fail
    refine (div_no a b ha hb' hn _).mono ?_
    rintro e w1 ⟨rfl, rfl⟩
    clear ha hb'
    go_wp2_with fail
    exact bodyPost_ret (v := .tuple #[.agg #[.int .i64 0, .int .i64 (0), .int .i64 0], .bool false]) (by simp [results, Tryd.results37, go_sem]) rfl ⟨rfl, (Below.refl _ _).alloc (Nat.le_refl _) _⟩
theorem rints19 (a b : Int) (ha : Fits a) (hb' : Fits b) (w : World) : Calls Tryd.prog 37 #[.int .i64 19, .int .i64 a, .int .i64 b] w (RV (if b < 0 ∨ 63 < b then none else some (Iv (wrap64 (a * 2 ^ b.toNat)))) w) := by
  have ⟨ha0, ha1⟩ := ha
  have ⟨hb0, hb1⟩ := hb'
  by_cases h0 : b < 0
  · rw [if_pos (Or.inl h0)]
    show Calls Tryd.prog 37 _ w (fun e w' => e = .returned (.tuple #[.agg #[.int .i64 0, .int .i64 (0), .int .i64 0], .bool false]) ∧ Below w.heap.size w w')
    go_enter Tryd.func37, Tryd.ntmps37
    go_wp2_with fail
    refine (div_ex a b ha hb' _).mono ?_
    rintro e w1 ⟨q, r, ok, rfl, rfl⟩
    clear ha hb'
    go_wp2_with fail
    exact bodyPost_ret (v := .tuple #[.agg #[.int .i64 0, .int .i64 (0), .int .i64 0], .bool false]) (by simp [results, Tryd.results37, go_sem]) rfl ⟨rfl, (Below.refl _ _).alloc (Nat.le_refl _) _⟩
  · by_cases h1 : 63 < b
    · rw [if_pos (Or.inr h1)]
      show Calls Tryd.prog 37 _ w (fun e w' => e = .returned (.tuple #[.agg #[.int .i64 0, .int .i64 (0), .int .i64 0], .bool false]) ∧ Below w.heap.size w w')
      go_enter Tryd.func37, Tryd.ntmps37
      go_wp2_with fail
      refine (div_ex a b ha hb' _).mono ?_
      rintro e w1 ⟨q, r, ok, rfl, rfl⟩
      clear ha hb'
      go_wp2_with fail
      exact bodyPost_ret (v := .tuple #[.agg #[.int .i64 0, .int .i64 (0), .int .i64 0], .bool false]) (by simp [results, Tryd.results37, go_sem]) rfl ⟨rfl, (Below.refl _ _).alloc (Nat.le_refl _) _⟩
    · rw [if_neg (by rintro (h | h); exact h0 h; exact h1 h)]
      obtain ⟨m, rfl⟩ : ∃ m : Nat, b = m := ⟨b.toNat, by omega⟩
      rw [Int.toNat_natCast]
      show Calls Tryd.prog 37 _ w (fun e w' => e = .returned (.tuple #[.agg #[.int .i64 1, .int .i64 (wrap64 (a * 2 ^ m)), .int .i64 0], .bool true]) ∧ Below w.heap.size w w')
      have H := Lib.hid (And.intro ha0 ha1)
      go_enter Tryd.func37, Tryd.ntmps37
      go_wp2_with fail
      refine (div_ex a m ha hb' _).mono ?_
      rintro e w1 ⟨q, r, ok, rfl, rfl⟩
      clear ha hb' ha0 ha1
      go_wp2_with fail
      go_loopg [1, 11] m (fun g sa si wr => ∃ k : Nat, k ≤ m ∧ m - k ≤ g ∧ sa = .int .i64 (wrap64 (a * 2 ^ k)) ∧ si = .int .i64 k ∧ wr = w.alloc (.cells #[.int .i64 0, .int .i64 0, .int .i64 0] 24))
      case atStart => exact ⟨0, Nat.zero_le _, by omega, by simp [wrap_fits H.out], rfl, rfl⟩
      case round =>
        obtain ⟨k, hk, hg, rfl, rfl, rfl⟩ := hrel
        have hfit := fits_wrap (a * 2 ^ k)
        have hnx := shl_step a k
        generalize hX : wrap64 (a * 2 ^ k) = x at hfit hnx ⊢
        have HX := Lib.hid hX
        clear hX
        obtain ⟨x0, x1⟩ := hfit
        by_cases hlt : k < m
        · skip
          go_wp2_with fail
          go_roundg (m - (k + 1))
          case measure => omega
          case rel => exact ⟨k + 1, by omega, by omega, by rw [hnx], by go_num, rfl⟩
        · obtain rfl : k = m := by omega
          go_wp2_with fail
          refine (rof_any x _).mono ?_
          rintro e w' ⟨rfl, hb⟩
          have hB := (Box.new w (.int .i64 0) (.int .i64 0) (.int .i64 0) rfl).below hb
          have hl : Below w.heap.size w w' := ((Below.refl _ _).alloc (Nat.le_refl _) _).trans (hb.mono (by simp))
          obtain ⟨c0, c1, c2⟩ := hB.cells
          obtain ⟨f0, f1, f2⟩ := hB.frozen
          clear hb hB
          go_wp2_with fail
          exact bodyPost_ret (v := .tuple #[.agg #[.int .i64 1, .int .i64 (x), .int .i64 0], .bool true]) (by simp [results, Tryd.results37, go_sem, c0, c1, c2]) rfl ⟨by rw [HX.out], ((hl.setCell (p := ⟨w.heap.size, 0, none⟩) (Nat.le_refl _) _).setCell (p := ⟨w.heap.size, 1, none⟩) (Nat.le_refl _) _).setCell (p := ⟨w.heap.size, 2, none⟩) (Nat.le_refl _) _⟩
theorem rints20 (a b : Int) (ha : Fits a) (hb' : Fits b) (w : World) : Calls Tryd.prog 37 #[.int .i64 20, .int .i64 a, .int .i64 b] w (RV (if b < 0 ∨ 63 < b then none else some (Iv (a / 2 ^ b.toNat))) w) := by
  have ⟨ha0, ha1⟩ := ha
  have ⟨hb0, hb1⟩ := hb'
  by_cases h0 : b < 0
  · rw [if_pos (Or.inl h0)]
    show Calls Tryd.prog 37 _ w (fun e w' => e = .returned (.tuple #[.agg #[.int .i64 0, .int .i64 (0), .int .i64 0], .bool false]) ∧ Below w.heap.size w w')
    go_enter Tryd.func37, Tryd.ntmps37
    go_wp2_with fail
    refine (div_ex a b ha hb' _).mono ?_
    rintro e w1 ⟨q, r, ok, rfl, rfl⟩
    clear ha hb'
    go_wp2_with fail
    exact bodyPost_ret (v := .tuple #[.agg #[.int .i64 0, .int .i64 (0), .int .i64 0], .bool false]) (by simp [results, Tryd.results37, go_sem]) rfl ⟨rfl, (Below.refl _ _).alloc (Nat.le_refl _) _⟩
  · by_cases h1 : 63 < b
    · rw [if_pos (Or.inr h1)]
      show Calls Tryd.prog 37 _ w (fun e w' => e = .returned (.tuple #[.agg #[.int .i64 0, .int .i64 (0), .int .i64 0], .bool false]) ∧ Below w.heap.size w w')
      go_enter Tryd.func37, Tryd.ntmps37
      go_wp2_with fail
      refine (div_ex a b ha hb' _).mono ?_
      rintro e w1 ⟨q, r, ok, rfl, rfl⟩
      clear ha hb'
      go_wp2_with fail
      exact bodyPost_ret (v := .tuple #[.agg #[.int .i64 0, .int .i64 (0), .int .i64 0], .bool false]) (by simp [results, Tryd.results37, go_sem]) rfl ⟨rfl, (Below.refl _ _).alloc (Nat.le_refl _) _⟩
    · rw [if_neg (by rintro (h | h); exact h0 h; exact h1 h)]
      obtain ⟨m, rfl⟩ : ∃ m : Nat, b = m := ⟨b.toNat, by omega⟩
      rw [Int.toNat_natCast]
      show Calls Tryd.prog 37 _ w (fun e w' => e = .returned (.tuple #[.agg #[.int .i64 1, .int .i64 (a / 2 ^ m), .int .i64 0], .bool true]) ∧ Below w.heap.size w w')
      have H := Lib.hid (And.intro ha0 ha1)
      go_enter Tryd.func37, Tryd.ntmps37
      go_wp2_with fail
      refine (div_ex a m ha hb' _).mono ?_
      rintro e w1 ⟨q, r, ok, rfl, rfl⟩
      clear ha hb' ha0 ha1
      go_wp2_with fail
      go_loopg [1, 11] m (fun g sa si wr => ∃ k : Nat, k ≤ m ∧ m - k ≤ g ∧ sa = .int .i64 (a / 2 ^ k) ∧ si = .int .i64 k ∧ wr = w.alloc (.cells #[.int .i64 0, .int .i64 0, .int .i64 0] 24))
      case atStart => exact ⟨0, Nat.zero_le _, by omega, by simp [], rfl, rfl⟩
      case round =>
        obtain ⟨k, hk, hg, rfl, rfl, rfl⟩ := hrel
        have hfit := fits_shr H.out k
        have hnx := shr_step a k
        generalize hX : a / 2 ^ k = x at hfit hnx ⊢
        have HX := Lib.hid hX
        clear hX
        obtain ⟨x0, x1⟩ := hfit
        by_cases hlt : k < m
        · obtain ⟨y, hy1, hy2, hy3⟩ := shr_half x x0 x1
          go_wp2_with fail
          go_roundg (m - (k + 1))
          case measure => omega
          case rel => exact ⟨k + 1, by omega, by omega, by rw [hnx, hy3], by go_num, rfl⟩
        · obtain rfl : k = m := by omega
          go_wp2_with fail
          refine (rof_any x _).mono ?_
          rintro e w' ⟨rfl, hb⟩
          have hB := (Box.new w (.int .i64 0) (.int .i64 0) (.int .i64 0) rfl).below hb
          have hl : Below w.heap.size w w' := ((Below.refl _ _).alloc (Nat.le_refl _) _).trans (hb.mono (by simp))
          obtain ⟨c0, c1, c2⟩ := hB.cells
          obtain ⟨f0, f1, f2⟩ := hB.frozen
          clear hb hB
          go_wp2_with fail
          exact bodyPost_ret (v := .tuple #[.agg #[.int .i64 1, .int .i64 (x), .int .i64 0], .bool true]) (by simp [results, Tryd.results37, go_sem, c0, c1, c2]) rfl ⟨by rw [HX.out], ((hl.setCell (p := ⟨w.heap.size, 0, none⟩) (Nat.le_refl _) _).setCell (p := ⟨w.heap.size, 1, none⟩) (Nat.le_refl _) _).setCell (p := ⟨w.heap.size, 2, none⟩) (Nat.le_refl _) _⟩

theorem rints_any (op a b : Int) (ha : Fits a) (hb : Fits b) (w : World) : Calls Tryd.prog 37 #[.int .i64 op, .int .i64 a, .int .i64 b] w (RV (intsV op a b) w) := by
  by_cases h11 : op = 11
  · subst h11
    exact rints11 a b ha hb w
  · skip
    by_cases h12 : op = 12
    · subst h12
      exact rints12 a b ha hb w
    · skip
      by_cases h13 : op = 13
      · subst h13
        exact rints13 a b ha hb w
      · skip
        by_cases h14 : op = 14
        · subst h14
          exact rints14 a b ha hb w
        · skip
          by_cases h15 : op = 15
          · subst h15
            exact rints15 a b ha hb w
          · skip
            by_cases h16 : op = 16
            · subst h16
              exact rints16 a b ha hb w
            · skip
              by_cases h17 : op = 17
              · subst h17
                exact rints17 a b ha hb w
              · skip
                by_cases h18 : op = 18
                · subst h18
                  exact rints18 a b ha hb w
                · skip
                  by_cases h19 : op = 19
                  · subst h19
                    exact rints19 a b ha hb w
                  · skip
                    by_cases h20 : op = 20
                    · subst h20
                      exact rints20 a b ha hb w
                    · skip
                      by_cases h21 : op = 21
                      · subst h21
                        exact rints21 a b ha hb w
                      · skip
                        by_cases h22 : op = 22
                        · subst h22
                          exact rints22 a b ha hb w
                        · skip
                          by_cases h23 : op = 23
                          · subst h23
                            exact rints23 a b ha hb w
                          · skip
                            by_cases h24 : op = 24
                            · subst h24
                              exact rints24 a b ha hb w
                            · skip
                              by_cases h25 : op = 25
                              · subst h25
                                exact rints25 a b ha hb w
                              · skip
                                by_cases h26 : op = 26
                                · subst h26
                                  exact rints26 a b ha hb w
                                · skip
                                  have e : intsV op a b = none := by simp only [intsV, if_neg h11, if_neg h12, if_neg h13, if_neg h14, if_neg h15, if_neg h16, if_neg h17, if_neg h18, if_neg h19, if_neg h20, if_neg h21, if_neg h22, if_neg h23, if_neg h24, if_neg h25, if_neg h26]
                                  rw [e]
                                  have t11 : (op == 11) = false := by simpa using h11
                                  have t12 : (op == 12) = false := by simpa using h12
                                  have t13 : (op == 13) = false := by simpa using h13
                                  have t14 : (op == 14) = false := by simpa using h14
                                  have t15 : (op == 15) = false := by simpa using h15
                                  have t16 : (op == 16) = false := by simpa using h16
                                  have t17 : (op == 17) = false := by simpa using h17
                                  have t18 : (op == 18) = false := by simpa using h18
                                  have t19 : (op == 19) = false := by simpa using h19
                                  have t20 : (op == 20) = false := by simpa using h20
                                  have t21 : (op == 21) = false := by simpa using h21
                                  have t22 : (op == 22) = false := by simpa using h22
                                  have t23 : (op == 23) = false := by simpa using h23
                                  have t24 : (op == 24) = false := by simpa using h24
                                  have t25 : (op == 25) = false := by simpa using h25
                                  have t26 : (op == 26) = false := by simpa using h26
                                  clear h11 h12 h13 h14 h15 h16 h17 h18 h19 h20 h21 h22 h23 h24 h25 h26 e
                                  show Calls Tryd.prog 37 _ w (fun e w' => e = .returned (.tuple #[.agg #[.int .i64 0, .int .i64 (0), .int .i64 0], .bool false]) ∧ Below w.heap.size w w')
                                  go_enter Tryd.func37, Tryd.ntmps37
                                  go_wp2_with fail
                                  refine (div_ex a b ha hb _).mono ?_
                                  rintro e w1 ⟨q, r, ok, rfl, rfl⟩
                                  clear ha hb
                                  go_wp2_with fail
                                  exact bodyPost_ret (v := .tuple #[.agg #[.int .i64 0, .int .i64 (0), .int .i64 0], .bool false]) (by simp [results, Tryd.results37, go_sem]) rfl ⟨rfl, (Below.refl _ _).alloc (Nat.le_refl _) _⟩
end Go.Proofs.YtipeehmbloneoaaDoor

