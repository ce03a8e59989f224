/-
  The plain laws of operations: opposites, swapped operands, adding undone, quotient and rest. No program in sight.
-/
import Derived.Test.YtipeehmbloneoaaDoorBits
import Derived.Test.YtipeehmbloneoaaDoorMore
namespace Go.Proofs.YtipeehmbloneoaaDoor
open Go.RowKit

theorem t2i_not (t : Bool) : t2i t + t2i (!t) = 1 := by cases t <;> rfl
theorem bin_ints (op : Int) (x y : Vl) (h : (intB x && intB y) = true) : binV op x y = intsV op x.n y.n := by unfold binV; rw [if_pos h]
theorem bin_less (op : Int) (x y : Vl) (h : (intB x && intB y) = false) (h1 : op ≠ 11) (h2 : op ≠ 12) (h3 : op ≠ 21) (h4 : op ≠ 22) : binV op x y = none := by
  unfold binV
  simp [h, h1, h2, h3, h4]
theorem bin_alike (op : Int) (x y : Vl) (h : (intB x && intB y) = false) (h3 : op = 21 ∨ op = 22) : binV op x y = alikeV op x y := by
  unfold binV
  rcases h3 with rfl | rfl <;> simp [h]
theorem eqB_comm (x y : Vl) : eqB x y = eqB y x := by
  unfold eqB
  rw [BEq.comm (a := x.k), BEq.comm (a := x.n), BEq.comm (a := x.b)]
theorem flip_law (op f : Int) (x y : Vl) (h : flipV op = some f) : (binV f x y).isSome = (binV op x y).isSome ∧ ((binV op x y).isSome = true → vn (binV op x y) + vn (binV f x y) = 1) := by
  have hc : (op = 21 ∧ f = 22) ∨ (op = 22 ∧ f = 21) ∨ (op = 23 ∧ f = 26) ∨ (op = 26 ∧ f = 23) ∨ (op = 24 ∧ f = 25) ∨ (op = 25 ∧ f = 24) := by
    unfold flipV at h
    split at h
    · injection h; omega
    split at h
    · injection h; omega
    split at h
    · injection h; omega
    split at h
    · injection h; omega
    split at h
    · injection h; omega
    split at h
    · injection h; omega
    · cases h
  cases hi : intB x && intB y
  · rcases hc with ⟨rfl, rfl⟩ | ⟨rfl, rfl⟩ | ⟨rfl, rfl⟩ | ⟨rfl, rfl⟩ | ⟨rfl, rfl⟩ | ⟨rfl, rfl⟩
    · rw [bin_alike 21 x y hi (by omega), bin_alike 22 x y hi (by omega)]
      unfold alikeV
      split
      · refine ⟨rfl, fun _ => ?_⟩
        cases eqB x y <;> rfl
      · exact ⟨rfl, fun h => by cases h⟩
    · rw [bin_alike 21 x y hi (by omega), bin_alike 22 x y hi (by omega)]
      unfold alikeV
      split
      · refine ⟨rfl, fun _ => ?_⟩
        cases eqB x y <;> rfl
      · exact ⟨rfl, fun h => by cases h⟩
    all_goals
      rw [bin_less _ x y hi (by decide) (by decide) (by decide) (by decide), bin_less _ x y hi (by decide) (by decide) (by decide) (by decide)]
      exact ⟨rfl, fun h => by cases h⟩
  · rw [bin_ints _ x y hi, bin_ints _ x y hi]
    rcases hc with ⟨rfl, rfl⟩ | ⟨rfl, rfl⟩ | ⟨rfl, rfl⟩ | ⟨rfl, rfl⟩ | ⟨rfl, rfl⟩ | ⟨rfl, rfl⟩
    · refine ⟨rfl, fun _ => ?_⟩
      show t2i (decide (x.n = y.n)) + t2i (decide (x.n ≠ y.n)) = 1
      by_cases e : x.n = y.n <;> simp [e, t2i]
    · refine ⟨rfl, fun _ => ?_⟩
      show t2i (decide (x.n ≠ y.n)) + t2i (decide (x.n = y.n)) = 1
      by_cases e : x.n = y.n <;> simp [e, t2i]
    · refine ⟨rfl, fun _ => ?_⟩
      show t2i (decide (x.n < y.n)) + t2i (decide (y.n ≤ x.n)) = 1
      by_cases e : x.n < y.n
      · have e2 : ¬ y.n ≤ x.n := by omega
        simp [e, e2, t2i]
      · have e2 : y.n ≤ x.n := by omega
        simp [e, e2, t2i]
    · refine ⟨rfl, fun _ => ?_⟩
      show t2i (decide (y.n ≤ x.n)) + t2i (decide (x.n < y.n)) = 1
      by_cases e : x.n < y.n
      · have e2 : ¬ y.n ≤ x.n := by omega
        simp [e, e2, t2i]
      · have e2 : y.n ≤ x.n := by omega
        simp [e, e2, t2i]
    · refine ⟨rfl, fun _ => ?_⟩
      show t2i (decide (x.n ≤ y.n)) + t2i (decide (y.n < x.n)) = 1
      by_cases e : x.n ≤ y.n
      · have e2 : ¬ y.n < x.n := by omega
        simp [e, e2, t2i]
      · have e2 : y.n < x.n := by omega
        simp [e, e2, t2i]
    · refine ⟨rfl, fun _ => ?_⟩
      show t2i (decide (y.n < x.n)) + t2i (decide (x.n ≤ y.n)) = 1
      by_cases e : x.n ≤ y.n
      · have e2 : ¬ y.n < x.n := by omega
        simp [e, e2, t2i]
      · have e2 : y.n < x.n := by omega
        simp [e, e2, t2i]
theorem alike_comm (op : Int) (x y : Vl) : alikeV op y x = alikeV op x y := by
  unfold alikeV
  rw [eqB_comm y x]
  cases ptrB x <;> cases ptrB y <;> cases eqB x (Iv 0) <;> cases eqB y (Iv 0) <;> rfl
theorem int_not_ptr (x : Vl) (h : intB x = true) : ptrB x = false := by
  unfold intB at h; unfold ptrB
  have : x.k = 1 := by simp at h; exact h.1
  rw [this]; rfl
theorem swap_law (op s : Int) (x y : Vl) (h : swapV op = some s) : binV s y x = binV op x y := by
  have hc : (s = op ∧ (op = 11 ∨ op = 13 ∨ op = 16 ∨ op = 17 ∨ op = 18 ∨ op = 21 ∨ op = 22)) ∨ (op = 23 ∧ s = 25) ∨ (op = 25 ∧ s = 23) ∨ (op = 24 ∧ s = 26) ∨ (op = 26 ∧ s = 24) := by
    unfold swapV at h
    split at h
    · injection h; omega
    split at h
    · injection h; omega
    split at h
    · injection h; omega
    split at h
    · injection h; omega
    split at h
    · injection h; omega
    · cases h
  cases hi : intB x && intB y
  · have hi' : (intB y && intB x) = false := by rw [Bool.and_comm]; exact hi
    rcases hc with ⟨rfl, rfl | rfl | rfl | rfl | rfl | rfl | rfl⟩ | ⟨rfl, rfl⟩ | ⟨rfl, rfl⟩ | ⟨rfl, rfl⟩ | ⟨rfl, rfl⟩
    case false.inl.inl =>
      unfold binV
      rw [hi, hi']
      cases hx : intB x <;> cases hy : intB y <;> cases hp : ptrB x <;> cases hq : ptrB y <;> simp_all [int_not_ptr, Int.add_comm]
    case false.inl.inr.inr.inr.inr.inr.inl => rw [bin_alike _ x y hi (by omega), bin_alike _ y x hi' (by omega), alike_comm]
    case false.inl.inr.inr.inr.inr.inr.inr => rw [bin_alike _ x y hi (by omega), bin_alike _ y x hi' (by omega), alike_comm]
    all_goals rw [bin_less _ x y hi (by decide) (by decide) (by decide) (by decide), bin_less _ y x hi' (by decide) (by decide) (by decide) (by decide)]
  · have hi' : (intB y && intB x) = true := by rw [Bool.and_comm]; exact hi
    rw [bin_ints _ x y hi, bin_ints _ y x hi']
    rcases hc with ⟨rfl, rfl | rfl | rfl | rfl | rfl | rfl | rfl⟩ | ⟨rfl, rfl⟩ | ⟨rfl, rfl⟩ | ⟨rfl, rfl⟩ | ⟨rfl, rfl⟩
    · show some (Iv (wrap64 (y.n + x.n))) = some (Iv (wrap64 (x.n + y.n)))
      rw [Int.add_comm]
    · show some (Iv (wrap64 (y.n * x.n))) = some (Iv (wrap64 (x.n * y.n)))
      rw [Int.mul_comm]
    · show some (Iv (bits .and .i64 y.n x.n)) = some (Iv (bits .and .i64 x.n y.n))
      rw [and_comm']
    · show some (Iv (bits .or .i64 y.n x.n)) = some (Iv (bits .or .i64 x.n y.n))
      rw [or_comm']
    · show some (Iv (bits .xor .i64 y.n x.n)) = some (Iv (bits .xor .i64 x.n y.n))
      rw [xor_comm']
    · show some (truthV (decide (y.n = x.n))) = some (truthV (decide (x.n = y.n)))
      simp only [eq_comm]
    · show some (truthV (decide (y.n ≠ x.n))) = some (truthV (decide (x.n ≠ y.n)))
      simp only [ne_comm]
    · show some (truthV (decide (x.n < y.n))) = some (truthV (decide (x.n < y.n)))
      rfl
    · show some (truthV (decide (y.n < x.n))) = some (truthV (decide (y.n < x.n)))
      rfl
    · show some (truthV (decide (x.n ≤ y.n))) = some (truthV (decide (x.n ≤ y.n)))
      rfl
    · show some (truthV (decide (y.n ≤ x.n))) = some (truthV (decide (y.n ≤ x.n)))
      rfl
theorem intB_is {x : Vl} (h : intB x = true) : x = Iv x.n := by
  obtain ⟨k, n, b⟩ := x
  unfold intB at h
  simp at h
  obtain ⟨rfl, rfl⟩ := h
  rfl
theorem ptrB_is {x : Vl} (h : ptrB x = true) : x = Pv x.b x.n := by
  obtain ⟨k, n, b⟩ := x
  unfold ptrB at h
  simp at h
  obtain ⟨rfl, _⟩ := h
  rfl
theorem undo_law (x y p : Vl) (hy : intB y = true) (fx : Fits x.n) (h : binV 11 x y = some p) : binV 12 p y = some x ∧ Fits p.n := by
  cases hx : intB x
  · cases hp : ptrB x
    · exfalso
      unfold binV at h
      simp [hx, hp] at h
    · have e : binV 11 x y = some (Pv x.b (wrap64 (x.n + y.n))) := by unfold binV; simp [hx, hp, hy]
      rw [e] at h
      injection h with h
      subst h
      have hp' : ptrB (Pv x.b (wrap64 (x.n + y.n))) = true := by
        unfold ptrB at hp ⊢
        simp at hp ⊢
        exact ⟨rfl, hp.2⟩
      have hi' : intB (Pv x.b (wrap64 (x.n + y.n))) = false := by unfold intB; rfl
      refine ⟨?_, fits_wrap _⟩
      have e2 : binV 12 (Pv x.b (wrap64 (x.n + y.n))) y = some (Pv x.b (wrap64 (wrap64 (x.n + y.n) - y.n))) := by
        unfold binV
        simp [hi', hp', hy]
        rfl
      rw [e2, wrap_sub, show x.n + y.n - y.n = x.n by omega, wrap_fits fx, ← ptrB_is hp]
  · rw [bin_ints 11 x y (by simp [hx, hy])] at h
    have e : some (Iv (wrap64 (x.n + y.n))) = some p := h
    injection e with e
    subst e
    refine ⟨?_, fits_wrap _⟩
    rw [bin_ints 12 _ y (by rw [hy]; rfl)]
    show some (Iv (wrap64 (wrap64 (x.n + y.n) - y.n))) = some x
    rw [wrap_sub, show x.n + y.n - y.n = x.n by omega, wrap_fits fx, ← intB_is hx]
theorem fits_tmod (a b : Int) (h : Fits a) : Fits (a.tmod b) := by
  unfold Fits at *
  have e := Int.natAbs_tmod a b
  have l := Nat.mod_le a.natAbs b.natAbs
  have p : 0 ≤ a → 0 ≤ a.tmod b := fun h => Int.tmod_nonneg b h
  have q : a ≤ 0 → a.tmod b ≤ 0 := fun h => by
    have := Int.tmod_nonneg b (a := -a) (by omega)
    rw [Int.neg_tmod] at this
    omega
  omega
/-- quotient and rest: both or neither; and the number again -/
theorem rest_law (x y : Vl) (hy : intB y = true) : (binV 15 x y).isSome = (binV 14 x y).isSome := by
  cases hx : intB x
  · rw [bin_less 15 x y (by simp [hx]) (by decide) (by decide) (by decide) (by decide), bin_less 14 x y (by simp [hx]) (by decide) (by decide) (by decide) (by decide)]
  · rw [bin_ints 15 x y (by simp [hx, hy]), bin_ints 14 x y (by simp [hx, hy])]
    show (if y.n = 0 ∨ x.n = minI ∧ y.n = -1 then none else some (Iv (x.n.tmod y.n))).isSome = (if y.n = 0 ∨ x.n = minI ∧ y.n = -1 then none else some (Iv (wrap64 (x.n.tdiv y.n)))).isSome
    split <;> rfl
theorem whole_law (x y : Vl) (hy : intB y = true) (fx : Fits x.n) (h : (binV 14 x y).isSome = true) :
    Fits (vn (binV 14 x y)) ∧ Fits (vn (binV 15 x y)) ∧ ∃ m : Vl, binV 13 ((binV 14 x y).getD Zv) y = some m ∧ Fits m.n ∧ binV 11 m ((binV 15 x y).getD Zv) = some x := by
  cases hx : intB x
  · rw [bin_less 14 x y (by simp [hx]) (by decide) (by decide) (by decide) (by decide)] at h
    cases h
  · have e1 : binV 14 x y = if y.n = 0 ∨ x.n = minI ∧ y.n = -1 then none else some (Iv (wrap64 (x.n.tdiv y.n))) := by
      rw [bin_ints 14 x y (by simp [hx, hy])]; rfl
    have e2 : binV 15 x y = if y.n = 0 ∨ x.n = minI ∧ y.n = -1 then none else some (Iv (x.n.tmod y.n)) := by
      rw [bin_ints 15 x y (by simp [hx, hy])]; rfl
    by_cases hc : y.n = 0 ∨ x.n = minI ∧ y.n = -1
    · rw [e1, if_pos hc] at h; cases h
    · rw [if_neg hc] at e1 e2
      rw [e1, e2]
      refine ⟨fits_wrap _, fits_tmod _ _ fx, Iv (wrap64 (x.n.tdiv y.n * y.n)), ?_, fits_wrap _, ?_⟩
      · show binV 13 (Iv (wrap64 (x.n.tdiv y.n))) y = _
        rw [bin_ints 13 _ y (by rw [hy]; rfl)]
        show some (Iv (wrap64 (wrap64 (x.n.tdiv y.n) * y.n))) = _
        rw [wrap_mul]
      · show binV 11 (Iv (wrap64 (x.n.tdiv y.n * y.n))) (Iv (x.n.tmod y.n)) = some x
        rw [bin_ints 11 _ _ rfl]
        show some (Iv (wrap64 (wrap64 (x.n.tdiv y.n * y.n) + x.n.tmod y.n))) = some x
        rw [wrap_add, Int.tdiv_mul_add_tmod, wrap_fits fx, ← intB_is hx]
end Go.Proofs.YtipeehmbloneoaaDoor
