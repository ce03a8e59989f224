/-
  Bits of numbers of 64 bits, by bit vectors; wrapping as a remainder. No program in sight.
-/
import Derived.Test.YtipeehmbloneoaaDoorBase
import Derived.Laws.BitsLemmas
namespace Go.Proofs.YtipeehmbloneoaaDoor
open Go.RowKit

abbrev V (x : Int) : BitVec 64 := BitVec.ofInt 64 x
theorem wrap64_bmod (n : Int) : wrap64 n = n.bmod 18446744073709551616 := by
  unfold wrap64 Int.bmod
  simp only []
  split <;> omega
theorem wrapi_bmod (n : Int) : IntKind.i64.wrap n = n.bmod 18446744073709551616 := by rw [IntKind.wrap_i64, ← wrap64_bmod]; unfold wrap64; rfl
theorem wrapi_64 (n : Int) : IntKind.i64.wrap n = wrap64 n := by rw [IntKind.wrap_i64]; unfold wrap64; rfl
theorem wrapi_toNat (v : BitVec 64) : IntKind.i64.wrap v.toNat = v.toInt := by rw [wrapi_bmod, BitVec.toInt_eq_toNat_bmod]
theorem V_toInt (v : BitVec 64) : V v.toInt = v := BitVec.ofInt_toInt
theorem toInt_V (x : Int) (h : Fits x) : (V x).toInt = x := by
  unfold V Fits at *
  rw [BitVec.toInt_ofInt, ← wrap64_bmod]
  unfold wrap64; omega
theorem and_V (x y : Int) : bits .and .i64 x y = (V x &&& V y).toInt := wrapi_toNat _
theorem or_V (x y : Int) : bits .or .i64 x y = (V x ||| V y).toInt := wrapi_toNat _
theorem xor_V (x y : Int) : bits .xor .i64 x y = (V x ^^^ V y).toInt := wrapi_toNat _
theorem and_assoc' (a b c : Int) : bits .and .i64 (bits .and .i64 a b) c = bits .and .i64 a (bits .and .i64 b c) := by
  simp only [and_V, V_toInt, BitVec.and_assoc]
theorem or_assoc' (a b c : Int) : bits .or .i64 (bits .or .i64 a b) c = bits .or .i64 a (bits .or .i64 b c) := by
  simp only [or_V, V_toInt, BitVec.or_assoc]
theorem xor_assoc' (a b c : Int) : bits .xor .i64 (bits .xor .i64 a b) c = bits .xor .i64 a (bits .xor .i64 b c) := by
  simp only [xor_V, V_toInt, BitVec.xor_assoc]
theorem and_comm' (a b : Int) : bits .and .i64 a b = bits .and .i64 b a := by simp only [and_V, BitVec.and_comm]
theorem or_comm' (a b : Int) : bits .or .i64 a b = bits .or .i64 b a := by simp only [or_V, BitVec.or_comm]
theorem xor_comm' (a b : Int) : bits .xor .i64 a b = bits .xor .i64 b a := by simp only [xor_V, BitVec.xor_comm]
theorem or_split (x y : BitVec 64) : (x ^^^ y) + (x &&& y) = x ||| y := by
  rw [BitVec.add_eq_or_of_and_eq_zero]
  · ext i hi
    simp
    cases x[i] <;> cases y[i] <;> rfl
  · ext i hi
    simp
    cases x[i] <;> cases y[i] <;> simp
/-- either is as many as the one or the other, less both -/
theorem xor_less (a b : Int) : wrap64 (bits .or .i64 a b - bits .and .i64 a b) = bits .xor .i64 a b := by
  rw [or_V, and_V, xor_V, wrap64_bmod, ← BitVec.toInt_sub, ← or_split]
  congr 1
  rw [BitVec.add_sub_cancel]
theorem fits_toInt (v : BitVec 64) : Fits v.toInt := by
  have h1 := @BitVec.le_toInt 64 v
  have h2 := @BitVec.toInt_lt 64 v
  simp at h1 h2
  exact ⟨by omega, by omega⟩
theorem fits_bits (op : BinOp) (a b : Int) : Fits (bits op .i64 a b) := by
  show Fits (IntKind.i64.wrap _)
  rw [IntKind.wrap_i64]
  exact ⟨by omega, by omega⟩
theorem fits_wrap (n : Int) : Fits (wrap64 n) := by unfold wrap64; exact ⟨by omega, by omega⟩
theorem wrap_fits {n : Int} (h : Fits n) : wrap64 n = n := by unfold Fits at h; unfold wrap64; omega
theorem wrap_add (a b : Int) : wrap64 (wrap64 a + b) = wrap64 (a + b) := by unfold wrap64; omega
theorem wrap_add' (a b : Int) : wrap64 (a + wrap64 b) = wrap64 (a + b) := by unfold wrap64; omega
theorem wrap_sub (a b : Int) : wrap64 (wrap64 a - b) = wrap64 (a - b) := by unfold wrap64; omega
theorem wrap_sub' (a b : Int) : wrap64 (a - wrap64 b) = wrap64 (a - b) := by unfold wrap64; omega
theorem wrap_mul (a b : Int) : wrap64 (wrap64 a * b) = wrap64 (a * b) := by
  rw [wrap64_bmod, wrap64_bmod, wrap64_bmod, Int.bmod_mul_bmod]
theorem wrap_mul' (a b : Int) : wrap64 (a * wrap64 b) = wrap64 (a * b) := by rw [Int.mul_comm, wrap_mul, Int.mul_comm]
theorem V_emod (x : Int) (i : Nat) (hi : i ≤ 64) : (V x).toNat % 2 ^ i = (x % 2 ^ i).toNat := by
  obtain ⟨q, hq⟩ : ∃ q : Nat, 64 = i + q := ⟨64 - i, by omega⟩
  have hp : (0 : Int) < 2 ^ i := by exact_mod_cast Nat.two_pow_pos i
  have h64 : (18446744073709551616 : Int) = 2 ^ i * 2 ^ q := by rw [← Int.pow_add, ← hq]; rfl
  unfold V
  rw [BitVec.toNat_ofInt]
  have : ((2 ^ 64 : Nat) : Int) = 18446744073709551616 := by rfl
  rw [this]
  have hn : 0 ≤ x % 18446744073709551616 := Int.emod_nonneg _ (by decide)
  have e : ((x % 18446744073709551616).toNat % 2 ^ i : Nat) = ((x % 18446744073709551616) % 2 ^ i).toNat := by
    apply Int.ofNat.inj
    show (((x % 18446744073709551616).toNat % 2 ^ i : Nat) : Int) = (((x % 18446744073709551616) % 2 ^ i).toNat : Int)
    rw [Int.natCast_emod, Int.toNat_of_nonneg hn, Int.toNat_of_nonneg (Int.emod_nonneg _ (by omega))]
    simp
  rw [e, h64, Int.emod_emod_of_dvd _ (Int.dvd_mul_right _ _)]
/-- the lowest bits -/
theorem and_low (x : Int) (i : Nat) (hi : i ≤ 62) : bits .and .i64 x (2 ^ i - 1) = x % 2 ^ i := by
  have hp : (0 : Int) < 2 ^ i := by exact_mod_cast Nat.two_pow_pos i
  have h62 : (2 : Int) ^ i ≤ 2 ^ 62 := by exact_mod_cast Nat.pow_le_pow_right (by decide) hi
  have hm := Int.emod_lt_of_pos x hp
  have hm0 := Int.emod_nonneg x (Int.ne_of_gt hp)
  rw [and_V, BitVec.toInt_eq_toNat_bmod, BitVec.toNat_and]
  have e1 : (V (2 ^ i - 1)).toNat = 2 ^ i - 1 := by
    unfold V
    rw [BitVec.toNat_ofInt, Int.emod_eq_of_lt (by omega) (by simp at h62 ⊢; omega)]
    have : ((2 : Int) ^ i - 1) = ((2 ^ i - 1 : Nat) : Int) := by rw [Int.natCast_sub (Nat.two_pow_pos i)]; simp
    rw [this, Int.toNat_natCast]
  rw [e1, Nat.and_two_pow_sub_one_eq_mod, V_emod x i (by omega), Int.toNat_of_nonneg hm0]
  show (x % 2 ^ i).bmod 18446744073709551616 = _
  rw [← wrap64_bmod]
  simp at h62
  exact wrap_fits ⟨by omega, by omega⟩
end Go.Proofs.YtipeehmbloneoaaDoor
