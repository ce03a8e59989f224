/-
  The plain laws of operations, once more: chains, lowest bits, shifts, pointers. No program in sight.
-/
import Derived.Test.YtipeehmbloneoaaDoorLaws
namespace Go.Proofs.YtipeehmbloneoaaDoor
open Go.RowKit

/-- a chain of additions may be grouped as one likes -/
theorem chain_add (a b c : Int) : wrap64 (wrap64 (a + b) + c) = wrap64 (a + wrap64 (b + c)) := by rw [wrap_add, wrap_add', Int.add_assoc]
theorem chain_mul (a b c : Int) : wrap64 (wrap64 (a * b) * c) = wrap64 (a * wrap64 (b * c)) := by rw [wrap_mul, wrap_mul', Int.mul_assoc]
theorem chain_share (a b c : Int) : wrap64 (wrap64 (a * b) + wrap64 (a * c)) = wrap64 (a * wrap64 (b + c)) := by rw [wrap_add, wrap_add', wrap_mul', Int.mul_add]
/-- the lowest bits -/
def e8 (n : Int) : Int := wrap64 (IntKind.i8.wrap n)
def e32 (n : Int) : Int := wrap64 (wrap32 n)
theorem e8_is (n : Int) : e8 n = (n + 128) % 256 - 128 := by
  unfold e8 wrap64
  rw [show IntKind.i8.wrap n = (n + 128) % 256 - 128 from by simp [IntKind.wrap, IntKind.signed, IntKind.bits]; split <;> omega]
  omega
theorem e32_is (n : Int) : e32 n = (n + 2147483648) % 4294967296 - 2147483648 := by
  unfold e32 wrap64 wrap32
  omega
theorem e8_e32 (n : Int) : e8 (e32 n) = e8 n := by rw [e8_is, e8_is, e32_is]; omega
theorem e32_e8 (n : Int) : e32 (e8 n) = e8 n := by rw [e8_is, e32_is]; omega
theorem e8_e8 (n : Int) : e8 (e8 n) = e8 n := by rw [e8_is, e8_is]; omega
theorem e8_low (n : Int) : -128 ≤ e8 n ∧ e8 n ≤ 127 := by rw [e8_is]; omega
theorem e32_low (n : Int) : -2147483648 ≤ e32 n ∧ e32 n ≤ 2147483647 := by rw [e32_is]; omega
theorem e8_stay (n : Int) : e8 n = n ↔ (-128 ≤ n ∧ n ≤ 127) := by rw [e8_is]; omega
theorem e32_stay (n : Int) : e32 n = n ↔ (-2147483648 ≤ n ∧ n ≤ 2147483647) := by rw [e32_is]; omega
theorem fits_e8 (n : Int) : Fits (e8 n) := fits_wrap _
theorem fits_e32 (n : Int) : Fits (e32 n) := fits_wrap _
/-- shifts -/
theorem shr_shr (n : Int) (i j : Nat) : n / 2 ^ i / 2 ^ j = n / 2 ^ (i + j) := by
  have hp : (0 : Int) < 2 ^ i := by exact_mod_cast Nat.two_pow_pos i
  rw [Int.ediv_ediv, if_neg (by omega), Int.sub_zero, ← Int.pow_add]
theorem fits_shr (n : Int) (i : Nat) (h : Fits n) : Fits (n / 2 ^ i) := by
  have hp : (0 : Int) < 2 ^ i := by exact_mod_cast Nat.two_pow_pos i
  unfold Fits at *
  have h1 := Int.mul_ediv_add_emod n (2 ^ i)
  have h2 := Int.emod_lt_of_pos n hp
  have h3 := Int.emod_nonneg n (Int.ne_of_gt hp)
  generalize (2 : Int) ^ i = p at *
  constructor
  · refine Int.le_ediv_of_mul_le hp ?_
    have : 9223372036854775808 * 1 ≤ 9223372036854775808 * p := Int.mul_le_mul_of_nonneg_left (by omega) (by decide)
    omega
  · rcases (by omega : n < 0 ∨ 0 ≤ n) with hn | hn
    · have := Int.ediv_neg_of_neg_of_pos hn hp
      omega
    · exact Int.le_trans (Int.ediv_le_self p hn) h.2
theorem shr_rest (n : Int) (i : Nat) (hi : i ≤ 62) : wrap64 (n - wrap64 (n / 2 ^ i * 2 ^ i)) = n % 2 ^ i := by
  have hp : (0 : Int) < 2 ^ i := by exact_mod_cast Nat.two_pow_pos i
  have h62 : (2 : Int) ^ i ≤ 2 ^ 62 := by exact_mod_cast Nat.pow_le_pow_right (by decide) hi
  have hm := Int.emod_lt_of_pos n hp
  have hm0 := Int.emod_nonneg n (Int.ne_of_gt hp)
  rw [wrap_sub', Int.mul_comm, ← Int.emod_def]
  simp at h62
  exact wrap_fits ⟨by omega, by omega⟩
/-- pointers -/
theorem ptrB_of (n b : Int) (h : 1 ≤ b) : ptrB ⟨2, n, b⟩ = true := by unfold ptrB; simp [h]
theorem bin_pi (n b m : Int) (h : 1 ≤ b) : binV 11 ⟨2, n, b⟩ ⟨1, m, 0⟩ = some ⟨2, wrap64 (n + m), b⟩ := by
  unfold binV
  rw [ptrB_of n b h]
  rfl
theorem bin_ip (n b m : Int) (h : 1 ≤ b) : binV 11 ⟨1, m, 0⟩ ⟨2, n, b⟩ = some ⟨2, wrap64 (m + n), b⟩ := by
  unfold binV
  rw [ptrB_of n b h]
  rfl
theorem bin_pless (n b m : Int) (h : 1 ≤ b) : binV 12 ⟨2, n, b⟩ ⟨1, m, 0⟩ = some ⟨2, wrap64 (n - m), b⟩ := by
  unfold binV
  rw [ptrB_of n b h]
  rfl
theorem bin_pp (n b m c : Int) (h : 1 ≤ b) (h' : 1 ≤ c) : binV 21 ⟨2, n, b⟩ ⟨2, m, c⟩ = some (truthV (eqB ⟨2, n, b⟩ ⟨2, m, c⟩)) := by
  rw [bin_alike 21 _ _ rfl (by omega)]
  unfold alikeV
  rw [ptrB_of n b h, ptrB_of m c h']
  show some (truthV (eqB _ _ == true)) = _
  rw [beq_true]
end Go.Proofs.YtipeehmbloneoaaDoor
