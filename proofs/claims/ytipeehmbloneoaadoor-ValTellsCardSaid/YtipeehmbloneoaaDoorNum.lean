/-
  The reference's Num: a number's text, digit by digit, is strconv's.
-/
import Derived.Test.YtipeehmbloneoaaDoorMore
import Derived.Test.YtipeehmbloneoaaDoorBits
import Derived.Lib.QuietBelow
namespace Go.Proofs.YtipeehmbloneoaaDoor
open Go.RowKit Go.Sort

theorem num_digit (n : Int) (h0 : 0 ≤ n) (h1 : n ≤ 9) (w : World) : Calls Tryd.prog 39 #[.int .i64 n] w (fun e w' => e = .returned (.string ⟨(Lib.itoa n).toArray⟩) ∧ w = w') := by
  have h : n = 0 ∨ n = 1 ∨ n = 2 ∨ n = 3 ∨ n = 4 ∨ n = 5 ∨ n = 6 ∨ n = 7 ∨ n = 8 ∨ n = 9 := by omega
  clear h0 h1
  rcases h with rfl | rfl | rfl | rfl | rfl | rfl | rfl | rfl | rfl | rfl
  all_goals
    go_enter Tryd.func39, Tryd.ntmps39
    go_wp2
    go_ret
    exact ⟨by rw [Lib.itoa, if_neg (by decide), Lib.decDigits_one (by decide)]; kernel_rfl, rfl⟩
theorem itoa_big (n : Int) (h0 : 9 < n) : Lib.itoa n = Lib.itoa (n / 10) ++ [UInt8.ofNat (48 + (n % 10).toNat)] := by
  obtain ⟨u, rfl⟩ := Int.eq_ofNat_of_zero_le (show 0 ≤ n by omega)
  have e : ((u : Int) / 10) = ((u / 10 : Nat) : Int) := by omega
  have e2 : ((u : Int) % 10).toNat = u % 10 := by omega
  rw [e, e2, Lib.itoa_nonneg, Lib.itoa_nonneg, Lib.decDigits, dif_neg (by omega)]
theorem itoa_low (n : Int) (h0 : n < -9) : Lib.itoa n = Lib.itoa (n.tdiv 10) ++ Lib.itoa (-(n.tmod 10)) := by
  obtain ⟨u, hu⟩ := Int.eq_ofNat_of_zero_le (show 0 ≤ -n by omega)
  have hn : n = -(u : Int) := by omega
  subst hn
  have e1 : (-(u : Int)).tdiv 10 = -((u / 10 : Nat) : Int) := by
    rw [Int.neg_tdiv, Int.tdiv_eq_ediv_of_nonneg (by omega)]
    omega
  have e2 : -((-(u : Int)).tmod 10) = ((u % 10 : Nat) : Int) := by
    rw [Int.neg_tmod, Int.tmod_eq_emod_of_nonneg (by omega)]
    omega
  rw [e1, e2, Lib.itoa_neg _ (by omega), Lib.itoa_neg _ (by omega), Lib.itoa_nonneg, Lib.decDigits, dif_neg (by omega), Lib.decDigits_one (i := u % 10) (by omega)]
  rfl
theorem itoa_minus (n : Int) (h0 : n < 0) : Lib.itoa n = [45] ++ Lib.itoa (-n) := by
  obtain ⟨u, hu⟩ := Int.eq_ofNat_of_zero_le (show 0 ≤ -n by omega)
  have hn : n = -(u : Int) := by omega
  subst hn
  rw [Lib.itoa_neg _ (by omega), Int.neg_neg, Lib.itoa_nonneg]
  rfl
theorem cat2 (a b : List UInt8) : (({ data := a.toArray } ++ { data := b.toArray } : ByteArray)) = { data := (a ++ b).toArray } := by
  apply ByteArray.ext
  simp

theorem num_big (n d : Int) (hd : n % 10 = d) (h0 : 9 < n) (h1 : n ≤ 9223372036854775807) (w : World)
    (ih : ∀ W, Calls Tryd.prog 39 #[.int .i64 (n / 10)] W (RS (Lib.itoa (n / 10)) W)) : Calls Tryd.prog 39 #[.int .i64 n] w (RS (Lib.itoa n) w) := by
  have hi := itoa_big n h0
  rw [hd] at hi
  have HI := Lib.hid hi
  clear hi
  have ht : n.tdiv 10 = n / 10 := by rw [Int.tdiv_eq_ediv_of_nonneg (by omega)]
  have hm : n.tmod 10 = d := by rw [Int.tmod_eq_emod_of_nonneg (by omega), hd]
  have hw : wrap64 (n / 10) = n / 10 := wrap_fits ⟨by omega, by omega⟩
  have ln := Lib.itoa_length_le (n / 10) (by omega) (by omega)
  have hc : d = 0 ∨ d = 1 ∨ d = 2 ∨ d = 3 ∨ d = 4 ∨ d = 5 ∨ d = 6 ∨ d = 7 ∨ d = 8 ∨ d = 9 := by omega
  generalize n / 10 = q at *
  have D0 := Lib.hid (fun d os => (Calls.regrown_of (ih (grow (redrawn w d) os)) : Calls Tryd.prog 39 #[.int .i64 q] (grow (redrawn w d) os) fun e w'' => e = .returned (.string ⟨(Lib.itoa q).toArray⟩) ∧ ∃ p : Regrown, w'' = grow (redrawn w p.d) p.os))
  clear ih hd
  rcases hc with rfl | rfl | rfl | rfl | rfl | rfl | rfl | rfl | rfl | rfl
  all_goals
    go_enter Tryd.func39, Tryd.ntmps39
    go_wp2_with fail
    refine wp_region_quiet_below (by kernel_rfl) (by kernel_rfl) ?_
    repeat (any_goals (first | go_big_quiet_step (with_reducible exact D0.out _ _) | quiet_step (with_reducible exact D0.out _ _)))
    refine wpQuiet_nil ?_
    intro _ hw'
    obtain ⟨⟨dq, osq⟩, hw''⟩ := hw'
    subst hw''
    go_wp2_with fail
    go_ret
    exact ⟨by rw [HI.out, ← cat2]; rfl, below_regrown w dq osq⟩
set_option maxHeartbeats 1000000 in
theorem num_low (n : Int) (h0 : n < -9) (h1 : -9223372036854775808 ≤ n) (w : World)
    (ih : ∀ W, Calls Tryd.prog 39 #[.int .i64 (n.tdiv 10)] W (RS (Lib.itoa (n.tdiv 10)) W)) (ih2 : ∀ W, Calls Tryd.prog 39 #[.int .i64 (-(n.tmod 10))] W (RS (Lib.itoa (-(n.tmod 10))) W)) :
    Calls Tryd.prog 39 #[.int .i64 n] w (RS (Lib.itoa n) w) := by
  have HI := Lib.hid (itoa_low n h0)
  have ht0 : n.tdiv 10 = -((-n) / 10) := by
    rw [← Int.neg_neg n, Int.neg_tdiv, Int.tdiv_eq_ediv_of_nonneg (by omega)]
    simp
  have hm0 : n.tmod 10 = -((-n) % 10) := by
    rw [← Int.neg_neg n, Int.neg_tmod, Int.tmod_eq_emod_of_nonneg (by omega)]
    simp
  have l1 := Lib.itoa_length_le (n.tdiv 10) (by omega) (by omega)
  have l2 := Lib.itoa_length_le (-(n.tmod 10)) (by omega) (by omega)
  have hw : wrap64 (-(n.tmod 10)) = -(n.tmod 10) := wrap_fits ⟨by omega, by omega⟩
  clear ht0 hm0
  go_enter Tryd.func39, Tryd.ntmps39
  go_wp2_with fail
  refine (ih _).mono ?_
  rintro e w1 ⟨rfl, hb1⟩
  go_wp2_with fail
  refine (ih2 _).mono ?_
  rintro e w2 ⟨rfl, hb2⟩
  have hb := hb1.trans (hb2.mono hb1.size)
  go_wp2_with fail
  go_ret
  exact ⟨by rw [HI.out, ← cat2]; rfl, hb⟩
theorem num_neg (n : Int) (h0 : n < 0) (h1 : -9 ≤ n) (w : World) (ih : ∀ W, Calls Tryd.prog 39 #[.int .i64 (-n)] W (RS (Lib.itoa (-n)) W)) : Calls Tryd.prog 39 #[.int .i64 n] w (RS (Lib.itoa n) w) := by
  have HI := Lib.hid (itoa_minus n h0)
  have l1 := Lib.itoa_length_le (-n) (by omega) (by omega)
  have hl : (decide (n < -9)) = false := decide_eq_false (by omega)
  go_enter Tryd.func39, Tryd.ntmps39
  go_wp2_with fail
  refine (ih _).mono ?_
  rintro e w1 ⟨rfl, hb1⟩
  go_wp2_with fail
  go_ret
  exact ⟨by rw [HI.out, ← cat2]; rfl, hb1⟩
theorem num_any : ∀ (m : Nat) (n : Int), n.natAbs < m → Fits n → ∀ w, Calls Tryd.prog 39 #[.int .i64 n] w (RS (Lib.itoa n) w) := by
  intro m
  induction m with
  | zero => intro n h; omega
  | succ m ih =>
    intro n hn hf w
    have hf' : -9223372036854775808 ≤ n ∧ n ≤ 9223372036854775807 := hf
    by_cases h1 : n < -9
    · have e1 : (n.tdiv 10) = -((-n) / 10) := by
        rw [← Int.neg_neg n, Int.neg_tdiv, Int.tdiv_eq_ediv_of_nonneg (by omega)]
        simp
      have e2 : (n.tmod 10) = -((-n) % 10) := by
        rw [← Int.neg_neg n, Int.neg_tmod, Int.tmod_eq_emod_of_nonneg (by omega)]
        simp
      exact num_low n h1 hf'.1 w (ih _ (by omega) ⟨by omega, by omega⟩) (ih _ (by omega) ⟨by omega, by omega⟩)
    · by_cases h2 : n < 0
      · have hd : ∀ W, Calls Tryd.prog 39 #[.int .i64 (-n)] W (RS (Lib.itoa (-n)) W) := fun W => (num_digit (-n) (by omega) (by omega) W).mono fun _ _ ⟨h, h'⟩ => ⟨h, by subst h'; exact Below.refl _ _⟩
        exact num_neg n h2 (by omega) w hd
      · by_cases h3 : 9 < n
        · exact num_big n _ rfl h3 hf'.2 w (ih _ (by omega) ⟨by omega, by omega⟩)
        · exact (num_digit n (by omega) (by omega) w).mono fun _ _ ⟨h, h'⟩ => ⟨h, by subst h'; exact Below.refl _ _⟩
end Go.Proofs.YtipeehmbloneoaaDoor
