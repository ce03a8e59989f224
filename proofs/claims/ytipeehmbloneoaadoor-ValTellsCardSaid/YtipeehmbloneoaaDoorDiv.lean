/-
  The reference's Divides: the quotient and the rest by their signs and sizes are those of the signed division.
-/
import Derived.Test.YtipeehmbloneoaaDoorSmall
import Derived.Test.YtipeehmbloneoaaDoorBits
namespace Go.Proofs.YtipeehmbloneoaaDoor
open Go.RowKit

def noDiv (a b : Int) : Bool := b == 0 || (a == minI && b == -1)
def RD (a b : Int) (w : World) (e : Ending) (w' : World) : Prop :=
  e = .returned (.tuple #[.int .i64 (if noDiv a b then 0 else a.tdiv b), .int .i64 (if noDiv a b then 0 else a.tmod b), .bool (!noDiv a b)]) ∧ w = w'
theorem u64_in {n : Int} (h0 : 0 ≤ n) (h1 : n < 18446744073709551616) : IntKind.u64.wrap n = n := by
  simp [IntKind.wrap, IntKind.bits, IntKind.signed]; omega
theorem u64_neg {n : Int} (h0 : n < 0) (h1 : -9223372036854775808 ≤ n) : IntKind.u64.wrap (-IntKind.u64.wrap n) = -n := by
  simp [IntKind.wrap, IntKind.bits, IntKind.signed]; omega
theorem w_u64 (n : Int) : wrap64 (IntKind.u64.wrap n) = wrap64 n := by
  simp [IntKind.wrap, IntKind.bits, IntKind.signed]; unfold wrap64; omega
/-- of sizes -/
theorem sizes (X Y : Int) (h0 : 0 ≤ X) (h1 : X ≤ 9223372036854775808) (h2 : 1 ≤ Y) : IntKind.u64.wrap (X.tdiv Y) = X / Y ∧ IntKind.u64.wrap (X / Y * Y) = X / Y * Y ∧ IntKind.u64.wrap (X - X / Y * Y) = X % Y ∧ 0 ≤ X / Y ∧ X / Y ≤ X ∧ 0 ≤ X % Y ∧ X % Y ≤ X := by
  have q0 : 0 ≤ X / Y := Int.ediv_nonneg h0 (by omega)
  have q1 : X / Y ≤ X := Int.ediv_le_self Y h0
  have r0 : 0 ≤ X % Y := Int.emod_nonneg _ (by omega)
  have hr := Int.emod_add_mul_ediv X Y
  have hc : Y * (X / Y) = X / Y * Y := Int.mul_comm _ _
  have hm : 0 ≤ X / Y * Y := Int.mul_nonneg q0 (by omega)
  refine ⟨?_, ?_, ?_, q0, q1, r0, by omega⟩
  · rw [Int.tdiv_eq_ediv_of_nonneg h0]; exact u64_in q0 (by omega)
  · exact u64_in hm (by omega)
  · rw [show X - X / Y * Y = X % Y by omega]; exact u64_in r0 (by omega)

theorem div_nn (a b : Int) (ha : Fits a) (hb : Fits b) (h0 : ¬b = 0) (hn : ¬(a = minI ∧ b = -1)) (h1 : a < 0) (h2 : b < 0) (w : World) :
    Calls Tryd.prog 43 #[.int .i64 a, .int .i64 b] w (fun e w' => e = .returned (.tuple #[.int .i64 (a.tdiv b), .int .i64 (a.tmod b), .bool true]) ∧ w = w') := by
  obtain ⟨a0, a1⟩ := ha
  obtain ⟨b0, b1⟩ := hb
  have hx : IntKind.u64.wrap (-IntKind.u64.wrap a) = -a := u64_neg h1 a0
  have hy : IntKind.u64.wrap (-IntKind.u64.wrap b) = -b := u64_neg h2 b0
  obtain ⟨hq, hp, hr, q0, q1, r0, r1⟩ := sizes (-a) (-b) (by omega) (by omega) (by omega)
  have e1 : a.tdiv b = ((-a) / (-b)) := by
    rw [← Int.tdiv_eq_ediv_of_nonneg (by omega)]
    simp
  have e2 : a.tmod b = -((-a) % (-b)) := by
    rw [← Int.tmod_eq_emod_of_nonneg (by omega)]
    simp
  have m1 : wrap64 (((-a) / (-b))) = a.tdiv b := by
    rw [← e1]
    refine wrap_fits ⟨by omega, ?_⟩
    have hlt : -a / -b < 9223372036854775808 := by
      by_cases h : b = -1
      · have : ¬a = minI := fun h' => hn ⟨h', h⟩
        unfold minI at this
        omega
      · exact Int.ediv_lt_of_lt_mul (by omega) (by omega)
    omega
  have m2 : wrap64 (-((-a) % (-b))) = a.tmod b := by
    rw [← e2]
    refine wrap_fits ⟨by omega, ?_⟩
    omega
  have tt := Lib.hid (And.intro m1 m2)
  clear m1 m2 e1 e2 q0 q1 r0 r1
  generalize hX : -a = X at hx hq hp hr tt
  generalize hY : -b = Y at hy hq hp hr tt
  generalize hQ : X / Y = Q at hq hp hr tt
  generalize hP : Q * Y = P at hp hr
  generalize hR : X % Y = R at hr tt
  have hz : ¬Y = 0 := by omega
  have u := Lib.hid (And.intro hX (And.intro hY (And.intro hQ hR)))
  clear hX
  clear hY
  clear hQ hR
  have ts : (a == -9223372036854775808 && b == -1) = false := by
    cases h : (a == -9223372036854775808 && b == -1)
    · rfl
    · exact absurd (by simpa [minI] using h) hn
  clear hn
  have tb : (b == 0) = false := by simpa using h0
  by_cases hm : a = -9223372036854775808
  · have tm : (b == -1) = false := by simpa [hm] using ts
    have tm' : (a == -9223372036854775808) = true := by simpa using hm
    clear hm ts
    go_enter Tryd.func43, Tryd.ntmps43
    go_wp2
    exact bodyPost_ret (v := .tuple #[.int .i64 (a.tdiv b), .int .i64 (a.tmod b), .bool true]) (by simp [results, Tryd.results43, go_sem, w_u64, tt.out.1, tt.out.2]) rfl ⟨rfl, rfl⟩
  · have tm' : (a == -9223372036854775808) = false := by simpa using hm
    clear hm ts
    go_enter Tryd.func43, Tryd.ntmps43
    go_wp2
    exact bodyPost_ret (v := .tuple #[.int .i64 (a.tdiv b), .int .i64 (a.tmod b), .bool true]) (by simp [results, Tryd.results43, go_sem, w_u64, tt.out.1, tt.out.2]) rfl ⟨rfl, rfl⟩

theorem div_np (a b : Int) (ha : Fits a) (hb : Fits b) (h0 : ¬b = 0) (hn : ¬(a = minI ∧ b = -1)) (h1 : a < 0) (h2 : ¬b < 0) (w : World) :
    Calls Tryd.prog 43 #[.int .i64 a, .int .i64 b] w (fun e w' => e = .returned (.tuple #[.int .i64 (a.tdiv b), .int .i64 (a.tmod b), .bool true]) ∧ w = w') := by
  obtain ⟨a0, a1⟩ := ha
  obtain ⟨b0, b1⟩ := hb
  have hx : IntKind.u64.wrap (-IntKind.u64.wrap a) = -a := u64_neg h1 a0
  have hy : IntKind.u64.wrap b = b := u64_in (by omega) (by omega)
  obtain ⟨hq, hp, hr, q0, q1, r0, r1⟩ := sizes (-a) (b) (by omega) (by omega) (by omega)
  have e1 : a.tdiv b = -((-a) / (b)) := by
    rw [← Int.tdiv_eq_ediv_of_nonneg (by omega)]
    simp
  have e2 : a.tmod b = -((-a) % (b)) := by
    rw [← Int.tmod_eq_emod_of_nonneg (by omega)]
    simp
  have m1 : wrap64 (-((-a) / (b))) = a.tdiv b := by
    rw [← e1]
    refine wrap_fits ⟨by omega, ?_⟩
    omega
  have m2 : wrap64 (-((-a) % (b))) = a.tmod b := by
    rw [← e2]
    refine wrap_fits ⟨by omega, ?_⟩
    omega
  have tt := Lib.hid (And.intro m1 m2)
  clear m1 m2 e1 e2 q0 q1 r0 r1
  generalize hX : -a = X at hx hq hp hr tt
  generalize hY : b = Y at hy hq hp hr tt
  generalize hQ : X / Y = Q at hq hp hr tt
  generalize hP : Q * Y = P at hp hr
  generalize hR : X % Y = R at hr tt
  have hz : ¬Y = 0 := by omega
  have u := Lib.hid (And.intro hX (And.intro hY (And.intro hQ hR)))
  clear hX
  subst hY
  clear hQ hR
  have ts : (a == -9223372036854775808 && b == -1) = false := by
    cases h : (a == -9223372036854775808 && b == -1)
    · rfl
    · exact absurd (by simpa [minI] using h) hn
  clear hn
  have tb : (b == 0) = false := by simpa using h0
  by_cases hm : a = -9223372036854775808
  · have tm : (b == -1) = false := by simpa [hm] using ts
    have tm' : (a == -9223372036854775808) = true := by simpa using hm
    clear hm ts
    go_enter Tryd.func43, Tryd.ntmps43
    go_wp2
    exact bodyPost_ret (v := .tuple #[.int .i64 (a.tdiv b), .int .i64 (a.tmod b), .bool true]) (by simp [results, Tryd.results43, go_sem, w_u64, tt.out.1, tt.out.2]) rfl ⟨rfl, rfl⟩
  · have tm' : (a == -9223372036854775808) = false := by simpa using hm
    clear hm ts
    go_enter Tryd.func43, Tryd.ntmps43
    go_wp2
    exact bodyPost_ret (v := .tuple #[.int .i64 (a.tdiv b), .int .i64 (a.tmod b), .bool true]) (by simp [results, Tryd.results43, go_sem, w_u64, tt.out.1, tt.out.2]) rfl ⟨rfl, rfl⟩

theorem div_pn (a b : Int) (ha : Fits a) (hb : Fits b) (h0 : ¬b = 0) (hn : ¬(a = minI ∧ b = -1)) (h1 : ¬a < 0) (h2 : b < 0) (w : World) :
    Calls Tryd.prog 43 #[.int .i64 a, .int .i64 b] w (fun e w' => e = .returned (.tuple #[.int .i64 (a.tdiv b), .int .i64 (a.tmod b), .bool true]) ∧ w = w') := by
  obtain ⟨a0, a1⟩ := ha
  obtain ⟨b0, b1⟩ := hb
  have hx : IntKind.u64.wrap a = a := u64_in (by omega) (by omega)
  have hy : IntKind.u64.wrap (-IntKind.u64.wrap b) = -b := u64_neg h2 b0
  obtain ⟨hq, hp, hr, q0, q1, r0, r1⟩ := sizes (a) (-b) (by omega) (by omega) (by omega)
  have e1 : a.tdiv b = -((a) / (-b)) := by
    rw [← Int.tdiv_eq_ediv_of_nonneg (by omega)]
    simp
  have e2 : a.tmod b = ((a) % (-b)) := by
    rw [← Int.tmod_eq_emod_of_nonneg (by omega)]
    simp
  have m1 : wrap64 (-((a) / (-b))) = a.tdiv b := by
    rw [← e1]
    refine wrap_fits ⟨by omega, ?_⟩
    omega
  have m2 : wrap64 (((a) % (-b))) = a.tmod b := by
    rw [← e2]
    refine wrap_fits ⟨by omega, ?_⟩
    omega
  have tt := Lib.hid (And.intro m1 m2)
  clear m1 m2 e1 e2 q0 q1 r0 r1
  generalize hX : a = X at hx hq hp hr tt
  generalize hY : -b = Y at hy hq hp hr tt
  generalize hQ : X / Y = Q at hq hp hr tt
  generalize hP : Q * Y = P at hp hr
  generalize hR : X % Y = R at hr tt
  have hz : ¬Y = 0 := by omega
  have u := Lib.hid (And.intro hX (And.intro hY (And.intro hQ hR)))
  subst hX
  clear hY
  clear hQ hR
  have ts : (a == -9223372036854775808 && b == -1) = false := by
    cases h : (a == -9223372036854775808 && b == -1)
    · rfl
    · exact absurd (by simpa [minI] using h) hn
  clear hn
  have tb : (b == 0) = false := by simpa using h0
  by_cases hm : a = -9223372036854775808
  · have tm : (b == -1) = false := by simpa [hm] using ts
    have tm' : (a == -9223372036854775808) = true := by simpa using hm
    clear hm ts
    go_enter Tryd.func43, Tryd.ntmps43
    go_wp2
    exact bodyPost_ret (v := .tuple #[.int .i64 (a.tdiv b), .int .i64 (a.tmod b), .bool true]) (by simp [results, Tryd.results43, go_sem, w_u64, tt.out.1, tt.out.2]) rfl ⟨rfl, rfl⟩
  · have tm' : (a == -9223372036854775808) = false := by simpa using hm
    clear hm ts
    go_enter Tryd.func43, Tryd.ntmps43
    go_wp2
    exact bodyPost_ret (v := .tuple #[.int .i64 (a.tdiv b), .int .i64 (a.tmod b), .bool true]) (by simp [results, Tryd.results43, go_sem, w_u64, tt.out.1, tt.out.2]) rfl ⟨rfl, rfl⟩

theorem div_pp (a b : Int) (ha : Fits a) (hb : Fits b) (h0 : ¬b = 0) (hn : ¬(a = minI ∧ b = -1)) (h1 : ¬a < 0) (h2 : ¬b < 0) (w : World) :
    Calls Tryd.prog 43 #[.int .i64 a, .int .i64 b] w (fun e w' => e = .returned (.tuple #[.int .i64 (a.tdiv b), .int .i64 (a.tmod b), .bool true]) ∧ w = w') := by
  obtain ⟨a0, a1⟩ := ha
  obtain ⟨b0, b1⟩ := hb
  have hx : IntKind.u64.wrap a = a := u64_in (by omega) (by omega)
  have hy : IntKind.u64.wrap b = b := u64_in (by omega) (by omega)
  obtain ⟨hq, hp, hr, q0, q1, r0, r1⟩ := sizes (a) (b) (by omega) (by omega) (by omega)
  have e1 : a.tdiv b = ((a) / (b)) := by
    rw [← Int.tdiv_eq_ediv_of_nonneg (by omega)]
  have e2 : a.tmod b = ((a) % (b)) := by
    rw [← Int.tmod_eq_emod_of_nonneg (by omega)]
  have m1 : wrap64 (((a) / (b))) = a.tdiv b := by
    rw [← e1]
    refine wrap_fits ⟨by omega, ?_⟩
    omega
  have m2 : wrap64 (((a) % (b))) = a.tmod b := by
    rw [← e2]
    refine wrap_fits ⟨by omega, ?_⟩
    omega
  have tt := Lib.hid (And.intro m1 m2)
  clear m1 m2 e1 e2 q0 q1 r0 r1
  generalize hX : a = X at hx hq hp hr tt
  generalize hY : b = Y at hy hq hp hr tt
  generalize hQ : X / Y = Q at hq hp hr tt
  generalize hP : Q * Y = P at hp hr
  generalize hR : X % Y = R at hr tt
  have hz : ¬Y = 0 := by omega
  have u := Lib.hid (And.intro hX (And.intro hY (And.intro hQ hR)))
  subst hX
  subst hY
  clear hQ hR
  have ts : (a == -9223372036854775808 && b == -1) = false := by
    cases h : (a == -9223372036854775808 && b == -1)
    · rfl
    · exact absurd (by simpa [minI] using h) hn
  clear hn
  have tb : (b == 0) = false := by simpa using h0
  by_cases hm : a = -9223372036854775808
  · have tm : (b == -1) = false := by simpa [hm] using ts
    have tm' : (a == -9223372036854775808) = true := by simpa using hm
    clear hm ts
    go_enter Tryd.func43, Tryd.ntmps43
    go_wp2
    exact bodyPost_ret (v := .tuple #[.int .i64 (a.tdiv b), .int .i64 (a.tmod b), .bool true]) (by simp [results, Tryd.results43, go_sem, tt.out.1, tt.out.2]) rfl ⟨rfl, rfl⟩
  · have tm' : (a == -9223372036854775808) = false := by simpa using hm
    clear hm ts
    go_enter Tryd.func43, Tryd.ntmps43
    go_wp2
    exact bodyPost_ret (v := .tuple #[.int .i64 (a.tdiv b), .int .i64 (a.tmod b), .bool true]) (by simp [results, Tryd.results43, go_sem, tt.out.1, tt.out.2]) rfl ⟨rfl, rfl⟩

theorem div_any (a b : Int) (ha : Fits a) (hb : Fits b) (w : World) : Calls Tryd.prog 43 #[.int .i64 a, .int .i64 b] w (RD a b w) := by
  cases hn : noDiv a b
  · have hn' := hn
    simp only [noDiv, Bool.or_eq_false_iff, Bool.and_eq_false_iff, beq_eq_false_iff_ne, ne_eq] at hn'
    have e : RD a b w = (fun e w' => e = .returned (.tuple #[.int .i64 (a.tdiv b), .int .i64 (a.tmod b), .bool true]) ∧ w = w') := by
      funext e w'
      simp [RD, hn]
    rw [e]
    have h' : ¬(a = minI ∧ b = -1) := by
      rintro ⟨h1, h2⟩
      rcases hn'.2 with h | h
      · exact h h1
      · exact h h2
    by_cases h1 : a < 0 <;> by_cases h2 : b < 0
    · exact div_nn a b ha hb hn'.1 h' h1 h2 w
    · exact div_np a b ha hb hn'.1 h' h1 h2 w
    · exact div_pn a b ha hb hn'.1 h' h1 h2 w
    · exact div_pp a b ha hb hn'.1 h' h1 h2 w
  · have e : RD a b w = (fun e w' => e = .returned (.tuple #[.int .i64 0, .int .i64 0, .bool false]) ∧ w = w') := by
      funext e w'
      simp [RD, hn]
    rw [e]
    clear e ha hb
    by_cases h0 : b = 0
    · subst h0
      go_enter Tryd.func43, Tryd.ntmps43
      go_wp2
      exact bodyPost_ret (v := .tuple #[.int .i64 0, .int .i64 0, .bool false]) (by simp [results, Tryd.results43, go_sem]) rfl ⟨rfl, rfl⟩
    · have : a = minI ∧ b = -1 := by simpa [noDiv, h0] using hn
      obtain ⟨rfl, rfl⟩ := this
      unfold minI
      clear hn h0
      go_enter Tryd.func43, Tryd.ntmps43
      go_wp2
      exact bodyPost_ret (v := .tuple #[.int .i64 0, .int .i64 0, .bool false]) (by simp [results, Tryd.results43, go_sem]) rfl ⟨rfl, rfl⟩
end Go.Proofs.YtipeehmbloneoaaDoor

