/-
  TraceKnown answers true, in every world in which strconv's table holds its numbers.
-/
import Derived.Test.YtifknchhcbeekaaDoorAwake
namespace Go.Proofs.YtifknchhcbeekaaDoor
open Go.RowKit Go.Lib

def R11 : Rn := ⟨1, 1, [(2, 1)], [(1, 1, 0)], 0⟩
def Z (k : Int) : Rn := ⟨k, 0, [], [], 0⟩
theorem zero_is (k : Int) (w : World) : RunIs w w.heap.size (.agg #[.int .i64 k, .int .i64 0, .slice none 0 0, .slice none 0 0, .int .i64 0]) (Z k) :=
  ⟨none, 0, 0, none, 0, 0, rfl, ⟨rfl, Rd.nil_⟩, Nat.le_refl _, by omega, ⟨rfl, Rd.nil_⟩, Nat.le_refl _, by omega⟩
theorem textZ (k : Int) (t : List UInt8) (hk : textL (Z k) = t) (w : World) (ht : Tab w) :
    Calls Tryd.prog 9 #[.agg #[.int .i64 k, .int .i64 0, .slice none 0 0, .slice none 0 0, .int .i64 0]] w fun e w' => e = .returned (.string ⟨t.toArray⟩) ∧ Below w.heap.size w w' := by
  subst hk
  exact text_any _ (Z k) w (zero_is k w) ht (by simp [Z]) (by simp [Z, Fits]) (by simp [Z])

theorem field2 (A L : Option Addr) (n c n' c' : Nat) (w : World) : (Instr.field 27 (.agg #[.int .i64 1, .int .i64 1, .slice A n c, .slice L n' c', .int .i64 0]) 2).run Tryd.prog w = .ok (.slice A n c) w := by kernel_rfl

set_option maxHeartbeats 4000000 in
set_option maxRecDepth 100000 in
theorem known_any (w : World) (ht : Tab w) : Calls Tryd.prog 3 #[] w (BB true w) := by
  have HT := Lib.hid ht
  clear ht
  go_enter Tryd.func3, Tryd.ntmps3
  go_wp2_with fail
  refine (awake_any w HT.out).mono ?_
  rintro e w1 ⟨rfl, hb1⟩
  have H1 := Lib.hid hb1
  clear hb1
  go_wp2_with fail
  refine (textZ 0 [110, 111, 110, 101, 10] (by rfl) w1 (HT.out.below H1.out)).mono ?_
  rintro e w2 ⟨rfl, hb2⟩
  have H2 := Lib.hid (H1.out.trans (hb2.mono H1.out.size))
  clear hb2 H1
  go_wp2_with fail
  refine (textZ 4 [111, 118, 101, 114, 102, 108, 111, 119, 10] (by rfl) w2 (HT.out.below H2.out)).mono ?_
  rintro e w3 ⟨rfl, hb3⟩
  have H3 := Lib.hid (H2.out.trans (hb3.mono H2.out.size))
  clear hb3 H2
  go_wp2_with fail
  refine (run_any 1 1 w3).mono ?_
  rintro e w4 ⟨v, rfl, hR, hb4⟩
  have H4 := Lib.hid (H3.out.trans (hb4.mono H3.out.size))
  clear hb4 H3
  go_wp2_with fail
  refine (call_ref R11 (Z 4) false (by decide) v _ w4 hR (zero_is 4 w4)).mono ?_
  rintro e w5 ⟨rfl, hb5⟩
  have H5 := Lib.hid (H4.out.trans (hb5.mono H4.out.size))
  clear hb5 H4 hR
  go_wp2_with fail
  refine (run_any 1 1 w5).mono ?_
  rintro e w6 ⟨v, rfl, hR, hb6⟩
  have H6 := Lib.hid (H5.out.trans (hb6.mono H5.out.size))
  clear hb6 H5
  go_wp2_with fail
  refine (call_ref R11 (Z 3) true (by decide) v _ w6 hR (zero_is 3 w6)).mono ?_
  rintro e w7 ⟨rfl, hb7⟩
  have H7 := Lib.hid (H6.out.trans (hb7.mono H6.out.size))
  clear hb7 H6 hR
  go_wp2_with fail
  refine (run_any 1 1 w7).mono ?_
  rintro e w8 ⟨v, rfl, hR, hb8⟩
  have H8 := Lib.hid (H7.out.trans (hb8.mono H7.out.size))
  clear hb8 H7
  obtain ⟨A, n, c, L, n', c', rfl, he, hc, hcc, -⟩ := hR
  have HE := Lib.hid he
  clear he
  have hfl := field2
  go_wp2_with fail
  refine (prefix_any A none n 0 c 0 w8.heap.size [(2, 1)] [] w8 HE.out ⟨rfl, Rd.nil_⟩ (Nat.le_refl _) (by omega) (by omega)).mono ?_
  rintro e w9 ⟨rfl, hb9⟩
  have H9 := Lib.hid (H8.out.trans (hb9.mono H8.out.size))
  have e0 : preB [(2, 1)] [] = false := by decide
  rw [e0]
  clear hb9 H8 e0
  go_wp2_with fail
  go_ret
  exact ⟨rfl, H9.out⟩
end Go.Proofs.YtifknchhcbeekaaDoor
