/-
  ValShifts answers true.
-/
import Derived.Test.YtipeehmbloneoaaDoorAwake
import Derived.Test.YtipeehmbloneoaaDoorLaws2
import Derived.Test.YtipeehmbloneoaaDoorSack
import Derived.Deep.RegionWith
import Derived.Deep.DeepCutAuto
namespace Go.Proofs.YtipeehmbloneoaaDoor
open Go.RowKit Go.Sort

theorem bin19 (n i : Int) (h0 : 0 ≤ i) (h1 : i ≤ 62) : binV 19 ⟨1, n, 0⟩ ⟨1, i, 0⟩ = some (Iv (wrap64 (n * 2 ^ i.toNat))) := by
  rw [bin_ints 19 _ _ rfl]
  show (if i < 0 ∨ 63 < i then none else some (Iv (wrap64 (n * 2 ^ i.toNat)))) = _
  rw [if_neg (by omega)]
theorem bin20 (n i : Int) (h0 : 0 ≤ i) (h1 : i ≤ 62) : binV 20 ⟨1, n, 0⟩ ⟨1, i, 0⟩ = some (Iv (n / 2 ^ i.toNat)) := by
  rw [bin_ints 20 _ _ rfl]
  show (if i < 0 ∨ 63 < i then none else some (Iv (n / 2 ^ i.toNat))) = _
  rw [if_neg (by omega)]
theorem shifts_both (n i j : Int) (fn : Fits n) (h1 : 0 ≤ i) (h2 : 0 ≤ j) (h3 : i + j ≤ 62) : ∃ P A D E Q R : Int, wrap64 (2 ^ i.toNat) = P ∧ (∀ W, Calls Tryd.prog 12 #[.int .i64 19, .agg #[.int .i64 (1), .int .i64 (n), .int .i64 (0)], .agg #[.int .i64 (1), .int .i64 (i), .int .i64 (0)]] W (RVs 1 A 0 true W)) ∧ (∀ W, Calls Tryd.prog 12 #[.int .i64 13, .agg #[.int .i64 (1), .int .i64 (n), .int .i64 (0)], .agg #[.int .i64 (1), .int .i64 (P), .int .i64 (0)]] W (RVs 1 A 0 true W)) ∧ (∀ W, Calls Tryd.prog 12 #[.int .i64 20, .agg #[.int .i64 (1), .int .i64 (n), .int .i64 (0)], .agg #[.int .i64 (1), .int .i64 (i), .int .i64 (0)]] W (RVs 1 D 0 true W)) ∧ (∀ W, Calls Tryd.prog 12 #[.int .i64 20, .agg #[.int .i64 (1), .int .i64 (D), .int .i64 (0)], .agg #[.int .i64 (1), .int .i64 (j), .int .i64 (0)]] W (RVs 1 E 0 true W)) ∧ (∀ W, Calls Tryd.prog 12 #[.int .i64 20, .agg #[.int .i64 (1), .int .i64 (n), .int .i64 (0)], .agg #[.int .i64 (1), .int .i64 (i + j), .int .i64 (0)]] W (RVs 1 E 0 true W)) ∧ (∀ W, Calls Tryd.prog 12 #[.int .i64 13, .agg #[.int .i64 (1), .int .i64 (D), .int .i64 (0)], .agg #[.int .i64 (1), .int .i64 (P), .int .i64 (0)]] W (RVs 1 Q 0 true W)) ∧ (∀ W, Calls Tryd.prog 12 #[.int .i64 12, .agg #[.int .i64 (1), .int .i64 (n), .int .i64 (0)], .agg #[.int .i64 (1), .int .i64 (Q), .int .i64 (0)]] W (RVs 1 R 0 true W)) ∧ 0 ≤ R ∧ R < P := by
  have hp : (0 : Int) < 2 ^ i.toNat := by exact_mod_cast Nat.two_pow_pos i.toNat
  have h62 : (2 : Int) ^ i.toNat ≤ 2 ^ 62 := by exact_mod_cast Nat.pow_le_pow_right (by decide) (by omega : i.toNat ≤ 62)
  simp at h62
  have eP : wrap64 (2 ^ i.toNat) = 2 ^ i.toNat := wrap_fits ⟨by omega, by omega⟩
  have fP : Fits (2 ^ i.toNat) := ⟨by omega, by omega⟩
  have fi : Fits i := ⟨by omega, by omega⟩
  have fj : Fits j := ⟨by omega, by omega⟩
  have fij : Fits (i + j) := ⟨by omega, by omega⟩
  have fD : Fits (n / 2 ^ i.toNat) := fits_shr n _ fn
  have hR := shr_rest n i.toNat (by omega)
  have g : ∀ {op x y r : Int}, Fits x → Fits y → binV op ⟨1, x, 0⟩ ⟨1, y, 0⟩ = some (Iv r) → (∀ W, Calls Tryd.prog 12 #[.int .i64 op, .agg #[.int .i64 (1), .int .i64 (x), .int .i64 (0)], .agg #[.int .i64 (1), .int .i64 (y), .int .i64 (0)]] W (RVs 1 r 0 true W)) := fun fx fy h W =>
    bin_is _ 1 _ 0 1 _ 0 1 _ 0 true (congrArg (Option.getD · Zv) h) (congrArg Option.isSome h) fx fy W
  refine ⟨2 ^ i.toNat, wrap64 (n * 2 ^ i.toNat), n / 2 ^ i.toNat, n / 2 ^ i.toNat / 2 ^ j.toNat, wrap64 (n / 2 ^ i.toNat * 2 ^ i.toNat), n % 2 ^ i.toNat, eP, g fn fi (bin19 n i h1 (by omega)), g fn fP rfl, g fn fi (bin20 n i h1 (by omega)), g fD fj (bin20 _ j h2 (by omega)), g fn fij ?_, g fD fP rfl, g fn (fits_wrap _) ?_, Int.emod_nonneg n (Int.ne_of_gt hp), Int.emod_lt_of_pos n hp⟩
  · rw [bin20 n (i + j) (by omega) h3, shr_shr, show (i + j).toNat = i.toNat + j.toNat by omega]
  · show some (Iv (wrap64 (n - wrap64 (n / 2 ^ i.toNat * 2 ^ i.toNat)))) = _
    rw [hR]

set_option maxRecDepth 20000 in
set_option maxHeartbeats 8000000 in
theorem shifts_any (n i j : Int) (fn : Fits n) (w : World) (ht : Tab w) : Calls Tryd.prog 9 #[.int .i64 n, .int .i64 i, .int .i64 j] w (BB true w) := by
  have T := Lib.hid ht
  have FN := Lib.hid fn
  clear ht fn
  have hE := eqVl
  have hG := guardVl
  have hN := neqVl
  have B0 := Lib.hid (Sack.nil w)
  go_enter Tryd.func9, Tryd.ntmps9
  go_wp2_with fail
  refine (awake_any _ (T.out.below B0.out.low)).mono ?_
  rintro e w1 ⟨rfl, hb⟩
  have B1 := Lib.hid (Sack.step hb B0.out)
  clear hb B0
  by_cases hc : i < 0 ∨ j < 0 ∨ 62 < wrap64 (i + j) ∨ 62 < i ∨ 62 < j
  · go_wp2_with fail
    all_goals (go_ret; exact ⟨by simp, B1.out.low⟩)
  have h1 : 0 ≤ i := by omega
  have h2 : 0 ≤ j := by omega
  have h4 : i ≤ 62 := by omega
  have h5 : j ≤ 62 := by omega
  have h3 : i + j ≤ 62 := by have : wrap64 (i + j) = i + j := wrap_fits ⟨by omega, by omega⟩; omega
  clear hc
  obtain ⟨P, A, D, E, Q, R, hP, k1, k2, k3, k4, k5, k6, k7, r0, r1⟩ := shifts_both n i j FN.out h1 h2 h3
  have H1 := Lib.hid k1
  have H2 := Lib.hid k2
  have H3 := Lib.hid k3
  have H4 := Lib.hid k4
  have H5 := Lib.hid k5
  have H6 := Lib.hid k6
  have H7 := Lib.hid k7
  clear k1 k2 k3 k4 k5 k6 k7
  go_wp2_with fail
  rw [hP]
  refine (of_any P _).mono ?_
  rintro e w2 ⟨rfl, hb⟩
  have B2 := Lib.hid (Sack.put (Sack.step hb B1.out) 1 P 0)
  clear hb B1
  go_wp2_with fail
  refine (of_any n _).mono ?_
  rintro e w3 ⟨rfl, hb⟩
  have B3 := Lib.hid (Sack.step hb B2.out)
  clear hb B2
  go_wp2_with fail
  refine (of_any i _).mono ?_
  rintro e w4 ⟨rfl, hb⟩
  have B4 := Lib.hid (Sack.step hb B3.out)
  clear hb B3
  go_wp2_with fail
  refine (H1.out _).mono ?_
  rintro e w5 ⟨rfl, hb⟩
  have B5 := Lib.hid (Sack.put (Sack.step hb B4.out) 1 A 0)
  clear hb B4
  go_upto_region 7 with fail
  go_cut [10, 11] (fun s10 s11 wx => ∃ g : Nat, s10 = .pointer (some ⟨g, 0, none⟩) ∧ s11 = .bool true ∧ Sack w wx ((g, (⟨1, A, 0⟩ : Vl)) :: [(w5.heap.size, ⟨1, A, 0⟩), (w2.heap.size, ⟨1, P, 0⟩)]))
  case first =>
    have Z := B5.out
    obtain ⟨p0, p1, p2⟩ := Z.cells w2.heap.size 1 P 0 (by simp)
    obtain ⟨p3, p4, p5⟩ := (Sack.put Z 0 0 0).cells w2.heap.size 1 P 0 (by simp)
    obtain ⟨p6, p7, p8⟩ := (Sack.put (Sack.drew Z) 0 0 0).cells w2.heap.size 1 P 0 (by simp)
    go_region_with (first | (go_at_call 13; refine (of_any n _).mono ?_; rintro e w' ⟨rfl, hb⟩; (first | (have Y := Sack.step hb Z) | (have Y := Sack.step hb (Sack.drew Z)) | (have Y := Sack.step hb (Sack.put Z 0 0 0)) | (have Y := Sack.step hb (Sack.put (Sack.drew Z) 0 0 0))); (obtain ⟨p0, p1, p2⟩ := Y.cells w2.heap.size 1 P 0 (by simp)); (obtain ⟨p3, p4, p5⟩ := (Sack.put Y 0 0 0).cells w2.heap.size 1 P 0 (by simp)); (try obtain ⟨g0, g1, g2⟩ := Y.cells _ 0 0 0 (List.mem_cons_self)); (try obtain ⟨f0, f1, f2⟩ := Y.frozen _ 0 0 0 (List.mem_cons_self)); (try simp only [drew_size, World.size_alloc] at g0 g1 g2 f0 f1 f2); (try simp only [drew_size, World.size_alloc] at Y); (have Z := Y); clear Y hb) | (go_at_call 12; refine (H2.out _).mono ?_; rintro e w' ⟨rfl, hb⟩; (first | (have Y := Sack.step hb Z) | (have Y := Sack.step hb (Sack.drew Z)) | (have Y := Sack.step hb (Sack.put Z 0 0 0)) | (have Y := Sack.step hb (Sack.put (Sack.drew Z) 0 0 0))); (obtain ⟨p0, p1, p2⟩ := Y.cells w2.heap.size 1 P 0 (by simp)); (obtain ⟨p3, p4, p5⟩ := (Sack.put Y 0 0 0).cells w2.heap.size 1 P 0 (by simp)); (try obtain ⟨g0, g1, g2⟩ := Y.cells _ 0 0 0 (List.mem_cons_self)); (try obtain ⟨f0, f1, f2⟩ := Y.frozen _ 0 0 0 (List.mem_cons_self)); (try simp only [drew_size, World.size_alloc] at g0 g1 g2 f0 f1 f2); (try simp only [drew_size, World.size_alloc] at Y); (have Z := Y); clear Y hb))
    all_goals go_wp2_with fail
    all_goals (go_meet; exact ⟨_, rfl, rfl, by first | exact Sack.put Z 1 A 0 | exact Sack.set0 Z 1 A 0 | exact Sack.put (Sack.drew Z) 1 A 0⟩)
  case rest =>
    obtain ⟨gm, rfl, rfl, Z⟩ := hcut
    have B6 := Lib.hid Z
    clear Z B5
    go_wp2_with fail
    refine (of_any n _).mono ?_
    rintro e w7 ⟨rfl, hb⟩
    have B7 := Lib.hid (Sack.step hb B6.out)
    clear hb B6
    go_wp2_with fail
    refine (of_any i _).mono ?_
    rintro e w8 ⟨rfl, hb⟩
    have B8 := Lib.hid (Sack.step hb B7.out)
    clear hb B7
    go_wp2_with fail
    refine (H3.out _).mono ?_
    rintro e w9 ⟨rfl, hb⟩
    have B9 := Lib.hid (Sack.put (Sack.step hb B8.out) 1 D 0)
    clear hb B8
    go_upto_region 9 with fail
    go_cut [14, 15] (fun s14 s15 wx => ∃ g : Nat, s14 = .pointer (some ⟨g, 0, none⟩) ∧ s15 = .bool true ∧ Sack w wx ((g, (⟨1, E, 0⟩ : Vl)) :: [(w9.heap.size, ⟨1, D, 0⟩), (gm, ⟨1, A, 0⟩), (w5.heap.size, ⟨1, A, 0⟩), (w2.heap.size, ⟨1, P, 0⟩)]))
    case first =>
      have Z := B9.out
      obtain ⟨b0, b1, b2⟩ := Z.cells w9.heap.size 1 D 0 (by simp)
      obtain ⟨b3, b4, b5⟩ := (Sack.put Z 0 0 0).cells w9.heap.size 1 D 0 (by simp)
      obtain ⟨b6, b7, b8⟩ := (Sack.put (Sack.drew Z) 0 0 0).cells w9.heap.size 1 D 0 (by simp)
      go_region_with (first | (go_at_call 13; refine (of_any j _).mono ?_; rintro e w' ⟨rfl, hb⟩; (first | (have Y := Sack.step hb Z) | (have Y := Sack.step hb (Sack.drew Z)) | (have Y := Sack.step hb (Sack.put Z 0 0 0)) | (have Y := Sack.step hb (Sack.put (Sack.drew Z) 0 0 0))); (obtain ⟨b0, b1, b2⟩ := Y.cells w9.heap.size 1 D 0 (by simp)); (obtain ⟨b3, b4, b5⟩ := (Sack.put Y 0 0 0).cells w9.heap.size 1 D 0 (by simp)); (try obtain ⟨g0, g1, g2⟩ := Y.cells _ 0 0 0 (List.mem_cons_self)); (try obtain ⟨f0, f1, f2⟩ := Y.frozen _ 0 0 0 (List.mem_cons_self)); (try simp only [drew_size, World.size_alloc] at g0 g1 g2 f0 f1 f2); (try simp only [drew_size, World.size_alloc] at Y); (have Z := Y); clear Y hb) | (go_at_call 12; refine (H4.out _).mono ?_; rintro e w' ⟨rfl, hb⟩; (first | (have Y := Sack.step hb Z) | (have Y := Sack.step hb (Sack.drew Z)) | (have Y := Sack.step hb (Sack.put Z 0 0 0)) | (have Y := Sack.step hb (Sack.put (Sack.drew Z) 0 0 0))); (obtain ⟨b0, b1, b2⟩ := Y.cells w9.heap.size 1 D 0 (by simp)); (obtain ⟨b3, b4, b5⟩ := (Sack.put Y 0 0 0).cells w9.heap.size 1 D 0 (by simp)); (try obtain ⟨g0, g1, g2⟩ := Y.cells _ 0 0 0 (List.mem_cons_self)); (try obtain ⟨f0, f1, f2⟩ := Y.frozen _ 0 0 0 (List.mem_cons_self)); (try simp only [drew_size, World.size_alloc] at g0 g1 g2 f0 f1 f2); (try simp only [drew_size, World.size_alloc] at Y); (have Z := Y); clear Y hb))
      all_goals go_wp2_with fail
      all_goals (go_meet; exact ⟨_, rfl, rfl, by first | exact Sack.put Z 1 E 0 | exact Sack.set0 Z 1 E 0 | exact Sack.put (Sack.drew Z) 1 E 0⟩)
    case rest =>
      obtain ⟨gc, rfl, rfl, Z⟩ := hcut
      have B10 := Lib.hid Z
      clear Z B9
      go_wp2_with fail
      refine (of_any n _).mono ?_
      rintro e w11 ⟨rfl, hb⟩
      have B11 := Lib.hid (Sack.step hb B10.out)
      clear hb B10
      go_wp2_with fail
      refine (of_any (i + j) _).mono ?_
      rintro e w12 ⟨rfl, hb⟩
      have B12 := Lib.hid (Sack.step hb B11.out)
      clear hb B11
      go_wp2_with fail
      refine (H5.out _).mono ?_
      rintro e w13 ⟨rfl, hb⟩
      have B13 := Lib.hid (Sack.put (Sack.step hb B12.out) 1 E 0)
      clear hb B12
      obtain ⟨b0, b1, b2⟩ := B13.out.cells w9.heap.size 1 D 0 (by simp)
      obtain ⟨p0, p1, p2⟩ := B13.out.cells w2.heap.size 1 P 0 (by simp)
      go_wp2_with fail
      refine (H6.out _).mono ?_
      rintro e w14 ⟨rfl, hb⟩
      have B14 := Lib.hid (Sack.put (Sack.step hb B13.out) 1 Q 0)
      clear hb B13
      clear b0 b1 b2 p0 p1 p2
      go_upto_region 12 with fail
      go_cut [20, 21] (fun s20 s21 wx => ∃ g : Nat, s20 = .pointer (some ⟨g, 0, none⟩) ∧ s21 = .bool true ∧ Sack w wx ((g, (⟨1, R, 0⟩ : Vl)) :: [(w14.heap.size, ⟨1, Q, 0⟩), (w13.heap.size, ⟨1, E, 0⟩), (gc, ⟨1, E, 0⟩), (w9.heap.size, ⟨1, D, 0⟩), (gm, ⟨1, A, 0⟩), (w5.heap.size, ⟨1, A, 0⟩), (w2.heap.size, ⟨1, P, 0⟩)]))
      case first =>
        have Z := B14.out
        obtain ⟨q0, q1, q2⟩ := Z.cells w14.heap.size 1 Q 0 (by simp)
        obtain ⟨q3, q4, q5⟩ := (Sack.put Z 0 0 0).cells w14.heap.size 1 Q 0 (by simp)
        obtain ⟨q6, q7, q8⟩ := (Sack.put (Sack.drew Z) 0 0 0).cells w14.heap.size 1 Q 0 (by simp)
        go_region_with (first | (go_at_call 13; refine (of_any n _).mono ?_; rintro e w' ⟨rfl, hb⟩; (first | (have Y := Sack.step hb Z) | (have Y := Sack.step hb (Sack.drew Z)) | (have Y := Sack.step hb (Sack.put Z 0 0 0)) | (have Y := Sack.step hb (Sack.put (Sack.drew Z) 0 0 0))); (obtain ⟨q0, q1, q2⟩ := Y.cells w14.heap.size 1 Q 0 (by simp)); (obtain ⟨q3, q4, q5⟩ := (Sack.put Y 0 0 0).cells w14.heap.size 1 Q 0 (by simp)); (try obtain ⟨g0, g1, g2⟩ := Y.cells _ 0 0 0 (List.mem_cons_self)); (try obtain ⟨f0, f1, f2⟩ := Y.frozen _ 0 0 0 (List.mem_cons_self)); (try simp only [drew_size, World.size_alloc] at g0 g1 g2 f0 f1 f2); (try simp only [drew_size, World.size_alloc] at Y); (have Z := Y); clear Y hb) | (go_at_call 12; refine (H7.out _).mono ?_; rintro e w' ⟨rfl, hb⟩; (first | (have Y := Sack.step hb Z) | (have Y := Sack.step hb (Sack.drew Z)) | (have Y := Sack.step hb (Sack.put Z 0 0 0)) | (have Y := Sack.step hb (Sack.put (Sack.drew Z) 0 0 0))); (obtain ⟨q0, q1, q2⟩ := Y.cells w14.heap.size 1 Q 0 (by simp)); (obtain ⟨q3, q4, q5⟩ := (Sack.put Y 0 0 0).cells w14.heap.size 1 Q 0 (by simp)); (try obtain ⟨g0, g1, g2⟩ := Y.cells _ 0 0 0 (List.mem_cons_self)); (try obtain ⟨f0, f1, f2⟩ := Y.frozen _ 0 0 0 (List.mem_cons_self)); (try simp only [drew_size, World.size_alloc] at g0 g1 g2 f0 f1 f2); (try simp only [drew_size, World.size_alloc] at Y); (have Z := Y); clear Y hb))
        all_goals go_wp2_with fail
        all_goals (go_meet; exact ⟨_, rfl, rfl, by first | exact Sack.put Z 1 R 0 | exact Sack.set0 Z 1 R 0 | exact Sack.put (Sack.drew Z) 1 R 0⟩)
      case rest =>
        obtain ⟨gr, rfl, rfl, Z⟩ := hcut
        have B15 := Lib.hid Z
        clear Z B14
        obtain ⟨a0, a1, a2⟩ := B15.out.cells w5.heap.size 1 A 0 (by simp)
        obtain ⟨m0, m1, m2⟩ := B15.out.cells gm 1 A 0 (by simp)
        obtain ⟨c0, c1, c2⟩ := B15.out.cells gc 1 E 0 (by simp)
        obtain ⟨d0, d1, d2⟩ := B15.out.cells w13.heap.size 1 E 0 (by simp)
        obtain ⟨r0, r1, r2⟩ := B15.out.cells gr 1 R 0 (by simp)
        obtain ⟨p0, p1, p2⟩ := B15.out.cells w2.heap.size 1 P 0 (by simp)
        go_wp2_with fail
        go_ret
        exact ⟨by simp, B15.out.low⟩
end Go.Proofs.YtipeehmbloneoaaDoor
