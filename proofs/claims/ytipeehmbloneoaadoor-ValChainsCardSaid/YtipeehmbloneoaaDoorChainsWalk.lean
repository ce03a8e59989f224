/-
  ValChains answers true.
-/
import Derived.Test.YtipeehmbloneoaaDoorAwake
import Derived.Test.YtipeehmbloneoaaDoorLaws2
import Derived.Test.YtipeehmbloneoaaDoorSack
import Derived.Deep.RegionWith
import Derived.Deep.DeepCutAuto
import Derived.Deep.CutBlock
namespace Go.Proofs.YtipeehmbloneoaaDoor
open Go.RowKit Go.Sort

theorem chains_both (op a b c : Int) (h : op = 11 ∨ op = 13 ∨ op = 16 ∨ op = 17 ∨ op = 18) (fa : Fits a) (fb : Fits b) (fc : Fits c) : ∃ X Y Z1 S P Q R : Int, (∀ W, Calls Tryd.prog 12 #[.int .i64 op, .agg #[.int .i64 (1), .int .i64 (a), .int .i64 (0)], .agg #[.int .i64 (1), .int .i64 (b), .int .i64 (0)]] W (RVs 1 X 0 true W)) ∧ (∀ W, Calls Tryd.prog 12 #[.int .i64 op, .agg #[.int .i64 (1), .int .i64 (X), .int .i64 (0)], .agg #[.int .i64 (1), .int .i64 (c), .int .i64 (0)]] W (RVs 1 Y 0 true W)) ∧ (∀ W, Calls Tryd.prog 12 #[.int .i64 op, .agg #[.int .i64 (1), .int .i64 (b), .int .i64 (0)], .agg #[.int .i64 (1), .int .i64 (c), .int .i64 (0)]] W (RVs 1 Z1 0 true W)) ∧ (∀ W, Calls Tryd.prog 12 #[.int .i64 op, .agg #[.int .i64 (1), .int .i64 (a), .int .i64 (0)], .agg #[.int .i64 (1), .int .i64 (Z1), .int .i64 (0)]] W (RVs 1 Y 0 true W)) ∧ (∀ W, Calls Tryd.prog 12 #[.int .i64 11, .agg #[.int .i64 (1), .int .i64 (b), .int .i64 (0)], .agg #[.int .i64 (1), .int .i64 (c), .int .i64 (0)]] W (RVs 1 S 0 true W)) ∧ (∀ W, Calls Tryd.prog 12 #[.int .i64 13, .agg #[.int .i64 (1), .int .i64 (a), .int .i64 (0)], .agg #[.int .i64 (1), .int .i64 (S), .int .i64 (0)]] W (RVs 1 P 0 true W)) ∧ (∀ W, Calls Tryd.prog 12 #[.int .i64 13, .agg #[.int .i64 (1), .int .i64 (a), .int .i64 (0)], .agg #[.int .i64 (1), .int .i64 (b), .int .i64 (0)]] W (RVs 1 Q 0 true W)) ∧ (∀ W, Calls Tryd.prog 12 #[.int .i64 13, .agg #[.int .i64 (1), .int .i64 (a), .int .i64 (0)], .agg #[.int .i64 (1), .int .i64 (c), .int .i64 (0)]] W (RVs 1 R 0 true W)) ∧ (∀ W, Calls Tryd.prog 12 #[.int .i64 11, .agg #[.int .i64 (1), .int .i64 (Q), .int .i64 (0)], .agg #[.int .i64 (1), .int .i64 (R), .int .i64 (0)]] W (RVs 1 P 0 true W)) := by
  rcases h with rfl | rfl | rfl | rfl | rfl
  · exact ⟨wrap64 (a + b), wrap64 (a + wrap64 (b + c)), wrap64 (b + c), wrap64 (b + c), wrap64 (a * wrap64 (b + c)), wrap64 (a * b), wrap64 (a * c), bin_is 11 1 (a) 0 1 (b) 0 1 (wrap64 (a + b)) 0 true rfl rfl fa fb, bin_is 11 1 (wrap64 (a + b)) 0 1 (c) 0 1 (wrap64 (a + wrap64 (b + c))) 0 true (by show (⟨1, wrap64 (wrap64 (a + b) + c), 0⟩ : Vl) = _; rw [chain_add]) rfl (fits_wrap _) fc, bin_is 11 1 (b) 0 1 (c) 0 1 (wrap64 (b + c)) 0 true rfl rfl fb fc, bin_is 11 1 (a) 0 1 (wrap64 (b + c)) 0 1 (wrap64 (a + wrap64 (b + c))) 0 true rfl rfl fa (fits_wrap _), bin_is 11 1 (b) 0 1 (c) 0 1 (wrap64 (b + c)) 0 true rfl rfl fb fc, bin_is 13 1 (a) 0 1 (wrap64 (b + c)) 0 1 (wrap64 (a * wrap64 (b + c))) 0 true rfl rfl fa (fits_wrap _), bin_is 13 1 (a) 0 1 (b) 0 1 (wrap64 (a * b)) 0 true rfl rfl fa fb, bin_is 13 1 (a) 0 1 (c) 0 1 (wrap64 (a * c)) 0 true rfl rfl fa fc, bin_is 11 1 (wrap64 (a * b)) 0 1 (wrap64 (a * c)) 0 1 (wrap64 (a * wrap64 (b + c))) 0 true (by show (⟨1, wrap64 (wrap64 (a * b) + wrap64 (a * c)), 0⟩ : Vl) = _; rw [chain_share]) rfl (fits_wrap _) (fits_wrap _)⟩
  · exact ⟨wrap64 (a * b), wrap64 (a * wrap64 (b * c)), wrap64 (b * c), wrap64 (b + c), wrap64 (a * wrap64 (b + c)), wrap64 (a * b), wrap64 (a * c), bin_is 13 1 (a) 0 1 (b) 0 1 (wrap64 (a * b)) 0 true rfl rfl fa fb, bin_is 13 1 (wrap64 (a * b)) 0 1 (c) 0 1 (wrap64 (a * wrap64 (b * c))) 0 true (by show (⟨1, wrap64 (wrap64 (a * b) * c), 0⟩ : Vl) = _; rw [chain_mul]) rfl (fits_wrap _) fc, bin_is 13 1 (b) 0 1 (c) 0 1 (wrap64 (b * c)) 0 true rfl rfl fb fc, bin_is 13 1 (a) 0 1 (wrap64 (b * c)) 0 1 (wrap64 (a * wrap64 (b * c))) 0 true rfl rfl fa (fits_wrap _), bin_is 11 1 (b) 0 1 (c) 0 1 (wrap64 (b + c)) 0 true rfl rfl fb fc, bin_is 13 1 (a) 0 1 (wrap64 (b + c)) 0 1 (wrap64 (a * wrap64 (b + c))) 0 true rfl rfl fa (fits_wrap _), bin_is 13 1 (a) 0 1 (b) 0 1 (wrap64 (a * b)) 0 true rfl rfl fa fb, bin_is 13 1 (a) 0 1 (c) 0 1 (wrap64 (a * c)) 0 true rfl rfl fa fc, bin_is 11 1 (wrap64 (a * b)) 0 1 (wrap64 (a * c)) 0 1 (wrap64 (a * wrap64 (b + c))) 0 true (by show (⟨1, wrap64 (wrap64 (a * b) + wrap64 (a * c)), 0⟩ : Vl) = _; rw [chain_share]) rfl (fits_wrap _) (fits_wrap _)⟩
  · exact ⟨bits .and .i64 (a) (b), bits .and .i64 (a) (bits .and .i64 (b) (c)), bits .and .i64 (b) (c), wrap64 (b + c), wrap64 (a * wrap64 (b + c)), wrap64 (a * b), wrap64 (a * c), bin_is 16 1 (a) 0 1 (b) 0 1 (bits .and .i64 (a) (b)) 0 true rfl rfl fa fb, bin_is 16 1 (bits .and .i64 (a) (b)) 0 1 (c) 0 1 (bits .and .i64 (a) (bits .and .i64 (b) (c))) 0 true (by show (⟨1, bits .and .i64 (bits .and .i64 (a) (b)) (c), 0⟩ : Vl) = _; rw [and_assoc']) rfl (fits_bits _ _ _) fc, bin_is 16 1 (b) 0 1 (c) 0 1 (bits .and .i64 (b) (c)) 0 true rfl rfl fb fc, bin_is 16 1 (a) 0 1 (bits .and .i64 (b) (c)) 0 1 (bits .and .i64 (a) (bits .and .i64 (b) (c))) 0 true rfl rfl fa (fits_bits _ _ _), bin_is 11 1 (b) 0 1 (c) 0 1 (wrap64 (b + c)) 0 true rfl rfl fb fc, bin_is 13 1 (a) 0 1 (wrap64 (b + c)) 0 1 (wrap64 (a * wrap64 (b + c))) 0 true rfl rfl fa (fits_wrap _), bin_is 13 1 (a) 0 1 (b) 0 1 (wrap64 (a * b)) 0 true rfl rfl fa fb, bin_is 13 1 (a) 0 1 (c) 0 1 (wrap64 (a * c)) 0 true rfl rfl fa fc, bin_is 11 1 (wrap64 (a * b)) 0 1 (wrap64 (a * c)) 0 1 (wrap64 (a * wrap64 (b + c))) 0 true (by show (⟨1, wrap64 (wrap64 (a * b) + wrap64 (a * c)), 0⟩ : Vl) = _; rw [chain_share]) rfl (fits_wrap _) (fits_wrap _)⟩
  · exact ⟨bits .or .i64 (a) (b), bits .or .i64 (a) (bits .or .i64 (b) (c)), bits .or .i64 (b) (c), wrap64 (b + c), wrap64 (a * wrap64 (b + c)), wrap64 (a * b), wrap64 (a * c), bin_is 17 1 (a) 0 1 (b) 0 1 (bits .or .i64 (a) (b)) 0 true rfl rfl fa fb, bin_is 17 1 (bits .or .i64 (a) (b)) 0 1 (c) 0 1 (bits .or .i64 (a) (bits .or .i64 (b) (c))) 0 true (by show (⟨1, bits .or .i64 (bits .or .i64 (a) (b)) (c), 0⟩ : Vl) = _; rw [or_assoc']) rfl (fits_bits _ _ _) fc, bin_is 17 1 (b) 0 1 (c) 0 1 (bits .or .i64 (b) (c)) 0 true rfl rfl fb fc, bin_is 17 1 (a) 0 1 (bits .or .i64 (b) (c)) 0 1 (bits .or .i64 (a) (bits .or .i64 (b) (c))) 0 true rfl rfl fa (fits_bits _ _ _), bin_is 11 1 (b) 0 1 (c) 0 1 (wrap64 (b + c)) 0 true rfl rfl fb fc, bin_is 13 1 (a) 0 1 (wrap64 (b + c)) 0 1 (wrap64 (a * wrap64 (b + c))) 0 true rfl rfl fa (fits_wrap _), bin_is 13 1 (a) 0 1 (b) 0 1 (wrap64 (a * b)) 0 true rfl rfl fa fb, bin_is 13 1 (a) 0 1 (c) 0 1 (wrap64 (a * c)) 0 true rfl rfl fa fc, bin_is 11 1 (wrap64 (a * b)) 0 1 (wrap64 (a * c)) 0 1 (wrap64 (a * wrap64 (b + c))) 0 true (by show (⟨1, wrap64 (wrap64 (a * b) + wrap64 (a * c)), 0⟩ : Vl) = _; rw [chain_share]) rfl (fits_wrap _) (fits_wrap _)⟩
  · exact ⟨bits .xor .i64 (a) (b), bits .xor .i64 (a) (bits .xor .i64 (b) (c)), bits .xor .i64 (b) (c), wrap64 (b + c), wrap64 (a * wrap64 (b + c)), wrap64 (a * b), wrap64 (a * c), bin_is 18 1 (a) 0 1 (b) 0 1 (bits .xor .i64 (a) (b)) 0 true rfl rfl fa fb, bin_is 18 1 (bits .xor .i64 (a) (b)) 0 1 (c) 0 1 (bits .xor .i64 (a) (bits .xor .i64 (b) (c))) 0 true (by show (⟨1, bits .xor .i64 (bits .xor .i64 (a) (b)) (c), 0⟩ : Vl) = _; rw [xor_assoc']) rfl (fits_bits _ _ _) fc, bin_is 18 1 (b) 0 1 (c) 0 1 (bits .xor .i64 (b) (c)) 0 true rfl rfl fb fc, bin_is 18 1 (a) 0 1 (bits .xor .i64 (b) (c)) 0 1 (bits .xor .i64 (a) (bits .xor .i64 (b) (c))) 0 true rfl rfl fa (fits_bits _ _ _), bin_is 11 1 (b) 0 1 (c) 0 1 (wrap64 (b + c)) 0 true rfl rfl fb fc, bin_is 13 1 (a) 0 1 (wrap64 (b + c)) 0 1 (wrap64 (a * wrap64 (b + c))) 0 true rfl rfl fa (fits_wrap _), bin_is 13 1 (a) 0 1 (b) 0 1 (wrap64 (a * b)) 0 true rfl rfl fa fb, bin_is 13 1 (a) 0 1 (c) 0 1 (wrap64 (a * c)) 0 true rfl rfl fa fc, bin_is 11 1 (wrap64 (a * b)) 0 1 (wrap64 (a * c)) 0 1 (wrap64 (a * wrap64 (b + c))) 0 true (by show (⟨1, wrap64 (wrap64 (a * b) + wrap64 (a * c)), 0⟩ : Vl) = _; rw [chain_share]) rfl (fits_wrap _) (fits_wrap _)⟩

set_option maxRecDepth 20000 in
set_option maxHeartbeats 8000000 in
theorem chains_in (op a b c : Int) (h : op = 11 ∨ op = 13 ∨ op = 16 ∨ op = 17 ∨ op = 18) (fa : Fits a) (fb : Fits b) (fc : Fits c) (w : World) (ht : Tab w) : Calls Tryd.prog 7 #[.int .i64 a, .int .i64 b, .int .i64 c, .int .i64 op] w (BB true w) := by
  have T := Lib.hid ht
  obtain ⟨X, Y, Z1, S, P, Q, R, h1, h2, h3, h4, h5, h6, h7, h8, h9⟩ := chains_both op a b c h fa fb fc
  have H1 := Lib.hid h1
  have H2 := Lib.hid h2
  have H3 := Lib.hid h3
  have H4 := Lib.hid h4
  have H5 := Lib.hid h5
  have H6 := Lib.hid h6
  have H7 := Lib.hid h7
  have H8 := Lib.hid h8
  have H9 := Lib.hid h9
  clear ht h1 h2 h3 h4 h5 h6 h7 h8 h9 fa fb fc
  have hE := eqVl
  have hG := guardVl
  have B0 := Lib.hid (Sack.nil w)
  go_enter Tryd.func7, Tryd.ntmps7
  go_wp2_with fail
  refine (awake_any _ (T.out.below B0.out.low)).mono ?_
  rintro e w1 ⟨rfl, hb⟩
  have B1 := Lib.hid (Sack.step hb B0.out)
  clear hb B0
  go_upto_block 0 with fail
  go_cut [8] (fun s8 wx => s8 = .bool false ∧ Sack w wx [])
  case first =>
    rcases h with rfl | rfl | rfl | rfl | rfl <;> go_wp2_with fail
    all_goals (go_meet; exact ⟨rfl, B1.out⟩)
  case rest =>
    obtain ⟨rfl, Z⟩ := hcut
    have B2 := Lib.hid Z
    clear Z B1
    go_wp2_with fail
    refine (of_any a _).mono ?_
    rintro e w3 ⟨rfl, hb⟩
    have B3 := Lib.hid (Sack.step hb B2.out)
    clear hb B2
    go_wp2_with fail
    refine (of_any b _).mono ?_
    rintro e w4 ⟨rfl, hb⟩
    have B4 := Lib.hid (Sack.step hb B3.out)
    clear hb B3
    go_wp2_with fail
    refine (H1.out _).mono ?_
    rintro e w5 ⟨rfl, hb⟩
    have B5 := Lib.hid (Sack.put (Sack.step hb B4.out) 1 X 0)
    clear hb B4
    go_upto_region 11 with fail
    go_cut [11, 12] (fun s11 s12 wx => ∃ g : Nat, s11 = .pointer (some ⟨g, 0, none⟩) ∧ s12 = .bool true ∧ Sack w wx ((g, (⟨1, Y, 0⟩ : Vl)) :: [(w5.heap.size, ⟨1, X, 0⟩)]))
    case first =>
      have Z := B5.out
      obtain ⟨x0, x1, x2⟩ := Z.cells w5.heap.size 1 X 0 (by simp)
      obtain ⟨x3, x4, x5⟩ := (Sack.put Z 0 0 0).cells w5.heap.size 1 X 0 (by simp)
      obtain ⟨x6, x7, x8⟩ := (Sack.put (Sack.drew Z) 0 0 0).cells w5.heap.size 1 X 0 (by simp)
      go_region_with (first | (go_at_call 13; refine (of_any c _).mono ?_; rintro e w' ⟨rfl, hb⟩; (first | (have Y := Sack.step hb Z) | (have Y := Sack.step hb (Sack.drew Z)) | (have Y := Sack.step hb (Sack.put Z 0 0 0)) | (have Y := Sack.step hb (Sack.put (Sack.drew Z) 0 0 0))); (obtain ⟨x0, x1, x2⟩ := Y.cells w5.heap.size 1 X 0 (by simp)); (obtain ⟨x3, x4, x5⟩ := (Sack.put Y 0 0 0).cells w5.heap.size 1 X 0 (by simp)); (try obtain ⟨g0, g1, g2⟩ := Y.cells _ 0 0 0 (List.mem_cons_self)); (try obtain ⟨f0, f1, f2⟩ := Y.frozen _ 0 0 0 (List.mem_cons_self)); (try simp only [drew_size, World.size_alloc] at g0 g1 g2 f0 f1 f2); (try simp only [drew_size, World.size_alloc] at Y); (have Z := Y); clear Y hb) | (go_at_call 12; refine (H2.out _).mono ?_; rintro e w' ⟨rfl, hb⟩; (first | (have Y := Sack.step hb Z) | (have Y := Sack.step hb (Sack.drew Z)) | (have Y := Sack.step hb (Sack.put Z 0 0 0)) | (have Y := Sack.step hb (Sack.put (Sack.drew Z) 0 0 0))); (obtain ⟨x0, x1, x2⟩ := Y.cells w5.heap.size 1 X 0 (by simp)); (obtain ⟨x3, x4, x5⟩ := (Sack.put Y 0 0 0).cells w5.heap.size 1 X 0 (by simp)); (try obtain ⟨g0, g1, g2⟩ := Y.cells _ 0 0 0 (List.mem_cons_self)); (try obtain ⟨f0, f1, f2⟩ := Y.frozen _ 0 0 0 (List.mem_cons_self)); (try simp only [drew_size, World.size_alloc] at g0 g1 g2 f0 f1 f2); (try simp only [drew_size, World.size_alloc] at Y); (have Z := Y); clear Y hb))
      all_goals go_wp2_with fail
      all_goals (go_meet; exact ⟨_, rfl, rfl, by first | exact Sack.put Z 1 Y 0 | exact Sack.set0 Z 1 Y 0 | exact Sack.put (Sack.drew Z) 1 Y 0⟩)
    case rest =>
      obtain ⟨gy, rfl, rfl, Z⟩ := hcut
      have B6 := Lib.hid Z
      clear Z B5
      go_wp2_with fail
      refine (of_any b _).mono ?_
      rintro e w7 ⟨rfl, hb⟩
      have B7 := Lib.hid (Sack.step hb B6.out)
      clear hb B6
      go_wp2_with fail
      refine (of_any c _).mono ?_
      rintro e w8 ⟨rfl, hb⟩
      have B8 := Lib.hid (Sack.step hb B7.out)
      clear hb B7
      go_wp2_with fail
      refine (H3.out _).mono ?_
      rintro e w9 ⟨rfl, hb⟩
      have B9 := Lib.hid (Sack.put (Sack.step hb B8.out) 1 Z1 0)
      clear hb B8
      go_upto_region 13 with fail
      go_cut [15, 16] (fun s15 s16 wx => ∃ g : Nat, s15 = .pointer (some ⟨g, 0, none⟩) ∧ s16 = .bool true ∧ Sack w wx ((g, (⟨1, Y, 0⟩ : Vl)) :: [(w9.heap.size, ⟨1, Z1, 0⟩), (gy, ⟨1, Y, 0⟩), (w5.heap.size, ⟨1, X, 0⟩)]))
      case first =>
        have Z := B9.out
        obtain ⟨z0, z1, z2⟩ := Z.cells w9.heap.size 1 Z1 0 (by simp)
        obtain ⟨z3, z4, z5⟩ := (Sack.put Z 0 0 0).cells w9.heap.size 1 Z1 0 (by simp)
        obtain ⟨z6, z7, z8⟩ := (Sack.put (Sack.drew Z) 0 0 0).cells w9.heap.size 1 Z1 0 (by simp)
        go_region_with (first | (go_at_call 13; refine (of_any a _).mono ?_; rintro e w' ⟨rfl, hb⟩; (first | (have Y := Sack.step hb Z) | (have Y := Sack.step hb (Sack.drew Z)) | (have Y := Sack.step hb (Sack.put Z 0 0 0)) | (have Y := Sack.step hb (Sack.put (Sack.drew Z) 0 0 0))); (obtain ⟨z0, z1, z2⟩ := Y.cells w9.heap.size 1 Z1 0 (by simp)); (obtain ⟨z3, z4, z5⟩ := (Sack.put Y 0 0 0).cells w9.heap.size 1 Z1 0 (by simp)); (try obtain ⟨g0, g1, g2⟩ := Y.cells _ 0 0 0 (List.mem_cons_self)); (try obtain ⟨f0, f1, f2⟩ := Y.frozen _ 0 0 0 (List.mem_cons_self)); (try simp only [drew_size, World.size_alloc] at g0 g1 g2 f0 f1 f2); (try simp only [drew_size, World.size_alloc] at Y); (have Z := Y); clear Y hb) | (go_at_call 12; refine (H4.out _).mono ?_; rintro e w' ⟨rfl, hb⟩; (first | (have Y := Sack.step hb Z) | (have Y := Sack.step hb (Sack.drew Z)) | (have Y := Sack.step hb (Sack.put Z 0 0 0)) | (have Y := Sack.step hb (Sack.put (Sack.drew Z) 0 0 0))); (obtain ⟨z0, z1, z2⟩ := Y.cells w9.heap.size 1 Z1 0 (by simp)); (obtain ⟨z3, z4, z5⟩ := (Sack.put Y 0 0 0).cells w9.heap.size 1 Z1 0 (by simp)); (try obtain ⟨g0, g1, g2⟩ := Y.cells _ 0 0 0 (List.mem_cons_self)); (try obtain ⟨f0, f1, f2⟩ := Y.frozen _ 0 0 0 (List.mem_cons_self)); (try simp only [drew_size, World.size_alloc] at g0 g1 g2 f0 f1 f2); (try simp only [drew_size, World.size_alloc] at Y); (have Z := Y); clear Y hb))
        all_goals go_wp2_with fail
        all_goals (go_meet; exact ⟨_, rfl, rfl, by first | exact Sack.put Z 1 Y 0 | exact Sack.set0 Z 1 Y 0 | exact Sack.put (Sack.drew Z) 1 Y 0⟩)
      case rest =>
        obtain ⟨gw, rfl, rfl, Z⟩ := hcut
        have B10 := Lib.hid Z
        clear Z B9
        go_wp2_with fail
        refine (of_any b _).mono ?_
        rintro e w11 ⟨rfl, hb⟩
        have B11 := Lib.hid (Sack.step hb B10.out)
        clear hb B10
        go_wp2_with fail
        refine (of_any c _).mono ?_
        rintro e w12 ⟨rfl, hb⟩
        have B12 := Lib.hid (Sack.step hb B11.out)
        clear hb B11
        go_wp2_with fail
        refine (H5.out _).mono ?_
        rintro e w13 ⟨rfl, hb⟩
        have B13 := Lib.hid (Sack.put (Sack.step hb B12.out) 1 S 0)
        clear hb B12
        go_upto_region 15 with fail
        go_cut [19, 20] (fun s19 s20 wx => ∃ g : Nat, s19 = .pointer (some ⟨g, 0, none⟩) ∧ s20 = .bool true ∧ Sack w wx ((g, (⟨1, P, 0⟩ : Vl)) :: [(w13.heap.size, ⟨1, S, 0⟩), (gw, ⟨1, Y, 0⟩), (w9.heap.size, ⟨1, Z1, 0⟩), (gy, ⟨1, Y, 0⟩), (w5.heap.size, ⟨1, X, 0⟩)]))
        case first =>
          have Z := B13.out
          obtain ⟨s0, s1, s2⟩ := Z.cells w13.heap.size 1 S 0 (by simp)
          obtain ⟨s3, s4, s5⟩ := (Sack.put Z 0 0 0).cells w13.heap.size 1 S 0 (by simp)
          obtain ⟨s6, s7, s8⟩ := (Sack.put (Sack.drew Z) 0 0 0).cells w13.heap.size 1 S 0 (by simp)
          go_region_with (first | (go_at_call 13; refine (of_any a _).mono ?_; rintro e w' ⟨rfl, hb⟩; (first | (have Y := Sack.step hb Z) | (have Y := Sack.step hb (Sack.drew Z)) | (have Y := Sack.step hb (Sack.put Z 0 0 0)) | (have Y := Sack.step hb (Sack.put (Sack.drew Z) 0 0 0))); (obtain ⟨s0, s1, s2⟩ := Y.cells w13.heap.size 1 S 0 (by simp)); (obtain ⟨s3, s4, s5⟩ := (Sack.put Y 0 0 0).cells w13.heap.size 1 S 0 (by simp)); (try obtain ⟨g0, g1, g2⟩ := Y.cells _ 0 0 0 (List.mem_cons_self)); (try obtain ⟨f0, f1, f2⟩ := Y.frozen _ 0 0 0 (List.mem_cons_self)); (try simp only [drew_size, World.size_alloc] at g0 g1 g2 f0 f1 f2); (try simp only [drew_size, World.size_alloc] at Y); (have Z := Y); clear Y hb) | (go_at_call 12; refine (H6.out _).mono ?_; rintro e w' ⟨rfl, hb⟩; (first | (have Y := Sack.step hb Z) | (have Y := Sack.step hb (Sack.drew Z)) | (have Y := Sack.step hb (Sack.put Z 0 0 0)) | (have Y := Sack.step hb (Sack.put (Sack.drew Z) 0 0 0))); (obtain ⟨s0, s1, s2⟩ := Y.cells w13.heap.size 1 S 0 (by simp)); (obtain ⟨s3, s4, s5⟩ := (Sack.put Y 0 0 0).cells w13.heap.size 1 S 0 (by simp)); (try obtain ⟨g0, g1, g2⟩ := Y.cells _ 0 0 0 (List.mem_cons_self)); (try obtain ⟨f0, f1, f2⟩ := Y.frozen _ 0 0 0 (List.mem_cons_self)); (try simp only [drew_size, World.size_alloc] at g0 g1 g2 f0 f1 f2); (try simp only [drew_size, World.size_alloc] at Y); (have Z := Y); clear Y hb))
          all_goals go_wp2_with fail
          all_goals (go_meet; exact ⟨_, rfl, rfl, by first | exact Sack.put Z 1 P 0 | exact Sack.set0 Z 1 P 0 | exact Sack.put (Sack.drew Z) 1 P 0⟩)
        case rest =>
          obtain ⟨gp, rfl, rfl, Z⟩ := hcut
          have B14 := Lib.hid Z
          clear Z B13
          go_wp2_with fail
          refine (of_any a _).mono ?_
          rintro e w15 ⟨rfl, hb⟩
          have B15 := Lib.hid (Sack.step hb B14.out)
          clear hb B14
          go_wp2_with fail
          refine (of_any b _).mono ?_
          rintro e w16 ⟨rfl, hb⟩
          have B16 := Lib.hid (Sack.step hb B15.out)
          clear hb B15
          go_wp2_with fail
          refine (H7.out _).mono ?_
          rintro e w17 ⟨rfl, hb⟩
          have B17 := Lib.hid (Sack.put (Sack.step hb B16.out) 1 Q 0)
          clear hb B16
          go_wp2_with fail
          refine (of_any a _).mono ?_
          rintro e w18 ⟨rfl, hb⟩
          have B18 := Lib.hid (Sack.step hb B17.out)
          clear hb B17
          go_wp2_with fail
          refine (of_any c _).mono ?_
          rintro e w19 ⟨rfl, hb⟩
          have B19 := Lib.hid (Sack.step hb B18.out)
          clear hb B18
          go_wp2_with fail
          refine (H8.out _).mono ?_
          rintro e w20 ⟨rfl, hb⟩
          have B20 := Lib.hid (Sack.put (Sack.step hb B19.out) 1 R 0)
          clear hb B19
          obtain ⟨q0, q1, q2⟩ := B20.out.cells w17.heap.size 1 Q 0 (by simp)
          obtain ⟨r0, r1, r2⟩ := B20.out.cells w20.heap.size 1 R 0 (by simp)
          go_wp2_with fail
          refine (H9.out _).mono ?_
          rintro e w21 ⟨rfl, hb⟩
          have B21 := Lib.hid (Sack.put (Sack.step hb B20.out) 1 P 0)
          clear hb B20
          clear q0 q1 q2 r0 r1 r2
          obtain ⟨y0, y1, y2⟩ := B21.out.cells gy 1 Y 0 (by simp)
          obtain ⟨w0, w1, w2⟩ := B21.out.cells gw 1 Y 0 (by simp)
          obtain ⟨p0, p1, p2⟩ := B21.out.cells gp 1 P 0 (by simp)
          obtain ⟨t0, t1, t2⟩ := B21.out.cells w21.heap.size 1 P 0 (by simp)
          go_wp2_with fail
          go_ret
          exact ⟨by simp, B21.out.low⟩

set_option maxHeartbeats 4000000 in
theorem chains_out (op a b c : Int) (h1 : op ≠ 11) (h2 : op ≠ 13) (h3 : op ≠ 16) (h4 : op ≠ 17) (h5 : op ≠ 18) (w : World) (ht : Tab w) : Calls Tryd.prog 7 #[.int .i64 a, .int .i64 b, .int .i64 c, .int .i64 op] w (BB true w) := by
  have T := Lib.hid ht
  clear ht
  have B0 := Lib.hid (Sack.nil w)
  go_enter Tryd.func7, Tryd.ntmps7
  go_wp2_with fail
  refine (awake_any _ (T.out.below B0.out.low)).mono ?_
  rintro e w1 ⟨rfl, hb⟩
  have B1 := Lib.hid (Sack.step hb B0.out)
  clear hb B0
  go_wp2_with fail
  go_ret
  exact ⟨by simp, B1.out.low⟩
theorem chains_any (a b c op : Int) (fa : Fits a) (fb : Fits b) (fc : Fits c) (w : World) (ht : Tab w) : Calls Tryd.prog 7 #[.int .i64 a, .int .i64 b, .int .i64 c, .int .i64 op] w (BB true w) := by
  by_cases h : op = 11 ∨ op = 13 ∨ op = 16 ∨ op = 17 ∨ op = 18
  · exact chains_in op a b c h fa fb fc w ht
  · exact chains_out op a b c (by omega) (by omega) (by omega) (by omega) (by omega) w ht
end Go.Proofs.YtipeehmbloneoaaDoor
