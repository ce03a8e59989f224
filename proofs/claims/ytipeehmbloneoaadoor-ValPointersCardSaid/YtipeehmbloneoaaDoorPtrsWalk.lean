/-
  ValPointers answers true.
-/
import Derived.Test.YtipeehmbloneoaaDoorAwake
import Derived.Test.YtipeehmbloneoaaDoorLaws2
import Derived.Test.YtipeehmbloneoaaDoorSack
import Derived.Deep.RegionWith
import Derived.Deep.DeepCutAuto
namespace Go.Proofs.YtipeehmbloneoaaDoor
open Go.RowKit Go.Sort

theorem Sack.drewN {w0 W : World} {l : List (Nat × Vl)} (h : Sack w0 W l) (n : Nat) : Sack w0 (W.drewN n) l := ⟨⟨h.1.1, below_drewN h.1.2 n⟩, h.2, h.3⟩
theorem ptrs_both (c n a b : Int) (hc : 1 ≤ c) (fn : Fits n) (fa : Fits a) (fb : Fits b) : ∃ U X V Y : Int, (∀ W, Calls Tryd.prog 12 #[.int .i64 11, .agg #[.int .i64 (2), .int .i64 (n), .int .i64 (c)], .agg #[.int .i64 (1), .int .i64 (a), .int .i64 (0)]] W (RVs 2 U c true W)) ∧ (∀ W, Calls Tryd.prog 12 #[.int .i64 11, .agg #[.int .i64 (2), .int .i64 (U), .int .i64 (c)], .agg #[.int .i64 (1), .int .i64 (b), .int .i64 (0)]] W (RVs 2 X c true W)) ∧ (∀ W, Calls Tryd.prog 12 #[.int .i64 11, .agg #[.int .i64 (1), .int .i64 (b), .int .i64 (0)], .agg #[.int .i64 (2), .int .i64 (n), .int .i64 (c)]] W (RVs 2 V c true W)) ∧ (∀ W, Calls Tryd.prog 12 #[.int .i64 11, .agg #[.int .i64 (1), .int .i64 (a), .int .i64 (0)], .agg #[.int .i64 (2), .int .i64 (V), .int .i64 (c)]] W (RVs 2 X c true W)) ∧ (∀ W, Calls Tryd.prog 12 #[.int .i64 12, .agg #[.int .i64 (2), .int .i64 (X), .int .i64 (c)], .agg #[.int .i64 (1), .int .i64 (a), .int .i64 (0)]] W (RVs 2 Y c true W)) ∧ (∀ W, Calls Tryd.prog 12 #[.int .i64 12, .agg #[.int .i64 (2), .int .i64 (Y), .int .i64 (c)], .agg #[.int .i64 (1), .int .i64 (b), .int .i64 (0)]] W (RVs 2 n c true W)) := by
  have g : ∀ {op xk x xb yk y yb : Int} {r : Vl}, Fits x → Fits y → binV op ⟨xk, x, xb⟩ ⟨yk, y, yb⟩ = some r → (∀ W, Calls Tryd.prog 12 #[.int .i64 op, .agg #[.int .i64 (xk), .int .i64 (x), .int .i64 (xb)], .agg #[.int .i64 (yk), .int .i64 (y), .int .i64 (yb)]] W (RVs r.k r.n r.b true W)) := fun fx fy h W =>
    bin_is _ _ _ _ _ _ _ _ _ _ true (congrArg (Option.getD · Zv) h) (congrArg Option.isSome h) fx fy W
  have e1 : wrap64 (a + wrap64 (b + n)) = wrap64 (wrap64 (n + a) + b) := by rw [wrap_add', wrap_add]; congr 1; omega
  have e2 : wrap64 (wrap64 (wrap64 (n + a) + b) - a) = wrap64 (n + b) := by rw [wrap_sub, show wrap64 (n + a) + b - a = wrap64 (n + a) + (b - a) by omega, wrap_add]; congr 1; omega
  have e3 : wrap64 (wrap64 (n + b) - b) = n := by rw [wrap_sub, show n + b - b = n by omega, wrap_fits fn]
  refine ⟨wrap64 (n + a), wrap64 (wrap64 (n + a) + b), wrap64 (b + n), wrap64 (n + b), g fn fa (bin_pi n c a hc), g (fits_wrap _) fb (bin_pi _ c b hc), g fb fn (bin_ip n c b hc), ?_, ?_, ?_⟩
  · have := g fa (fits_wrap (b + n)) (bin_ip (wrap64 (b + n)) c a hc)
    simp only [e1] at this; exact this
  · have := g (fits_wrap (wrap64 (n + a) + b)) fa (bin_pless (wrap64 (wrap64 (n + a) + b)) c a hc)
    simp only [e2] at this; exact this
  · have := g (fits_wrap (n + b)) fb (bin_pless (wrap64 (n + b)) c b hc)
    simp only [e3] at this; exact this
theorem like_both (n c ok on ob : Int) (fn : Fits n) (fo : Fits on) : ∃ (ek en eb : Int) (fine : Bool), (∀ W, Calls Tryd.prog 12 #[.int .i64 21, .agg #[.int .i64 (2), .int .i64 (n), .int .i64 (c)], .agg #[.int .i64 (ok), .int .i64 (on), .int .i64 (ob)]] W (RVs ek en eb fine W)) := ⟨_, _, _, _, fun W => bin_any 21 2 n c ok on ob fn fo W⟩
theorem like_same (n c : Int) (hc : 1 ≤ c) (fn : Fits n) : (∀ W, Calls Tryd.prog 12 #[.int .i64 21, .agg #[.int .i64 (2), .int .i64 (n), .int .i64 (c)], .agg #[.int .i64 (2), .int .i64 (n), .int .i64 (c)]] W (RVs 1 1 0 true W)) := fun W =>
  bin_is 21 2 n c 2 n c 1 1 0 true (by rw [bin_pp n c n c hc hc, show eqB ⟨2, n, c⟩ ⟨2, n, c⟩ = true from by simp [eqB]]; rfl) (by rw [bin_pp n c n c hc hc]; rfl) fn fn W
theorem like_other (n c m d : Int) (hc : 1 ≤ c) (hd : 1 ≤ d) (h : n ≠ m ∨ c ≠ d) (fn : Fits n) (fm : Fits m) : (∀ W, Calls Tryd.prog 12 #[.int .i64 21, .agg #[.int .i64 (2), .int .i64 (n), .int .i64 (c)], .agg #[.int .i64 (2), .int .i64 (m), .int .i64 (d)]] W (RVs 1 0 0 true W)) := fun W =>
  bin_is 21 2 n c 2 m d 1 0 0 true (by rw [bin_pp n c m d hc hd, show eqB ⟨2, n, c⟩ ⟨2, m, d⟩ = false from by rcases h with h | h <;> simp [eqB, h]]; rfl) (by rw [bin_pp n c m d hc hd]; rfl) fn fm W

set_option maxRecDepth 20000 in
set_option maxHeartbeats 16000000 in
theorem ptrs_any (c n a b ok on ob : Int) (fn : Fits n) (fa : Fits a) (fb : Fits b) (fo : Fits on) (w : World) (ht : Tab w) : Calls Tryd.prog 10 #[.int .i64 c, .int .i64 n, .int .i64 a, .int .i64 b, .agg #[.int .i64 ok, .int .i64 on, .int .i64 ob]] w (BB true w) := by
  have T := Lib.hid ht
  have FN := Lib.hid fn
  have FA := Lib.hid fa
  have FB := Lib.hid fb
  have FO := Lib.hid fo
  clear ht fn fa fb fo
  have hE := eqVl
  have hG := guardVl
  have hN := neqVl
  have B0 := Lib.hid (Sack.put (Sack.nil w) ok on ob)
  go_enter Tryd.func10, Tryd.ntmps10
  go_wp2_with fail
  refine (awake_any _ (T.out.below B0.out.low)).mono ?_
  rintro e w1 ⟨rfl, hb⟩
  have B1 := Lib.hid (Sack.step hb B0.out)
  clear hb B0
  by_cases hc : c < 1
  · go_wp2_with fail
    all_goals (go_ret; exact ⟨by simp, B1.out.low⟩)
  have hc1 : 1 ≤ c := by omega
  clear hc
  obtain ⟨U, X, V, Y1, k1, k2, k3, k4, k5, k6⟩ := ptrs_both c n a b hc1 FN.out FA.out FB.out
  have H1 := Lib.hid k1
  have H2 := Lib.hid k2
  have H3 := Lib.hid k3
  have H4 := Lib.hid k4
  have H5 := Lib.hid k5
  have H6 := Lib.hid k6
  have tp : ∀ W, Calls Tryd.prog 20 #[.agg #[.int .i64 (2), .int .i64 (n), .int .i64 (c)]] W (RT true true W) := fun W => true_is 2 n c true true (ptrB_of n c hc1) (by show (false || ptrB ⟨2, n, c⟩) = true; rw [ptrB_of n c hc1]; rfl) W
  have TP := Lib.hid tp
  clear tp
  clear k1 k2 k3 k4 k5 k6
  go_wp2_with fail
  refine (at_is c n hc1 _).mono ?_
  rintro e w2 ⟨rfl, hb⟩
  have B2 := Lib.hid (Sack.put (Sack.step hb B1.out) 2 n c)
  clear hb B1
  go_upto_region 6 with fail
  go_cut [12, 13] (fun s12 s13 wx => ∃ g : Nat, s12 = .pointer (some ⟨g, 0, none⟩) ∧ s13 = .bool true ∧ Sack w wx ((g, (⟨2, U, c⟩ : Vl)) :: [(w2.heap.size, ⟨2, n, c⟩), (w.heap.size, ⟨ok, on, ob⟩)]))
  case first =>
    have Z := B2.out
    obtain ⟨p0, p1, p2⟩ := Z.cells w2.heap.size 2 n c (by simp)
    obtain ⟨p3, p4, p5⟩ := (Sack.put Z 0 0 0).cells w2.heap.size 2 n c (by simp)
    obtain ⟨p6, p7, p8⟩ := (Sack.put (Sack.drew Z) 0 0 0).cells w2.heap.size 2 n c (by simp)
    go_region_with (first | (go_at_call 13; refine (of_any a _).mono ?_; rintro e w' ⟨rfl, hb⟩; (first | (have Y := Sack.step hb Z) | (have Y := Sack.step hb (Sack.drew Z)) | (have Y := Sack.step hb (Sack.put Z 0 0 0)) | (have Y := Sack.step hb (Sack.put (Sack.drew Z) 0 0 0))); (obtain ⟨p0, p1, p2⟩ := Y.cells w2.heap.size 2 n c (by simp)); (obtain ⟨p3, p4, p5⟩ := (Sack.put Y 0 0 0).cells w2.heap.size 2 n c (by simp)); (try obtain ⟨g0, g1, g2⟩ := Y.cells _ 0 0 0 (List.mem_cons_self)); (try obtain ⟨f0, f1, f2⟩ := Y.frozen _ 0 0 0 (List.mem_cons_self)); (try rw [drew_size] at g0 g1 g2 f0 f1 f2 Y); (try rw [World.size_alloc] at g0 g1 g2 f0 f1 f2 Y); (have Z := Y); clear Y hb) | (go_at_call 12; refine (H1.out _).mono ?_; rintro e w' ⟨rfl, hb⟩; (first | (have Y := Sack.step hb Z) | (have Y := Sack.step hb (Sack.drew Z)) | (have Y := Sack.step hb (Sack.put Z 0 0 0)) | (have Y := Sack.step hb (Sack.put (Sack.drew Z) 0 0 0))); (obtain ⟨p0, p1, p2⟩ := Y.cells w2.heap.size 2 n c (by simp)); (obtain ⟨p3, p4, p5⟩ := (Sack.put Y 0 0 0).cells w2.heap.size 2 n c (by simp)); (try obtain ⟨g0, g1, g2⟩ := Y.cells _ 0 0 0 (List.mem_cons_self)); (try obtain ⟨f0, f1, f2⟩ := Y.frozen _ 0 0 0 (List.mem_cons_self)); (try rw [drew_size] at g0 g1 g2 f0 f1 f2 Y); (try rw [World.size_alloc] at g0 g1 g2 f0 f1 f2 Y); (have Z := Y); clear Y hb))
    all_goals go_wp2_with fail
    all_goals (go_meet; exact ⟨_, rfl, rfl, by first | exact Sack.put Z 2 U c | exact Sack.set0 Z 2 U c | exact Sack.put (Sack.drew Z) 2 U c⟩)
  case rest =>
    obtain ⟨gx, rfl, rfl, Z⟩ := hcut
    have B3 := Lib.hid Z
    clear Z B2
    go_upto_region 7 with fail
    go_cut [12] (fun s12 wx => s12 = .pointer (some ⟨gx, 0, none⟩) ∧ Sack w wx [(gx, ⟨2, X, c⟩), (w2.heap.size, ⟨2, n, c⟩), (w.heap.size, ⟨ok, on, ob⟩)])
    case first =>
      have Z := B3.out
      obtain ⟨x0, x1, x2⟩ := Z.cells gx 2 U c (by simp)
      obtain ⟨x3, x4, x5⟩ := (Sack.put Z 0 0 0).cells gx 2 U c (by simp)
      obtain ⟨x6, x7, x8⟩ := (Sack.put (Sack.drew Z) 0 0 0).cells gx 2 U c (by simp)
      go_region_with (first | (go_at_call 13; refine (of_any b _).mono ?_; rintro e w' ⟨rfl, hb⟩; (first | (have Y := Sack.step hb Z) | (have Y := Sack.step hb (Sack.drew Z)) | (have Y := Sack.step hb (Sack.put Z 0 0 0)) | (have Y := Sack.step hb (Sack.put (Sack.drew Z) 0 0 0))); (obtain ⟨zf0, zf1, zf2⟩ := Y.frozen gx 2 U c (by simp)); (obtain ⟨zc0, zc1, zc2⟩ := Y.cells gx 2 U c (by simp)); (obtain ⟨x0, x1, x2⟩ := Y.cells gx 2 U c (by simp)); (obtain ⟨x3, x4, x5⟩ := (Sack.put Y 0 0 0).cells gx 2 U c (by simp)); (have Z := Y); clear Y hb) | (go_at_call 12; refine (H2.out _).mono ?_; rintro e w' ⟨rfl, hb⟩; (first | (have Y := Sack.step hb Z) | (have Y := Sack.step hb (Sack.drew Z)) | (have Y := Sack.step hb (Sack.put Z 0 0 0)) | (have Y := Sack.step hb (Sack.put (Sack.drew Z) 0 0 0))); (obtain ⟨zf0, zf1, zf2⟩ := Y.frozen gx 2 U c (by simp)); (obtain ⟨zc0, zc1, zc2⟩ := Y.cells gx 2 U c (by simp)); (obtain ⟨x0, x1, x2⟩ := Y.cells gx 2 U c (by simp)); (obtain ⟨x3, x4, x5⟩ := (Sack.put Y 0 0 0).cells gx 2 U c (by simp)); (have Z := Y); clear Y hb))
      all_goals go_wp2_with fail
      all_goals (go_meet; exact ⟨rfl, Sack.set (l := []) (r := [(w2.heap.size, ⟨2, n, c⟩), (w.heap.size, ⟨ok, on, ob⟩)]) Z 2 X c⟩)
    case rest =>
      obtain ⟨rfl, Z⟩ := hcut
      have B4 := Lib.hid Z
      clear Z B3
      go_upto_region 8 with fail
      go_cut [14, 15] (fun s14 s15 wx => ∃ g : Nat, s14 = .pointer (some ⟨g, 0, none⟩) ∧ s15 = .bool true ∧ Sack w wx ((g, (⟨2, V, c⟩ : Vl)) :: [(gx, ⟨2, X, c⟩), (w2.heap.size, ⟨2, n, c⟩), (w.heap.size, ⟨ok, on, ob⟩)]))
      case first =>
        have Z := B4.out
        obtain ⟨p0, p1, p2⟩ := Z.cells w2.heap.size 2 n c (by simp)
        obtain ⟨p3, p4, p5⟩ := (Sack.put Z 0 0 0).cells w2.heap.size 2 n c (by simp)
        obtain ⟨p6, p7, p8⟩ := (Sack.put (Sack.drew Z) 0 0 0).cells w2.heap.size 2 n c (by simp)
        go_region_with (first | (go_at_call 13; refine (of_any b _).mono ?_; rintro e w' ⟨rfl, hb⟩; (first | (have Y := Sack.step hb Z) | (have Y := Sack.step hb (Sack.drew Z)) | (have Y := Sack.step hb (Sack.put Z 0 0 0)) | (have Y := Sack.step hb (Sack.put (Sack.drew Z) 0 0 0))); (obtain ⟨p0, p1, p2⟩ := Y.cells w2.heap.size 2 n c (by simp)); (obtain ⟨p3, p4, p5⟩ := (Sack.put Y 0 0 0).cells w2.heap.size 2 n c (by simp)); (try obtain ⟨g0, g1, g2⟩ := Y.cells _ 0 0 0 (List.mem_cons_self)); (try obtain ⟨f0, f1, f2⟩ := Y.frozen _ 0 0 0 (List.mem_cons_self)); (try rw [drew_size] at g0 g1 g2 f0 f1 f2 Y); (try rw [World.size_alloc] at g0 g1 g2 f0 f1 f2 Y); (have Z := Y); clear Y hb) | (go_at_call 12; refine (H3.out _).mono ?_; rintro e w' ⟨rfl, hb⟩; (first | (have Y := Sack.step hb Z) | (have Y := Sack.step hb (Sack.drew Z)) | (have Y := Sack.step hb (Sack.put Z 0 0 0)) | (have Y := Sack.step hb (Sack.put (Sack.drew Z) 0 0 0))); (obtain ⟨p0, p1, p2⟩ := Y.cells w2.heap.size 2 n c (by simp)); (obtain ⟨p3, p4, p5⟩ := (Sack.put Y 0 0 0).cells w2.heap.size 2 n c (by simp)); (try obtain ⟨g0, g1, g2⟩ := Y.cells _ 0 0 0 (List.mem_cons_self)); (try obtain ⟨f0, f1, f2⟩ := Y.frozen _ 0 0 0 (List.mem_cons_self)); (try rw [drew_size] at g0 g1 g2 f0 f1 f2 Y); (try rw [World.size_alloc] at g0 g1 g2 f0 f1 f2 Y); (have Z := Y); clear Y hb))
        all_goals go_wp2_with fail
        all_goals (go_meet; exact ⟨_, rfl, rfl, by first | exact Sack.put Z 2 V c | exact Sack.set0 Z 2 V c | exact Sack.put (Sack.drew Z) 2 V c⟩)
      case rest =>
        obtain ⟨gy, rfl, rfl, Z⟩ := hcut
        have B5 := Lib.hid Z
        clear Z B4
        go_upto_region 9 with fail
        go_cut [14] (fun s14 wx => s14 = .pointer (some ⟨gy, 0, none⟩) ∧ Sack w wx [(gy, ⟨2, X, c⟩), (gx, ⟨2, X, c⟩), (w2.heap.size, ⟨2, n, c⟩), (w.heap.size, ⟨ok, on, ob⟩)])
        case first =>
          have Z := B5.out
          obtain ⟨y0, y1, y2⟩ := Z.cells gy 2 V c (by simp)
          obtain ⟨y3, y4, y5⟩ := (Sack.put Z 0 0 0).cells gy 2 V c (by simp)
          obtain ⟨y6, y7, y8⟩ := (Sack.put (Sack.drew Z) 0 0 0).cells gy 2 V c (by simp)
          go_region_with (first | (go_at_call 13; refine (of_any a _).mono ?_; rintro e w' ⟨rfl, hb⟩; (first | (have Y := Sack.step hb Z) | (have Y := Sack.step hb (Sack.drew Z)) | (have Y := Sack.step hb (Sack.put Z 0 0 0)) | (have Y := Sack.step hb (Sack.put (Sack.drew Z) 0 0 0))); (obtain ⟨zf0, zf1, zf2⟩ := Y.frozen gy 2 V c (by simp)); (obtain ⟨zc0, zc1, zc2⟩ := Y.cells gy 2 V c (by simp)); (obtain ⟨y0, y1, y2⟩ := Y.cells gy 2 V c (by simp)); (obtain ⟨y3, y4, y5⟩ := (Sack.put Y 0 0 0).cells gy 2 V c (by simp)); (have Z := Y); clear Y hb) | (go_at_call 12; refine (H4.out _).mono ?_; rintro e w' ⟨rfl, hb⟩; (first | (have Y := Sack.step hb Z) | (have Y := Sack.step hb (Sack.drew Z)) | (have Y := Sack.step hb (Sack.put Z 0 0 0)) | (have Y := Sack.step hb (Sack.put (Sack.drew Z) 0 0 0))); (obtain ⟨zf0, zf1, zf2⟩ := Y.frozen gy 2 V c (by simp)); (obtain ⟨zc0, zc1, zc2⟩ := Y.cells gy 2 V c (by simp)); (obtain ⟨y0, y1, y2⟩ := Y.cells gy 2 V c (by simp)); (obtain ⟨y3, y4, y5⟩ := (Sack.put Y 0 0 0).cells gy 2 V c (by simp)); (have Z := Y); clear Y hb))
          all_goals go_wp2_with fail
          all_goals (go_meet; exact ⟨rfl, Sack.set (l := []) (r := [(gx, ⟨2, X, c⟩), (w2.heap.size, ⟨2, n, c⟩), (w.heap.size, ⟨ok, on, ob⟩)]) Z 2 X c⟩)
        case rest =>
          obtain ⟨rfl, Z⟩ := hcut
          have B6 := Lib.hid Z
          clear Z B5
          go_upto_region 10 with fail
          go_cut [16, 17] (fun s16 s17 wx => ∃ g : Nat, s16 = .pointer (some ⟨g, 0, none⟩) ∧ s17 = .bool true ∧ Sack w wx ((g, (⟨2, Y1, c⟩ : Vl)) :: [(gy, ⟨2, X, c⟩), (gx, ⟨2, X, c⟩), (w2.heap.size, ⟨2, n, c⟩), (w.heap.size, ⟨ok, on, ob⟩)]))
          case first =>
            have Z := B6.out
            obtain ⟨x0, x1, x2⟩ := Z.cells gx 2 X c (by simp)
            obtain ⟨x3, x4, x5⟩ := (Sack.put Z 0 0 0).cells gx 2 X c (by simp)
            obtain ⟨x6, x7, x8⟩ := (Sack.put (Sack.drew Z) 0 0 0).cells gx 2 X c (by simp)
            go_region_with (first | (go_at_call 13; refine (of_any a _).mono ?_; rintro e w' ⟨rfl, hb⟩; (first | (have Y := Sack.step hb Z) | (have Y := Sack.step hb (Sack.drew Z)) | (have Y := Sack.step hb (Sack.put Z 0 0 0)) | (have Y := Sack.step hb (Sack.put (Sack.drew Z) 0 0 0))); (obtain ⟨x0, x1, x2⟩ := Y.cells gx 2 X c (by simp)); (obtain ⟨x3, x4, x5⟩ := (Sack.put Y 0 0 0).cells gx 2 X c (by simp)); (try obtain ⟨g0, g1, g2⟩ := Y.cells _ 0 0 0 (List.mem_cons_self)); (try obtain ⟨f0, f1, f2⟩ := Y.frozen _ 0 0 0 (List.mem_cons_self)); (try rw [drew_size] at g0 g1 g2 f0 f1 f2 Y); (try rw [World.size_alloc] at g0 g1 g2 f0 f1 f2 Y); (have Z := Y); clear Y hb) | (go_at_call 12; refine (H5.out _).mono ?_; rintro e w' ⟨rfl, hb⟩; (first | (have Y := Sack.step hb Z) | (have Y := Sack.step hb (Sack.drew Z)) | (have Y := Sack.step hb (Sack.put Z 0 0 0)) | (have Y := Sack.step hb (Sack.put (Sack.drew Z) 0 0 0))); (obtain ⟨x0, x1, x2⟩ := Y.cells gx 2 X c (by simp)); (obtain ⟨x3, x4, x5⟩ := (Sack.put Y 0 0 0).cells gx 2 X c (by simp)); (try obtain ⟨g0, g1, g2⟩ := Y.cells _ 0 0 0 (List.mem_cons_self)); (try obtain ⟨f0, f1, f2⟩ := Y.frozen _ 0 0 0 (List.mem_cons_self)); (try rw [drew_size] at g0 g1 g2 f0 f1 f2 Y); (try rw [World.size_alloc] at g0 g1 g2 f0 f1 f2 Y); (have Z := Y); clear Y hb))
            all_goals go_wp2_with fail
            all_goals (go_meet; exact ⟨_, rfl, rfl, by first | exact Sack.put Z 2 Y1 c | exact Sack.set0 Z 2 Y1 c | exact Sack.put (Sack.drew Z) 2 Y1 c⟩)
          case rest =>
            obtain ⟨gz, rfl, rfl, Z⟩ := hcut
            have B7 := Lib.hid Z
            clear Z B6
            go_upto_region 11 with fail
            go_cut [16] (fun s16 wx => s16 = .pointer (some ⟨gz, 0, none⟩) ∧ Sack w wx [(gz, ⟨2, n, c⟩), (gy, ⟨2, X, c⟩), (gx, ⟨2, X, c⟩), (w2.heap.size, ⟨2, n, c⟩), (w.heap.size, ⟨ok, on, ob⟩)])
            case first =>
              have Z := B7.out
              obtain ⟨z0, z1, z2⟩ := Z.cells gz 2 Y1 c (by simp)
              obtain ⟨z3, z4, z5⟩ := (Sack.put Z 0 0 0).cells gz 2 Y1 c (by simp)
              obtain ⟨z6, z7, z8⟩ := (Sack.put (Sack.drew Z) 0 0 0).cells gz 2 Y1 c (by simp)
              go_region_with (first | (go_at_call 13; refine (of_any b _).mono ?_; rintro e w' ⟨rfl, hb⟩; (first | (have Y := Sack.step hb Z) | (have Y := Sack.step hb (Sack.drew Z)) | (have Y := Sack.step hb (Sack.put Z 0 0 0)) | (have Y := Sack.step hb (Sack.put (Sack.drew Z) 0 0 0))); (obtain ⟨zf0, zf1, zf2⟩ := Y.frozen gz 2 Y1 c (by simp)); (obtain ⟨zc0, zc1, zc2⟩ := Y.cells gz 2 Y1 c (by simp)); (obtain ⟨z0, z1, z2⟩ := Y.cells gz 2 Y1 c (by simp)); (obtain ⟨z3, z4, z5⟩ := (Sack.put Y 0 0 0).cells gz 2 Y1 c (by simp)); (have Z := Y); clear Y hb) | (go_at_call 12; refine (H6.out _).mono ?_; rintro e w' ⟨rfl, hb⟩; (first | (have Y := Sack.step hb Z) | (have Y := Sack.step hb (Sack.drew Z)) | (have Y := Sack.step hb (Sack.put Z 0 0 0)) | (have Y := Sack.step hb (Sack.put (Sack.drew Z) 0 0 0))); (obtain ⟨zf0, zf1, zf2⟩ := Y.frozen gz 2 Y1 c (by simp)); (obtain ⟨zc0, zc1, zc2⟩ := Y.cells gz 2 Y1 c (by simp)); (obtain ⟨z0, z1, z2⟩ := Y.cells gz 2 Y1 c (by simp)); (obtain ⟨z3, z4, z5⟩ := (Sack.put Y 0 0 0).cells gz 2 Y1 c (by simp)); (have Z := Y); clear Y hb))
              all_goals go_wp2_with fail
              all_goals (go_meet; exact ⟨rfl, Sack.set (l := []) (r := [(gy, ⟨2, X, c⟩), (gx, ⟨2, X, c⟩), (w2.heap.size, ⟨2, n, c⟩), (w.heap.size, ⟨ok, on, ob⟩)]) Z 2 n c⟩)
            case rest =>
              obtain ⟨rfl, Z⟩ := hcut
              have B8 := Lib.hid Z
              clear Z B7
              obtain ⟨p0, p1, p2⟩ := B8.out.cells w2.heap.size 2 n c (by simp)
              obtain ⟨o0, o1, o2⟩ := B8.out.cells w.heap.size ok on ob (by simp)
              have hcase : (ok = 2 ∧ on = n ∧ ob = c) ∨ (ok = 2 ∧ 1 ≤ ob ∧ n ≠ on) ∨ (ok = 2 ∧ 1 ≤ ob ∧ c ≠ ob) ∨ (ok = 2 ∧ ob < 1) ∨ ok ≠ 2 := by omega
              rcases hcase with ⟨rfl, rfl, rfl⟩ | ⟨rfl, hob, hne⟩ | ⟨rfl, hob, hne⟩ | ⟨rfl, hob⟩ | hok
              · go_wp2_with fail
                refine (like_same on ob hc1 FN.out _).mono ?_
                rintro e w9 ⟨rfl, hb⟩
                have B9 := Lib.hid (Sack.put (Sack.step hb B8.out) 1 1 0)
                clear hb B8
                clear p0 p1 p2 o0 o1 o2
                obtain ⟨p0, p1, p2⟩ := B9.out.cells w2.heap.size 2 on ob (by simp)
                obtain ⟨o0, o1, o2⟩ := B9.out.cells w.heap.size 2 on ob (by simp)
                obtain ⟨e0, e1, e2⟩ := B9.out.cells w9.heap.size 1 1 0 (by simp)
                obtain ⟨x0, x1, x2⟩ := B9.out.cells gx 2 X ob (by simp)
                obtain ⟨y0, y1, y2⟩ := B9.out.cells gy 2 X ob (by simp)
                obtain ⟨z0, z1, z2⟩ := B9.out.cells gz 2 on ob (by simp)
                go_wp2_with fail
                go_quiet (fail)
                have BQ := Lib.hid (Sack.drewN B9.out nq)
                go_wp2_with fail
                refine (TP.out _).mono ?_
                rintro e w10 ⟨rfl, hb⟩
                have B10 := Lib.hid (Sack.step hb BQ.out)
                clear hb BQ
                clear p0 p1 p2 o0 o1 o2 e0 e1 e2 x0 x1 x2 y0 y1 y2 z0 z1 z2
                obtain ⟨p0, p1, p2⟩ := B10.out.cells w2.heap.size 2 on ob (by simp)
                obtain ⟨x0, x1, x2⟩ := B10.out.cells gx 2 X ob (by simp)
                obtain ⟨y0, y1, y2⟩ := B10.out.cells gy 2 X ob (by simp)
                obtain ⟨z0, z1, z2⟩ := B10.out.cells gz 2 on ob (by simp)
                go_wp2_with fail
                all_goals (go_ret; exact ⟨by simp, B10.out.low⟩)
              · have hq : (n == on) = false := by simpa using hne
                go_wp2_with fail
                refine (like_other n c on ob hc1 hob (.inl hne) FN.out FO.out _).mono ?_
                rintro e w9 ⟨rfl, hb⟩
                have B9 := Lib.hid (Sack.put (Sack.step hb B8.out) 1 0 0)
                clear hb B8
                clear p0 p1 p2 o0 o1 o2
                obtain ⟨p0, p1, p2⟩ := B9.out.cells w2.heap.size 2 n c (by simp)
                obtain ⟨o0, o1, o2⟩ := B9.out.cells w.heap.size 2 on ob (by simp)
                obtain ⟨e0, e1, e2⟩ := B9.out.cells w9.heap.size 1 0 0 (by simp)
                obtain ⟨x0, x1, x2⟩ := B9.out.cells gx 2 X c (by simp)
                obtain ⟨y0, y1, y2⟩ := B9.out.cells gy 2 X c (by simp)
                obtain ⟨z0, z1, z2⟩ := B9.out.cells gz 2 n c (by simp)
                go_wp2_with fail
                go_quiet (fail)
                have BQ := Lib.hid (Sack.drewN B9.out nq)
                go_wp2_with fail
                refine (TP.out _).mono ?_
                rintro e w10 ⟨rfl, hb⟩
                have B10 := Lib.hid (Sack.step hb BQ.out)
                clear hb BQ
                clear p0 p1 p2 o0 o1 o2 e0 e1 e2 x0 x1 x2 y0 y1 y2 z0 z1 z2
                obtain ⟨p0, p1, p2⟩ := B10.out.cells w2.heap.size 2 n c (by simp)
                obtain ⟨x0, x1, x2⟩ := B10.out.cells gx 2 X c (by simp)
                obtain ⟨y0, y1, y2⟩ := B10.out.cells gy 2 X c (by simp)
                obtain ⟨z0, z1, z2⟩ := B10.out.cells gz 2 n c (by simp)
                go_wp2_with fail
                all_goals (go_ret; exact ⟨by simp, B10.out.low⟩)
              · have hq : (c == ob) = false := by simpa using hne
                go_wp2_with fail
                refine (like_other n c on ob hc1 hob (.inr hne) FN.out FO.out _).mono ?_
                rintro e w9 ⟨rfl, hb⟩
                have B9 := Lib.hid (Sack.put (Sack.step hb B8.out) 1 0 0)
                clear hb B8
                clear p0 p1 p2 o0 o1 o2
                obtain ⟨p0, p1, p2⟩ := B9.out.cells w2.heap.size 2 n c (by simp)
                obtain ⟨o0, o1, o2⟩ := B9.out.cells w.heap.size 2 on ob (by simp)
                obtain ⟨e0, e1, e2⟩ := B9.out.cells w9.heap.size 1 0 0 (by simp)
                obtain ⟨x0, x1, x2⟩ := B9.out.cells gx 2 X c (by simp)
                obtain ⟨y0, y1, y2⟩ := B9.out.cells gy 2 X c (by simp)
                obtain ⟨z0, z1, z2⟩ := B9.out.cells gz 2 n c (by simp)
                go_wp2_with fail
                go_quiet (fail)
                have BQ := Lib.hid (Sack.drewN B9.out nq)
                go_wp2_with fail
                refine (TP.out _).mono ?_
                rintro e w10 ⟨rfl, hb⟩
                have B10 := Lib.hid (Sack.step hb BQ.out)
                clear hb BQ
                clear p0 p1 p2 o0 o1 o2 e0 e1 e2 x0 x1 x2 y0 y1 y2 z0 z1 z2
                obtain ⟨p0, p1, p2⟩ := B10.out.cells w2.heap.size 2 n c (by simp)
                obtain ⟨x0, x1, x2⟩ := B10.out.cells gx 2 X c (by simp)
                obtain ⟨y0, y1, y2⟩ := B10.out.cells gy 2 X c (by simp)
                obtain ⟨z0, z1, z2⟩ := B10.out.cells gz 2 n c (by simp)
                go_wp2_with fail
                all_goals (go_ret; exact ⟨by simp, B10.out.low⟩)
              · obtain ⟨ek, en, eb, fine, hE0⟩ := like_both n c 2 on ob FN.out FO.out
                have HE := Lib.hid hE0
                clear hE0
                go_wp2_with fail
                refine (HE.out _).mono ?_
                rintro e w9 ⟨rfl, hb⟩
                have B9 := Lib.hid (Sack.put (Sack.step hb B8.out) ek en eb)
                clear hb B8
                clear p0 p1 p2 o0 o1 o2
                obtain ⟨p0, p1, p2⟩ := B9.out.cells w2.heap.size 2 n c (by simp)
                obtain ⟨o0, o1, o2⟩ := B9.out.cells w.heap.size 2 on ob (by simp)
                obtain ⟨e0, e1, e2⟩ := B9.out.cells w9.heap.size ek en eb (by simp)
                obtain ⟨x0, x1, x2⟩ := B9.out.cells gx 2 X c (by simp)
                obtain ⟨y0, y1, y2⟩ := B9.out.cells gy 2 X c (by simp)
                obtain ⟨z0, z1, z2⟩ := B9.out.cells gz 2 n c (by simp)
                go_wp2_with fail
                refine (TP.out _).mono ?_
                rintro e w10 ⟨rfl, hb⟩
                have B10 := Lib.hid (Sack.step hb B9.out)
                clear hb B9
                clear p0 p1 p2 o0 o1 o2 e0 e1 e2 x0 x1 x2 y0 y1 y2 z0 z1 z2
                obtain ⟨p0, p1, p2⟩ := B10.out.cells w2.heap.size 2 n c (by simp)
                obtain ⟨x0, x1, x2⟩ := B10.out.cells gx 2 X c (by simp)
                obtain ⟨y0, y1, y2⟩ := B10.out.cells gy 2 X c (by simp)
                obtain ⟨z0, z1, z2⟩ := B10.out.cells gz 2 n c (by simp)
                go_wp2_with fail
                all_goals (go_ret; exact ⟨by simp, B10.out.low⟩)
              · obtain ⟨ek, en, eb, fine, hE0⟩ := like_both n c ok on ob FN.out FO.out
                have HE := Lib.hid hE0
                clear hE0
                go_wp2_with fail
                refine (HE.out _).mono ?_
                rintro e w9 ⟨rfl, hb⟩
                have B9 := Lib.hid (Sack.put (Sack.step hb B8.out) ek en eb)
                clear hb B8
                clear p0 p1 p2 o0 o1 o2
                obtain ⟨p0, p1, p2⟩ := B9.out.cells w2.heap.size 2 n c (by simp)
                obtain ⟨o0, o1, o2⟩ := B9.out.cells w.heap.size ok on ob (by simp)
                obtain ⟨e0, e1, e2⟩ := B9.out.cells w9.heap.size ek en eb (by simp)
                obtain ⟨x0, x1, x2⟩ := B9.out.cells gx 2 X c (by simp)
                obtain ⟨y0, y1, y2⟩ := B9.out.cells gy 2 X c (by simp)
                obtain ⟨z0, z1, z2⟩ := B9.out.cells gz 2 n c (by simp)
                go_wp2_with fail
                refine (TP.out _).mono ?_
                rintro e w10 ⟨rfl, hb⟩
                have B10 := Lib.hid (Sack.step hb B9.out)
                clear hb B9
                clear p0 p1 p2 o0 o1 o2 e0 e1 e2 x0 x1 x2 y0 y1 y2 z0 z1 z2
                obtain ⟨p0, p1, p2⟩ := B10.out.cells w2.heap.size 2 n c (by simp)
                obtain ⟨x0, x1, x2⟩ := B10.out.cells gx 2 X c (by simp)
                obtain ⟨y0, y1, y2⟩ := B10.out.cells gy 2 X c (by simp)
                obtain ⟨z0, z1, z2⟩ := B10.out.cells gz 2 n c (by simp)
                go_wp2_with fail
                all_goals (go_ret; exact ⟨by simp, B10.out.low⟩)
end Go.Proofs.YtipeehmbloneoaaDoor
