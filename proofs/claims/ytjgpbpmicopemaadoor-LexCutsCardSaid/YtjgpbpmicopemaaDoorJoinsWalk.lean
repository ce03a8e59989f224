/-
  LexJoins answers true, for every two texts.
-/
import Derived.Test.YtjgpbpmicopemaaDoorAwake
import Derived.Test.YtjgpbpmicopemaaDoorJoins
namespace Go.Proofs.YtjgpbpmicopemaaDoor
open Go.RowKit

theorem str_join (a b : List UInt8) : (⟨a.toArray⟩ : ByteArray) ++ ⟨#[10]⟩ ++ ⟨b.toArray⟩ = ⟨(a ++ 10 :: b).toArray⟩ := by
  apply ByteArray.ext
  simp [ByteArray.data_append]
/-- a slice of words in memory, its cells at hand -/
def SlRow (W : World) (v : Value) (xs : List It) : Prop := ∃ b c, v = .slice b xs.length c ∧ xs.length ≤ c ∧ c ≤ maxLen ∧ (0 < xs.length → ∃ g, b = some ⟨g, 0, none⟩ ∧ g < W.heap.size ∧
  ∀ (i : Nat) (hi : i < xs.length) (r : Nat), r < 5 → W.cell? ⟨g, i * 5 + r, none⟩ = (xs[i]).cells[r]?)
theorem row_sl {W : World} {B : Nat} {v : Value} {xs : List It} (h : W.ownsRow B 30 5 v xs.length (xs.flatMap It.cells)) : SlRow W v xs := by
  obtain ⟨b, c, rfl, h1, h2, h3⟩ := row_slice h
  refine ⟨b, c, rfl, h1, h2, fun h0 => ?_⟩
  obtain ⟨g, e1, -, e3, e4⟩ := h3 h0
  exact ⟨g, e1, e3, e4⟩
theorem SlRow.below {W W' : World} {v : Value} {xs : List It} (h : SlRow W v xs) (hb : Below W.heap.size W W') : SlRow W' v xs := by
  obtain ⟨b, c, rfl, h1, h2, h3⟩ := h
  refine ⟨b, c, rfl, h1, h2, fun h0 => ?_⟩
  obtain ⟨g, e1, e3, e4⟩ := h3 h0
  exact ⟨g, e1, Nat.lt_of_lt_of_le e3 hb.size, fun i hi r hr => (hb.cell e3).trans (e4 i hi r hr)⟩
/-- one word's cells -/
theorem SlRow.at {W : World} {vb : Option Addr} {n vc : Nat} {xs : List It} (h : SlRow W (.slice vb n vc) xs) (k : Nat) (hk : k < xs.length) : ∃ g, vb = some ⟨g, 0, none⟩ ∧ g < W.heap.size ∧
    ∀ x, xs[k] = x → W.cell? ⟨g, k * 5, none⟩ = some (.int .i64 x.d.k) ∧ W.cell? ⟨g, k * 5 + 1, none⟩ = some (.string ⟨x.d.t.toArray⟩) ∧ W.cell? ⟨g, k * 5 + 2, none⟩ = some (.int .i64 x.d.n) ∧ W.cell? ⟨g, k * 5 + 3, none⟩ = some (.int .i64 x.p.1) ∧ W.cell? ⟨g, k * 5 + 4, none⟩ = some (.int .i64 x.p.2) := by
  obtain ⟨b, c, e, h1, h2, h3⟩ := h
  obtain ⟨g, e1, e3, e4⟩ := h3 (by omega)
  injection e with a1 a2 a3
  refine ⟨g, a1.trans e1, e3, ?_⟩
  rintro x rfl
  exact ⟨e4 k hk 0 (by omega), e4 k hk 1 (by omega), e4 k hk 2 (by omega), e4 k hk 3 (by omega), e4 k hk 4 (by omega)⟩
theorem PlcAt.below {W W' : World} {g : Nat} {p : Int × Int} (h : PlcAt W g p) (hb : Below W.heap.size W W') : PlcAt W' g p := (hb.block g (heap_lt h)).trans h
theorem belowAlloc (W : World) (o : Obj) : Below W.heap.size W (W.alloc o) := (Below.refl _ _).alloc (Nat.le_refl _) o
/-- a new box of five cells, filled -/
def boxed (w : World) (a b c d e : Value) : World := w.alloc (.cells #[a, b, c, d, e] 30)
theorem boxed_below (w : World) (a b c d e : Value) : Below w.heap.size w (boxed w a b c d e) := belowAlloc w _
theorem boxed_cells (w : World) (a b c d e : Value) : (boxed w a b c d e).cell? ⟨w.heap.size, 0, none⟩ = some a ∧ (boxed w a b c d e).cell? ⟨w.heap.size, 1, none⟩ = some b ∧ (boxed w a b c d e).cell? ⟨w.heap.size, 2, none⟩ = some c := by
  obtain ⟨h0, h1, h2, -⟩ := box5 (heap_alloc_new w (.cells #[a, b, c, d, e] 30))
  exact ⟨h0, h1, h2⟩
theorem below_sym {w a b : World} (h : Below w.heap.size w a) (g : Below a.heap.size a b) : Below w.heap.size w b := h.trans (g.mono h.size)
set_option maxRecDepth 20000 in
set_option maxHeartbeats 4000000 in
theorem joins_any (a b : List UInt8) (ha : a.length ≤ 9223372036854775807) (hb : b.length ≤ 9223372036854775807) (w : World) (hE : Env w) : Calls Tryd.prog 7 #[str a, str b] w (BL true w) := by
  by_cases l1 : a.length ≤ 3000
  · by_cases l2 : b.length ≤ 3000
    · have C1 : ∀ W, Env W → Calls Tryd.prog 9 #[.string ⟨a.toArray⟩] W (RWs a W) := fun W hW => words_any a (by omega) W hW
      have C2 : ∀ W, Env W → Calls Tryd.prog 9 #[.string ⟨b.toArray⟩] W (RWs b W) := fun W hW => words_any b (by omega) W hW
      have C3 : ∀ W, Env W → Calls Tryd.prog 9 #[.string ⟨(a ++ 10 :: b).toArray⟩] W (RWs (a ++ 10 :: b) W) := fun W hW => words_any (a ++ 10 :: b) (by simp; omega) W hW
      have hz0 := joins_fault a (by omega)
      have hz1 := joins_fault b (by omega)
      have hz2 := joins_fault (a ++ 10 :: b) (by simp; omega)
      have hlaw := Lib.hid (joins_law a b l1 l2)
      unfold str
      go_enter Tryd.func7, Tryd.ntmps7
      go_wp2_with fail
      refine (awake_any _ hE).mono ?_
      rintro e w1 ⟨rfl, b1⟩
      go_wp2_with fail
      refine (C1 _ (hE.below b1)).mono ?_
      rintro e w2 ⟨v1, rfl, hrow1, hb2⟩
      have b2 := b1.trans (hb2.mono b1.size)
      have sx := row_sl hrow1
      obtain ⟨vb1, vc1, rfl, h11, h12, -⟩ := sx
      have sx := row_sl hrow1
      clear hrow1 hb2
      generalize wordsP a = pa at *
      go_wp2_with fail
      have p1 : PlcAt (w2.alloc (.cells #[.int .i64 pa.1, .int .i64 pa.2] 25)) w2.heap.size pa := heap_alloc_new w2 _
      have b3 : Below w.heap.size w (w2.alloc (.cells #[.int .i64 pa.1, .int .i64 pa.2] 25)) := b2.alloc b2.size _
      have sx := sx.below (belowAlloc w2 (.cells #[.int .i64 pa.1, .int .i64 pa.2] 25))
      generalize w2.heap.size = x2 at *
      generalize (w2.alloc (.cells #[.int .i64 pa.1, .int .i64 pa.2] 25)) = w3 at *
      refine (C2 _ (hE.below b3)).mono ?_
      rintro e w4 ⟨v2, rfl, hrow2, hb4⟩
      have b4 := b3.trans (hb4.mono b3.size)
      obtain ⟨vb2, vc2, rfl, h21, h22, -⟩ := row_sl hrow2
      have sy := row_sl hrow2
      have sx := sx.below hb4
      have p1 := p1.below hb4
      clear hrow2 hb4
      generalize wordsP b = pb at *
      go_wp2_with fail
      have b5 : Below w.heap.size w (w4.alloc (.cells #[.int .i64 pb.1, .int .i64 pb.2] 25)) := b4.alloc b4.size _
      have sx := sx.below (belowAlloc w4 (.cells #[.int .i64 pb.1, .int .i64 pb.2] 25))
      have sy := sy.below (belowAlloc w4 (.cells #[.int .i64 pb.1, .int .i64 pb.2] 25))
      have p1 := p1.below (belowAlloc w4 (.cells #[.int .i64 pb.1, .int .i64 pb.2] 25))
      generalize w4.heap.size = x4 at *
      generalize (w4.alloc (.cells #[.int .i64 pb.1, .int .i64 pb.2] 25)) = w5 at *
      have hjn := str_join a b
      simp only [hjn]
      refine (C3 _ (hE.below b5)).mono ?_
      rintro e w6 ⟨v3, rfl, hrow3, hb6⟩
      have b6 := b5.trans (hb6.mono b5.size)
      obtain ⟨vb3, vc3, rfl, h31, h32, -⟩ := row_sl hrow3
      have sz := row_sl hrow3
      have sx := sx.below hb6
      have sy := sy.below hb6
      have p1 := p1.below hb6
      clear hrow3 hb6
      generalize wordsP (a ++ 10 :: b) = pz at *
      rcases hz0 with h0 | h0
      · obtain ⟨he3, hmap⟩ := hlaw.out h0
        rcases hz1 with h1 | h1
        · have h2 := he3.trans h1
          have hmap := hmap h1
          rw [h0, h1, h2]
          have hX := stands_len (stands_words a h0) (Nat.zero_le _)
          have hY := stands_len (stands_words b h1) (Nat.zero_le _)
          clear hlaw hz2 he3 h0 h1 h2 C1 C2 C3 p1 hE
          generalize wordsL a = X at *
          generalize wordsL b = Y at *
          generalize wordsL (a ++ 10 :: b) = Z at *
          have hlen : Z.length = X.length + Y.length := by
            have := congrArg List.length hmap
            simpa using this
          have sx := sx.below (belowAlloc w6 (.cells #[.int .i64 pz.1, .int .i64 pz.2] 25))
          have sy := sy.below (belowAlloc w6 (.cells #[.int .i64 pz.1, .int .i64 pz.2] 25))
          have sz := sz.below (belowAlloc w6 (.cells #[.int .i64 pz.1, .int .i64 pz.2] 25))
          have b7 := b6.alloc b6.size (.cells #[.int .i64 pz.1, .int .i64 pz.2] 25)
          go_wp2_with fail
          generalize (w6.alloc (.cells #[.int .i64 pz.1, .int .i64 pz.2] 25)) = w7 at *
          go_loopg [14, 15] Z.length (fun g s14 s15 wr => ∃ k : Nat, s14 = .int .i64 k ∧ k ≤ Z.length ∧ Z.length - k ≤ g ∧ Below w7.heap.size w7 wr)
          case atStart => exact ⟨0, rfl, Nat.zero_le _, by omega, Below.refl _ _⟩
          case round =>
            obtain ⟨k, rfl, hk, hg, hbr⟩ := hrel
            have b8 := below_sym b7 hbr
            have hnew := belowAlloc wr (.cells #[.int .i64 0, .string ⟨#[]⟩, .int .i64 0, .int .i64 0, .int .i64 0] 30)
            have sx := (sx.below hbr).below hnew
            have sy := (sy.below hbr).below hnew
            have sz := (sz.below hbr)
            by_cases hlt : k < Z.length
            · obtain ⟨gz, ez, lz, cz⟩ := sz.at k hlt
              subst ez
              have cz := cz _ rfl
              generalize hzk : Z[k] = z at *
              obtain ⟨⟨zk, zt, zn⟩, zp, zb⟩ := z
              obtain ⟨z0, z1, z2, -, -⟩ := cz
              simp only at z0 z1 z2
              by_cases hx : k < X.length
              · obtain ⟨gx, ex, lx, cx⟩ := sx.at k hx
                subst ex
                have cx := cx _ rfl
                have hd : (Z[k]).d = (X[k]).d := by
                  have := congrArg (fun l => l[k]?) hmap
                  simp only [List.getElem?_append_left (show k < (X.map It.d).length by simpa using hx)] at this
                  simpa [hlt, hx] using this
                generalize hxk : X[k] = x at *
                obtain ⟨⟨xk, xt, xn⟩, xp, xb⟩ := x
                rw [hzk] at hd
                obtain ⟨rfl, rfl, rfl⟩ : zk = xk ∧ zt = xt ∧ zn = xn := by simpa using hd
                obtain ⟨x0, x1, x2, x3, x4⟩ := cx
                simp only at x0 x1 x2 x3 x4
                have hbw := boxed_below wr (.int .i64 zk) (.string ⟨zt.toArray⟩) (.int .i64 zn) (.int .i64 xp.1) (.int .i64 xp.2)
                obtain ⟨y0, y1, y2⟩ := boxed_cells wr (.int .i64 zk) (.string ⟨zt.toArray⟩) (.int .i64 zn) (.int .i64 xp.1) (.int .i64 xp.2)
                have z0 := (hbw.cell (cell_lt z0)).trans z0
                have z1 := (hbw.cell (cell_lt z1)).trans z1
                have z2 := (hbw.cell (cell_lt z2)).trans z2
                have hb9 := below_sym hbr hbw
                have hlz : (k : Int) < X.length + Y.length := by omega
                clear hd hmap sx sy sz
                go_wp2_with fail
                change Code.wp _ _ _ _ (boxed wr (.int .i64 zk) (.string ⟨zt.toArray⟩) (.int .i64 zn) (.int .i64 xp.1) (.int .i64 xp.2))
                generalize boxed wr (.int .i64 zk) (.string ⟨zt.toArray⟩) (.int .i64 zn) (.int .i64 xp.1) (.int .i64 xp.2) = w9 at *
                generalize wr.heap.size = gw at *
                clear hbr hbw hnew b8 x0 x1 x2 x3 x4
                go_quiet (fail)
                go_wp2_with fail
                go_roundg (Z.length - (k + 1))
                case measure => omega
                case rel => exact ⟨k + 1, by simp, hlt, by omega, below_drewN hb9 _⟩
              · obtain ⟨gx, ex, lx, cx⟩ := sy.at (k - X.length) (by omega)
                subst ex
                have cx := cx _ rfl
                have hd : (Z[k]).d = (Y[k - X.length]).d := by
                  have := congrArg (fun l => l[k]?) hmap
                  simp only [List.getElem?_append_right (show (X.map It.d).length ≤ k by simp; omega), List.length_map] at this
                  have hy : k - X.length < Y.length := by omega
                  simpa [hlt, hy] using this
                generalize hxk : Y[k - X.length] = x at *
                obtain ⟨⟨xk, xt, xn⟩, xp, xb⟩ := x
                rw [hzk] at hd
                obtain ⟨rfl, rfl, rfl⟩ : zk = xk ∧ zt = xt ∧ zn = xn := by simpa using hd
                obtain ⟨x0, x1, x2, x3, x4⟩ := cx
                simp only at x0 x1 x2 x3 x4
                have hkx : (k : Int) - X.length = ((k - X.length : Nat) : Int) := by omega
                have hky : k - X.length < Y.length := by omega
                clear hxk hd
                generalize k - X.length = ky at *
                have hbw := boxed_below wr (.int .i64 zk) (.string ⟨zt.toArray⟩) (.int .i64 zn) (.int .i64 xp.1) (.int .i64 xp.2)
                obtain ⟨y0, y1, y2⟩ := boxed_cells wr (.int .i64 zk) (.string ⟨zt.toArray⟩) (.int .i64 zn) (.int .i64 xp.1) (.int .i64 xp.2)
                have z0 := (hbw.cell (cell_lt z0)).trans z0
                have z1 := (hbw.cell (cell_lt z1)).trans z1
                have z2 := (hbw.cell (cell_lt z2)).trans z2
                have hb9 := below_sym hbr hbw
                have hlz : (k : Int) < X.length + Y.length := by omega
                clear hmap sx sy sz
                go_wp2_with fail
                change Code.wp _ _ _ _ (boxed wr (.int .i64 zk) (.string ⟨zt.toArray⟩) (.int .i64 zn) (.int .i64 xp.1) (.int .i64 xp.2))
                generalize boxed wr (.int .i64 zk) (.string ⟨zt.toArray⟩) (.int .i64 zn) (.int .i64 xp.1) (.int .i64 xp.2) = w9 at *
                generalize wr.heap.size = gw at *
                clear hbr hbw hnew b8 x0 x1 x2 x3 x4
                go_quiet (fail)
                go_wp2_with fail
                go_roundg (Z.length - (k + 1))
                case measure => omega
                case rel => exact ⟨k + 1, by simp, hlt, by omega, below_drewN hb9 _⟩
            · go_wp2_with fail
              go_ret
              exact ⟨by simp, b8⟩
        · have h2 := he3.trans h1
          rw [h0, h1, h2]
          go_wp2_with fail
          go_ret
          exact ⟨by simp, b6.alloc b6.size _⟩
      · have x0 : ∀ o, (w6.alloc o).cell? ⟨x2, 0, none⟩ = some (.int .i64 pa.1) := fun o => (p1.below (belowAlloc w6 o)).cells.1
        have x1 : ∀ o, (w6.alloc o).cell? ⟨x2, 1, none⟩ = some (.int .i64 pa.2) := fun o => (p1.below (belowAlloc w6 o)).cells.2.1
        rw [h0]
        by_cases e1 : pa.1 = pz.1
        · by_cases e2 : pa.2 = pz.2
          · rcases hz2 with h2 | h2 <;> rw [h2]
            all_goals
              go_wp2_with fail
              go_ret
              exact ⟨by simp, b6.alloc b6.size _⟩
          · rcases hz2 with h2 | h2 <;> rw [h2]
            all_goals
              go_wp2_with fail
              go_ret
              exact ⟨by simp, b6.alloc b6.size _⟩
        · rcases hz2 with h2 | h2 <;> rw [h2]
          all_goals
            go_wp2_with fail
            go_ret
            exact ⟨by simp, b6.alloc b6.size _⟩
    · go_enter Tryd.func7, Tryd.ntmps7
      unfold str
      go_wp2_with fail
      refine (awake_any _ hE).mono ?_
      rintro e w1 ⟨rfl, b1⟩
      go_wp2_with fail
      go_ret
      exact ⟨rfl, b1⟩
  · go_enter Tryd.func7, Tryd.ntmps7
    unfold str
    go_wp2_with fail
    refine (awake_any _ hE).mono ?_
    rintro e w1 ⟨rfl, b1⟩
    go_wp2_with fail
    go_ret
    exact ⟨rfl, b1⟩
end Go.Proofs.YtjgpbpmicopemaaDoor
