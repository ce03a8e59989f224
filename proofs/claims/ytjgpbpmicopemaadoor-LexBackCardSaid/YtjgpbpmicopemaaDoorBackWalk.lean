/-
  LexBack answers true, for every text and every number.
-/
import Derived.Test.YtjgpbpmicopemaaDoorJoinsWalk
import Derived.Test.YtjgpbpmicopemaaDoorBack
import Derived.Test.YtjgpbpmicopemaaDoorRefSmall
import Derived.Laws.BitsLemmas
namespace Go.Proofs.YtjgpbpmicopemaaDoor
open Go.RowKit

theorem and_1023 (x : Int) : ∃ j : Nat, bits .and .i64 x 1023 = j ∧ j ≤ 1023 := by
  have h : (BitVec.ofInt 64 x &&& BitVec.ofInt 64 1023).toNat ≤ 1023 := by
    rw [BitVec.toNat_and]
    exact Nat.and_le_right
  have e : bits .and .i64 x 1023 = IntKind.i64.wrap ((BitVec.ofInt 64 x &&& BitVec.ofInt 64 1023).toNat : Int) := rfl
  rw [e]
  generalize (BitVec.ofInt 64 x &&& BitVec.ofInt 64 1023).toNat = n at *
  refine ⟨n, ?_, h⟩
  rw [IntKind.wrap_i64]
  omega
theorem str_cat (a b c : List UInt8) : (⟨a.toArray⟩ : ByteArray) ++ ⟨b.toArray⟩ ++ ⟨c.toArray⟩ = ⟨(a ++ (b ++ c)).toArray⟩ := by
  apply ByteArray.ext
  simp [ByteArray.data_append]
set_option maxRecDepth 20000 in
set_option maxHeartbeats 4000000 in
theorem back_any (l : List UInt8) (hl : l.length ≤ 9223372036854775807) (n : Int) (_hn : -9223372036854775808 ≤ n ∧ n ≤ 9223372036854775807) (w : World) (hE : Env w) : Calls Tryd.prog 5 #[str l, .int .i64 n] w (BL true w) := by
  have C1 : ∀ W, Env W → Calls Tryd.prog 9 #[.string ⟨l.toArray⟩] W (RWs l W) := fun W hW => words_any l hl W hW
  unfold str
  go_enter Tryd.func5, Tryd.ntmps5
  go_wp2_with fail
  refine (awake_any _ hE).mono ?_
  rintro e w1 ⟨rfl, b1⟩
  go_wp2_with fail
  refine (C1 _ (hE.below b1)).mono ?_
  rintro e w2 ⟨v1, rfl, hrow1, hb2⟩
  have b2 := b1.trans (hb2.mono b1.size)
  obtain ⟨vb1, vc1, rfl, h11, h12, -⟩ := row_sl hrow1
  have sx := row_sl hrow1
  clear hrow1 hb2
  by_cases h0 : wordsE l = 0
  · by_cases h5 : l.length ≤ 5000
    · rw [h0]
      obtain ⟨j, hj, hj2⟩ := and_1023 n
      obtain ⟨q1, q2, q3⟩ := back_law l j h0 h5
      have hX := stands_len (stands_words l h0) (Nat.zero_le _)
      have q2 := Lib.hid q2
      have q3 := Lib.hid q3
      generalize wordsL l = X at *
      generalize wordsP l = pa at *
      have sx := sx.below (belowAlloc w2 (.cells #[.int .i64 pa.1, .int .i64 pa.2] 25))
      have b3 := b2.alloc b2.size (.cells #[.int .i64 pa.1, .int .i64 pa.2] 25)
      go_wp2_with fail
      have sx := sx.below (belowAlloc (w2.alloc (.cells #[.int .i64 pa.1, .int .i64 pa.2] 25)) (.cells (strs gaps) 9))
      have b4 := b3.alloc b3.size (.cells (strs gaps) 9)
      have hc := strs_cell (heap_alloc_new (w2.alloc (.cells #[.int .i64 pa.1, .int .i64 pa.2] 25)) (.cells (strs gaps) 9))
      rw [World.size_alloc] at hc
      change Code.wp _ _ _ _ ((w2.alloc (.cells #[.int .i64 pa.1, .int .i64 pa.2] 25)).alloc (.cells (strs gaps) 9))
      generalize (w2.alloc (.cells #[.int .i64 pa.1, .int .i64 pa.2] 25)).alloc (.cells (strs gaps) 9) = w4 at *
      generalize w2.heap.size + 1 = gg at *
      have hgl : gaps.length = 5 := rfl
      go_loopg [9, 10] X.length (fun g s9 s10 wr => ∃ i : Nat, s9 = .string ⟨(backS j ((X.map It.d).take i)).toArray⟩ ∧ s10 = .int .i64 i ∧ i ≤ X.length ∧ X.length - i ≤ g ∧ ∃ d, wr = w4.drewN d)
      case atStart => exact ⟨0, rfl, rfl, Nat.zero_le _, by omega, 0, rfl⟩
      case round =>
        obtain ⟨i, rfl, rfl, hi, hg, d, rfl⟩ := hrel
        by_cases hlt : i < X.length
        · obtain ⟨gx, ex, lx, cx⟩ := sx.at i hlt
          subst ex
          have hstep := backS_take (X.map It.d) j i (by simpa using hlt)
          rw [List.getElem_map] at hstep
          have cx := cx _ rfl
          have hmod : (j + i) % 5 < gaps.length := Nat.mod_lt _ (by decide)
          have hcg := hc ((j + i) % 5) hmod
          rw [gaps_get (j + i) hmod] at hcg
          generalize X[i] = x at *
          obtain ⟨⟨xk, xt, xn⟩, xp, xb⟩ := x
          obtain ⟨-, x1, -, -, -⟩ := cx
          simp only at x1 hstep
          have hcat := str_cat (backS j ((X.map It.d).take i)) (gapG (j + i)) xt
          rw [← hstep] at hcat
          have hrem : ((j : Int) + i).tmod 5 = (((j + i) % 5 : Nat) : Int) := by
            rw [Int.tmod_eq_emod_of_nonneg (by omega)]
            omega
          have hst := backS_le (X.map It.d) j (i + 1)
          have hgt := gapG_len (j + i)
          rw [hstep, List.length_append, List.length_append] at hst
          have hwr : IntKind.i64.wrap ((j : Int) + i) = (j : Int) + i := by
            rw [IntKind.wrap_i64]
            omega
          generalize hrr : (j + i) % 5 = rr at *
          generalize gapG (j + i) = gt at *
          generalize backS j ((X.map It.d).take i) = st at *
          generalize hst2 : backS j ((X.map It.d).take (i + 1)) = st2 at *
          clear hc hstep
          have f1 : st.length + gt.length ≤ 9223372036854775807 := by omega
          have f2 : st.length + gt.length + xt.length ≤ 9223372036854775807 := by omega
          go_wp2_with fail
          have hr5 : (rr : Int) < 5 := by omega
          go_quiet (fail)
          go_wp2_with fail
          go_roundg (X.length - (i + 1))
          case measure => omega
          case rel => exact ⟨i + 1, by rw [hst2], by simp, hlt, by omega, _, rfl⟩
        · have hil : i = X.length := by omega
          have htk : (X.map It.d).take i = X.map It.d := List.take_of_length_le (by simp; omega)
          rw [htk]
          have C2 : ∀ W, Env W → Calls Tryd.prog 9 #[.string ⟨(backS j (X.map It.d)).toArray⟩] W (RWs (backS j (X.map It.d)) W) := fun W hW => words_any _ (by omega) W hW
          generalize backS j (X.map It.d) = S at *
          have b5 := below_drewN b4 d
          have sx : SlRow (w4.drewN d) _ X := sx
          generalize w4.drewN d = w5 at *
          clear hc
          go_wp2_with fail
          refine (C2 _ (hE.below b5)).mono ?_
          rintro e w6 ⟨v2, rfl, hrow2, hb6⟩
          have b6 := b5.trans (hb6.mono b5.size)
          obtain ⟨vb2, vc2, rfl, h21, h22, -⟩ := row_sl hrow2
          have sk := row_sl hrow2
          have sx := sx.below hb6
          clear hrow2 hb6
          rw [q2.out]
          have hmap := q3.out
          generalize wordsL S = K at *
          generalize wordsP S = pk at *
          have hlen : K.length = X.length := by simpa using congrArg List.length hmap
          have sx := sx.below (belowAlloc w6 (.cells #[.int .i64 pk.1, .int .i64 pk.2] 25))
          have sk := sk.below (belowAlloc w6 (.cells #[.int .i64 pk.1, .int .i64 pk.2] 25))
          have b7 := b6.alloc b6.size (.cells #[.int .i64 pk.1, .int .i64 pk.2] 25)
          rw [hlen] at sk
          rw [hlen]
          clear q2 q3 hE C1 C2
          go_wp2_with fail
          generalize (w6.alloc (.cells #[.int .i64 pk.1, .int .i64 pk.2] 25)) = w7 at *
          go_loopg [14] X.length (fun g s14 wr => ∃ i : Nat, s14 = .int .i64 i ∧ i ≤ X.length ∧ X.length - i ≤ g ∧ ∃ d, wr = w7.drewN d)
          case atStart => exact ⟨0, rfl, Nat.zero_le _, by omega, 0, rfl⟩
          case round =>
            obtain ⟨i, rfl, hi, hg, d, rfl⟩ := hrel
            by_cases hlt : i < X.length
            · obtain ⟨gx, ex, -, cx⟩ := sx.at i hlt
              subst ex
              obtain ⟨gk', ek, -, ck⟩ := sk.at i (by omega)
              subst ek
              have cx := cx _ rfl
              have ck := ck _ rfl
              have hd : (K[i]).d = (X[i]).d := by
                have := congrArg (fun l => l[i]?) hmap
                simpa [hlt, hlen] using this
              generalize hxk : X[i] = x at *
              generalize hkk : K[i] = y at *
              obtain ⟨⟨xk, xt, xn⟩, xp, xb⟩ := x
              obtain ⟨⟨yk, yt, yn⟩, yp, yb⟩ := y
              obtain ⟨rfl, rfl, rfl⟩ : yk = xk ∧ yt = xt ∧ yn = xn := by simpa using hd
              obtain ⟨x0, x1, x2, -, -⟩ := cx
              obtain ⟨y0, y1, y2, -, -⟩ := ck
              simp only at x0 x1 x2 y0 y1 y2
              clear hd hxk hkk hmap sx sk
              go_wp2_with fail
              go_quiet (fail)
              go_wp2_with fail
              go_roundg (X.length - (i + 1))
              case measure => omega
              case rel => exact ⟨i + 1, by simp, hlt, by omega, _, rfl⟩
            · go_wp2_with fail
              go_ret
              exact ⟨by simp, below_drewN b7 _⟩
    · go_wp2_with fail
      go_ret
      exact ⟨rfl, b2.alloc b2.size _⟩
  · go_wp2_with fail
    go_ret
    exact ⟨rfl, b2.alloc b2.size _⟩
end Go.Proofs.YtjgpbpmicopemaaDoor
