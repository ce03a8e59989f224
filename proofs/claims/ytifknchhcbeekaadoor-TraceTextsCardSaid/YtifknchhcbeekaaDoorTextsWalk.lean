/-
  TraceTexts answers true, for every two runs, in every world in which strconv's table holds its numbers.
-/
import Derived.Test.YtifknchhcbeekaaDoorRefinesWalk
import Derived.Test.YtifknchhcbeekaaDoorTextLaw
import Derived.Deep.DeepCutAuto
import Derived.BigQuiet
import Derived.Lib.QuietBelow
namespace Go.Proofs.YtifknchhcbeekaaDoor
open Go.RowKit Go.Lib Go.Sort

set_option maxHeartbeats 8000000 in
set_option maxRecDepth 100000 in
theorem texts_any (v1 v2 : Value) (a b : Rn) (w : World) (ht : Tab w) (h1 : RunIs w w.heap.size v1 a) (h2 : RunIs w w.heap.size v2 b)
    (fa : ∀ e ∈ a.evs, Fits e.2) (fb : ∀ e ∈ b.evs, Fits e.2) (xa : Fits a.exit) (xb : Fits b.exit) :
    Calls Tryd.prog 6 #[v1, v2] w (BB true w) := by
  obtain ⟨ak, ax, ae, al, ag⟩ := a
  obtain ⟨aA, an, ac, aL, am, ap, hva, a1, a2, a3, a4, a5, a6⟩ := h1
  dsimp only at hva a1 a4 fa xa
  subst hva
  have Ka : RunIs w w.heap.size (.agg #[.int .i64 ak, .int .i64 ax, .slice aA an ac, .slice aL am ap, .int .i64 ag]) ⟨ak, ax, ae, al, ag⟩ := ⟨aA, an, ac, aL, am, ap, rfl, a1, a2, a3, a4, a5, a6⟩
  have Hlena : an ≤ 9223372036854775807 := by omega
  have Ea := Lib.hid a1
  have Fa := Lib.hid (And.intro fa xa)
  clear a1 a2 a3 a4 a5 a6 fa xa
  obtain ⟨bk, bx, be, bl, bg⟩ := b
  obtain ⟨bA, bn, bc, bL, bm, bp, hvb, b1, b2, b3, b4, b5, b6⟩ := h2
  dsimp only at hvb b1 b4 fb xb
  subst hvb
  have Kb : RunIs w w.heap.size (.agg #[.int .i64 bk, .int .i64 bx, .slice bA bn bc, .slice bL bm bp, .int .i64 bg]) ⟨bk, bx, be, bl, bg⟩ := ⟨bA, bn, bc, bL, bm, bp, rfl, b1, b2, b3, b4, b5, b6⟩
  have Hlenb : bn ≤ 9223372036854775807 := by omega
  have Eb := Lib.hid b1
  have Fb := Lib.hid (And.intro fb xb)
  clear b1 b2 b3 b4 b5 b6 fb xb
  have T0 := Lib.hid (Two.start Ka Kb ht)
  clear ht Ka Kb
  by_cases na : an ≤ 100
  · skip
    by_cases nb : bn ≤ 100
    · skip
      by_cases ka1 : 1 ≤ ak
      · skip
        by_cases ka4 : ak ≤ 4
        · skip
          by_cases kb1 : 1 ≤ bk
          · skip
            by_cases kb4 : bk ≤ 4
            · skip
              go_enter Tryd.func6, Tryd.ntmps6
              go_wp2_with fail
              refine (awake_any _ T0.out.tab).mono ?_
              rintro e w1 ⟨rfl, hb⟩
              have T1 := Lib.hid (T0.out.step hb)
              clear hb
              obtain ⟨q0, q1, q2, q3, q4⟩ := T1.out.boxT.cells
              obtain ⟨r0, r1, r2, r3, r4⟩ := T1.out.boxS.cells
              go_wp2_with fail
              go_loop [5] (fun u => ∃ i : Nat, i ≤ an ∧ u = .int .i64 i ∧ Hid (∀ j, j < i → ∀ x, ae[j]? = some x → x.1 = 1 ∨ x.1 = 2)) (fun u => an - (RowKit.intOf u).toNat)
              case atStart => exact ⟨0, Nat.zero_le _, rfl, Lib.hid (fun j hj => absurd hj (Nat.not_lt_zero _))⟩
              case round =>
                obtain ⟨ia, hia, rfl, Ra⟩ := hrel
                by_cases hlt : ia < an
                · obtain ⟨x, hx⟩ : ∃ x, ae[ia]? = some x := ⟨_, List.getElem?_eq_getElem (by have := Ea.out.1; omega)⟩
                  have hev := Ea.out.below T1.out.low
                  obtain ⟨b1, o1, hAd, hlb, hc0, hc1⟩ := hev.at_ hx
                  subst hAd
                  have X := Lib.hid hx
                  clear hx hev hc1
                  obtain ⟨x0, x1⟩ := x
                  simp only at hc0
                  have hnext : (x0 = 1 ∨ x0 = 2) → Hid (∀ j, j < ia + 1 → ∀ x, ae[j]? = some x → x.1 = 1 ∨ x.1 = 2) := fun h => Lib.hid (fun j hj y hy => by
                    by_cases e : j = ia
                    · subst e
                      rw [X.out] at hy
                      injection hy with hy
                      subst hy
                      exact h
                    · exact Ra.out j (by omega) y hy)
                  have HN := Lib.hid hnext
                  clear hnext
                  by_cases k1 : x0 = 1
                  · subst k1
                    go_wp2_with fail
                    go_round
                    case rel => exact ⟨ia + 1, by omega, by go_num, HN.out (Or.inl rfl)⟩
                    case measure => simp [RowKit.intOf]; omega
                  · by_cases k2 : x0 = 2
                    · subst k2
                      go_wp2_with fail
                      go_round
                      case rel => exact ⟨ia + 1, by omega, by go_num, HN.out (Or.inr rfl)⟩
                      case measure => simp [RowKit.intOf]; omega
                    · have k1' : (x0 != 1) = true := by simpa using k1
                      have k2' : (x0 != 2) = true := by simpa using k2
                      clear k1 k2
                      go_wp2_with fail
                      go_ret
                      exact ⟨rfl, T1.out.low⟩
                · obtain rfl : an = ia := by omega
                  have Pa : Hid (Plain ae) := Lib.hid (fun x hx => by
                    obtain ⟨j, hj⟩ := List.mem_iff_getElem?.1 hx
                    exact Ra.out j (by have h1 := (List.getElem?_eq_some_iff.1 hj).1; have h2 := Ea.out.1; omega) x hj)
                  clear Ra hlt
                  go_wp2_with fail
                  go_loop [6] (fun u => ∃ i : Nat, i ≤ bn ∧ u = .int .i64 i ∧ Hid (∀ j, j < i → ∀ x, be[j]? = some x → x.1 = 1 ∨ x.1 = 2)) (fun u => bn - (RowKit.intOf u).toNat)
                  case atStart => exact ⟨0, Nat.zero_le _, rfl, Lib.hid (fun j hj => absurd hj (Nat.not_lt_zero _))⟩
                  case round =>
                    obtain ⟨ib, hib, rfl, Rb⟩ := hrel
                    by_cases hlt : ib < bn
                    · obtain ⟨x, hx⟩ : ∃ x, be[ib]? = some x := ⟨_, List.getElem?_eq_getElem (by have := Eb.out.1; omega)⟩
                      have hev := Eb.out.below T1.out.low
                      obtain ⟨b1, o1, hAd, hlb, hc0, hc1⟩ := hev.at_ hx
                      subst hAd
                      have X := Lib.hid hx
                      clear hx hev hc1
                      obtain ⟨x0, x1⟩ := x
                      simp only at hc0
                      have hnext : (x0 = 1 ∨ x0 = 2) → Hid (∀ j, j < ib + 1 → ∀ x, be[j]? = some x → x.1 = 1 ∨ x.1 = 2) := fun h => Lib.hid (fun j hj y hy => by
                        by_cases e : j = ib
                        · subst e
                          rw [X.out] at hy
                          injection hy with hy
                          subst hy
                          exact h
                        · exact Rb.out j (by omega) y hy)
                      have HN := Lib.hid hnext
                      clear hnext
                      by_cases k1 : x0 = 1
                      · subst k1
                        go_wp2_with fail
                        go_round
                        case rel => exact ⟨ib + 1, by omega, by go_num, HN.out (Or.inl rfl)⟩
                        case measure => simp [RowKit.intOf]; omega
                      · by_cases k2 : x0 = 2
                        · subst k2
                          go_wp2_with fail
                          go_round
                          case rel => exact ⟨ib + 1, by omega, by go_num, HN.out (Or.inr rfl)⟩
                          case measure => simp [RowKit.intOf]; omega
                        · have k1' : (x0 != 1) = true := by simpa using k1
                          have k2' : (x0 != 2) = true := by simpa using k2
                          clear k1 k2
                          go_wp2_with fail
                          go_ret
                          exact ⟨rfl, T1.out.low⟩
                    · obtain rfl : bn = ib := by omega
                      have Pb : Hid (Plain be) := Lib.hid (fun x hx => by
                        obtain ⟨j, hj⟩ := List.mem_iff_getElem?.1 hx
                        exact Rb.out j (by have h1 := (List.getElem?_eq_some_iff.1 hj).1; have h2 := Eb.out.1; omega) x hj)
                      clear Rb hlt
                      go_upto_region 15 with fail
                      go_cut [7] (fun s7 wx => s7 = .bool (sameText ⟨ak, ax, ae, al, ag⟩ ⟨bk, bx, be, bl, bg⟩) ∧ Two w wx w.heap.size (w.heap.size + 1) (.int .i64 ak) (.int .i64 ax) (.slice aA an ac) (.slice aL am ap) (.int .i64 ag) (.int .i64 bk) (.int .i64 bx) (.slice bA bn bc) (.slice bL bm bp) (.int .i64 bg) ⟨ak, ax, ae, al, ag⟩ ⟨bk, bx, be, bl, bg⟩)
                      case first =>
                        by_cases he : ae = be
                        · have hd : decide (ae = be) = true := by simpa using he
                          by_cases hk : ak = bk
                          · by_cases k1 : ak = 1
                            · by_cases hx : ax = bx
                              · have HM : Hid (sameText ⟨ak, ax, ae, al, ag⟩ ⟨bk, bx, be, bl, bg⟩ = true) := Lib.hid (by simp [sameText, he, hk, hx])
                                have tk : (ak == bk) = true := by simpa using hk
                                have t1 : (ak != 1) = false := by simpa using k1
                                have tx : (ax == bx) = true := by simpa using hx
                                have HD := Lib.hid hd
                                clear he hk k1 hx hd
                                go_wp2_with fail
                                refine (refEvents aA bA _ _ ac bc w.heap.size ae be _ (Ea.out.below T1.out.low) (Eb.out.below T1.out.low) Hlena Hlenb).mono ?_
                                rintro e w2 ⟨rfl, q, rfl⟩
                                rw [HD.out]
                                go_wp2_with fail
                                go_meet
                                exact ⟨by rw [HM.out], T1.out.step (below_drewN (Below.refl _ _) _)⟩
                              · have HM : Hid (sameText ⟨ak, ax, ae, al, ag⟩ ⟨bk, bx, be, bl, bg⟩ = false) := Lib.hid (by simp [sameText, k1, hx])
                                have tk : (ak == bk) = true := by simpa using hk
                                have t1 : (ak != 1) = false := by simpa using k1
                                have tx : (ax == bx) = false := by simpa using hx
                                have HD := Lib.hid hd
                                clear he hk k1 hx hd
                                go_wp2_with fail
                                refine (refEvents aA bA _ _ ac bc w.heap.size ae be _ (Ea.out.below T1.out.low) (Eb.out.below T1.out.low) Hlena Hlenb).mono ?_
                                rintro e w2 ⟨rfl, q, rfl⟩
                                rw [HD.out]
                                go_wp2_with fail
                                go_meet
                                exact ⟨by rw [HM.out], T1.out.step (below_drewN (Below.refl _ _) _)⟩
                            · have HM : Hid (sameText ⟨ak, ax, ae, al, ag⟩ ⟨bk, bx, be, bl, bg⟩ = true) := Lib.hid (by simp [sameText, he, hk]; left; rw [← hk]; exact k1)
                              have tk : (ak == bk) = true := by simpa using hk
                              have t1 : (ak != 1) = true := by simpa using k1
                              have HD := Lib.hid hd
                              clear he hk k1 hd
                              go_wp2_with fail
                              refine (refEvents aA bA _ _ ac bc w.heap.size ae be _ (Ea.out.below T1.out.low) (Eb.out.below T1.out.low) Hlena Hlenb).mono ?_
                              rintro e w2 ⟨rfl, q, rfl⟩
                              rw [HD.out]
                              go_wp2_with fail
                              go_meet
                              exact ⟨by rw [HM.out], T1.out.step (below_drewN (Below.refl _ _) _)⟩
                          · have HM : Hid (sameText ⟨ak, ax, ae, al, ag⟩ ⟨bk, bx, be, bl, bg⟩ = false) := Lib.hid (by simp [sameText, hk])
                            have tk : (ak == bk) = false := by simpa using hk
                            have HD := Lib.hid hd
                            clear he hk hd
                            go_wp2_with fail
                            refine (refEvents aA bA _ _ ac bc w.heap.size ae be _ (Ea.out.below T1.out.low) (Eb.out.below T1.out.low) Hlena Hlenb).mono ?_
                            rintro e w2 ⟨rfl, q, rfl⟩
                            rw [HD.out]
                            go_wp2_with fail
                            go_meet
                            exact ⟨by rw [HM.out], T1.out.step (below_drewN (Below.refl _ _) _)⟩
                        · have HM : Hid (sameText ⟨ak, ax, ae, al, ag⟩ ⟨bk, bx, be, bl, bg⟩ = false) := Lib.hid (by simp [sameText, he])
                          have hd : decide (ae = be) = false := by simpa using he
                          have HD := Lib.hid hd
                          clear he hd
                          go_wp2_with fail
                          refine (refEvents aA bA _ _ ac bc w.heap.size ae be _ (Ea.out.below T1.out.low) (Eb.out.below T1.out.low) Hlena Hlenb).mono ?_
                          rintro e w2 ⟨rfl, q, rfl⟩
                          rw [HD.out]
                          go_wp2_with fail
                          go_meet
                          exact ⟨by rw [HM.out], T1.out.step (below_drewN (Below.refl _ _) _)⟩
                      case rest =>
                        obtain ⟨rfl, hcut⟩ := hcut
                        have T9 := Lib.hid hcut
                        clear hcut q0 q1 q2 q3 q4 r0 r1 r2 r3 r4
                        obtain ⟨q0, q1, q2, q3, q4⟩ := T9.out.boxT.cells
                        obtain ⟨r0, r1, r2, r3, r4⟩ := T9.out.boxS.cells
                        have kq0 := cell_regrown q0
                        have kq1 := cell_regrown q1
                        have kq2 := cell_regrown q2
                        have kq3 := cell_regrown q3
                        have kq4 := cell_regrown q4
                        have kr0 := cell_regrown r0
                        have kr1 := cell_regrown r1
                        have kr2 := cell_regrown r2
                        have kr3 := cell_regrown r3
                        have kr4 := cell_regrown r4
                        have HT := Lib.hid (fun d os => T9.out.step (below_regrown wc d os))
                        have C0 : ∀ d os, Calls Tryd.prog 9 #[.agg #[.int .i64 ak, .int .i64 ax, .slice aA an ac, .slice aL am ap, .int .i64 ag]] (grow (redrawn wc d) os) fun e w'' => e = .returned (.string ⟨(textL ⟨ak, ax, ae, al, ag⟩).toArray⟩) ∧ ∃ p : Regrown, w'' = grow (redrawn wc p.d) p.os := fun d os => Calls.regrown_of (text_any _ ⟨ak, ax, ae, al, ag⟩ _ (HT.out d os).isT (HT.out d os).tab Fa.out.1 Fa.out.2 (by have := Ea.out.1; simp only; omega))
                        have C1 : ∀ d os, Calls Tryd.prog 9 #[.agg #[.int .i64 bk, .int .i64 bx, .slice bA bn bc, .slice bL bm bp, .int .i64 bg]] (grow (redrawn wc d) os) fun e w'' => e = .returned (.string ⟨(textL ⟨bk, bx, be, bl, bg⟩).toArray⟩) ∧ ∃ p : Regrown, w'' = grow (redrawn wc p.d) p.os := fun d os => Calls.regrown_of (text_any _ ⟨bk, bx, be, bl, bg⟩ _ (HT.out d os).isS (HT.out d os).tab Fb.out.1 Fb.out.2 (by have := Eb.out.1; simp only; omega))
                        have hfin : (textL ⟨ak, ax, ae, al, ag⟩ == textL ⟨bk, bx, be, bl, bg⟩) = sameText ⟨ak, ax, ae, al, ag⟩ ⟨bk, bx, be, bl, bg⟩ := by
                          rw [← text_same _ _ ka1 ka4 kb1 kb4 Pa.out Pb.out]
                          by_cases h : textL ⟨ak, ax, ae, al, ag⟩ = textL ⟨bk, bx, be, bl, bg⟩ <;> simp [h]
                        have HFIN := Lib.hid hfin
                        clear hfin
                        have D0 := Lib.hid C0
                        have D1 := Lib.hid C1
                        clear C0 C1
                        go_wp2_with fail
                        refine wp_region_quiet_below (by kernel_rfl) (by kernel_rfl) ?_
                        repeat (any_goals (first | go_big_quiet_step (first | (with_reducible exact D0.out _ _) | (with_reducible exact D1.out _ _)) | quiet_step (first | (with_reducible exact D0.out _ _) | (with_reducible exact D1.out _ _))))
                        refine wpQuiet_nil ?_
                        intro _ hw'
                        obtain ⟨⟨dq, osq⟩, hw''⟩ := hw'
                        subst hw''
                        go_wp2_with fail
                        go_ret
                        exact ⟨by simp [HFIN.out], (HT.out dq osq).low⟩
            · go_enter Tryd.func6, Tryd.ntmps6
              go_wp2_with fail
              refine (awake_any _ T0.out.tab).mono ?_
              rintro e w1 ⟨rfl, hb⟩
              have T1 := Lib.hid (T0.out.step hb)
              clear hb
              obtain ⟨q0, q1, q2, q3, q4⟩ := T1.out.boxT.cells
              obtain ⟨r0, r1, r2, r3, r4⟩ := T1.out.boxS.cells
              go_wp2_with fail
              go_ret
              exact ⟨rfl, T1.out.low⟩
          · go_enter Tryd.func6, Tryd.ntmps6
            go_wp2_with fail
            refine (awake_any _ T0.out.tab).mono ?_
            rintro e w1 ⟨rfl, hb⟩
            have T1 := Lib.hid (T0.out.step hb)
            clear hb
            obtain ⟨q0, q1, q2, q3, q4⟩ := T1.out.boxT.cells
            obtain ⟨r0, r1, r2, r3, r4⟩ := T1.out.boxS.cells
            go_wp2_with fail
            go_ret
            exact ⟨rfl, T1.out.low⟩
        · go_enter Tryd.func6, Tryd.ntmps6
          go_wp2_with fail
          refine (awake_any _ T0.out.tab).mono ?_
          rintro e w1 ⟨rfl, hb⟩
          have T1 := Lib.hid (T0.out.step hb)
          clear hb
          obtain ⟨q0, q1, q2, q3, q4⟩ := T1.out.boxT.cells
          obtain ⟨r0, r1, r2, r3, r4⟩ := T1.out.boxS.cells
          go_wp2_with fail
          go_ret
          exact ⟨rfl, T1.out.low⟩
      · go_enter Tryd.func6, Tryd.ntmps6
        go_wp2_with fail
        refine (awake_any _ T0.out.tab).mono ?_
        rintro e w1 ⟨rfl, hb⟩
        have T1 := Lib.hid (T0.out.step hb)
        clear hb
        obtain ⟨q0, q1, q2, q3, q4⟩ := T1.out.boxT.cells
        obtain ⟨r0, r1, r2, r3, r4⟩ := T1.out.boxS.cells
        go_wp2_with fail
        go_ret
        exact ⟨rfl, T1.out.low⟩
    · go_enter Tryd.func6, Tryd.ntmps6
      go_wp2_with fail
      refine (awake_any _ T0.out.tab).mono ?_
      rintro e w1 ⟨rfl, hb⟩
      have T1 := Lib.hid (T0.out.step hb)
      clear hb
      obtain ⟨q0, q1, q2, q3, q4⟩ := T1.out.boxT.cells
      obtain ⟨r0, r1, r2, r3, r4⟩ := T1.out.boxS.cells
      go_wp2_with fail
      go_ret
      exact ⟨rfl, T1.out.low⟩
  · go_enter Tryd.func6, Tryd.ntmps6
    go_wp2_with fail
    refine (awake_any _ T0.out.tab).mono ?_
    rintro e w1 ⟨rfl, hb⟩
    have T1 := Lib.hid (T0.out.step hb)
    clear hb
    obtain ⟨q0, q1, q2, q3, q4⟩ := T1.out.boxT.cells
    obtain ⟨r0, r1, r2, r3, r4⟩ := T1.out.boxS.cells
    go_wp2_with fail
    go_ret
    exact ⟨rfl, T1.out.low⟩
end Go.Proofs.YtifknchhcbeekaaDoor
