import Derived.Test.YtjgpbpmicopemaaGreatDoorPb10

/-
  The parser's statement.
-/
namespace Go.Proofs.YtjgpbpmicopemaaGreatDoor
open Go.RowKit Go.Shelf
set_option maxRecDepth 20000

set_option maxHeartbeats 16000000 in
theorem statementZ {p : Nat} {E : Int × Int} {f : Nat} (hf0 : f ≤ 10000000) (ih : ∀ f', f' ≤ f → AllS p E f') (s : Sx) (w : World) (h : PrAt w p E s) (hno : statementP (f + 1) s ≠ .out) :
    Calls Tryz.prog 82 #[.pointer (some ⟨p, 0, none⟩)] w (Post p E w encS (statementP (f + 1) s)) := by
  unfold statementP at hno ⊢
  rw [deepP_eq] at hno ⊢
  obtain ⟨R, hG⟩ : ∃ R, (do
    if ← isP [123] then blockP f
    else if ← mayP [59] then stmtP 2 [] [] none none []
    else if ← mayP [105, 102] then
      let e ← withinP f
      let x ← statementP f
      if ← mayP [101, 108, 115, 101] then
        let y ← statementP f
        stmtP 6 [] [] (some e) none [x, y]
      else stmtP 6 [] [] (some e) none [x]
    else if ← mayP [119, 104, 105, 108, 101] then
      let e ← withinP f
      let x ← statementP f
      stmtP 7 [] [] (some e) none [x]
    else if ← anyP [[98, 114, 101, 97, 107], [99, 111, 110, 116, 105, 110, 117, 101]] then
      let w ← takeP
      mustP [59]
      stmtP (if w.d.t = [98, 114, 101, 97, 107] then 8 else 9) [] [] none none []
    else if ← mayP [114, 101, 116, 117, 114, 110] then
      if ← isP [59] then
        mustP [59]
        stmtP 10 [] [] none none []
      else
        let e ← binaryP f 0
        mustP [59]
        stmtP 10 [] [] (some e) none []
    else if ← mayP [111, 117, 116] then
      let e ← withinP f
      mustP [59]
      stmtP 11 [] [] (some e) none []
    else
      let e ← binaryP f 0
      if ← mayP [61] then
        let r ← binaryP f 0
        mustP [59]
        stmtP 4 [] [] (some r) (some e) []
      else
        mustP [59]
        stmtP 5 [] [] (some e) none [] : Pr St) s.down = R := ⟨_, rfl⟩
  rw [hG] at hno ⊢
  have hno : R ≠ .out := by rintro rfl; exact hno rfl
  have hlt := h.lt
  refine calls_of_deeper Tryz.func82 rfl hno (fun w1 w2 v a he hm => he.later (Nat.le_refl _) hm hlt) ?_
  simp only [Tryz.ntmps82, List.size_toArray, List.length_cons, List.length_nil, Nat.reduceAdd, Nat.reduceSub, Array.replicate_succ, Array.replicate_zero, List.push_toArray, List.append_toArray, List.nil_append, List.cons_append]
  go_wp2_with fail
  refine (deeperZ p E s _ h).mono ?_
  rintro e w1 ⟨⟨q, rfl, hqp, hqs, hqc⟩, hP1, hM1⟩
  go_wp2_with fail
  refine (atZ p E _ _ hP1).mono ?_
  rintro e w2 ⟨rfl, hb2⟩
  have hP2 := hP1.below hb2
  have hM2 := hM1.trans (Mv.below (X := fun k => k = p) hb2)
  have hBlt := hP2.lt
  have hBw := hM2.size
  have hBp : w2.heap.size ≠ p := by omega
  have hqB : q < w2.heap.size := Nat.lt_of_lt_of_le (cell_lt hqc) hb2.size
  have hqc2 : w2.cell? ⟨q, 0, none⟩ = some (.pointer (some ⟨p, 0, none⟩)) := (Mv.below (X := fun k => k = p) hb2).cell hqc hqp
  have hbx3 := heap_alloc_new w2 (.cells #[.int .i64 0, .int .i64 (posOf E s.down.ws).1, .int .i64 (posOf E s.down.ws).2, .string ⟨#[]⟩, .string ⟨#[]⟩, .pointer none, .pointer none, .slice none 0 0, .int .i64 0] 125)
  have hP3 := hP2.below (belowAlloc w2 (.cells #[.int .i64 0, .int .i64 (posOf E s.down.ws).1, .int .i64 (posOf E s.down.ws).2, .string ⟨#[]⟩, .string ⟨#[]⟩, .pointer none, .pointer none, .slice none 0 0, .int .i64 0] 125))
  have hM3 := hM2.more (.cells #[.int .i64 0, .int .i64 (posOf E s.down.ws).1, .int .i64 (posOf E s.down.ws).2, .string ⟨#[]⟩, .string ⟨#[]⟩, .pointer none, .pointer none, .slice none 0 0, .int .i64 0] 125)
  have hqc3 := cell_alloc hqc2 (.cells #[.int .i64 0, .int .i64 (posOf E s.down.ws).1, .int .i64 (posOf E s.down.ws).2, .string ⟨#[]⟩, .string ⟨#[]⟩, .pointer none, .pointer none, .slice none 0 0, .int .i64 0] 125)
  go_wp2_with fail
  generalize w2.alloc (.cells #[.int .i64 0, .int .i64 (posOf E s.down.ws).1, .int .i64 (posOf E s.down.ws).2, .string ⟨#[]⟩, .string ⟨#[]⟩, .pointer none, .pointer none, .slice none 0 0, .int .i64 0] 125) = w3 at *
  have hqB' : q ≠ w2.heap.size := by omega
  have ie := allE p E f hf0
  have b3 : Bld p E w w2.heap.size q _ _ w3 s.down 0 (.pointer none) (.pointer none) (.slice none 0 0) := ⟨hP3, hM3, hbx3, hqc3, hBlt, hBw, hqB', hqp⟩
  clear hM2 hP2 hb2 hqc2 hP3 hM3 hbx3 hqc3
  obtain ⟨i0, hi, hz0, hz1, hz2⟩ := info_parts info71
  rw [bind_ok (rfl : isP [123] s.down = .ok (isB s.down.ws [123]) s.down)] at hG
  refine (isZ p E s.down [123] _ b3.P).mono ?_
  rintro e w' ⟨rfl, rfl⟩
  cases hb0 : isB s.down.ws [123]
  · rw [hb0] at hG
    simp only [Bool.false_eq_true, if_false] at hG
    go_wp2_with fail
    refine (mayZ p E s.down [59] _ b3.P).mono ?_
    intro e w10 hq
    obtain ⟨s10, rfl, hB⟩ | ⟨k10, s10, v10, hx10, hG, rfl, rfl, hP10, hM10, hm10⟩ := hq.cut hG hno b3.M
    · go_wp2_with fail
      exact ⟨q, rfl, hq.1.cell b3.qc hqp, hB⟩
    have b10 := b3.call hP10 hM10 hm10
    clear hP10 hM10
    cases k10
    · simp only [Bool.false_eq_true, if_false] at hG
      go_wp2_with fail
      refine (mayZ p E s10 [105, 102] _ b10.P).mono ?_
      intro e w11 hq
      obtain ⟨s11, rfl, hB⟩ | ⟨k11, s11, v11, hx11, hG, rfl, rfl, hP11, hM11, hm11⟩ := hq.cut hG hno b10.M
      · go_wp2_with fail
        exact ⟨q, rfl, hq.1.cell b10.qc hqp, hB⟩
      have b11 := b10.call hP11 hM11 hm11
      clear hP11 hM11
      cases k11
      · simp only [Bool.false_eq_true, if_false] at hG
        go_wp2_with fail
        refine (mayZ p E s11 [119, 104, 105, 108, 101] _ b11.P).mono ?_
        intro e w12 hq
        obtain ⟨s12, rfl, hB⟩ | ⟨k12, s12, v12, hx12, hG, rfl, rfl, hP12, hM12, hm12⟩ := hq.cut hG hno b11.M
        · go_wp2_with fail
          exact ⟨q, rfl, hq.1.cell b11.qc hqp, hB⟩
        have b12 := b11.call hP12 hM12 hm12
        clear hP12 hM12
        cases k12
        · simp only [Bool.false_eq_true, if_false] at hG
          have b13 := b12
          rw [bind_ok (rfl : anyP [[98, 114, 101, 97, 107], [99, 111, 110, 116, 105, 110, 117, 101]] s12 = .ok (anyB s12.ws [[98, 114, 101, 97, 107], [99, 111, 110, 116, 105, 110, 117, 101]]) s12)] at hG
          have b13a := b13.call (b13.P.below (belowAlloc w12 (rowOf [[98, 114, 101, 97, 107], [99, 111, 110, 116, 105, 110, 117, 101]]))) (b13.M.more _) (Mv.alloc _ _)
          have C1 := anyZ p E s12 [[98, 114, 101, 97, 107], [99, 111, 110, 116, 105, 110, 117, 101]] w12.heap.size _ b13a.P (by decide) (row_cells (heap_alloc_new w12 (rowOf [[98, 114, 101, 97, 107], [99, 111, 110, 116, 105, 110, 117, 101]])))
          go_wp2_with fail
          refine C1.mono ?_
          rintro e w' ⟨rfl, rfl⟩
          generalize w12.alloc (rowOf [[98, 114, 101, 97, 107], [99, 111, 110, 116, 105, 110, 117, 101]]) = w12r at *
          replace b13 := b13a
          clear b13a C1
          cases hb2 : anyB s12.ws [[98, 114, 101, 97, 107], [99, 111, 110, 116, 105, 110, 117, 101]]
          · rw [hb2] at hG
            simp only [Bool.false_eq_true, if_false] at hG
            go_wp2_with fail
            refine (mayZ p E s12 [114, 101, 116, 117, 114, 110] _ b13.P).mono ?_
            intro e w15 hq
            obtain ⟨s15, rfl, hB⟩ | ⟨k15, s15, v15, hx15, hG, rfl, rfl, hP15, hM15, hm15⟩ := hq.cut hG hno b13.M
            · go_wp2_with fail
              exact ⟨q, rfl, hq.1.cell b13.qc hqp, hB⟩
            have b15 := b13.call hP15 hM15 hm15
            clear hP15 hM15
            cases k15
            · simp only [Bool.false_eq_true, if_false] at hG
              go_wp2_with fail
              refine (mayZ p E s15 [111, 117, 116] _ b15.P).mono ?_
              intro e w16 hq
              obtain ⟨s16, rfl, hB⟩ | ⟨k16, s16, v16, hx16, hG, rfl, rfl, hP16, hM16, hm16⟩ := hq.cut hG hno b15.M
              · go_wp2_with fail
                exact ⟨q, rfl, hq.1.cell b15.qc hqp, hB⟩
              have b16 := b15.call hP16 hM16 hm16
              clear hP16 hM16
              cases k16
              · simp only [Bool.false_eq_true, if_false] at hG
                go_wp2_with fail
                refine (ie.binary 0 s16 _ (by omega) (by omega) b16.P (ne_cut hG hno)).mono ?_
                intro e w30 hq
                obtain ⟨s30, rfl, hB⟩ | ⟨a30, s30, v30, hx30, hG, rfl, ⟨x30, rfl, hE30⟩, hP30, hM30, hm30⟩ := hq.cut hG hno b16.M
                · go_wp2_with fail
                  exact ⟨q, rfl, hq.1.cell b16.qc hqp, hB⟩
                have b30 := b16.call hP30 hM30 hm30
                clear hP30 hM30
                have hH30 := Held.mk b16 hE30
                unfold ptr
                obtain ⟨c0, c1, c2, c3, c4, c5, c6, c7, c8, cf⟩ := cells9 b30.box
                go_wp2_with fail
                have b31 := ((b30.putK 5).putE (.pointer (some ⟨x30, 0, none⟩)))
                have hH30' : Held w w2.heap.size _ ((w30.setCell ⟨w2.heap.size, 0, none⟩ (.int .i64 5)).setCell ⟨w2.heap.size, 5, none⟩ (.pointer (some ⟨x30, 0, none⟩))) _ _ := hH30.put.put
                have hsz31 : ((w30.setCell ⟨w2.heap.size, 0, none⟩ (.int .i64 5)).setCell ⟨w2.heap.size, 5, none⟩ (.pointer (some ⟨x30, 0, none⟩))).heap.size = w30.heap.size := by simp
                clear c0 c1 c2 c3 c4 c5 c6 c7 c8 cf
                generalize (w30.setCell ⟨w2.heap.size, 0, none⟩ (.int .i64 5)).setCell ⟨w2.heap.size, 5, none⟩ (.pointer (some ⟨x30, 0, none⟩)) = w31 at *
                refine (mayZ p E s30 [61] _ b31.P).mono ?_
                intro e w32 hq
                obtain ⟨s32, rfl, hB⟩ | ⟨k32, s32, v32, hx32, hG, rfl, rfl, hP32, hM32, hm32⟩ := hq.cut hG hno b31.M
                · go_wp2_with fail
                  exact ⟨q, rfl, hq.1.cell b31.qc hqp, hB⟩
                have b32 := b31.call hP32 hM32 hm32
                clear hP32 hM32
                have hH32 := hH30'.call hm32 hlt
                cases k32
                · simp only [Bool.false_eq_true, if_false] at hG
                  go_wp2_with fail
                  refine (mustZ p E s32 [59] _ b32.P).mono ?_
                  intro e w33 hq
                  obtain ⟨s33, rfl, hB⟩ | ⟨_, s33, v33, hx33, hG, rfl, -, hP33, hM33, hm33⟩ := hq.cut hG hno b32.M
                  · go_wp2_with fail
                    exact ⟨q, rfl, hq.1.cell b32.qc hqp, hB⟩
                  have b33 := b32.call hP33 hM33 hm33
                  clear hP33 hM33
                  have hH33 := hH32.call hm33 hlt
                  obtain ⟨c0, c1, c2, c3, c4, c5, c6, c7, c8, cf⟩ := cells9 b33.box
                  go_wp2_with fail
                  refine (stmtMany hlt b33.M.size b33.P 5 _ _ [] [] (some a30) none _ _ [] _ hH33.one rfl noSts).mono ?_
                  rintro e w99 ⟨b99, rfl, hP99, hm99, hE99⟩
                  go_wp2_with fail
                  exact bodyPostQ_ret (v := ptr b99) (fun w' => by simp [results, Tryz.results82, go_sem, ptr]) rfl (hm99.cell b33.qc hqp) (Post.wellc hG (b33.M.trans hm99) hP99 ⟨b99, rfl, hE99⟩)
                · simp only [if_true] at hG
                  have hN40 := ie.binary 0 s32 w32.drew (by omega) (by omega) (b32.P.none (Mv.drew _)) (ne_cut hG hno)
                  have b32d := b32.call (b32.P.none (Mv.drew w32)) b32.M.drawn (Mv.drew w32)
                  have hH32d := hH32.call (Mv.drew w32) hlt
                  obtain ⟨c0, c1, c2, c3, c4, c5, c6, c7, c8, cf⟩ := cells9 b32d.box
                  go_wp2_with fail
                  go_region_with (first | (go_at_call 106; (with_reducible refine Calls.mono hN40 ?_); intro e w40 hq; obtain ⟨s40, rfl, hB⟩ | ⟨a40, s40, v40, hx40, hG, rfl, ⟨x40, rfl, hE40⟩, hP40, hM40, hm40⟩ := hq.cut hG hno b32d.M; (· exact ⟨q, rfl, hq.1.cell b32d.qc hqp, hB⟩); (have b40 := b32d.call hP40 hM40 hm40); (obtain ⟨d0, d1, d2, d3, d4, d5, d6, d7, d8, df⟩ := cells9 b40.box); unfold ptr))
                  all_goals
                    have b41 := ((b40.putK 4).putT (.pointer (some ⟨x30, 0, none⟩))).putE (.pointer (some ⟨x40, 0, none⟩))
                    have hH41 := (((hH32d.call hm40 hlt).put (i := 0) (v := .int .i64 4)).put (i := 6) (v := .pointer (some ⟨x30, 0, none⟩))).put (i := 5) (v := .pointer (some ⟨x40, 0, none⟩))
                    have hR41 := (((Held.mk b32d hE40).put (i := 0) (v := .int .i64 4)).put (i := 6) (v := .pointer (some ⟨x30, 0, none⟩))).put (i := 5) (v := .pointer (some ⟨x40, 0, none⟩))
                    clear c0 c1 c2 c3 c4 c5 c6 c7 c8 cf d0 d1 d2 d3 d4 d5 d6 d7 d8 df
                    go_wp2_with fail
                    generalize ((w40.setCell ⟨w2.heap.size, 0, none⟩ (.int .i64 4)).setCell ⟨w2.heap.size, 6, none⟩ (.pointer (some ⟨x30, 0, none⟩))).setCell ⟨w2.heap.size, 5, none⟩ (.pointer (some ⟨x40, 0, none⟩)) = w41 at *
                    refine (mustZ p E s40 [59] _ b41.P).mono ?_
                    intro e w42 hq
                    obtain ⟨s42, rfl, hB⟩ | ⟨_, s42, v42, hx42, hG, rfl, -, hP42, hM42, hm42⟩ := hq.cut hG hno b41.M
                    · go_wp2_with fail
                      exact ⟨q, rfl, hq.1.cell b41.qc hqp, hB⟩
                    have b42 := b41.call hP42 hM42 hm42
                    clear hP42 hM42
                    obtain ⟨c0, c1, c2, c3, c4, c5, c6, c7, c8, cf⟩ := cells9 b42.box
                    go_wp2_with fail
                    refine (stmtMany hlt b42.M.size b42.P 4 _ _ [] [] (some a40) (some a30) _ _ [] _ (hR41.call hm42 hlt).one (hH41.call hm42 hlt).one noSts).mono ?_
                    rintro e w99 ⟨b99, rfl, hP99, hm99, hE99⟩
                    go_wp2_with fail
                    exact bodyPostQ_ret (v := ptr b99) (fun w' => by simp [results, Tryz.results82, go_sem, ptr]) rfl (hm99.cell b42.qc hqp) (Post.wellc hG (b42.M.trans hm99) hP99 ⟨b99, rfl, hE99⟩)
              · simp only [if_true] at hG
                go_wp2_with fail
                refine (ie.within s16 _ b16.P (ne_cut hG hno)).mono ?_
                intro e w50 hq
                obtain ⟨s50, rfl, hB⟩ | ⟨a50, s50, v50, hx50, hG, rfl, ⟨x50, rfl, hE50⟩, hP50, hM50, hm50⟩ := hq.cut hG hno b16.M
                · go_wp2_with fail
                  exact ⟨q, rfl, hq.1.cell b16.qc hqp, hB⟩
                have b50 := b16.call hP50 hM50 hm50
                clear hP50 hM50
                have hH50 := Held.mk b16 hE50
                unfold ptr
                obtain ⟨c0, c1, c2, c3, c4, c5, c6, c7, c8, cf⟩ := cells9 b50.box
                go_wp2_with fail
                have b51 := ((b50.putK 11).putE (.pointer (some ⟨x50, 0, none⟩)))
                have hH50' : Held w w2.heap.size _ ((w50.setCell ⟨w2.heap.size, 0, none⟩ (.int .i64 11)).setCell ⟨w2.heap.size, 5, none⟩ (.pointer (some ⟨x50, 0, none⟩))) _ _ := hH50.put.put
                have hsz51 : ((w50.setCell ⟨w2.heap.size, 0, none⟩ (.int .i64 11)).setCell ⟨w2.heap.size, 5, none⟩ (.pointer (some ⟨x50, 0, none⟩))).heap.size = w50.heap.size := by simp
                clear c0 c1 c2 c3 c4 c5 c6 c7 c8 cf
                generalize (w50.setCell ⟨w2.heap.size, 0, none⟩ (.int .i64 11)).setCell ⟨w2.heap.size, 5, none⟩ (.pointer (some ⟨x50, 0, none⟩)) = w51 at *
                refine (mustZ p E s50 [59] _ b51.P).mono ?_
                intro e w52 hq
                obtain ⟨s52, rfl, hB⟩ | ⟨_, s52, v52, hx52, hG, rfl, -, hP52, hM52, hm52⟩ := hq.cut hG hno b51.M
                · go_wp2_with fail
                  exact ⟨q, rfl, hq.1.cell b51.qc hqp, hB⟩
                have b52 := b51.call hP52 hM52 hm52
                clear hP52 hM52
                have hH52 := hH50'.call hm52 hlt
                obtain ⟨c0, c1, c2, c3, c4, c5, c6, c7, c8, cf⟩ := cells9 b52.box
                go_wp2_with fail
                refine (stmtMany hlt b52.M.size b52.P 11 _ _ [] [] (some a50) none _ _ [] _ hH52.one rfl noSts).mono ?_
                rintro e w99 ⟨b99, rfl, hP99, hm99, hE99⟩
                go_wp2_with fail
                exact bodyPostQ_ret (v := ptr b99) (fun w' => by simp [results, Tryz.results82, go_sem, ptr]) rfl (hm99.cell b52.qc hqp) (Post.wellc hG (b52.M.trans hm99) hP99 ⟨b99, rfl, hE99⟩)
            · simp only [if_true] at hG
              obtain ⟨c0, c1, c2, c3, c4, c5, c6, c7, c8, cf⟩ := cells9 b15.box
              go_wp2_with fail
              have b60 := (b15.putK 10)
              have hsz60 : (w15.setCell ⟨w2.heap.size, 0, none⟩ (.int .i64 10)).heap.size = w15.heap.size := by simp
              clear c0 c1 c2 c3 c4 c5 c6 c7 c8 cf
              generalize w15.setCell ⟨w2.heap.size, 0, none⟩ (.int .i64 10) = w60 at *
              rw [bind_ok (rfl : isP [59] s15 = .ok (isB s15.ws [59]) s15)] at hG
              refine (isZ p E s15 [59] _ b60.P).mono ?_
              rintro e w' ⟨rfl, rfl⟩
              cases hb1 : isB s15.ws [59]
              · rw [hb1] at hG
                simp only [Bool.false_eq_true, if_false] at hG
                go_wp2_with fail
                refine (ie.binary 0 s15 _ (by omega) (by omega) b60.P (ne_cut hG hno)).mono ?_
                intro e w61 hq
                obtain ⟨s61, rfl, hB⟩ | ⟨a61, s61, v61, hx61, hG, rfl, ⟨x61, rfl, hE61⟩, hP61, hM61, hm61⟩ := hq.cut hG hno b60.M
                · go_wp2_with fail
                  exact ⟨q, rfl, hq.1.cell b60.qc hqp, hB⟩
                have b61 := b60.call hP61 hM61 hm61
                clear hP61 hM61
                have hH61 := Held.mk b60 hE61
                unfold ptr
                obtain ⟨c0, c1, c2, c3, c4, c5, c6, c7, c8, cf⟩ := cells9 b61.box
                go_wp2_with fail
                have b62 := (b61.putE (.pointer (some ⟨x61, 0, none⟩)))
                have hH61' : Held w w2.heap.size _ (w61.setCell ⟨w2.heap.size, 5, none⟩ (.pointer (some ⟨x61, 0, none⟩))) _ _ := hH61.put
                have hsz62 : (w61.setCell ⟨w2.heap.size, 5, none⟩ (.pointer (some ⟨x61, 0, none⟩))).heap.size = w61.heap.size := by simp
                clear c0 c1 c2 c3 c4 c5 c6 c7 c8 cf
                generalize w61.setCell ⟨w2.heap.size, 5, none⟩ (.pointer (some ⟨x61, 0, none⟩)) = w62 at *
                refine (mustZ p E s61 [59] _ b62.P).mono ?_
                intro e w63 hq
                obtain ⟨s63, rfl, hB⟩ | ⟨_, s63, v63, hx63, hG, rfl, -, hP63, hM63, hm63⟩ := hq.cut hG hno b62.M
                · go_wp2_with fail
                  exact ⟨q, rfl, hq.1.cell b62.qc hqp, hB⟩
                have b63 := b62.call hP63 hM63 hm63
                clear hP63 hM63
                have hH63 := hH61'.call hm63 hlt
                obtain ⟨c0, c1, c2, c3, c4, c5, c6, c7, c8, cf⟩ := cells9 b63.box
                go_wp2_with fail
                refine (stmtMany hlt b63.M.size b63.P 10 _ _ [] [] (some a61) none _ _ [] _ hH63.one rfl noSts).mono ?_
                rintro e w99 ⟨b99, rfl, hP99, hm99, hE99⟩
                go_wp2_with fail
                exact bodyPostQ_ret (v := ptr b99) (fun w' => by simp [results, Tryz.results82, go_sem, ptr]) rfl (hm99.cell b63.qc hqp) (Post.wellc hG (b63.M.trans hm99) hP99 ⟨b99, rfl, hE99⟩)
              · rw [hb1] at hG
                simp only [if_true] at hG
                go_wp2_with fail
                refine (mustZ p E s15 [59] _ b60.P).mono ?_
                intro e w64 hq
                obtain ⟨s64, rfl, hB⟩ | ⟨_, s64, v64, hx64, hG, rfl, -, hP64, hM64, hm64⟩ := hq.cut hG hno b60.M
                · go_wp2_with fail
                  exact ⟨q, rfl, hq.1.cell b60.qc hqp, hB⟩
                have b64 := b60.call hP64 hM64 hm64
                clear hP64 hM64
                obtain ⟨c0, c1, c2, c3, c4, c5, c6, c7, c8, cf⟩ := cells9 b64.box
                go_wp2_with fail
                refine (stmtMany hlt b64.M.size b64.P 10 _ _ [] [] none none _ _ [] _ rfl rfl noSts).mono ?_
                rintro e w99 ⟨b99, rfl, hP99, hm99, hE99⟩
                go_wp2_with fail
                exact bodyPostQ_ret (v := ptr b99) (fun w' => by simp [results, Tryz.results82, go_sem, ptr]) rfl (hm99.cell b64.qc hqp) (Post.wellc hG (b64.M.trans hm99) hP99 ⟨b99, rfl, hE99⟩)
          · rw [hb2] at hG
            simp only [if_true] at hG
            obtain ⟨c0, c1, c2, c3, c4, c5, c6, c7, c8, cf⟩ := cells9 b13.box
            go_wp2_with fail
            have b70 := (b13.putK 9)
            have hsz70 : (w12r.setCell ⟨w2.heap.size, 0, none⟩ (.int .i64 9)).heap.size = w12r.heap.size := by simp
            clear c0 c1 c2 c3 c4 c5 c6 c7 c8 cf
            generalize w12r.setCell ⟨w2.heap.size, 0, none⟩ (.int .i64 9) = w70 at *
            have hfd := field114_1
            refine (takeZ p E s12 _ b70.P (anyB_ne hb2)).mono ?_
            intro e w71 hq
            obtain ⟨s71, rfl, hB⟩ | ⟨x71, s71, v71, hx71, hG, rfl, rfl, hP71, hM71, hm71⟩ := hq.cut hG hno b70.M
            · go_wp2_with fail
              exact ⟨q, rfl, hq.1.cell b70.qc hqp, hB⟩
            have b71 := b70.call hP71 hM71 hm71
            unfold str
            by_cases hbr : x71.d.t = [98, 114, 101, 97, 107]
            · have hbr' : (x71.d.t == [98, 114, 101, 97, 107]) = true := by rw [hbr]; rfl
              rw [if_pos hbr] at hG
              clear hbr
              obtain ⟨c0, c1, c2, c3, c4, c5, c6, c7, c8, cf⟩ := cells9 b71.box
              go_wp2_with fail
              have b72 := b71.putK 8
              clear c0 c1 c2 c3 c4 c5 c6 c7 c8 cf
              generalize w71.setCell ⟨w2.heap.size, 0, none⟩ (.int .i64 8) = w72 at *
              refine (mustZ p E s71 [59] _ b72.P).mono ?_
              intro e w73 hq
              obtain ⟨s73, rfl, hB⟩ | ⟨_, s73, v73, hx73, hG, rfl, -, hP73, hM73, hm73⟩ := hq.cut hG hno b72.M
              · go_wp2_with fail
                exact ⟨q, rfl, hq.1.cell b72.qc hqp, hB⟩
              have b73 := b72.call hP73 hM73 hm73
              clear hP73 hM73
              obtain ⟨c0, c1, c2, c3, c4, c5, c6, c7, c8, cf⟩ := cells9 b73.box
              go_wp2_with fail
              refine (stmtMany hlt b73.M.size b73.P 8 _ _ [] [] none none _ _ [] _ rfl rfl noSts).mono ?_
              rintro e w99 ⟨b99, rfl, hP99, hm99, hE99⟩
              go_wp2_with fail
              exact bodyPostQ_ret (v := ptr b99) (fun w' => by simp [results, Tryz.results82, go_sem, ptr]) rfl (hm99.cell b73.qc hqp) (Post.wellc hG (b73.M.trans hm99) hP99 ⟨b99, rfl, hE99⟩)
            · have hbr' : (x71.d.t == [98, 114, 101, 97, 107]) = false := by simpa using hbr
              rw [if_neg hbr] at hG
              go_wp2_with fail
              refine (mustZ p E s71 [59] _ b71.P).mono ?_
              intro e w74 hq
              obtain ⟨s74, rfl, hB⟩ | ⟨_, s74, v74, hx74, hG, rfl, -, hP74, hM74, hm74⟩ := hq.cut hG hno b71.M
              · go_wp2_with fail
                exact ⟨q, rfl, hq.1.cell b71.qc hqp, hB⟩
              have b74 := b71.call hP74 hM74 hm74
              clear hP74 hM74
              obtain ⟨c0, c1, c2, c3, c4, c5, c6, c7, c8, cf⟩ := cells9 b74.box
              go_wp2_with fail
              refine (stmtMany hlt b74.M.size b74.P 9 _ _ [] [] none none _ _ [] _ rfl rfl noSts).mono ?_
              rintro e w99 ⟨b99, rfl, hP99, hm99, hE99⟩
              go_wp2_with fail
              exact bodyPostQ_ret (v := ptr b99) (fun w' => by simp [results, Tryz.results82, go_sem, ptr]) rfl (hm99.cell b74.qc hqp) (Post.wellc hG (b74.M.trans hm99) hP99 ⟨b99, rfl, hE99⟩)
        · simp only [if_true] at hG
          go_wp2_with fail
          refine (ie.within s12 _ b12.P (ne_cut hG hno)).mono ?_
          intro e w80 hq
          obtain ⟨s80, rfl, hB⟩ | ⟨a80, s80, v80, hx80, hG, rfl, ⟨x80, rfl, hE80⟩, hP80, hM80, hm80⟩ := hq.cut hG hno b12.M
          · go_wp2_with fail
            exact ⟨q, rfl, hq.1.cell b12.qc hqp, hB⟩
          have b80 := b12.call hP80 hM80 hm80
          clear hP80 hM80
          have hH80 := Held.mk b12 hE80
          unfold ptr
          obtain ⟨c0, c1, c2, c3, c4, c5, c6, c7, c8, cf⟩ := cells9 b80.box
          go_wp2_with fail
          have b81 := ((b80.putK 7).putE (.pointer (some ⟨x80, 0, none⟩)))
          have hH80' : Held w w2.heap.size _ ((w80.setCell ⟨w2.heap.size, 0, none⟩ (.int .i64 7)).setCell ⟨w2.heap.size, 5, none⟩ (.pointer (some ⟨x80, 0, none⟩))) _ _ := hH80.put.put
          have hsz81 : ((w80.setCell ⟨w2.heap.size, 0, none⟩ (.int .i64 7)).setCell ⟨w2.heap.size, 5, none⟩ (.pointer (some ⟨x80, 0, none⟩))).heap.size = w80.heap.size := by simp
          clear c0 c1 c2 c3 c4 c5 c6 c7 c8 cf
          generalize (w80.setCell ⟨w2.heap.size, 0, none⟩ (.int .i64 7)).setCell ⟨w2.heap.size, 5, none⟩ (.pointer (some ⟨x80, 0, none⟩)) = w81 at *
          have w81p : p < w81.heap.size := b81.P.lt
          have w81B : w2.heap.size < w81.heap.size := b81.lt
          have w81w : w.heap.size ≤ w81.heap.size := b81.M.size
          have w81s : w81.heap.size ≤ w81.heap.size := Nat.le_refl _
          have hCh81 := Chain.nil sortS 71 w81 w81
          have hM82d := b81.M.drawn
          have hP82d := b81.P.none (Mv.drew w81)
          have hC82 := hCh81.mv (p := p) (Mv.drew w81) (w81p)
          have hx82b : w81.drew.heap[w2.heap.size]? = some (.cells (stC _ _ _ [] [] _ _ (.slice none 0 0)) 125 (0, 0)) := b81.box
          have hq82d : w81.drew.cell? ⟨q, 0, none⟩ = some (.pointer (some ⟨p, 0, none⟩)) := b81.qc
          have hz82 : w81.drew.cell? ⟨w2.heap.size, 7, none⟩ = some (.slice none 0 0) := (cells9 hx82b).2.2.2.2.2.2.2.1
          have h482 : w81.heap.size ≤ w81.drew.heap.size := w81s
          have hN82 := (ih f (Nat.le_refl _)).stat s80 w81.drew hP82d (ne_cut hG hno)
          go_wp2_with fail
          go_region_law (first | (go_simp; go_at_call 82; (with_reducible refine Calls.mono hN82 ?_); intro e w82 hq; obtain ⟨s82, rfl, hB⟩ | ⟨a82, s82, v82, hx82, hG, rfl, ⟨x82, rfl, hE82⟩, hP82, hM82, hm82⟩ := hq.cut hG hno hM82d; (· exact ⟨q, rfl, hq.1.cell hq82d hqp, hB⟩); (obtain ⟨⟨c82, ca82⟩, hb82, bs82, q182, q282, q382⟩ := list_facts hC82 hx82b w81p hBp hm82); unfold ptr) | (refine step_append_lies _ rfl _ _ 123 rfl w81.heap.size 71 i0 (.pointer none) 1 8 Tryz.underlying123 hi hz0 hz1 hz2 rfl (by decide) (.slice none 0 0) ([] : List St).length (bs82.map ptr) rfl (q282.alloc _) _ 1 1 [ptr x82] rfl rfl (World.news_of_block (heap_alloc_new w82 _)) (by simp [ptr, Value.oneCell']) (by decide) (by unfold maxLen; simp) (by simp) (by have := hm82.size; simp; omega) _ rfl ?_; intro g82 cap82 W82 ho82 hgr82 hat82 hgl82; (obtain ⟨d82, f82, -⟩ := list_room hC82 hb82 w81B hgr82)))
          all_goals obtain ⟨k1, k2, k3, k4, k5, k6⟩ := list_step hC82 w81p h482 w81w hBw w81B hBlt (by omega) hqB' hm82 hb82 (hm82.cell hq82d hqp) hP82 hM82 q182 q382 hE82 ho82 hgr82 (by simpa using hat82)
          all_goals
            have b82b : Bld p E w w2.heap.size q _ _ (W82.setCell ⟨w2.heap.size, 7, none⟩ (.slice (some ⟨g82, 0, none⟩) 1 cap82)) s82 7 (.pointer (some ⟨x80, 0, none⟩)) (.pointer none) _ := ⟨k2, k3, k4, k5, hBlt, hBw, hqB', hqp⟩
            have hH82b := (hH80'.call (Mv.drew w81) hlt).mv k6 hlt (fun k h => by
              rcases h with h | h | h
              · exact .inl h
              · exact .inr (.inl h)
              · exact .inr (.inr (by have := (hC82.own k h).1; omega)))
            have hs82b := Nat.le_trans h482 k6.size
            have hk82 : Chain sortS 71 w81 (W82.setCell ⟨w2.heap.size, 7, none⟩ (.slice (some ⟨g82, 0, none⟩) 1 cap82)) (.slice (some ⟨g82, 0, none⟩) 1 cap82) [a82] := k1
            clear k1 k2 k3 k4 k5 k6
            generalize W82.setCell ⟨w2.heap.size, 7, none⟩ (.slice (some ⟨g82, 0, none⟩) 1 cap82) = w82b at *
            obtain ⟨c0, c1, c2, c3, c4, c5, c6, c7, c8, cf⟩ := cells9 b82b.box
            go_wp2_with fail
            refine (stmtMany hlt b82b.M.size b82b.P 7 _ _ [] [] (some a80) none _ _ [a82] _ hH82b.one rfl (hk82.lastS w81w)).mono ?_
            rintro e w99 ⟨b99, rfl, hP99, hm99, hE99⟩
            go_wp2_with fail
            exact bodyPostQ_ret (v := ptr b99) (fun w' => by simp [results, Tryz.results82, go_sem, ptr]) rfl (hm99.cell b82b.qc hqp) (Post.wellc hG (b82b.M.trans hm99) hP99 ⟨b99, rfl, hE99⟩)
      · simp only [if_true] at hG
        go_wp2_with fail
        refine (ie.within s11 _ b11.P (ne_cut hG hno)).mono ?_
        intro e w90 hq
        obtain ⟨s90, rfl, hB⟩ | ⟨a90, s90, v90, hx90, hG, rfl, ⟨x90, rfl, hE90⟩, hP90, hM90, hm90⟩ := hq.cut hG hno b11.M
        · go_wp2_with fail
          exact ⟨q, rfl, hq.1.cell b11.qc hqp, hB⟩
        have b90 := b11.call hP90 hM90 hm90
        clear hP90 hM90
        have hH90 := Held.mk b11 hE90
        unfold ptr
        obtain ⟨c0, c1, c2, c3, c4, c5, c6, c7, c8, cf⟩ := cells9 b90.box
        go_wp2_with fail
        have b91 := ((b90.putK 6).putE (.pointer (some ⟨x90, 0, none⟩)))
        have hH90' : Held w w2.heap.size _ ((w90.setCell ⟨w2.heap.size, 0, none⟩ (.int .i64 6)).setCell ⟨w2.heap.size, 5, none⟩ (.pointer (some ⟨x90, 0, none⟩))) _ _ := hH90.put.put
        have hsz91 : ((w90.setCell ⟨w2.heap.size, 0, none⟩ (.int .i64 6)).setCell ⟨w2.heap.size, 5, none⟩ (.pointer (some ⟨x90, 0, none⟩))).heap.size = w90.heap.size := by simp
        clear c0 c1 c2 c3 c4 c5 c6 c7 c8 cf
        generalize (w90.setCell ⟨w2.heap.size, 0, none⟩ (.int .i64 6)).setCell ⟨w2.heap.size, 5, none⟩ (.pointer (some ⟨x90, 0, none⟩)) = w91 at *
        have w91p : p < w91.heap.size := b91.P.lt
        have w91B : w2.heap.size < w91.heap.size := b91.lt
        have w91w : w.heap.size ≤ w91.heap.size := b91.M.size
        have w91s : w91.heap.size ≤ w91.heap.size := Nat.le_refl _
        have hCh91 := Chain.nil sortS 71 w91 w91
        have hM92d := b91.M.drawn
        have hP92d := b91.P.none (Mv.drew w91)
        have hC92 := hCh91.mv (p := p) (Mv.drew w91) (w91p)
        have hx92b : w91.drew.heap[w2.heap.size]? = some (.cells (stC _ _ _ [] [] _ _ (.slice none 0 0)) 125 (0, 0)) := b91.box
        have hq92d : w91.drew.cell? ⟨q, 0, none⟩ = some (.pointer (some ⟨p, 0, none⟩)) := b91.qc
        have hz92 : w91.drew.cell? ⟨w2.heap.size, 7, none⟩ = some (.slice none 0 0) := (cells9 hx92b).2.2.2.2.2.2.2.1
        have h492 : w91.heap.size ≤ w91.drew.heap.size := w91s
        have hN92 := (ih f (Nat.le_refl _)).stat s90 w91.drew hP92d (ne_cut hG hno)
        go_wp2_with fail
        go_region_law (first | (go_simp; go_at_call 82; (with_reducible refine Calls.mono hN92 ?_); intro e w92 hq; obtain ⟨s92, rfl, hB⟩ | ⟨a92, s92, v92, hx92, hG, rfl, ⟨x92, rfl, hE92⟩, hP92, hM92, hm92⟩ := hq.cut hG hno hM92d; (· exact ⟨q, rfl, hq.1.cell hq92d hqp, hB⟩); (obtain ⟨⟨c92, ca92⟩, hb92, bs92, q192, q292, q392⟩ := list_facts hC92 hx92b w91p hBp hm92); unfold ptr) | (refine step_append_lies _ rfl _ _ 123 rfl w91.heap.size 71 i0 (.pointer none) 1 8 Tryz.underlying123 hi hz0 hz1 hz2 rfl (by decide) (.slice none 0 0) ([] : List St).length (bs92.map ptr) rfl (q292.alloc _) _ 1 1 [ptr x92] rfl rfl (World.news_of_block (heap_alloc_new w92 _)) (by simp [ptr, Value.oneCell']) (by decide) (by unfold maxLen; simp) (by simp) (by have := hm92.size; simp; omega) _ rfl ?_; intro g92 cap92 W92 ho92 hgr92 hat92 hgl92; (obtain ⟨d92, f92, -⟩ := list_room hC92 hb92 w91B hgr92)))
        all_goals obtain ⟨k1, k2, k3, k4, k5, k6⟩ := list_step hC92 w91p h492 w91w hBw w91B hBlt (by omega) hqB' hm92 hb92 (hm92.cell hq92d hqp) hP92 hM92 q192 q392 hE92 ho92 hgr92 (by simpa using hat92)
        all_goals
          have b92b : Bld p E w w2.heap.size q _ _ (W92.setCell ⟨w2.heap.size, 7, none⟩ (.slice (some ⟨g92, 0, none⟩) 1 cap92)) s92 6 (.pointer (some ⟨x90, 0, none⟩)) (.pointer none) _ := ⟨k2, k3, k4, k5, hBlt, hBw, hqB', hqp⟩
          have hH92b := (hH90'.call (Mv.drew w91) hlt).mv k6 hlt (fun k h => by
            rcases h with h | h | h
            · exact .inl h
            · exact .inr (.inl h)
            · exact .inr (.inr (by have := (hC92.own k h).1; omega)))
          have hs92b := Nat.le_trans h492 k6.size
          have hk92 : Chain sortS 71 w91 (W92.setCell ⟨w2.heap.size, 7, none⟩ (.slice (some ⟨g92, 0, none⟩) 1 cap92)) (.slice (some ⟨g92, 0, none⟩) 1 cap92) [a92] := k1
          clear k1 k2 k3 k4 k5 k6
          generalize W92.setCell ⟨w2.heap.size, 7, none⟩ (.slice (some ⟨g92, 0, none⟩) 1 cap92) = w92b at *
          go_wp2_with fail
          refine (mayZ p E s92 [101, 108, 115, 101] _ b92b.P).mono ?_
          intro e w93 hq
          obtain ⟨s93, rfl, hB⟩ | ⟨k93, s93, v93, hx93, hG, rfl, rfl, hP93, hM93, hm93⟩ := hq.cut hG hno b92b.M
          · go_wp2_with fail
            exact ⟨q, rfl, hq.1.cell b92b.qc hqp, hB⟩
          have b93 := b92b.call hP93 hM93 hm93
          clear hP93 hM93
          have hH93 := hH92b.call hm93 hlt
          have hk93 := hk92.mv hm93 w91p
          cases k93
          · simp only [Bool.false_eq_true, if_false] at hG
            obtain ⟨c0, c1, c2, c3, c4, c5, c6, c7, c8, cf⟩ := cells9 b93.box
            go_wp2_with fail
            refine (stmtMany hlt b93.M.size b93.P 6 _ _ [] [] (some a90) none _ _ [a92] _ hH93.one rfl (hk93.lastS w91w)).mono ?_
            rintro e w99 ⟨b99, rfl, hP99, hm99, hE99⟩
            go_wp2_with fail
            exact bodyPostQ_ret (v := ptr b99) (fun w' => by simp [results, Tryz.results82, go_sem, ptr]) rfl (hm99.cell b93.qc hqp) (Post.wellc hG (b93.M.trans hm99) hP99 ⟨b99, rfl, hE99⟩)
          · simp only [if_true] at hG
            have hM94d := b93.M.drawn
            have hP94d := b93.P.none (Mv.drew w93)
            have hC94 := hk93.mv (p := p) (Mv.drew w93) (w91p)
            have hx94b : w93.drew.heap[w2.heap.size]? = some (.cells (stC _ _ _ [] [] _ _ (.slice (some ⟨g92, 0, none⟩) 1 cap92)) 125 (0, 0)) := b93.box
            have hq94d : w93.drew.cell? ⟨q, 0, none⟩ = some (.pointer (some ⟨p, 0, none⟩)) := b93.qc
            have hz94 : w93.drew.cell? ⟨w2.heap.size, 7, none⟩ = some (.slice (some ⟨g92, 0, none⟩) 1 cap92) := (cells9 hx94b).2.2.2.2.2.2.2.1
            have h494 : w91.heap.size ≤ w93.drew.heap.size := (Nat.le_trans hs92b hm93.size)
            have hN94 := (ih f (Nat.le_refl _)).stat s93 w93.drew hP94d (ne_cut hG hno)
            go_wp2_with fail
            go_region_law (first | (go_simp; go_at_call 82; (with_reducible refine Calls.mono hN94 ?_); intro e w94 hq; obtain ⟨s94, rfl, hB⟩ | ⟨a94, s94, v94, hx94, hG, rfl, ⟨x94, rfl, hE94⟩, hP94, hM94, hm94⟩ := hq.cut hG hno hM94d; (· exact ⟨q, rfl, hq.1.cell hq94d hqp, hB⟩); (obtain ⟨⟨c94, ca94⟩, hb94, bs94, q194, q294, q394⟩ := list_facts hC94 hx94b w91p hBp hm94); unfold ptr) | (refine step_append_lies _ rfl _ _ 123 rfl w91.heap.size 71 i0 (.pointer none) 1 8 Tryz.underlying123 hi hz0 hz1 hz2 rfl (by decide) (.slice (some ⟨g92, 0, none⟩) 1 cap92) ([a92] : List St).length (bs94.map ptr) rfl (q294.alloc _) _ 1 1 [ptr x94] rfl rfl (World.news_of_block (heap_alloc_new w94 _)) (by simp [ptr, Value.oneCell']) (by decide) (by unfold maxLen; simp) (by simp) (by have := hm94.size; simp; omega) _ rfl ?_; intro g94 cap94 W94 ho94 hgr94 hat94 hgl94; (obtain ⟨d94, f94, -⟩ := list_room hC94 hb94 w91B hgr94)))
            all_goals obtain ⟨k1, k2, k3, k4, k5, k6⟩ := list_step hC94 w91p h494 w91w hBw w91B hBlt (by omega) hqB' hm94 hb94 (hm94.cell hq94d hqp) hP94 hM94 q194 q394 hE94 ho94 hgr94 (by simpa using hat94)
            all_goals
              have b94b : Bld p E w w2.heap.size q _ _ (W94.setCell ⟨w2.heap.size, 7, none⟩ (.slice (some ⟨g94, 0, none⟩) 2 cap94)) s94 6 (.pointer (some ⟨x90, 0, none⟩)) (.pointer none) _ := ⟨k2, k3, k4, k5, hBlt, hBw, hqB', hqp⟩
              have hH94b := (hH93.call (Mv.drew w93) hlt).mv k6 hlt (fun k h => by
                rcases h with h | h | h
                · exact .inl h
                · exact .inr (.inl h)
                · exact .inr (.inr (by have := (hC94.own k h).1; omega)))
              have hs94b := Nat.le_trans h494 k6.size
              have hk94 : Chain sortS 71 w91 (W94.setCell ⟨w2.heap.size, 7, none⟩ (.slice (some ⟨g94, 0, none⟩) 2 cap94)) (.slice (some ⟨g94, 0, none⟩) 2 cap94) [a92, a94] := k1
              clear k1 k2 k3 k4 k5 k6
              generalize W94.setCell ⟨w2.heap.size, 7, none⟩ (.slice (some ⟨g94, 0, none⟩) 2 cap94) = w94b at *
              obtain ⟨c0, c1, c2, c3, c4, c5, c6, c7, c8, cf⟩ := cells9 b94b.box
              go_wp2_with fail
              refine (stmtMany hlt b94b.M.size b94b.P 6 _ _ [] [] (some a90) none _ _ [a92, a94] _ hH94b.one rfl (hk94.lastS w91w)).mono ?_
              rintro e w99 ⟨b99, rfl, hP99, hm99, hE99⟩
              go_wp2_with fail
              exact bodyPostQ_ret (v := ptr b99) (fun w' => by simp [results, Tryz.results82, go_sem, ptr]) rfl (hm99.cell b94b.qc hqp) (Post.wellc hG (b94b.M.trans hm99) hP99 ⟨b99, rfl, hE99⟩)
    · simp only [if_true] at hG
      obtain ⟨c0, c1, c2, c3, c4, c5, c6, c7, c8, cf⟩ := cells9 b10.box
      go_wp2_with fail
      have b11 := (b10.putK 2)
      have hsz11 : (w10.setCell ⟨w2.heap.size, 0, none⟩ (.int .i64 2)).heap.size = w10.heap.size := by simp
      clear c0 c1 c2 c3 c4 c5 c6 c7 c8 cf
      generalize w10.setCell ⟨w2.heap.size, 0, none⟩ (.int .i64 2) = w11 at *
      obtain ⟨c0, c1, c2, c3, c4, c5, c6, c7, c8, cf⟩ := cells9 b11.box
      go_wp2_with fail
      refine (stmtMany hlt b11.M.size b11.P 2 _ _ [] [] none none _ _ [] _ rfl rfl noSts).mono ?_
      rintro e w99 ⟨b99, rfl, hP99, hm99, hE99⟩
      go_wp2_with fail
      exact bodyPostQ_ret (v := ptr b99) (fun w' => by simp [results, Tryz.results82, go_sem, ptr]) rfl (hm99.cell b11.qc hqp) (Post.wellc hG (b11.M.trans hm99) hP99 ⟨b99, rfl, hE99⟩)
  · rw [hb0] at hG
    simp only [if_true] at hG
    go_wp2_with fail
    refine ((ih f (Nat.le_refl _)).block _ _ b3.P (by rw [hG]; exact hno)).mono ?_
    intro e w4 hq
    obtain ⟨s4, rfl, hB⟩ | ⟨v, a, rfl, ⟨b4, rfl, hE4⟩, hW⟩ := hq.last hG hno b3.M (fun v b h => h.later b3.M.size (Mv.refl _ _) hlt)
    · go_wp2_with fail
      exact ⟨q, rfl, hq.1.cell b3.qc hqp, hB⟩
    unfold ptr
    go_wp2_with fail
    exact bodyPostQ_ret (v := ptr b4) (fun w' => by simp [results, Tryz.results82, go_sem, ptr]) rfl (hq.1.cell b3.qc hqp) hW
end Go.Proofs.YtjgpbpmicopemaaGreatDoor

/-
  The statement parser keeps its promise, whatever its fuel. Items in memory.
-/
namespace Go.Proofs.YtjgpbpmicopemaaGreatDoor
open Go.RowKit Go.Shelf

theorem allS (p : Nat) (E : Int × Int) : ∀ f, f ≤ 10000000 → AllS p E f := by
  intro f
  induction f using Nat.strongRecOn with
  | ind f ih =>
    intro hf
    cases f with
    | zero =>
      constructor
      · intro s w _ h
        exact absurd (by unfold blockP; rfl) h
      · intro s w _ h
        exact absurd (by unfold statementP; rfl) h
    | succ f =>
      have ih' : ∀ f', f' ≤ f → AllS p E f' := fun f' h => ih f' (by omega) (by omega)
      exact ⟨fun s w h hno => blockZ (by omega) ih' s w h hno, fun s w h hno => statementZ (by omega) ih' s w h hno⟩
/-- a row of n parts of so many cells, within K -/
def RowIn (W : World) (K : Nat → Prop) (T size : Nat) (v : Value) (n : Nat) (xs : List Value) : Prop :=
  xs.length = n * size ∧ ((v = .slice none 0 0 ∧ n = 0) ∨ ∃ g cap cur, v = .slice (some ⟨g, 0, none⟩) n cap ∧ K g ∧ W.heap[g]? = some (.cells cur T (0, 0)) ∧ n ≤ cap ∧ cap ≤ maxLen ∧ cur.size = cap * size ∧ cur.toList.take (n * size) = xs)
def fdCells (l : List Fd) : List Value := l.flatMap fun f => [str f.ty, str f.nm]
def pmCells (l : List ((Int × Int) × Pm)) : List Value := l.flatMap fun a => [.int .i64 a.1.1, .int .i64 a.1.2, .bool a.2.pub, str a.2.ty, str a.2.nm]
/-- an item in memory, all its blocks within K -/
def ImAt (W : World) (K : Nat → Prop) (b : Nat) (x : Im) : Prop :=
  K b ∧ ∃ (ln cl : Int) (vf vp vb : Value) (qs : List ((Int × Int) × Pm)), W.heap[b]? = some (.cells #[.int .i64 x.k, .int .i64 ln, .int .i64 cl, .string ⟨x.ty.toArray⟩, .string ⟨x.nm.toArray⟩, vf, vp, vb] 73 (0, 0)) ∧
    RowIn W K 86 2 vf x.fs.length (fdCells x.fs) ∧ qs.map (·.2) = x.ps ∧ RowIn W K 90 5 vp x.ps.length (pmCells qs) ∧ (match x.bd with | none => vb = .pointer none | some st => ∃ b2, vb = ptr b2 ∧ StAt W K b2 st)
section
variable {W W' : World} {K K' : Nat → Prop}
theorem RowIn.mv {T size n : Nat} {v : Value} {xs : List Value} (h : RowIn W K T size v n xs) (m : Keeps K W W') (hK : ∀ k, K k → K' k) : RowIn W' K' T size v n xs := by
  obtain ⟨h1, h2 | ⟨g, cap, cur, e1, e2, e3, e4⟩⟩ := h
  · exact ⟨h1, .inl h2⟩
  · exact ⟨h1, .inr ⟨g, cap, cur, e1, hK _ e2, (m g e2 (heap_lt e3)).trans e3, e4⟩⟩
theorem RowIn.within {T size n : Nat} {v : Value} {xs : List Value} (h : RowIn W K T size v n xs) : RowIn W (fun k => K k ∧ k < W.heap.size) T size v n xs := by
  obtain ⟨h1, h2 | ⟨g, cap, cur, e1, e2, e3, e4⟩⟩ := h
  · exact ⟨h1, .inl h2⟩
  · exact ⟨h1, .inr ⟨g, cap, cur, e1, ⟨e2, heap_lt e3⟩, e3, e4⟩⟩
theorem RowIn.nil (W : World) (K : Nat → Prop) (T size : Nat) : RowIn W K T size (.slice none 0 0) 0 [] := ⟨by simp, .inl ⟨rfl, rfl⟩⟩
theorem ImAt.mv {b : Nat} {x : Im} (h : ImAt W K b x) (m : Keeps K W W') (hK : ∀ k, K k → K' k) : ImAt W' K' b x := by
  obtain ⟨h1, ln, cl, vf, vp, vb, qs, h2, h3, h4, h5, h6⟩ := h
  refine ⟨hK _ h1, ln, cl, vf, vp, vb, qs, (m b h1 (heap_lt h2)).trans h2, h3.mv m hK, h4, h5.mv m hK, ?_⟩
  cases hx : x.bd with
  | none => rw [hx] at h6; exact h6
  | some st =>
    rw [hx] at h6
    obtain ⟨b2, h7, h8⟩ := h6
    exact ⟨b2, h7, h8.mv m hK⟩
theorem ImAt.within {b : Nat} {x : Im} (h : ImAt W K b x) : ImAt W (fun k => K k ∧ k < W.heap.size) b x := by
  obtain ⟨h1, ln, cl, vf, vp, vb, qs, h2, h3, h4, h5, h6⟩ := h
  refine ⟨⟨h1, heap_lt h2⟩, ln, cl, vf, vp, vb, qs, h2, h3.within, h4, h5.within, ?_⟩
  cases hx : x.bd with
  | none => rw [hx] at h6; exact h6
  | some st =>
    rw [hx] at h6
    obtain ⟨b2, h7, h8⟩ := h6
    exact ⟨b2, h7, h8.within⟩
end
def sortI : Sort1 Im := ⟨ImAt, fun h m hK => h.mv m hK, fun h => h.within⟩
/-- a block of the call's own, with the parser -/
structure Box (p : Nat) (E : Int × Int) (w : World) (B T : Nat) (W : World) (s : Sx) (cs : Array Value) : Prop where
  P : PrAt W p E s
  M : Mv (fun k => k = p) w W
  box : W.heap[B]? = some (.cells cs T (0, 0))
  pB : p < B
  wB : w.heap.size ≤ B
  hT : T ≠ 114 ∧ T ≠ 26
section
variable {p : Nat} {E : Int × Int} {w : World} {B T : Nat} {W W' : World} {s s' : Sx} {cs cs' : Array Value}
theorem Box.call (h : Box p E w B T W s cs) (hP : PrAt W' p E s') (hM : Mv (fun k => k = p) w W') (m : Mv (fun k => k = p) W W') : Box p E w B T W' s' cs :=
  ⟨hP, hM, (m.same _ (heap_lt h.box) (by have := h.pB; omega)).trans h.box, h.pB, h.wB, h.hT⟩
theorem Box.put (h : Box p E w B T W s cs) (m : Mv (fun k => k = B) W W') (hb : W'.heap[B]? = some (.cells cs' T (0, 0))) : Box p E w B T W' s cs' :=
  ⟨h.P.own h.box h.pB h.hT m, h.M.fresh m (fun j hj => by subst hj; exact h.wB), hb, h.pB, h.wB, h.hT⟩
theorem Box.lt (h : Box p E w B T W s cs) : B < W.heap.size := heap_lt h.box
end
section
variable {W : World} {B : Nat} {a b c d e f g h : Value} {T : TypeId}
theorem cells8 (hb : W.heap[B]? = some (.cells #[a, b, c, d, e, f, g, h] T (0, 0))) : W.cell? ⟨B, 0, none⟩ = some a ∧ W.cell? ⟨B, 1, none⟩ = some b ∧ W.cell? ⟨B, 2, none⟩ = some c ∧ W.cell? ⟨B, 3, none⟩ = some d ∧
    W.cell? ⟨B, 4, none⟩ = some e ∧ W.cell? ⟨B, 5, none⟩ = some f ∧ W.cell? ⟨B, 6, none⟩ = some g ∧ W.cell? ⟨B, 7, none⟩ = some h ∧ ∀ i, W.frozen? ⟨B, i, none⟩ = false := by
  refine ⟨?_, ?_, ?_, ?_, ?_, ?_, ?_, ?_, ?_⟩ <;> simp [World.cell?, World.frozen?, hb]
end
theorem ownsRow_mv' {W W' : World} {B T size n p : Nat} {v : Value} {xs : List Value} (h : W.ownsRow B T size v n xs) (m : Mv (fun k => k = p) W W') (hp : p < B) : W'.ownsRow B T size v n xs := by
  obtain ⟨h1, h2 | ⟨g, cap, cur, e1, e2, e3, e4⟩⟩ := h
  · exact ⟨h1, .inl h2⟩
  · exact ⟨h1, .inr ⟨g, cap, cur, e1, e2, (m.same g (heap_lt e3) (by omega)).trans e3, e4⟩⟩
theorem ownsRow_own {W : World} {B T size n : Nat} {v : Value} {xs : List Value} (h : W.ownsRow B T size v n xs) : ∀ k, v.ownBlock = some k → B ≤ k ∧ k < W.heap.size ∧ ∃ cur, W.heap[k]? = some (.cells cur T (0, 0)) := by
  obtain ⟨-, ⟨rfl, h3⟩ | ⟨g, cap, cur, rfl, h3, h4, h5, h6, -⟩⟩ := h
  · intro k hk; simp [Value.ownBlock] at hk
  · intro k hk
    simp [Value.ownBlock] at hk
    subst hk
    exact ⟨h3, heap_lt h4, cur, h4⟩
theorem RowIn.ofOwn {W : World} {B T size n : Nat} {v : Value} {xs : List Value} (h : W.ownsRow B T size v n xs) : RowIn W (fun k => B ≤ k) T size v n xs := h
/-- an append to a row that a block of the call's own holds -/
theorem row_step {p : Nat} {E : Int × Int} {w w4 w6 W0 W9 : World} {B T size n T' : Nat} {v : Value} {xs : List Value} {s : Sx} {cs : Array Value} (hT : T ≠ 114 ∧ T ≠ 26) (hr : w6.ownsRow w4.heap.size T size v n xs) (b : Box p E w B T' w6 s cs) (hB4 : B < w4.heap.size) (hw4 : w.heap.size ≤ w4.heap.size)
    (hb : Below w6.heap.size w6 W0) (hgr : W0.grownBy W9 v.ownBlock) : Box p E w B T' W9 s cs := by
  have hm : Mv (fun k => v.ownBlock = some k) w6 W9 := (Mv.below hb).trans (Mv.of_grown hgr (fun r e => e))
  have hown := ownsRow_own hr
  have h8 := b.P.1.1
  have hpB := b.pB
  refine ⟨b.P.tame hm (fun k hk hl => ?_), b.M.fresh hm (fun j hj => by have := (hown j hj).1; omega), (hm.same B (heap_lt b.box) (fun e => by have := (hown B e).1; omega)).trans b.box, b.pB, b.wB, b.hT⟩
  obtain ⟨h1, h2, cur, h3⟩ := hown k hk
  exact ⟨by omega, by omega, fun c t r ht => by rw [h3] at ht; cases ht; exact hT⟩
theorem ownsRow_keep {X : Nat → Prop} {W W' : World} {B T size n : Nat} {v : Value} {xs : List Value} (h : W.ownsRow B T size v n xs) (m : Mv X W W') (hX : ∀ k, v.ownBlock = some k → ¬ X k) : W'.ownsRow B T size v n xs := by
  obtain ⟨h1, h2 | ⟨g, cap, cur, e1, e2, e3, e4⟩⟩ := h
  · exact ⟨h1, .inl h2⟩
  · exact ⟨h1, .inr ⟨g, cap, cur, e1, e2, (m.same g (heap_lt e3) (hX g (by rw [e1]; rfl))).trans e3, e4⟩⟩
theorem Box.other {p : Nat} {E : Int × Int} {w W W' : World} {B T F T' : Nat} {s : Sx} {cs cs' : Array Value} {r : Nat × Nat} (h : Box p E w B T W s cs) (hf : W.heap[F]? = some (.cells cs' T' r)) (hpF : p < F) (hwF : w.heap.size ≤ F) (hT : T' ≠ 114 ∧ T' ≠ 26) (hne : B ≠ F) (m : Mv (fun k => k = F) W W') : Box p E w B T W' s cs :=
  ⟨h.P.own hf hpF hT m, h.M.fresh m (fun j hj => by subst hj; exact hwF), (m.same B (heap_lt h.box) hne).trans h.box, h.pB, h.wB, h.hT⟩
theorem fdCells_snoc (l : List Fd) (x : Fd) : fdCells (l ++ [x]) = fdCells l ++ [str x.ty, str x.nm] := by simp [fdCells]
theorem pmCells_snoc (l : List ((Int × Int) × Pm)) (x : (Int × Int) × Pm) : pmCells (l ++ [x]) = pmCells l ++ [.int .i64 x.1.1, .int .i64 x.1.2, .bool x.2.pub, str x.2.ty, str x.2.nm] := by simp [pmCells]
theorem info86 : (Tryz.prog.info? 86).map (fun i => (i.zero, i.size, i.bytes)) = some (some (.agg #[.string ⟨#[]⟩, .string ⟨#[]⟩]), 2, 32) := by kernel_rfl
theorem info90 : (Tryz.prog.info? 90).map (fun i => (i.zero, i.size, i.bytes)) = some (some (.agg #[.int .i64 0, .int .i64 0, .bool false, .string ⟨#[]⟩, .string ⟨#[]⟩]), 5, 56) := by kernel_rfl
/-- a pointer to an item that is new -/
def encI (w w' : World) (v : Value) (x : Im) : Prop := ∃ b, v = ptr b ∧ ImAt w' (fun k => w.heap.size ≤ k) b x
theorem ImAt.later {w w1 w2 w3 : World} {p b : Nat} {e : Im} (h : ImAt w2 (fun k => w1.heap.size ≤ k) b e) (hs : w.heap.size ≤ w1.heap.size) (m : Mv (fun k => k = p) w2 w3) (hp : p < w.heap.size) : ImAt w3 (fun k => w.heap.size ≤ k) b e :=
  h.mv (Keeps.of m (fun k hk hx => by subst hx; omega)) (fun k hk => by omega)
end Go.Proofs.YtjgpbpmicopemaaGreatDoor
