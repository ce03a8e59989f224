/-
  The law's awake: it answers true.
-/
import Derived.Test.YtjgpbpmicopemaaDoorFacts
namespace Go.Proofs.YtjgpbpmicopemaaDoor
open Go.RowKit Go.Shelf
attribute [local go_sem] Oper.semAt_some

def BL (b : Bool) (w : World) (e : Ending) (w' : World) : Prop := e = .returned (.bool b) ∧ Below w.heap.size w w'
/-- a slice of words, its cells at hand -/
theorem row_cells {W : World} {B : Nat} {v : Value} {xs : List It} {n : Nat} (h : W.ownsRow B 30 5 v xs.length (xs.flatMap It.cells)) (hn : xs.length = n) (h0 : 0 < n) :
    ∃ g c, v = .slice (some ⟨g, 0, none⟩) n c ∧ n ≤ c ∧ B ≤ g ∧ g < W.heap.size ∧ ∀ (i : Nat) (hi : i < xs.length) (r : Nat), r < 5 → W.cell? ⟨g, i * 5 + r, none⟩ = (xs[i]).cells[r]? := by
  obtain ⟨b, c, rfl, h1, -, h2⟩ := row_slice h
  obtain ⟨g, rfl, h3, h4, h5⟩ := h2 (by omega)
  exact ⟨g, c, by rw [hn], by omega, h3, h4, h5⟩
theorem nilFn (p : Value) (w : World) : (binOp .eql 36 (.func (.func 18) #[] #[p]) .nilFunc).run Tryd.prog w = .ok (.bool false) w := by
  kernel_rfl
theorem Mv.later {X Y : Nat → Prop} {A B C : World} (h : Mv X A B) (m : Mv Y B C) (hy : ∀ k, Y k → A.heap.size ≤ k) : Mv X A C :=
  ⟨m.os.trans h.os, m.tape.trans h.tape, m.output.trans h.output, Nat.le_trans h.size m.size, fun k hk hx => (m.same k (Nat.lt_of_lt_of_le hk h.size) (fun e => by have := hy k e; omega)).trans (h.same k hk hx)⟩
def IntAt (W : World) (g : Nat) (n : Int) : Prop := W.heap[g]? = some (.cells #[.int .i64 n] 3 (0, 0))
theorem IntAt.cells {W : World} {g : Nat} {n : Int} (h : IntAt W g n) : W.cell? ⟨g, 0, none⟩ = some (.int .i64 n) ∧ W.frozen? ⟨g, 0, none⟩ = false := by
  unfold IntAt at h
  refine ⟨?_, ?_⟩ <;> simp [World.cell?, World.frozen?, h]
theorem BlAt.cells {W : World} {g : Nat} {b : Bool} (h : BlAt W g b) : W.cell? ⟨g, 0, none⟩ = some (.bool b) ∧ W.frozen? ⟨g, 0, none⟩ = false := by
  unfold BlAt at h
  refine ⟨?_, ?_⟩ <;> simp [World.cell?, World.frozen?, h]
set_option maxRecDepth 20000 in
set_option maxHeartbeats 4000000 in
theorem awake_any (w : World) (hE : Env w) : Calls Tryd.prog 8 #[] w (BL true w) := by
  refine (callsIn_wide (n := 5)).1 ?_
  have C1 : ∀ W, Env W → CallsIn Fence.wide 4 Tryd.prog 9 #[.string ⟨#[97, 49, 32, 62, 62, 61, 32, 48, 120, 49, 70]⟩] W (RWs text1 W) := fun W hW => callsIn_wide.2 (words_any text1 (by decide) W hW)
  have C2 : ∀ W, Env W → CallsIn Fence.wide 4 Tryd.prog 11 #[.string ⟨#[97, 32, 98]⟩] W (REa text2 W) := fun W hW => callsIn_wide.2 (each_any text2 (by decide) W hW)
  refine callsIn_of_wp_marks Tryd.func8 rfl trivial ?_ rfl
  simp only [Tryd.ntmps8, List.size_toArray, List.length_nil, Nat.reduceSub, Array.replicate_succ, Array.replicate_zero, List.push_toArray, List.append_toArray, List.nil_append, List.cons_append]
  gi_wp2_with fail
  have hal : Below w.heap.size w (w.alloc (.cells #[.bool false] 4)) := (Below.refl _ _).alloc (Nat.le_refl _) _
  refine ⟨trivial, (C1 _ (hE.below hal)).mono ?_⟩
  rintro e w1 ⟨v, rfl, hrow, hb⟩
  rw [text1_err, text1_words] at *
  obtain ⟨g, c, rfl, hc, hg1, hg2, hcs⟩ := row_cells (n := 4) hrow rfl (by decide)
  gi_wp2_with fail
  have hb1 : Below w.heap.size w w1 := hal.trans (hb.mono hal.size)
  have hbA : Below w1.heap.size w1 ((w1.alloc (.cells #[.int .i64 (wordsP text1).1, .int .i64 (wordsP text1).2] 25)).alloc (.cells #[.int .i64 0] 3)) := ((Below.refl _ _).alloc (Nat.le_refl _) _).alloc (by simp) _
  have hbl1 : BlAt w1 w.heap.size false := (hb.block _ (by simp)).trans (heap_alloc_new w _)
  have hsA : ((w1.alloc (.cells #[.int .i64 (wordsP text1).1, .int .i64 (wordsP text1).2] 25)).alloc (.cells #[.int .i64 0] 3)).heap.size = w1.heap.size + 1 + 1 := by simp
  have hnA : ((w1.alloc (.cells #[.int .i64 (wordsP text1).1, .int .i64 (wordsP text1).2] 25)).alloc (.cells #[.int .i64 0] 3)).heap[w1.heap.size + 1]? = some (.cells #[.int .i64 0] 3 (0, 0)) := (two_new w1 _ _).2
  have C2' := C2 _ ((hE.below hb1).below hbA)
  generalize ((w1.alloc (.cells #[.int .i64 (wordsP text1).1, .int .i64 (wordsP text1).2] 25)).alloc (.cells #[.int .i64 0] 3)) = wA at *
  refine ⟨trivial, C2'.mono ?_⟩
  rintro e w2 ⟨v2, rfl, hsl, hrow2, hb2⟩
  rw [hsA] at hsl hrow2
  have hnil := nilFn
  gi_wp2_with fail
  have hN2 : IntAt w2 (w1.heap.size + 1) 0 := (hb2.block _ (heap_lt hnA)).trans hnA
  have hB2 : BlAt w2 w.heap.size false := (hb2.block _ (Nat.lt_of_lt_of_le (heap_lt hbl1) hbA.size)).trans ((hbA.block _ (heap_lt hbl1)).trans hbl1)
  have hlow2 : Below w.heap.size w w2 := (hb1.trans (hbA.mono hb1.size)).trans (hb2.mono (Nat.le_trans hb1.size hbA.size))
  have hg3 : g < w2.heap.size := Nat.lt_of_lt_of_le hg2 (Nat.le_trans hbA.size hb2.size)
  have hss : w1.heap.size + 2 ≤ w2.heap.size := by have := hb2.size; omega
  have hw1 : w.heap.size < w1.heap.size := heap_lt hbl1
  have hgN : w2.heap[g]? = w1.heap[g]? := (hb2.block _ (by omega)).trans (hbA.block _ hg2)
  rw [World.size_alloc] at hg1
  refine range_aside (encs := encsE) (X := fun k => k = w1.heap.size + 1 ∨ k = w.heap.size ∨ k = w2.heap.size + 1) rfl (by omega) (gf := 18) (lb := #[.pointer (some ⟨w1.heap.size + 1 + 1, 0, none⟩)]) rfl trivial (enters_of Tryd.func18 (by kernel_rfl) rfl)
    (each_in 4 (by omega) (w1.heap.size + 1 + 1) v2 (eachL text2) _ _ w2 hsl hrow2 (by rw [text2_words]; decide) ?hX2) (.inr (.inr rfl)) (fun _ => rfl)
    (fun pre W => Mv (fun k => k = w1.heap.size + 1) w2 W ∧ IntAt W (w1.heap.size + 1) pre.length)
    (fun pre W => ∃ pre' x, pre = pre' ++ [x] ∧ (x.1 ≠ pre'.length ∨ x.2.d.k ≠ 1))
    ?hI ?hIx ⟨Mv.refl _ _, hN2⟩ ?round ?done ?stop
  case hX2 => rintro k h1 h2 (h | h | h) <;> omega
  case hI =>
    rintro s A B ⟨h1, h2⟩ m
    exact ⟨h1.later m (fun k h => by omega), (m.same _ (heap_lt h2) (fun hr => by omega)).trans h2⟩
  case hIx => exact fun s A B h m => h
  case round =>
    rintro pre ⟨i, ⟨⟨dk, dt, dn⟩, p, bad⟩⟩ Wp W ⟨h1, h2⟩ hmv hlen hsz
    have h1W : Mv (fun k => k = w1.heap.size + 1) w2 W := h1.later hmv (fun k h => by omega)
    have h2W : IntAt W (w1.heap.size + 1) pre.length := (hmv.same _ (heap_lt h2) (fun hr => by omega)).trans h2
    have hBW : BlAt W w.heap.size false := (h1W.same _ (heap_lt hB2) (by omega)).trans hB2
    rw [text2_words] at hlen
    simp only [List.length_cons, List.length_nil] at hlen
    have hWs : w2.heap.size + 2 ≤ W.heap.size := by have := hmv.size; omega
    clear h1 h2 hmv
    dsimp only [encsE, Wd.val, str]
    simp only [show ∀ a b : Value, (#[24, 25] : Array Tmp).zip #[a, b] = #[(24, a), (25, b)] from fun _ _ => by simp only [List.zip_toArray]; rfl, List.size_toArray, List.length_cons, List.length_nil, List.foldl_toArray', List.foldl_cons, List.foldl_nil, List.setIfInBounds_toArray, List.set_cons_succ, List.set_cons_zero]
    gi_wp2
    refine ⟨KeepsOthers.alloc _ _, Kept.below ((Below.refl _ _).alloc (Nat.le_refl _) _), fun W3 hm3 => ?_⟩
    have h1W3 : Mv (fun k => k = w1.heap.size + 1) w2 W3 := (h1W.later (Y := fun _ => False) (Mv.alloc _ _) (fun k h => h.elim)).later hm3 (fun k h => by omega)
    have h2W3 : IntAt W3 (w1.heap.size + 1) pre.length := (hm3.same _ (by have := heap_lt h2W; simp; omega) (by omega)).trans ((Below.heap_alloc W _ _ (heap_lt h2W)).trans h2W)
    have hBW3 : BlAt W3 w.heap.size false := (h1W3.same _ (heap_lt hB2) (by omega)).trans hB2
    have hbx : W3.heap[W.heap.size]? = some (.cells #[.int .i64 dk, .string ⟨dt.toArray⟩, .int .i64 dn, .int .i64 p.1, .int .i64 p.2] 30 (0, 0)) := (hm3.same _ (by simp) (by omega)).trans (heap_alloc_new W _)
    obtain ⟨x0, x1, x2, x3, x4, y0, y1, y2, y3, y4⟩ := box5 hbx
    obtain ⟨z0, z1⟩ := h2W3.cells
    obtain ⟨b0, b1⟩ := hBW3.cells
    by_cases hi : i = pre.length
    · by_cases hd : dk = 1
      · subst hi
        subst hd
        gi_wp2
        refine ⟨KeepsOthers.setCell _ _ _, Kept.setCell _ _ (.inl (.inl rfl)), h1W3.trans (Mv.setCell _ _ rfl), ?_⟩
        have := set_same (i := 0) (v := .int .i64 ((pre.length : Int) + 1)) h2W3
        rw [List.length_append]
        exact this
      · subst hi
        gi_wp2
        exact ⟨KeepsOthers.setCell _ _ _, _, _, rfl, .inr hd⟩
    · have hi' : (i : Int) ≠ (pre.length : Int) := by omega
      gi_wp2
      exact ⟨KeepsOthers.setCell _ _ _, _, _, rfl, .inl hi⟩
  case done =>
    rintro xs W rfl ⟨h1, h2⟩ hD
    rw [text2_words] at h2
    simp only [numbered, List.length_cons, List.length_nil, List.length_zip, List.length_range, Nat.min_self] at h2
    have hBW : BlAt W w.heap.size false := (h1.same _ (heap_lt hB2) (by omega)).trans hB2
    have hgW : W.heap[g]? = w1.heap[g]? := (h1.same g hg3 (by omega)).trans hgN
    have cel : ∀ (i r : Nat) (v : Value), w1.cell? ⟨g, i * 5 + r, none⟩ = some v → W.cell? ⟨g, i * 5 + r, none⟩ = some v := fun i r v h => by
      rw [← h]; unfold World.cell?; rw [show W.heap[g]? = w1.heap[g]? from hgW]
    have k0 := cel 0 0 _ (hcs 0 (by decide) 0 (by decide))
    have k1 := cel 0 1 _ (hcs 0 (by decide) 1 (by decide))
    have k2 := cel 0 2 _ (hcs 0 (by decide) 2 (by decide))
    have k3 := cel 0 3 _ (hcs 0 (by decide) 3 (by decide))
    have k4 := cel 0 4 _ (hcs 0 (by decide) 4 (by decide))
    have k6 := cel 1 1 _ (hcs 1 (by decide) 1 (by decide))
    have m0 := cel 3 0 _ (hcs 3 (by decide) 0 (by decide))
    have m1 := cel 3 1 _ (hcs 3 (by decide) 1 (by decide))
    have m2 := cel 3 2 _ (hcs 3 (by decide) 2 (by decide))
    have m3 := cel 3 3 _ (hcs 3 (by decide) 3 (by decide))
    have m4 := cel 3 4 _ (hcs 3 (by decide) 4 (by decide))
    simp only [Nat.zero_mul, Nat.zero_add, Nat.reduceAdd, Nat.reduceMul, Nat.add_zero, str, List.getElem_cons_zero, List.getElem_cons_succ] at k0 k1 k2 k3 k4 k6 m0 m1 m2 m3 m4
    obtain ⟨z0, z1⟩ := h2.cells
    obtain ⟨b0, b1⟩ := hBW.cells
    gi_wp2
    have hD' : (W.setCell ⟨w.heap.size, 0, none⟩ (.bool true)).heap[w2.heap.size]? = some (.deferred (some [])) := (set_other (by omega)).trans hD
    refine ⟨by simp, .inl ⟨_, _, rfl, run_takeDeferred hD', ?_⟩⟩
    have hm5 : Mv (fun k => k = w2.heap.size) (W.setCell ⟨w.heap.size, 0, none⟩ (.bool true)) ((W.setCell ⟨w.heap.size, 0, none⟩ (.bool true)).putObj w2.heap.size (.deferred none)) := Mv.putObj _ _ rfl
    have hB5 : BlAt _ w.heap.size true := (hm5.same _ (by simp; exact heap_lt hBW) (by omega)).trans (set_same hBW)
    obtain ⟨u0, -⟩ := hB5.cells
    refine ⟨.bool true, by simp [results, Tryd.results8, go_sem, u0], rfl, ?_⟩
    have ha : Mv (fun k => k = w1.heap.size + 1 ∨ k = w.heap.size ∨ k = w2.heap.size) w2 W := h1.mono (fun k _ h => .inl h)
    have hb' : Mv (fun k => k = w1.heap.size + 1 ∨ k = w.heap.size ∨ k = w2.heap.size) W (W.setCell ⟨w.heap.size, 0, none⟩ (.bool true)) := Mv.setCell _ _ (.inr (.inl rfl))
    have h6 := (ha.trans hb').trans (hm5.mono (fun k _ h => .inr (.inr h)))
    exact ⟨h6.os.trans hlow2.os, h6.tape.trans hlow2.tape, h6.output.trans hlow2.output, Nat.le_trans hlow2.size h6.size, fun k hk => (h6.same k (Nat.lt_of_lt_of_le hk hlow2.size) (by omega)).trans (hlow2.block k hk)⟩
  case stop =>
    rintro pre W hpre ⟨pre', x, rfl, hx⟩ hD
    exfalso
    obtain ⟨r, hr⟩ := hpre
    rw [text2_words] at hr
    have hr' : pre' ++ [x] ++ r = [(0, ⟨⟨1, [97], 0⟩, (1, 1), false⟩), (1, ⟨⟨1, [98], 0⟩, (1, 3), false⟩)] := hr.trans rfl
    clear hr
    match pre', hr', hx with
    | [], hr, hx =>
      obtain ⟨rfl, -⟩ := List.cons.inj hr
      rcases hx with h | h <;> exact h rfl
    | [_], hr, hx =>
      obtain ⟨-, hr⟩ := List.cons.inj hr
      obtain ⟨rfl, -⟩ := List.cons.inj hr
      rcases hx with h | h <;> exact h rfl
    | _ :: _ :: _, hr, _ =>
      have := congrArg List.length hr
      simp at this
end Go.Proofs.YtjgpbpmicopemaaDoor
