import Derived.Test.YtjgpbpmicopemaaGreatDoorPb09
import Derived.Deep.RegionLaw

/-
  The parser's unary.
-/
namespace Go.Proofs.YtjgpbpmicopemaaGreatDoor
open Go.RowKit Go.Shelf
set_option maxRecDepth 20000

set_option maxHeartbeats 4000000 in
theorem unaryZ {p : Nat} {E : Int × Int} {f : Nat} (ih : AllE p E f) (s : Sx) (w : World) (h : PrAt w p E s) (hno : unaryP (f + 1) s ≠ .out) :
    Calls Tryz.prog 123 #[.pointer (some ⟨p, 0, none⟩)] w (Post p E w encE (unaryP (f + 1) s)) := by
  unfold unaryP at hno ⊢
  rw [deepP_eq] at hno ⊢
  obtain ⟨R, hG⟩ : ∃ R, (do
    if ← anyP preWs then
      let w ← takeP
      let a ← unaryP f
      exprP 3 w.d.t [] 0 [] [a]
    else if ← castP then
      let _ ← takeP
      let t ← typP
      mustP [41]
      let a ← unaryP f
      exprP 5 [] [] 0 t [a]
    else postfixP f : Pr Ex) s.down = R := ⟨_, rfl⟩
  rw [hG] at hno ⊢
  have hno : R ≠ .out := by rintro rfl; exact hno rfl
  rw [bind_ok (rfl : anyP preWs s.down = .ok (anyB s.down.ws preWs) s.down)] at hG
  have hlt := h.lt
  refine calls_of_deeper Tryz.func123 rfl hno (fun w1 w2 v a he hm => he.later (Nat.le_refl _) hm hlt) ?_
  simp only [Tryz.ntmps123, List.size_toArray, List.length_cons, List.length_nil, Nat.reduceAdd, Nat.reduceSub, Array.replicate_succ, Array.replicate_zero, List.push_toArray, List.append_toArray, List.nil_append, List.cons_append]
  go_wp2_with fail
  refine (deeperZ p E s _ h).mono ?_
  rintro e w1 ⟨⟨q, rfl, hqp, hqs, hqc⟩, hP1, hM1⟩
  have hqa : ∀ w', Mv (fun k => k = p) w1 w' → w'.cell? ⟨q, 0, none⟩ = some (.pointer (some ⟨p, 0, none⟩)) := fun w' m => m.cell hqc hqp
  go_wp2_with fail
  refine (atZ p E _ _ hP1).mono ?_
  rintro e w2 ⟨rfl, hb2⟩
  have hbox := at_box (posOf E s.down.ws) (hP1.below hb2)
  have hP2 := (hP1.below hb2).below (belowAlloc w2 (.cells #[.int .i64 (posOf E s.down.ws).1, .int .i64 (posOf E s.down.ws).2] 26))
  have hm2 := (Mv.below (X := fun k => k = p) hb2).more (.cells #[.int .i64 (posOf E s.down.ws).1, .int .i64 (posOf E s.down.ws).2] 26)
  go_wp2_with fail
  have hsz : (w2.alloc (.cells #[.int .i64 (posOf E s.down.ws).1, .int .i64 (posOf E s.down.ws).2] 26)).heap.size = w2.heap.size + 1 := by simp
  generalize w2.alloc (.cells #[.int .i64 (posOf E s.down.ws).1, .int .i64 (posOf E s.down.ws).2] 26) = W2 at *
  have hP3 := hP2.below (belowAlloc W2 (rowOf preWs))
  have hm3 := hm2.more (rowOf preWs)
  have hm23 : Mv (fun k => k = p) W2 (W2.alloc (rowOf preWs)) := Mv.alloc _ _
  have C1 := anyZ p E s.down preWs (w2.heap.size + 1) _ hP3 (by decide) (row_cells (by rw [← hsz]; exact heap_alloc_new W2 (rowOf preWs)))
  refine C1.mono ?_
  rintro e w' ⟨rfl, rfl⟩
  generalize W2.alloc (rowOf preWs) = W3 at *
  cases hb : anyB s.down.ws preWs
  · rw [hb] at hG
    simp only [Bool.false_eq_true, if_false] at hG
    rw [bind_ok (rfl : castP s.down = .ok (castB s.down.ws) s.down)] at hG
    go_wp2_with fail
    refine (isZ p E _ [40] _ hP3).mono ?_
    rintro e w' ⟨rfl, rfl⟩
    cases hb4 : isB s.down.ws [40]
    · have hcb : castB s.down.ws = false := by unfold castB; rw [hb4]; rfl
      rw [hcb] at hG
      simp only [Bool.false_eq_true, if_false] at hG
      go_wp2_with fail
      refine (ih.post _ _ hP3 (by rw [hG]; exact hno)).mono ?_
      intro e w5 hq
      obtain ⟨s5, rfl, hB⟩ | ⟨v, a, rfl, ⟨b5, rfl, hE5⟩, hW⟩ := hq.last hG hno (hM1.trans hm3) (fun v b h => h.later ((hM1.trans hm3).size) (Mv.refl _ _) hlt)
      · go_wp2_with fail
        exact ⟨q, rfl, hqa _ ((hm3).trans hq.1), hB⟩
      unfold ptr
      go_wp2_with fail
      exact bodyPostQ_ret (v := ptr b5) (fun w' => by simp [results, Tryz.results123, go_sem, ptr]) rfl (hqa _ ((hm3).trans hq.1)) hW
    · obtain ⟨bb, cc, oo, g1, g2, g3, g4, g5⟩ := hP3.cells
      obtain ⟨c0, -, -, -, -, -, -, -⟩ := cells7 g5
      have hml : s.down.ws.length ≤ 9223372036854775807 := by unfold maxLen at g2; omega
      cases hw : s.down.ws with
      | nil => rw [hw] at hb4; simp [isB] at hb4
      | cons x xs =>
        obtain ⟨gg, go, rfl, hg, hgl, r0, r1, r2, r3, r4, r5⟩ := (hw ▸ g3) (by simp)
        rw [hw] at c0 hml
        simp only [List.length_cons] at c0 hml
        cases hxs : xs with
        | nil =>
          have hcb : castB s.down.ws = false := by unfold castB; rw [hw, hxs]; simp [typedB, anyB, typeWs, isB]
          rw [hcb] at hG
          simp only [Bool.false_eq_true, if_false] at hG
          rw [hxs] at c0 hml
          simp only [List.length_nil, Nat.zero_add] at c0 hml
          go_wp2_with fail
          refine (ih.post _ _ hP3 (by rw [hG]; exact hno)).mono ?_
          intro e w5 hq
          obtain ⟨s5, rfl, hB⟩ | ⟨v, a, rfl, ⟨b5, rfl, hE5⟩, hW⟩ := hq.last hG hno (hM1.trans hm3) (fun v b h => h.later ((hM1.trans hm3).size) (Mv.refl _ _) hlt)
          · go_wp2_with fail
            exact ⟨q, rfl, hqa _ ((hm3).trans hq.1), hB⟩
          unfold ptr
          go_wp2_with fail
          exact bodyPostQ_ret (v := ptr b5) (fun w' => by simp [results, Tryz.results123, go_sem, ptr]) rfl (hqa _ ((hm3).trans hq.1)) hW
        | cons y ys =>
          rw [hxs] at c0 hml
          simp only [List.length_cons] at c0 hml
          have hlc : ys.length + 1 + 1 ≤ cc := by
            rw [hw, hxs] at g1
            simpa using g1
          have hcc : cc ≤ 9223372036854775807 := by unfold maxLen at g2; omega
          have hne : s.down.ws ≠ [] := by rw [hw]; simp
          have hcb : castB s.down.ws = typedB (y :: ys) := by unfold castB; rw [hb4, hw, hxs]; rfl
          have hok : OkWs (y :: ys) := by
            have := hP3.kind
            rw [hw, hxs] at this
            exact this.tail
          obtain ⟨cur, hgl⟩ := hgl
          rw [hxs] at r5
          have hq0 : PrAt (W3.alloc (.cells #[.slice (some ⟨gg, go + 5, none⟩) (ys.length + 1) (cc - 1), .int .i64 0, .int .i64 0, .int .i64 0, .int .i64 0, .int .i64 0, .pointer none] 56)) W3.heap.size (0, 0) ⟨y :: ys, 0, 0, 0, false⟩ :=
            ⟨⟨by have := hP3.1.1; have := hP3.lt; omega, hP3.1.2.1.below (belowAlloc _ _), hok⟩, _, _, heap_alloc_new W3 _, ⟨some ⟨gg, go + 5, none⟩, cc - 1, rfl, by simp; omega, by omega, fun _ => ⟨gg, go + 5, rfl, by have := heap_lt hgl; omega, ⟨cur, at_alloc hgl _⟩, r5.same (at_alloc hgl _ |>.trans hgl.symm)⟩⟩, rfl⟩
          have hPa := hP3.below (belowAlloc W3 (.cells #[.slice (some ⟨gg, go + 5, none⟩) (ys.length + 1) (cc - 1), .int .i64 0, .int .i64 0, .int .i64 0, .int .i64 0, .int .i64 0, .pointer none] 56))
          have hma := hm3.more (.cells #[.slice (some ⟨gg, go + 5, none⟩) (ys.length + 1) (cc - 1), .int .i64 0, .int .i64 0, .int .i64 0, .int .i64 0, .int .i64 0, .pointer none] 56)
          have hmb := hm23.more (.cells #[.slice (some ⟨gg, go + 5, none⟩) (ys.length + 1) (cc - 1), .int .i64 0, .int .i64 0, .int .i64 0, .int .i64 0, .int .i64 0, .pointer none] 56)
          clear hw hxs r0 r1 r2 r3 r4 r5 g1 g3 g4 g5 hb hb4
          go_wp2_with fail
          refine (typedZ _ _ _ _ hq0).mono ?_
          rintro e w4 ⟨rfl, hb4⟩
          have hP4 := hPa.below hb4
          have hm4 := hma.trans (Mv.below (X := fun k => k = p) hb4)
          have hm24 := hmb.trans (Mv.below (X := fun k => k = p) hb4)
          clear hP3 hm3 hm23 hPa hma hmb hq0
          rw [hcb] at hG
          cases hty : typedB (y :: ys)
          · rw [hty] at hG
            simp only [Bool.false_eq_true, if_false] at hG
            go_wp2_with fail
            refine (ih.post _ _ hP4 (by rw [hG]; exact hno)).mono ?_
            intro e w5 hq
            obtain ⟨s5, rfl, hB⟩ | ⟨v, a, rfl, ⟨b5, rfl, hE5⟩, hW⟩ := hq.last hG hno (hM1.trans hm4) (fun v b h => h.later ((hM1.trans hm4).size) (Mv.refl _ _) hlt)
            · go_wp2_with fail
              exact ⟨q, rfl, hqa _ ((hm4).trans hq.1), hB⟩
            unfold ptr
            go_wp2_with fail
            exact bodyPostQ_ret (v := ptr b5) (fun w' => by simp [results, Tryz.results123, go_sem, ptr]) rfl (hqa _ ((hm4).trans hq.1)) hW
          · rw [hty] at hG
            simp only [if_true] at hG
            go_wp2_with fail
            refine (takeZ p E _ _ hP4 hne).mono ?_
            intro e w5 hq
            obtain ⟨s5, rfl, hB⟩ | ⟨x5, s5, v, hx5, hG, rfl, rfl, hP5, hM5, hm5⟩ := hq.cut hG hno (hM1.trans hm4)
            · go_wp2_with fail
              exact ⟨q, rfl, hqa _ (hm4.trans hq.1), hB⟩
            go_wp2_with fail
            refine (typZ p E s5 _ hP5).mono ?_
            intro e w6 hq
            obtain ⟨s6, rfl, hB⟩ | ⟨t6, s6, v, hx6, hG, rfl, rfl, hP6, hM6, hm6⟩ := hq.cut hG hno hM5
            · go_wp2_with fail
              exact ⟨q, rfl, hqa _ ((hm4.trans hm5).trans hq.1), hB⟩
            unfold str
            go_wp2_with fail
            refine (mustZ p E s6 [41] _ hP6).mono ?_
            intro e w7 hq
            obtain ⟨s7, rfl, hB⟩ | ⟨_, s7, v, hx7, hG, rfl, -, hP7, hM7, hm7⟩ := hq.cut hG hno hM6
            · go_wp2_with fail
              exact ⟨q, rfl, hqa _ (((hm4.trans hm5).trans hm6).trans hq.1), hB⟩
            have hma := ((hm4.trans hm5).trans hm6).trans hm7
            have hmb := ((hm24.trans hm5).trans hm6).trans hm7
            have hN := ih.unary s7 w7.drew (hP7.none (Mv.drew _)) (ne_cut hG hno)
            obtain ⟨z0, z1, za0, za1⟩ := hbox _ (hmb.drawn)
            go_wp2_with fail
            go_region_held (fun w' => w'.cell? ⟨w2.heap.size, 0, none⟩ = some (.int .i64 (posOf E s.down.ws).1) ∧ w'.cell? ⟨w2.heap.size, 1, none⟩ = some (.int .i64 (posOf E s.down.ws).2))
              (first | exact ⟨z0, z1⟩ | exact ⟨y0, y1⟩ | exact ⟨ya0 _, ya1 _⟩ | exact ⟨u0, u1⟩)
              (first | (go_at_call 123; (with_reducible refine Calls.mono hN ?_); intro e w8 hq; obtain ⟨s8, rfl, hB⟩ | ⟨a8, s8, v, hx8, hG8, rfl, ⟨b8, rfl, hE8⟩, hP8, hM8, hm8⟩ := hq.cut hG hno (hM7.drawn); (· exact ⟨q, rfl, hqa _ ((hma.drawn).trans hq.1), hB⟩); (obtain ⟨y0, y1, ya0, ya1⟩ := hbox _ ((hmb.drawn).trans hm8)); unfold ptr) | (go_at_call 125; (with_reducible refine Calls.mono (exprOne hlt hM8.size hP8 5 _ _ [] [] 0 t6 b8 a8 (hE8.later (hM7.drawn).size (Mv.refl _ _) hlt)) ?_); rintro e w9 ⟨b9, rfl, hP9, hm9, hE9⟩; obtain ⟨u0, u1, -⟩ := hbox _ (((hmb.drawn).trans hm8).trans hm9)))
            all_goals go_wp2_with fail
            all_goals exact bodyPostQ_ret (v := ptr b9) (fun w' => by simp [results, Tryz.results123, go_sem, ptr]) rfl (hqa _ (((hma.drawn).trans hm8).trans hm9)) (Post.wellc hG8 (hM8.trans hm9) hP9 ⟨b9, rfl, hE9⟩)
  · rw [hb] at hG
    simp only [if_true] at hG
    have hfd := field114_1
    go_wp2_with fail
    refine (takeZ p E _ _ hP3 (anyB_ne hb)).mono ?_
    intro e w4 hq
    obtain ⟨s4, rfl, hB⟩ | ⟨x4, s4, v, hx4, hG, rfl, rfl, hP4, hM4, hm4⟩ := hq.cut hG hno (hM1.trans hm3)
    · go_wp2_with fail
      exact ⟨q, rfl, hqa _ (hm3.trans hq.1), hB⟩
    unfold str
    go_wp2_with fail
    have hN := ih.unary s4 w4.drew (hP4.none (Mv.drew _)) (ne_cut hG hno)
    obtain ⟨z0, z1, za0, za1⟩ := hbox _ ((hm23.trans hm4).drawn)
    go_region_held (fun w' => w'.cell? ⟨w2.heap.size, 0, none⟩ = some (.int .i64 (posOf E s.down.ws).1) ∧ w'.cell? ⟨w2.heap.size, 1, none⟩ = some (.int .i64 (posOf E s.down.ws).2))
      (first | exact ⟨z0, z1⟩ | exact ⟨y0, y1⟩ | exact ⟨ya0 _, ya1 _⟩ | exact ⟨u0, u1⟩)
      (first | (go_at_call 123; (with_reducible refine Calls.mono hN ?_); intro e w6 hq; obtain ⟨s6, rfl, hB⟩ | ⟨a6, s6, v, hx6, hG6, rfl, ⟨b6, rfl, hE6⟩, hP6, hM6, hm6⟩ := hq.cut hG hno (hM4.drawn); (· exact ⟨q, rfl, hqa _ (((hm3.trans hm4).drawn).trans hq.1), hB⟩); (obtain ⟨y0, y1, ya0, ya1⟩ := hbox _ (((hm23.trans hm4).drawn).trans hm6)); unfold ptr) | (go_at_call 125; (with_reducible refine Calls.mono (exprOne hlt hM6.size hP6 3 _ _ x4.d.t [] 0 [] b6 a6 (hE6.later (hM4.drawn).size (Mv.refl _ _) hlt)) ?_); rintro e w7 ⟨b7, rfl, hP7, hm7, hE7⟩; obtain ⟨u0, u1, -⟩ := hbox _ ((((hm23.trans hm4).drawn).trans hm6).trans hm7)))
    all_goals go_wp2_with fail
    all_goals exact bodyPostQ_ret (v := ptr b7) (fun w' => by simp [results, Tryz.results123, go_sem, ptr]) rfl (hqa _ ((((hm3.trans hm4).drawn).trans hm6).trans hm7)) (Post.wellc hG6 (hM6.trans hm7) hP7 ⟨b7, rfl, hE7⟩)
end Go.Proofs.YtjgpbpmicopemaaGreatDoor

/-
  The expression parser keeps its promise, whatever its fuel. A statement at its callers.
-/
namespace Go.Proofs.YtjgpbpmicopemaaGreatDoor
open Go.RowKit Go.Shelf
set_option maxRecDepth 20000

theorem allE (p : Nat) (E : Int × Int) : ∀ f, f ≤ 10000000 → AllE p E f := by
  intro f
  induction f using Nat.strongRecOn with
  | ind f ih =>
    intro hf
    cases f with
    | zero =>
      constructor
      · intro lev s w _ _ _ h
        exact absurd (by unfold binaryP; rfl) h
      · intro s w _ h
        exact absurd (by unfold unaryP; rfl) h
      · intro s w _ h
        exact absurd (by unfold postfixP; rfl) h
      · intro s w _ h
        exact absurd (by unfold primaryP; rfl) h
      · intro s w _ h
        exact absurd (by unfold withinP; rfl) h
    | succ f =>
      have ih' : ∀ f', f' ≤ f → AllE p E f' := fun f' h => ih f' (by omega) (by omega)
      exact ⟨fun lev s w h0 h1 h hno => binaryZ ih' lev s w h0 h1 h hno, fun s w h hno => unaryZ (ih' f (Nat.le_refl _)) s w h hno, fun s w h hno => postfixZ ih' s w h hno, fun s w h hno => primaryZ (by omega) ih' s w h hno, fun s w h hno => withinZ (ih' f (Nat.le_refl _)) s w h hno⟩
/-- a pointer to a statement that is new -/
def encS (w w' : World) (v : Value) (x : St) : Prop := ∃ b, v = ptr b ∧ StAt w' (fun k => w.heap.size ≤ k) b x
theorem StAt.later {w w1 w2 w3 : World} {p b : Nat} {e : St} (h : StAt w2 (fun k => w1.heap.size ≤ k) b e) (hs : w.heap.size ≤ w1.heap.size) (m : Mv (fun k => k = p) w2 w3) (hp : p < w.heap.size) : StAt w3 (fun k => w.heap.size ≤ k) b e :=
  h.mv (Keeps.of m (fun k hk hx => by subst hx; omega)) (fun k hk => by omega)
theorem encS.later {w w1 w2 w3 : World} {p : Nat} {v : Value} {e : St} (h : encS w1 w2 v e) (hs : w.heap.size ≤ w1.heap.size) (m : Mv (fun k => k = p) w2 w3) (hp : p < w.heap.size) : encS w w3 v e := by
  obtain ⟨b, h1, h2⟩ := h
  exact ⟨b, h1, h2.later hs m hp⟩
theorem ExO.later {w w1 w2 w3 : World} {p : Nat} {v : Value} {e : Option Ex} (h : ExO w2 (fun k => w1.heap.size ≤ k) v e) (hs : w.heap.size ≤ w1.heap.size) (m : Mv (fun k => k = p) w2 w3) (hp : p < w.heap.size) : ExO w3 (fun k => w.heap.size ≤ k) v e :=
  h.mv (Keeps.of m (fun k hk hx => by subst hx; omega)) (fun k hk => by omega)
/-- a statement's cells while it is built -/
def stC (k ln cl : Int) (nm ty : Bs) (ve vp v : Value) : Array Value := #[.int .i64 k, .int .i64 ln, .int .i64 cl, .string ⟨nm.toArray⟩, .string ⟨ty.toArray⟩, ve, vp, v, .int .i64 0]
/-- the statement is made -/
def MadeS (p : Nat) (E : Int × Int) (w w5 : World) (s : Sx) (x : St) (e : Ending) (w6 : World) : Prop :=
  ∃ b6, e = .returned (.pointer (some ⟨b6, 0, none⟩)) ∧ PrAt w6 p E s ∧ Mv (fun k => k = p) w5 w6 ∧ StAt w6 (fun k => w.heap.size ≤ k) b6 x
section
variable {p : Nat} {E : Int × Int} {w w5 : World} {s : Sx}
theorem stmtMany (hlt : p < w.heap.size) (hs : w.heap.size ≤ w5.heap.size) (hP : PrAt w5 p E s) (k ln cl : Int) (nm ty : Bs) (e pl : Option Ex) (ve vp : Value) (l : List St) (v : Value) (he : ExO w5 (fun k => w.heap.size ≤ k) ve e) (hpl : ExO w5 (fun k => w.heap.size ≤ k) vp pl)
    (hv : ∃ bs, PtrsAt w5 (fun k => w.heap.size ≤ k) 71 v bs ∧ StsAt w5 (fun k => w.heap.size ≤ k) bs (.of l)) :
    Calls Tryz.prog 83 #[.pointer (some ⟨p, 0, none⟩), .agg (stC k ln cl nm ty ve vp v)] w5
      (MadeS p E w w5 (s.node (inc (maxS (maxO (maxO 0 e) pl) l))) (.mk k nm ty e pl (.of l) (inc (maxS (maxO (maxO 0 e) pl) l)))) := by
  obtain ⟨bs, hv, hx⟩ := hv
  refine (stmtZ p E s k ln cl nm ty e pl ve vp l w5 hP (fun k => w.heap.size ≤ k) (fun k hk => Nat.le_trans hs hk) v bs he hpl hv hx (by omega)).mono ?_
  rintro e w6 ⟨hm, hP6, v, rfl, b, rfl, hE⟩
  exact ⟨b, rfl, hP6, hm, hE⟩
end
theorem noSts {W : World} {K : Nat → Prop} : ∃ bs, PtrsAt W K 71 (.slice none 0 0) bs ∧ StsAt W K bs (.of []) := ⟨[], .inl ⟨rfl, rfl⟩, StsAt.none⟩
section
variable {W : World} {B : Nat} {a b c d e f g h i : Value} {T : TypeId}
theorem cells9 (hb : W.heap[B]? = some (.cells #[a, b, c, d, e, f, g, h, i] T (0, 0))) : W.cell? ⟨B, 0, none⟩ = some a ∧ W.cell? ⟨B, 1, none⟩ = some b ∧ W.cell? ⟨B, 2, none⟩ = some c ∧ W.cell? ⟨B, 3, none⟩ = some d ∧
    W.cell? ⟨B, 4, none⟩ = some e ∧ W.cell? ⟨B, 5, none⟩ = some f ∧ W.cell? ⟨B, 6, none⟩ = some g ∧ W.cell? ⟨B, 7, none⟩ = some h ∧ W.cell? ⟨B, 8, none⟩ = some i ∧ ∀ i, W.frozen? ⟨B, i, none⟩ = false := by
  refine ⟨?_, ?_, ?_, ?_, ?_, ?_, ?_, ?_, ?_, ?_⟩ <;> simp [World.cell?, World.frozen?, hb]
end
/-- a store into a block of a call's own -/
theorem PrAt.own {W W' : World} {p : Nat} {E : Int × Int} {s : Sx} {B T : Nat} {cs : Array Value} {r : Nat × Nat} (h : PrAt W p E s) (hb : W.heap[B]? = some (.cells cs T r)) (hB : p < B) (hT : T ≠ 114 ∧ T ≠ 26) (m : Mv (fun k => k = B) W W') : PrAt W' p E s :=
  h.tame m (fun k hk _ => by subst hk; have := h.1.1; exact ⟨by omega, by omega, fun c t r' ht => by rw [hb] at ht; cases ht; exact hT⟩)
end Go.Proofs.YtjgpbpmicopemaaGreatDoor

/-
  The parser's decl.
-/
namespace Go.Proofs.YtjgpbpmicopemaaGreatDoor
open Go.RowKit Go.Shelf
set_option maxRecDepth 20000

set_option maxHeartbeats 4000000 in
theorem declZ {p : Nat} {E : Int × Int} {f : Nat} (hf0 : f ≤ 10000000) (s : Sx) (w : World) (h : PrAt w p E s) (hno : declP f s ≠ .out) :
    Calls Tryz.prog 81 #[.pointer (some ⟨p, 0, none⟩)] w (Post p E w encS (declP f s)) := by
  obtain ⟨R, hG⟩ : ∃ R, declP f s = R := ⟨_, rfl⟩
  rw [hG] at hno ⊢
  unfold declP at hG
  have hlt := h.lt
  have ih := allE p E f hf0
  go_enter Tryz.func81, Tryz.ntmps81
  go_wp2_with fail
  refine (typZ p E s _ h).mono ?_
  intro e w1 hq
  obtain ⟨s1, rfl, hB⟩ | ⟨t1, s1, v, hx1, hG, rfl, rfl, hP1, hM1, hm1⟩ := hq.cut hG hno (Mv.refl _ _)
  · go_wp2_with fail
    exact ⟨rfl, hB⟩
  unfold str
  go_wp2_with fail
  have hBp : w1.heap.size ≠ p := by have := hP1.lt; omega
  have hBlt : p < w1.heap.size := hP1.lt
  have hBw := hM1.size
  have hbx1 := heap_alloc_new w1 (.cells #[.int .i64 3, .int .i64 0, .int .i64 0, .string ⟨#[]⟩, .string ⟨t1.toArray⟩, .pointer none, .pointer none, .slice none 0 0, .int .i64 0] 125)
  have hP1a := hP1.below (belowAlloc w1 (.cells #[.int .i64 3, .int .i64 0, .int .i64 0, .string ⟨#[]⟩, .string ⟨t1.toArray⟩, .pointer none, .pointer none, .slice none 0 0, .int .i64 0] 125))
  have hM1a := hM1.more (.cells #[.int .i64 3, .int .i64 0, .int .i64 0, .string ⟨#[]⟩, .string ⟨t1.toArray⟩, .pointer none, .pointer none, .slice none 0 0, .int .i64 0] 125)
  refine (atZ p E s1 _ hP1a).mono ?_
  rintro e w2 ⟨rfl, hb2⟩
  have hP2 := hP1a.below hb2
  have hM2 := hM1a.trans (Mv.below (X := fun k => k = p) hb2)
  have hbx2 := (hb2.block _ (heap_lt hbx1)).trans hbx1
  obtain ⟨c0, c1, c2, c3, c4, c5, c6, c7, c8, cf⟩ := cells9 hbx2
  go_wp2_with fail
  have hm3 : Mv (fun k => k = w1.heap.size) w2 ((w2.setCell ⟨w1.heap.size, 1, none⟩ (.int .i64 (posOf E s1.ws).1)).setCell ⟨w1.heap.size, 2, none⟩ (.int .i64 (posOf E s1.ws).2)) := (Mv.setCell (X := fun k => k = w1.heap.size) _ _ rfl).trans (Mv.setCell (X := fun k => k = w1.heap.size) _ _ rfl)
  have hP3 := hP2.own hbx2 hBlt (by decide) hm3
  have hM3 := hM2.fresh hm3 (fun j hj => by subst hj; exact hBw)
  have hbx3 : ((w2.setCell ⟨w1.heap.size, 1, none⟩ (.int .i64 (posOf E s1.ws).1)).setCell ⟨w1.heap.size, 2, none⟩ (.int .i64 (posOf E s1.ws).2)).heap[w1.heap.size]? = some (.cells #[.int .i64 3, .int .i64 (posOf E s1.ws).1, .int .i64 (posOf E s1.ws).2, .string ⟨#[]⟩, .string ⟨t1.toArray⟩, .pointer none, .pointer none, .slice none 0 0, .int .i64 0] 125 (0, 0)) := set_same (set_same hbx2)
  clear c0 c1 c2 c3 c4 c5 c6 c7 c8 cf
  generalize (w2.setCell ⟨w1.heap.size, 1, none⟩ (.int .i64 (posOf E s1.ws).1)).setCell ⟨w1.heap.size, 2, none⟩ (.int .i64 (posOf E s1.ws).2) = w3 at *
  refine (nameZ p E s1 _ hP3).mono ?_
  intro e w4 hq
  obtain ⟨s4, rfl, hB⟩ | ⟨n3, s4, v, hx4, hG, rfl, rfl, hP4, hM4, hm4⟩ := hq.cut hG hno hM3
  · go_wp2_with fail
    exact ⟨rfl, hB⟩
  have hbx4 := (hm4.same _ (heap_lt hbx3) hBp).trans hbx3
  obtain ⟨c0, c1, c2, c3, c4, c5, c6, c7, c8, cf⟩ := cells9 hbx4
  unfold str
  go_wp2_with fail
  have hm5 : Mv (fun k => k = w1.heap.size) w4 (w4.setCell ⟨w1.heap.size, 3, none⟩ (.string ⟨n3.toArray⟩)) := Mv.setCell _ _ rfl
  have hP5 := hP4.own hbx4 hBlt (by decide) hm5
  have hM5 := hM4.fresh hm5 (fun j hj => by subst hj; exact hBw)
  have hbx5 : (w4.setCell ⟨w1.heap.size, 3, none⟩ (.string ⟨n3.toArray⟩)).heap[w1.heap.size]? = some (.cells #[.int .i64 3, .int .i64 (posOf E s1.ws).1, .int .i64 (posOf E s1.ws).2, .string ⟨n3.toArray⟩, .string ⟨t1.toArray⟩, .pointer none, .pointer none, .slice none 0 0, .int .i64 0] 125 (0, 0)) := set_same hbx4
  clear c0 c1 c2 c3 c4 c5 c6 c7 c8 cf
  generalize w4.setCell ⟨w1.heap.size, 3, none⟩ (.string ⟨n3.toArray⟩) = w5 at *
  refine (mayZ p E s4 [61] _ hP5).mono ?_
  intro e w5b hq
  obtain ⟨s5, rfl, hB⟩ | ⟨k5, s5, v, hx5, hG, rfl, rfl, hP5b, hM5b, hm5b⟩ := hq.cut hG hno hM5
  · go_wp2_with fail
    exact ⟨rfl, hB⟩
  have hbx5b := (hm5b.same _ (heap_lt hbx5) hBp).trans hbx5
  obtain ⟨c0, c1, c2, c3, c4, c5, c6, c7, c8, cf⟩ := cells9 hbx5b
  cases k5
  · simp only [Bool.false_eq_true, if_false] at hG
    go_wp2_with fail
    refine (arrayZ p E s5 t1 _ hP5b (typ_len hx1 h.kind)).mono ?_
    intro e w6 hq
    obtain ⟨s6, rfl, hB⟩ | ⟨t6, s6, v, hx6, hG, rfl, rfl, hP6, hM6, hm6⟩ := hq.cut hG hno hM5b
    · go_wp2_with fail
      exact ⟨rfl, hB⟩
    unfold str
    have hbx6a := (hm6.same _ (heap_lt hbx5b) hBp).trans hbx5b
    clear c0 c1 c2 c3 c4 c5 c6 c7 c8 cf
    obtain ⟨c0, c1, c2, c3, c4, c5, c6, c7, c8, cf⟩ := cells9 hbx6a
    go_wp2_with fail
    have hm6b : Mv (fun k => k = w1.heap.size) w6 (w6.setCell ⟨w1.heap.size, 4, none⟩ (.string ⟨t6.toArray⟩)) := Mv.setCell _ _ rfl
    replace hP6 := hP6.own hbx6a hBlt (by decide) hm6b
    replace hM6 := hM6.fresh hm6b (fun j hj => by subst hj; exact hBw)
    have hbx6 : (w6.setCell ⟨w1.heap.size, 4, none⟩ (.string ⟨t6.toArray⟩)).heap[w1.heap.size]? = some (.cells #[.int .i64 3, .int .i64 (posOf E s1.ws).1, .int .i64 (posOf E s1.ws).2, .string ⟨n3.toArray⟩, .string ⟨t6.toArray⟩, .pointer none, .pointer none, .slice none 0 0, .int .i64 0] 125 (0, 0)) := set_same hbx6a
    clear c0 c1 c2 c3 c4 c5 c6 c7 c8 cf
    generalize w6.setCell ⟨w1.heap.size, 4, none⟩ (.string ⟨t6.toArray⟩) = w6 at *
    go_wp2_with fail
    refine (mustZ p E s6 [59] _ hP6).mono ?_
    intro e w7 hq
    obtain ⟨s7, rfl, hB⟩ | ⟨_, s7, v, hx7, hG, rfl, -, hP7, hM7, hm7⟩ := hq.cut hG hno hM6
    · go_wp2_with fail
      exact ⟨rfl, hB⟩
    have hbx7 := (hm7.same _ (heap_lt hbx6) hBp).trans hbx6
    obtain ⟨c0, c1, c2, c3, c4, c5, c6, c7, c8, cf⟩ := cells9 hbx7
    go_wp2_with fail
    refine (stmtMany hlt hM7.size hP7 3 _ _ n3 t6 none none _ _ [] _ rfl rfl noSts).mono ?_
    rintro e w8 ⟨b8, rfl, hP8, hm8, hE8⟩
    go_wp2_with fail
    exact bodyPost_ret (v := ptr b8) (by simp [results, Tryz.results81, go_sem, ptr]) rfl (Post.wellc hG (hM7.trans hm8) hP8 ⟨b8, rfl, hE8⟩)
  · simp only [if_true] at hG
    go_wp2_with fail
    refine (ih.binary 0 s5 _ (by omega) (by omega) hP5b (ne_cut hG hno)).mono ?_
    intro e w6 hq
    obtain ⟨s6, rfl, hB⟩ | ⟨a6, s6, v, hx6, hG, rfl, ⟨b6, rfl, hE6⟩, hP6, hM6, hm6⟩ := hq.cut hG hno hM5b
    · go_wp2_with fail
      exact ⟨rfl, hB⟩
    unfold ptr
    have hbx6a := (hm6.same _ (heap_lt hbx5b) hBp).trans hbx5b
    clear c0 c1 c2 c3 c4 c5 c6 c7 c8 cf
    obtain ⟨c0, c1, c2, c3, c4, c5, c6, c7, c8, cf⟩ := cells9 hbx6a
    go_wp2_with fail
    have hm6b : Mv (fun k => k = w1.heap.size) w6 (w6.setCell ⟨w1.heap.size, 5, none⟩ (.pointer (some ⟨b6, 0, none⟩))) := Mv.setCell _ _ rfl
    have hE6b : ExAt (w6.setCell ⟨w1.heap.size, 5, none⟩ (.pointer (some ⟨b6, 0, none⟩))) (fun k => w.heap.size ≤ k) b6 a6 := hE6.mv (Keeps.of hm6b (fun k hk hx => by have hz := heap_lt hbx5b; omega)) (fun k hk => by have := hM5b.size; omega)
    replace hP6 := hP6.own hbx6a hBlt (by decide) hm6b
    replace hM6 := hM6.fresh hm6b (fun j hj => by subst hj; exact hBw)
    have hbx6 : (w6.setCell ⟨w1.heap.size, 5, none⟩ (.pointer (some ⟨b6, 0, none⟩))).heap[w1.heap.size]? = some (.cells #[.int .i64 3, .int .i64 (posOf E s1.ws).1, .int .i64 (posOf E s1.ws).2, .string ⟨n3.toArray⟩, .string ⟨t1.toArray⟩, .pointer (some ⟨b6, 0, none⟩), .pointer none, .slice none 0 0, .int .i64 0] 125 (0, 0)) := set_same hbx6a
    clear c0 c1 c2 c3 c4 c5 c6 c7 c8 cf
    generalize w6.setCell ⟨w1.heap.size, 5, none⟩ (.pointer (some ⟨b6, 0, none⟩)) = w6 at *
    go_wp2_with fail
    refine (mustZ p E s6 [59] _ hP6).mono ?_
    intro e w7 hq
    obtain ⟨s7, rfl, hB⟩ | ⟨_, s7, v, hx7, hG, rfl, -, hP7, hM7, hm7⟩ := hq.cut hG hno hM6
    · go_wp2_with fail
      exact ⟨rfl, hB⟩
    have hbx7 := (hm7.same _ (heap_lt hbx6) hBp).trans hbx6
    obtain ⟨c0, c1, c2, c3, c4, c5, c6, c7, c8, cf⟩ := cells9 hbx7
    go_wp2_with fail
    refine (stmtMany hlt hM7.size hP7 3 _ _ n3 t1 (some a6) none _ _ [] _ ⟨b6, rfl, hE6b.later (Nat.le_refl _) hm7 hlt⟩ rfl noSts).mono ?_
    rintro e w8 ⟨b8, rfl, hP8, hm8, hE8⟩
    go_wp2_with fail
    exact bodyPost_ret (v := ptr b8) (by simp [results, Tryz.results81, go_sem, ptr]) rfl (Post.wellc hG (hM7.trans hm8) hP8 ⟨b8, rfl, hE8⟩)
end Go.Proofs.YtjgpbpmicopemaaGreatDoor

/-
  A statement's list grows by one.
-/
namespace Go.Proofs.YtjgpbpmicopemaaGreatDoor
open Go.RowKit Go.Shelf
set_option maxRecDepth 20000

section
variable {p : Nat} {E : Int × Int} {w w4 w6 w7 w9 : World} {B q : Nat} {v : Value} {l : List St} {s7 : Sx} {a b c d e f h i : Value} {x : St} {b7 g cap : Nat} {bs : List Nat} {o : Obj}
/-- before the append: what is known of the list and of the box that holds it -/
theorem list_facts (hCh : Chain sortS 71 w4 w6 v l) (hbx : w6.heap[B]? = some (.cells #[a, b, c, d, e, f, h, v, i] 125 (0, 0))) (hlt : p < w4.heap.size) (hBp : B ≠ p) (m : Mv (fun k => k = p) w6 w7) :
    (w7.cell? ⟨B, 7, none⟩ = some v ∧ (∀ o, (w7.alloc o).cell? ⟨B, 7, none⟩ = some v)) ∧ w7.heap[B]? = some (.cells #[a, b, c, d, e, f, h, v, i] 125 (0, 0)) ∧
      ∃ bs : List Nat, bs.length = l.length ∧ w7.ownsRow w4.heap.size 71 1 v l.length (bs.map ptr) ∧ ∀ (k : Nat) (e : St) (b : Nat), l[k]? = some e → bs[k]? = some b → StAt w7 (fun j => w4.heap.size ≤ j ∧ v.ownBlock ≠ some j) b e := by
  have hb7 := (m.same B (heap_lt hbx) hBp).trans hbx
  have c7 : w7.cell? ⟨B, 7, none⟩ = some v := by unfold World.cell?; rw [hb7]; rfl
  exact ⟨⟨c7, fun o => cell_alloc c7 o⟩, hb7, hCh.mv m hlt⟩
/-- behind the append: the box may be written -/
theorem list_room (hCh : Chain sortS 71 w4 w6 v l) (hb7 : w7.heap[B]? = some (.cells #[a, b, c, d, e, f, h, v, i] 125 (0, 0))) (hB4 : B < w4.heap.size) (hgr : (w7.alloc o).grownBy w9 v.ownBlock) :
    w9.cell? ⟨B, 7, none⟩ = some v ∧ w9.frozen? ⟨B, 7, none⟩ = false ∧ w9.heap[B]? = some (.cells #[a, b, c, d, e, f, h, v, i] 125 (0, 0)) := by
  have hb9 : w9.heap[B]? = some (.cells #[a, b, c, d, e, f, h, v, i] 125 (0, 0)) := (hgr.block B (Nat.lt_of_lt_of_le (heap_lt hb7) (by simp)) (fun e => by have := (hCh.own B e.symm).1; omega)).trans (at_alloc hb7 o)
  refine ⟨?_, ?_, hb9⟩
  · unfold World.cell?; rw [hb9]; rfl
  · unfold World.frozen?; rw [hb9]; rfl
theorem list_step (hCh : Chain sortS 71 w4 w6 v l) (hlt : p < w4.heap.size) (h46 : w4.heap.size ≤ w6.heap.size) (hw4 : w.heap.size ≤ w4.heap.size) (hwB : w.heap.size ≤ B) (hB4 : B < w4.heap.size) (hpB : p < B) (hq4 : q < w4.heap.size) (hqB : q ≠ B) (m67 : Mv (fun k => k = p) w6 w7)
    (hb7 : w7.heap[B]? = some (.cells #[a, b, c, d, e, f, h, v, i] 125 (0, 0))) (hqc7 : w7.cell? ⟨q, 0, none⟩ = some (.pointer (some ⟨p, 0, none⟩))) (hP7 : PrAt w7 p E s7) (hM7 : Mv (fun k => k = p) w w7)
    (q1 : bs.length = l.length) (q3 : ∀ (k : Nat) (e : St) (b : Nat), l[k]? = some e → bs[k]? = some b → StAt w7 (fun j => w4.heap.size ≤ j ∧ v.ownBlock ≠ some j) b e) (hE7 : StAt w7 (fun k => w6.heap.size ≤ k) b7 x)
    (hown' : w9.ownsRow w4.heap.size 71 1 (.slice (some ⟨g, 0, none⟩) (l.length + 1) cap) (l.length + 1) (bs.map ptr ++ [ptr b7])) (hgr : (w7.alloc o).grownBy w9 v.ownBlock) (hat : v.ownBlock = some g ∨ g = (w7.alloc o).heap.size) :
    Chain sortS 71 w4 (w9.setCell ⟨B, 7, none⟩ (.slice (some ⟨g, 0, none⟩) (l.length + 1) cap)) (.slice (some ⟨g, 0, none⟩) (l.length + 1) cap) (l ++ [x]) ∧ PrAt (w9.setCell ⟨B, 7, none⟩ (.slice (some ⟨g, 0, none⟩) (l.length + 1) cap)) p E s7 ∧
      Mv (fun k => k = p) w (w9.setCell ⟨B, 7, none⟩ (.slice (some ⟨g, 0, none⟩) (l.length + 1) cap)) ∧ (w9.setCell ⟨B, 7, none⟩ (.slice (some ⟨g, 0, none⟩) (l.length + 1) cap)).heap[B]? = some (.cells #[a, b, c, d, e, f, h, .slice (some ⟨g, 0, none⟩) (l.length + 1) cap, i] 125 (0, 0)) ∧
      (w9.setCell ⟨B, 7, none⟩ (.slice (some ⟨g, 0, none⟩) (l.length + 1) cap)).cell? ⟨q, 0, none⟩ = some (.pointer (some ⟨p, 0, none⟩)) ∧ Mv (fun k => k = p ∨ k = B ∨ v.ownBlock = some k) w6 (w9.setCell ⟨B, 7, none⟩ (.slice (some ⟨g, 0, none⟩) (l.length + 1) cap)) := by
  have hb9 := (list_room hCh hb7 hB4 hgr).2.2
  have hCh9 := Chain.push (W1 := w6) (S := sortS) q1 q3 h46 (fun k hk => (hCh.own k hk).2.1) hE7 (belowAlloc w7 o) hown' hgr hat
  obtain ⟨hP9, hm9⟩ := (hCh.mv m67 hlt).tame (by decide) hP7 hlt (belowAlloc w7 o) hgr
  have hm10 : Mv (fun k => k = B) w9 (w9.setCell ⟨B, 7, none⟩ (.slice (some ⟨g, 0, none⟩) (l.length + 1) cap)) := Mv.setCell _ _ rfl
  refine ⟨hCh9.mv hm10 hB4, hP9.own hb9 hpB (by decide) hm10, (hM7.fresh hm9 (fun j hj => by have := (hCh.own j hj).1; omega)).fresh hm10 (fun j hj => by subst hj; exact hwB), set_same hb9, ?_, ?_⟩
  · exact hm10.cell (hm9.cell hqc7 (fun e => by have := (hCh.own q e).1; omega)) hqB
  · exact ((m67.mono (fun _ _ h => Or.inl h)).trans (hm9.mono (fun _ _ h => Or.inr (Or.inr h)))).trans (hm10.mono (fun _ _ h => Or.inr (Or.inl h)))
end
theorem Chain.lastS {w w4 W : World} {v : Value} {l : List St} (h : Chain sortS 71 w4 W v l) (hw : w.heap.size ≤ w4.heap.size) : ∃ bs, PtrsAt W (fun k => w.heap.size ≤ k) 71 v bs ∧ StsAt W (fun k => w.heap.size ≤ k) bs (.of l) := by
  obtain ⟨bs, h1, h2⟩ := h.argsS
  exact ⟨bs, h1.mv (fun _ _ _ => rfl) (fun k hk => by omega), h2.mv (fun _ _ _ => rfl) (fun k hk => by omega)⟩
end Go.Proofs.YtjgpbpmicopemaaGreatDoor

/-
  The parser's block.
-/
namespace Go.Proofs.YtjgpbpmicopemaaGreatDoor
open Go.RowKit Go.Shelf
set_option maxRecDepth 20000

/-- the statement parser's parts with this fuel keep their promise -/
structure AllS (p : Nat) (E : Int × Int) (f : Nat) : Prop where
  block : ∀ s w, PrAt w p E s → blockP f s ≠ .out → Calls Tryz.prog 58 #[.pointer (some ⟨p, 0, none⟩)] w (Post p E w encS (blockP f s))
  stat : ∀ s w, PrAt w p E s → statementP f s ≠ .out → Calls Tryz.prog 82 #[.pointer (some ⟨p, 0, none⟩)] w (Post p E w encS (statementP f s))
theorem info71 : (Tryz.prog.info? 71).map (fun i => (i.zero, i.size, i.bytes)) = some (some (.pointer none), 1, 8) := by kernel_rfl
set_option maxHeartbeats 8000000 in
theorem blockZ {p : Nat} {E : Int × Int} {f : Nat} (hf0 : f ≤ 10000000) (ih : ∀ f', f' ≤ f → AllS p E f') (s : Sx) (w : World) (h : PrAt w p E s) (hno : blockP (f + 1) s ≠ .out) :
    Calls Tryz.prog 58 #[.pointer (some ⟨p, 0, none⟩)] w (Post p E w encS (blockP (f + 1) s)) := by
  unfold blockP at hno ⊢
  rw [deepP_eq] at hno ⊢
  obtain ⟨R, hG⟩ : ∃ R, (do
    mustP [123]
    let l ← listP f []
    stmtP 1 [] [] none none l : Pr St) s.down = R := ⟨_, rfl⟩
  rw [hG] at hno ⊢
  have hno : R ≠ .out := by rintro rfl; exact hno rfl
  have hlt := h.lt
  refine calls_of_deeper Tryz.func58 rfl hno (fun w1 w2 v a he hm => he.later (Nat.le_refl _) hm hlt) ?_
  simp only [Tryz.ntmps58, List.size_toArray, List.length_cons, List.length_nil, Nat.reduceAdd, Nat.reduceSub, Array.replicate_succ, Array.replicate_zero, List.push_toArray, List.append_toArray, List.nil_append, List.cons_append]
  go_wp2_with fail
  refine (deeperZ p E s _ h).mono ?_
  rintro e w1 ⟨⟨q, rfl, hqp, hqs, hqc⟩, hP1, hM1⟩
  go_wp2_with fail
  refine (atZ p E _ _ hP1).mono ?_
  rintro e w2 ⟨rfl, hb2⟩
  have hP2 := hP1.below hb2
  have hM2 := hM1.trans (Mv.below (X := fun k => k = p) hb2)
  have hBlt := hP2.lt
  have hBw := hM2.size
  have hBp : w2.heap.size ≠ p := by omega
  have hqB : q < w2.heap.size := Nat.lt_of_lt_of_le (cell_lt hqc) hb2.size
  have hqc2 : w2.cell? ⟨q, 0, none⟩ = some (.pointer (some ⟨p, 0, none⟩)) := (Mv.below (X := fun k => k = p) hb2).cell hqc hqp
  have hbx3 := heap_alloc_new w2 (.cells #[.int .i64 1, .int .i64 (posOf E s.down.ws).1, .int .i64 (posOf E s.down.ws).2, .string ⟨#[]⟩, .string ⟨#[]⟩, .pointer none, .pointer none, .slice none 0 0, .int .i64 0] 125)
  have hP3 := hP2.below (belowAlloc w2 (.cells #[.int .i64 1, .int .i64 (posOf E s.down.ws).1, .int .i64 (posOf E s.down.ws).2, .string ⟨#[]⟩, .string ⟨#[]⟩, .pointer none, .pointer none, .slice none 0 0, .int .i64 0] 125))
  have hM3 := hM2.more (.cells #[.int .i64 1, .int .i64 (posOf E s.down.ws).1, .int .i64 (posOf E s.down.ws).2, .string ⟨#[]⟩, .string ⟨#[]⟩, .pointer none, .pointer none, .slice none 0 0, .int .i64 0] 125)
  have hqc3 := cell_alloc hqc2 (.cells #[.int .i64 1, .int .i64 (posOf E s.down.ws).1, .int .i64 (posOf E s.down.ws).2, .string ⟨#[]⟩, .string ⟨#[]⟩, .pointer none, .pointer none, .slice none 0 0, .int .i64 0] 125)
  go_wp2_with fail
  generalize w2.alloc (.cells #[.int .i64 1, .int .i64 (posOf E s.down.ws).1, .int .i64 (posOf E s.down.ws).2, .string ⟨#[]⟩, .string ⟨#[]⟩, .pointer none, .pointer none, .slice none 0 0, .int .i64 0] 125) = w3 at *
  refine (mustZ p E _ [123] _ hP3).mono ?_
  intro e w4 hq
  obtain ⟨s4, rfl, hB⟩ | ⟨_, s4, v, hx4, hG, rfl, -, hP4, hM4, hm4⟩ := hq.cut hG hno hM3
  · go_wp2_with fail
    exact ⟨q, rfl, hq.1.cell hqc3 hqp, hB⟩
  have hbx4 := (hm4.same _ (heap_lt hbx3) hBp).trans hbx3
  have hqc4 := hm4.cell hqc3 hqp
  go_wp2_with fail
  have hB4 : w2.heap.size < w4.heap.size := heap_lt hbx4
  have hlt4 : p < w4.heap.size := hP4.lt
  have hw4 : w.heap.size ≤ w4.heap.size := hM4.size
  go_loopg [15] f (fun g s15 wr => ∃ (f' : Nat) (l : List St) (s' : Sx) (v : Value), l.length + f' ≤ f ∧ f' ≤ g ∧ (listP f' l >>= fun l => stmtP 1 [] [] none none l) s' = R ∧ Chain sortS 71 w4 wr v l ∧ PrAt wr p E s' ∧ Mv (fun k => k = p) w wr ∧
    wr.heap[w2.heap.size]? = some (.cells #[.int .i64 1, .int .i64 (posOf E s.down.ws).1, .int .i64 (posOf E s.down.ws).2, .string ⟨#[]⟩, .string ⟨#[]⟩, .pointer none, .pointer none, v, .int .i64 0] 125 (0, 0)) ∧ wr.cell? ⟨q, 0, none⟩ = some (.pointer (some ⟨p, 0, none⟩)) ∧ w4.heap.size ≤ wr.heap.size)
  case atStart => exact ⟨f, [], s4, _, by simp, Nat.le_refl _, hG, Chain.nil _ _ _ _, hP4, hM4, hbx4, hqc4, Nat.le_refl _⟩
  case round =>
    clear hG hM4 hm4 hqc4 hbx4 hP4 hM3 hP3 hbx3 hqc3 hM2 hP2 hb2 hqc2
    obtain ⟨f', l, s', v, hfl, hg', hG, hCh, hP4, hM4, hbx4, hqc4, h44⟩ := hrel
    cases f' with
    | zero => exact absurd (by rw [← hG]; rfl) hno
    | succ f' =>
      unfold listP at hG
      rw [pr_assoc] at hG
      go_wp2_with fail
      refine (mayZ p E s' [125] _ hP4).mono ?_
      intro e w5 hq
      obtain ⟨s5, rfl, hB⟩ | ⟨c5, s5, v5, hx5, hG, rfl, rfl, hP5, hM5, hm5⟩ := hq.cut hG hno hM4
      · go_wp2_with fail
        exact ⟨q, rfl, hq.1.cell hqc4 hqp, hB⟩
      have hbx5 := (hm5.same _ (heap_lt hbx4) hBp).trans hbx4
      have hqc5 := hm5.cell hqc4 hqp
      have hCh5 := hCh.mv hm5 hlt4
      have h45 := Nat.le_trans h44 hm5.size
      clear hCh hP4 hM4 hbx4 hqc4 h44 hm5
      cases c5
      · simp only [Bool.false_eq_true, if_false] at hG
        rw [pr_assoc, bind_ok (rfl : typedP s5 = .ok (typedB s5.ws) s5)] at hG
        go_wp2_with fail
        refine (typedZ p E s5 _ hP5).mono ?_
        rintro e w6 ⟨rfl, hb6⟩
        have hm6 := Mv.below (X := fun k => k = p) hb6
        have hP6 := (hP5.below hb6).none (Mv.drew _)
        have hM6d := (hM5.trans hm6).drawn
        have hbx6 : w6.drew.heap[w2.heap.size]? = _ := (hm6.drawn.same _ (heap_lt hbx5) hBp).trans hbx5
        have hqc6d := hm6.drawn.cell hqc5 hqp
        have hCh6 := hCh5.mv hm6.drawn hlt4
        have h46 : w4.heap.size ≤ w6.drew.heap.size := Nat.le_trans h45 hm6.drawn.size
        have c6 : w6.drew.cell? ⟨w2.heap.size, 7, none⟩ = some v := by unfold World.cell?; rw [hbx6]; rfl
        clear hCh5 hP5 hM5 hbx5 hqc5 h45
        obtain ⟨i0, hi, hz0, hz1, hz2⟩ := info_parts info71
        cases hty : typedB s5.ws
        · rw [hty] at hG
          simp only [Bool.false_eq_true, if_false] at hG
          rw [pr_assoc] at hG
          have hN := (ih f' (by omega)).stat s5 w6.drew hP6 (ne_cut hG hno)
          go_wp2_with fail
          go_region_law (first | (go_simp; go_at_call 82; (with_reducible refine Calls.mono hN ?_); intro e w7 hq; obtain ⟨s7, rfl, hB⟩ | ⟨a7, s7, v7, hx7, hG7, rfl, ⟨b7, rfl, hE7⟩, hP7, hM7, hm7⟩ := hq.cut hG hno hM6d; (· exact ⟨q, rfl, hq.1.cell hqc6d hqp, hB⟩); (obtain ⟨⟨c7, ca7⟩, hb7, bs, q1, q2, q3⟩ := list_facts hCh6 hbx6 hlt4 hBp hm7); unfold ptr) | (refine step_append_lies _ rfl _ _ 123 rfl w4.heap.size 71 i0 (.pointer none) 1 8 Tryz.underlying123 hi hz0 hz1 hz2 rfl (by decide) v l.length (bs.map ptr) rfl (q2.alloc _) _ 1 1 [ptr b7] rfl rfl (World.news_of_block (heap_alloc_new w7 _)) (by simp [ptr, Value.oneCell']) (by decide) (by unfold maxLen; omega) (by omega) (by have := hm7.size; simp; omega) _ rfl ?_; intro g cap w9 hown' hgr hat hgl; (obtain ⟨c9, f9, -⟩ := list_room hCh6 hb7 hB4 hgr)))
          all_goals obtain ⟨k1, k2, k3, k4, k5, k6⟩ := list_step hCh6 hlt4 h46 hw4 hBw hB4 hBlt (by omega) (by omega) hm7 hb7 (hm7.cell hqc6d hqp) hP7 hM7 q1 q3 hE7 hown' hgr (by simpa using hat)
          all_goals go_wp2_with fail
          all_goals go_roundg f'
          all_goals first | omega | exact ⟨f', l ++ [a7], s7, _, by simp; omega, Nat.le_refl _, hG7, k1, k2, k3, k4, k5, Nat.le_trans h46 k6.size⟩
        · rw [hty] at hG
          simp only [if_true] at hG
          rw [pr_assoc] at hG
          have hN := declZ (by omega) s5 w6.drew hP6 (ne_cut hG hno)
          go_wp2_with fail
          go_region_law (first | (go_simp; go_at_call 81; (with_reducible refine Calls.mono hN ?_); intro e w7 hq; obtain ⟨s7, rfl, hB⟩ | ⟨a7, s7, v7, hx7, hG7, rfl, ⟨b7, rfl, hE7⟩, hP7, hM7, hm7⟩ := hq.cut hG hno hM6d; (· exact ⟨q, rfl, hq.1.cell hqc6d hqp, hB⟩); (obtain ⟨⟨c7, ca7⟩, hb7, bs, q1, q2, q3⟩ := list_facts hCh6 hbx6 hlt4 hBp hm7); unfold ptr) | (refine step_append_lies _ rfl _ _ 123 rfl w4.heap.size 71 i0 (.pointer none) 1 8 Tryz.underlying123 hi hz0 hz1 hz2 rfl (by decide) v l.length (bs.map ptr) rfl (q2.alloc _) _ 1 1 [ptr b7] rfl rfl (World.news_of_block (heap_alloc_new w7 _)) (by simp [ptr, Value.oneCell']) (by decide) (by unfold maxLen; omega) (by omega) (by have := hm7.size; simp; omega) _ rfl ?_; intro g cap w9 hown' hgr hat hgl; (obtain ⟨c9, f9, -⟩ := list_room hCh6 hb7 hB4 hgr)))
          all_goals obtain ⟨k1, k2, k3, k4, k5, k6⟩ := list_step hCh6 hlt4 h46 hw4 hBw hB4 hBlt (by omega) (by omega) hm7 hb7 (hm7.cell hqc6d hqp) hP7 hM7 q1 q3 hE7 hown' hgr (by simpa using hat)
          all_goals go_wp2_with fail
          all_goals go_roundg f'
          all_goals first | omega | exact ⟨f', l ++ [a7], s7, _, by simp; omega, Nat.le_refl _, hG7, k1, k2, k3, k4, k5, Nat.le_trans h46 k6.size⟩
      · simp only [if_true] at hG
        obtain ⟨c0, c1, c2, c3, c4, c5, c6, c7, c8, cf⟩ := cells9 hbx5
        obtain ⟨sa, sc, rfl, -, -⟩ := hCh5.size
        go_wp2_with fail
        refine (stmtMany hlt hM5.size hP5 1 _ _ [] [] none none _ _ l _ rfl rfl (hCh5.lastS hw4)).mono ?_
        rintro e w8 ⟨b8, rfl, hP8, hm8, hE8⟩
        go_wp2_with fail
        exact bodyPostQ_ret (v := ptr b8) (fun w' => by simp [results, Tryz.results58, go_sem, ptr]) rfl (hm8.cell hqc5 hqp) (Post.wellc hG (hM5.trans hm8) hP8 ⟨b8, rfl, hE8⟩)
end Go.Proofs.YtjgpbpmicopemaaGreatDoor

/-
  A statement while it is built.
-/
namespace Go.Proofs.YtjgpbpmicopemaaGreatDoor
open Go.RowKit Go.Shelf
set_option maxRecDepth 20000

/-- the parser, the deferred call's block q, the statement's block B -/
structure Bld (p : Nat) (E : Int × Int) (w : World) (B q : Nat) (ln cl : Int) (W : World) (s : Sx) (k : Int) (ve vp v : Value) : Prop where
  P : PrAt W p E s
  M : Mv (fun k => k = p) w W
  box : W.heap[B]? = some (.cells (stC k ln cl [] [] ve vp v) 125 (0, 0))
  qc : W.cell? ⟨q, 0, none⟩ = some (.pointer (some ⟨p, 0, none⟩))
  pB : p < B
  wB : w.heap.size ≤ B
  qB : q ≠ B
  qp : q ≠ p
section
variable {p : Nat} {E : Int × Int} {w : World} {B q : Nat} {ln cl : Int} {W W' : World} {s s' : Sx} {k : Int} {ve vp v : Value}
theorem Bld.call (h : Bld p E w B q ln cl W s k ve vp v) (hP : PrAt W' p E s') (hM : Mv (fun k => k = p) w W') (m : Mv (fun k => k = p) W W') : Bld p E w B q ln cl W' s' k ve vp v :=
  ⟨hP, hM, (m.same _ (heap_lt h.box) (by have := h.pB; omega)).trans h.box, m.cell h.qc h.qp, h.pB, h.wB, h.qB, h.qp⟩
theorem Bld.put {k' : Int} {ve' vp' v' : Value} (h : Bld p E w B q ln cl W s k ve vp v) (m : Mv (fun k => k = B) W W') (hb : W'.heap[B]? = some (.cells (stC k' ln cl [] [] ve' vp' v') 125 (0, 0))) : Bld p E w B q ln cl W' s k' ve' vp' v' :=
  ⟨h.P.own h.box h.pB (by decide) m, h.M.fresh m (fun j hj => by subst hj; exact h.wB), hb, m.cell h.qc h.qB, h.pB, h.wB, h.qB, h.qp⟩
theorem Bld.putK (h : Bld p E w B q ln cl W s k ve vp v) (k' : Int) : Bld p E w B q ln cl (W.setCell ⟨B, 0, none⟩ (.int .i64 k')) s k' ve vp v := h.put (Mv.setCell _ _ rfl) (set_same h.box)
theorem Bld.putE (h : Bld p E w B q ln cl W s k ve vp v) (x : Value) : Bld p E w B q ln cl (W.setCell ⟨B, 5, none⟩ x) s k x vp v := h.put (Mv.setCell _ _ rfl) (set_same h.box)
theorem Bld.putT (h : Bld p E w B q ln cl W s k ve vp v) (x : Value) : Bld p E w B q ln cl (W.setCell ⟨B, 6, none⟩ x) s k ve x v := h.put (Mv.setCell _ _ rfl) (set_same h.box)
theorem Bld.lt (h : Bld p E w B q ln cl W s k ve vp v) : B < W.heap.size := heap_lt h.box
theorem Bld.pw (h : Bld p E w B q ln cl W s k ve vp v) (hp : p < w.heap.size) : p < W.heap.size := Nat.lt_of_lt_of_le hp h.M.size
theorem Bld.qlt (h : Bld p E w B q ln cl W s k ve vp v) : q < W.heap.size := cell_lt h.qc
/-- an expression that is held while the statement is built -/
def Held (w : World) (B n : Nat) (W : World) (b : Nat) (x : Ex) : Prop := ExAt W (fun k => w.heap.size ≤ k ∧ k ≠ B ∧ k < n) b x
theorem Held.mk {W5 : World} {b : Nat} {x : Ex} (h : Bld p E w B q ln cl W s k ve vp v) (hE : ExAt W5 (fun j => W.heap.size ≤ j) b x) : Held w B W5.heap.size W5 b x :=
  hE.within.mv (fun _ _ _ => rfl) (fun j hj => ⟨Nat.le_trans h.M.size hj.1, by have := h.lt; omega, hj.2⟩)
theorem Held.mv {n b : Nat} {x : Ex} {X : Nat → Prop} (h : Held w B n W b x) (m : Mv X W W') (hp : p < w.heap.size) (hX : ∀ k, X k → k = p ∨ k = B ∨ n ≤ k) : Held w B n W' b x :=
  ExAt.mv (Keeps.of m (fun j hj hx => by rcases hX j hx with h | h | h <;> omega)) (fun _ h => h) h
theorem Held.one {n b : Nat} {x : Ex} (h : Held w B n W b x) : ExO W (fun k => w.heap.size ≤ k) (.pointer (some ⟨b, 0, none⟩)) (some x) := ⟨b, rfl, ExAt.mv (fun _ _ _ => rfl) (fun _ h => h.1) h⟩
theorem Held.call {n b : Nat} {x : Ex} (h : Held w B n W b x) (m : Mv (fun k => k = p) W W') (hp : p < w.heap.size) : Held w B n W' b x := h.mv m hp (fun _ h => .inl h)
theorem Held.put {n b i : Nat} {x : Ex} {v : Value} (h : Held w B n W b x) : Held w B n (W.setCell ⟨B, i, none⟩ v) b x :=
  ExAt.mv (Keeps.of (X := fun k => k = B) (Mv.setCell _ _ rfl) (fun _ hj hx => hj.2.1 hx)) (fun _ h => h) h
end
end Go.Proofs.YtjgpbpmicopemaaGreatDoor
