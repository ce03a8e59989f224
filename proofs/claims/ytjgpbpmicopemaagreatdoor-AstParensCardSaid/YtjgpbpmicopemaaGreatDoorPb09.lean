import Derived.Test.YtjgpbpmicopemaaGreatDoorPb08
import Derived.Deep.RegionHeld3
import Derived.Deep.AppendLies
import Derived.Defers

/-
  expr at its callers: with no parts, with one, with two, with a list.
-/
namespace Go.Proofs.YtjgpbpmicopemaaGreatDoor
open Go.RowKit Go.Shelf

/-- the expression is made, within blocks that are new since w; the world before the call: w5 -/
def Made (p : Nat) (E : Int × Int) (w w5 : World) (s : Sx) (x : Ex) (e : Ending) (w6 : World) : Prop :=
  ∃ b6, e = .returned (.pointer (some ⟨b6, 0, none⟩)) ∧ PrAt w6 p E s ∧ Mv (fun k => k = p) w5 w6 ∧ ExAt w6 (fun k => w.heap.size ≤ k) b6 x
section
variable {p : Nat} {E : Int × Int} {w w5 : World} {s : Sx}
theorem exprMany (hlt : p < w.heap.size) (hs : w.heap.size ≤ w5.heap.size) (hP : PrAt w5 p E s) (k ln cl : Int) (op nm : Bs) (n : Int) (ty : Bs) (args : List Ex) (v : Value) (bs : List Nat)
    (hv : PtrsAt w5 (fun k => w.heap.size ≤ k) 122 v bs) (hx : ExsAt w5 (fun k => w.heap.size ≤ k) bs (.of args)) :
    Calls Tryz.prog 125 #[.pointer (some ⟨p, 0, none⟩), .agg #[.int .i64 k, .int .i64 ln, .int .i64 cl, .string ⟨op.toArray⟩, .string ⟨nm.toArray⟩, .int .i64 n, .string ⟨ty.toArray⟩, v, .int .i64 0]] w5
      (Made p E w w5 (s.node (inc (maxE 0 args))) (.mk k op nm n ty (.of args) (inc (maxE 0 args)))) := by
  refine (exprZ p E s k ln cl op nm n ty args w5 hP (fun k => w.heap.size ≤ k) (fun k hk => Nat.le_trans hs hk) v bs hv hx (by omega)).mono ?_
  rintro e w6 ⟨hm, hP6, v, rfl, b, rfl, hE⟩
  exact ⟨b, rfl, hP6, hm, hE⟩
theorem exprNone (hlt : p < w.heap.size) (hs : w.heap.size ≤ w5.heap.size) (hP : PrAt w5 p E s) (k ln cl : Int) (op nm : Bs) (n : Int) (ty : Bs) :
    Calls Tryz.prog 125 #[.pointer (some ⟨p, 0, none⟩), .agg #[.int .i64 k, .int .i64 ln, .int .i64 cl, .string ⟨op.toArray⟩, .string ⟨nm.toArray⟩, .int .i64 n, .string ⟨ty.toArray⟩, .slice none 0 0, .int .i64 0]] w5
      (Made p E w w5 (s.node (inc (maxE 0 []))) (.mk k op nm n ty (.of []) (inc (maxE 0 [])))) :=
  exprMany hlt hs hP k ln cl op nm n ty [] _ [] (.inl ⟨rfl, rfl⟩) ExsAt.none
theorem exprOne (hlt : p < w.heap.size) (hs : w.heap.size ≤ w5.heap.size) (hP : PrAt w5 p E s) (k ln cl : Int) (op nm : Bs) (n : Int) (ty : Bs) (b : Nat) (x : Ex) (hE : ExAt w5 (fun k => w.heap.size ≤ k) b x) :
    Calls Tryz.prog 125 #[.pointer (some ⟨p, 0, none⟩), .agg #[.int .i64 k, .int .i64 ln, .int .i64 cl, .string ⟨op.toArray⟩, .string ⟨nm.toArray⟩, .int .i64 n, .string ⟨ty.toArray⟩, .slice (some ⟨w5.heap.size, 0, none⟩) 1 1, .int .i64 0]] (w5.alloc (.cells #[.pointer (some ⟨b, 0, none⟩)] 122))
      (Made p E w w5 (s.node (inc (maxE 0 [x]))) (.mk k op nm n ty (.of [x]) (inc (maxE 0 [x])))) := by
  refine (exprMany (w5 := w5.alloc (.cells #[.pointer (some ⟨b, 0, none⟩)] 122)) hlt ?_ (hP.below (belowAlloc _ _)) k ln cl op nm n ty [x] _ [b] (PtrsAt.one b hs) (ExsAt.one (hE.later (Nat.le_refl _) (Mv.alloc _ _) hlt))).mono ?_
  · simp; omega
  · rintro e w6 ⟨b6, rfl, h1, h2, h3⟩
    exact ⟨b6, rfl, h1, (Mv.alloc _ _).trans h2, h3⟩
theorem exprTwo (hlt : p < w.heap.size) (hs : w.heap.size ≤ w5.heap.size) (hP : PrAt w5 p E s) (k ln cl : Int) (op nm : Bs) (n : Int) (ty : Bs) (b c : Nat) (x y : Ex) (hE : ExAt w5 (fun k => w.heap.size ≤ k) b x) (hF : ExAt w5 (fun k => w.heap.size ≤ k) c y) :
    Calls Tryz.prog 125 #[.pointer (some ⟨p, 0, none⟩), .agg #[.int .i64 k, .int .i64 ln, .int .i64 cl, .string ⟨op.toArray⟩, .string ⟨nm.toArray⟩, .int .i64 n, .string ⟨ty.toArray⟩, .slice (some ⟨w5.heap.size, 0, none⟩) 2 2, .int .i64 0]] (w5.alloc (.cells #[.pointer (some ⟨b, 0, none⟩), .pointer (some ⟨c, 0, none⟩)] 122))
      (Made p E w w5 (s.node (inc (maxE 0 [x, y]))) (.mk k op nm n ty (.of [x, y]) (inc (maxE 0 [x, y])))) := by
  refine (exprMany (w5 := w5.alloc (.cells #[.pointer (some ⟨b, 0, none⟩), .pointer (some ⟨c, 0, none⟩)] 122)) hlt ?_ (hP.below (belowAlloc _ _)) k ln cl op nm n ty [x, y] _ [b, c] (PtrsAt.two b c hs) (ExsAt.two (hE.later (Nat.le_refl _) (Mv.alloc _ _) hlt) (hF.later (Nat.le_refl _) (Mv.alloc _ _) hlt))).mono ?_
  · simp; omega
  · rintro e w6 ⟨b6, rfl, h1, h2, h3⟩
    exact ⟨b6, rfl, h1, (Mv.alloc _ _).trans h2, h3⟩
theorem exprOneL {w6 : World} (hlt : p < w.heap.size) (hs : w.heap.size ≤ w5.heap.size) (b : Nat) (m : Mv (fun k => k = p) (w5.alloc (.cells #[.pointer (some ⟨b, 0, none⟩)] 122)).drew w6) (hP : PrAt w6 p E s) (k ln cl : Int) (op nm : Bs) (n : Int) (ty : Bs) (x : Ex) (hE : ExAt w5 (fun k => w.heap.size ≤ k) b x) :
    Calls Tryz.prog 125 #[.pointer (some ⟨p, 0, none⟩), .agg #[.int .i64 k, .int .i64 ln, .int .i64 cl, .string ⟨op.toArray⟩, .string ⟨nm.toArray⟩, .int .i64 n, .string ⟨ty.toArray⟩, .slice (some ⟨w5.heap.size, 0, none⟩) 1 1, .int .i64 0]] w6
      (Made p E w w6 (s.node (inc (maxE 0 [x]))) (.mk k op nm n ty (.of [x]) (inc (maxE 0 [x])))) := by
  have m' := (Mv.drew _).trans m
  have hle : w5.heap.size ≤ w6.heap.size := Nat.le_trans (by simp) m'.size
  exact exprMany hlt (Nat.le_trans hs hle) hP k ln cl op nm n ty [x] _ [b] ((PtrsAt.one b hs).mv (Keeps.of m' (fun k hk hx => by subst hx; omega)) (fun _ h => h)) (ExsAt.one (hE.later (Nat.le_refl _) ((Mv.alloc _ _).trans m') hlt))
/-- a place in a block of its own -/
theorem at_box (pos : Int × Int) (hP : PrAt w5 p E s) : ∀ w', Mv (fun k => k = p) (w5.alloc (.cells #[.int .i64 pos.1, .int .i64 pos.2] 26)) w' → w'.cell? ⟨w5.heap.size, 0, none⟩ = some (.int .i64 pos.1) ∧ w'.cell? ⟨w5.heap.size, 1, none⟩ = some (.int .i64 pos.2) ∧
    (∀ o, (w'.alloc o).cell? ⟨w5.heap.size, 0, none⟩ = some (.int .i64 pos.1)) ∧ (∀ o, (w'.alloc o).cell? ⟨w5.heap.size, 1, none⟩ = some (.int .i64 pos.2)) := fun w' m => by
  have hbx := heap_alloc_new w5 (.cells #[.int .i64 pos.1, .int .i64 pos.2] 26)
  have hne : w5.heap.size ≠ p := by have := hP.lt; omega
  have c0 : w'.cell? ⟨w5.heap.size, 0, none⟩ = some (.int .i64 pos.1) := m.cell (by unfold World.cell?; rw [hbx]; rfl) hne
  have c1 : w'.cell? ⟨w5.heap.size, 1, none⟩ = some (.int .i64 pos.2) := m.cell (by unfold World.cell?; rw [hbx]; rfl) hne
  exact ⟨c0, c1, fun o => cell_alloc c0 o, fun o => cell_alloc c1 o⟩
end
end Go.Proofs.YtjgpbpmicopemaaGreatDoor

/-
  The parser's postfix.
-/
namespace Go.Proofs.YtjgpbpmicopemaaGreatDoor
open Go.RowKit Go.Shelf
set_option maxRecDepth 20000

set_option maxHeartbeats 4000000 in
theorem postfixZ {p : Nat} {E : Int × Int} {f : Nat} (ih : ∀ f', f' ≤ f → AllE p E f') (s : Sx) (w : World) (h : PrAt w p E s) (hno : postfixP (f + 1) s ≠ .out) :
    Calls Tryz.prog 145 #[.pointer (some ⟨p, 0, none⟩)] w (Post p E w encE (postfixP (f + 1) s)) := by
  obtain ⟨R, hG⟩ : ∃ R, postfixP (f + 1) s = R := ⟨_, rfl⟩
  rw [hG] at hno ⊢
  unfold postfixP at hG
  have hlt := h.lt
  go_enter Tryz.func145, Tryz.ntmps145
  go_wp2_with fail
  go_step3
  go_wp2_with fail
  refine ((ih f (Nat.le_refl _)).primary s _ h (ne_cut hG hno)).mono ?_
  intro e w1 hq
  obtain ⟨s1, rfl, hB⟩ | ⟨a, s1, v, hx1, hG, rfl, ⟨b, rfl, hE⟩, hP1, hM1, hm1⟩ := hq.cut hG hno (Mv.refl _ _)
  · go_wp2_with fail
    exact ⟨rfl, hB⟩
  unfold ptr
  go_wp2_with fail
  go_step3
  go_wp2_with fail
  go_loopg [3, 4, 5] f (fun g s3 s4 s5 wr => ∃ (f' : Nat) (e' : Ex) (s' : Sx) (b : Nat), f' ≤ f ∧ f' ≤ g ∧ s3 = .pointer (some ⟨b, 0, none⟩) ∧ postLoop f' e' s' = R ∧ ExAt wr (fun k => w.heap.size ≤ k) b e' ∧ PrAt wr p E s' ∧ Mv (fun k => k = p) w wr)
  case atStart => exact ⟨f, a, s1, b, Nat.le_refl _, Nat.le_refl _, rfl, hG, hE.later (Nat.le_refl _) (Mv.refl _ _) hlt, hP1, hM1⟩
  case round =>
    clear hE hP1 hM1 hm1 hG hx1
    obtain ⟨f', e', s', b', hf, hg, rfl, hG, hE, hP1, hM1⟩ := hrel
    cases f' with
    | zero => exact absurd (by rw [← hG]; rfl) hno
    | succ f' =>
      unfold postLoop at hG
      go_wp2_with fail
      refine (atZ p E s' _ hP1).mono ?_
      rintro e w2 ⟨rfl, hb2⟩
      have hbox := at_box (posOf E s'.ws) (hP1.below hb2)
      have hP2 := (hP1.below hb2).below (belowAlloc w2 (.cells #[.int .i64 (posOf E s'.ws).1, .int .i64 (posOf E s'.ws).2] 26))
      have hM2 := (hM1.trans (Mv.below (X := fun k => k = p) hb2)).more (.cells #[.int .i64 (posOf E s'.ws).1, .int .i64 (posOf E s'.ws).2] 26)
      go_wp2_with fail
      refine (mayZ p E s' [91] _ hP2).mono ?_
      intro e w3 hq
      obtain ⟨s3, rfl, hB⟩ | ⟨c3, s3, v, hx3, hG, rfl, rfl, hP3, hM3, hm3⟩ := hq.cut hG hno hM2
      · go_wp2_with fail
        exact ⟨rfl, hB⟩
      cases c3
      · simp only [Bool.false_eq_true, if_false] at hG
        go_wp2_with fail
        refine (mayZ p E s3 [46] _ hP3).mono ?_
        intro e w4 hq
        obtain ⟨s4, rfl, hB⟩ | ⟨c4, s4, v, hx4, hG, rfl, rfl, hP4, hM4, hm4⟩ := hq.cut hG hno hM3
        · go_wp2_with fail
          exact ⟨rfl, hB⟩
        cases c4
        · simp only [Bool.false_eq_true, if_false] at hG
          go_wp2_with fail
          refine (mayZ p E s4 [45, 62] _ hP4).mono ?_
          intro e w5 hq
          obtain ⟨s5, rfl, hB⟩ | ⟨c5, s5, v, hx5, hG, rfl, rfl, hP5, hM5, hm5⟩ := hq.cut hG hno hM4
          · go_wp2_with fail
            exact ⟨rfl, hB⟩
          cases c5
          · simp only [Bool.false_eq_true, if_false] at hG
            go_wp2_with fail
            rw [Exit.noGoto_ret]
            exact bodyPost_ret (v := ptr b') (by simp [results, Tryz.results145, go_sem, ptr]) rfl (Post.wellc hG hM5 hP5 ⟨b', rfl, hE.later (Nat.le_refl _) (((Mv.below hb2).more _).trans ((hm3.trans hm4).trans hm5)) hlt⟩)
          · simp only [if_true] at hG
            obtain ⟨z0, z1, za0, za1⟩ := hbox _ (((hm3.trans hm4).trans hm5).drawn)
            have hPL := (hP5.below (belowAlloc w5 (.cells #[.pointer (some ⟨b', 0, none⟩)] 122))).none (Mv.drew _)
            have hN := nameZ p E s5 _ (hP5.none (Mv.drew _))
            have hNL := nameZ p E s5 _ hPL
            have hML := (hM5.more (.cells #[.pointer (some ⟨b', 0, none⟩)] 122)).drawn
            have hcL := (((hm3.trans hm4).trans hm5).more (.cells #[.pointer (some ⟨b', 0, none⟩)] 122)).drawn
            have hE4 := hE.later (Nat.le_refl _) (((Mv.below hb2).more _).trans ((hm3.trans hm4).trans hm5)) hlt
            go_wp2_with fail
            go_region_held (fun w' => w'.cell? ⟨w2.heap.size, 0, none⟩ = some (.int .i64 (posOf E s'.ws).1) ∧ w'.cell? ⟨w2.heap.size, 1, none⟩ = some (.int .i64 (posOf E s'.ws).2))
              (first | exact ⟨z0, z1⟩ | exact ⟨y0, y1⟩ | exact ⟨ya0 _, ya1 _⟩ | exact ⟨za0 _, za1 _⟩ | exact ⟨u0, u1⟩)
              (first | (go_at_call 50; (with_reducible refine Calls.mono hN ?_); intro e w6 hq; obtain ⟨s6, rfl, hB⟩ | ⟨nm, s6, v, hx6, hG6, rfl, rfl, hP6, hM6, hm6⟩ := hq.cut hG hno (hM5.drawn); (· exact ⟨rfl, hB⟩); (obtain ⟨y0, y1, ya0, ya1⟩ := hbox _ ((((hm3.trans hm4).trans hm5).drawn).trans hm6)); unfold str) | (go_at_call 50; (with_reducible refine Calls.mono hNL ?_); intro e w6 hq; obtain ⟨s6, rfl, hB⟩ | ⟨nm, s6, v, hx6, hG6, rfl, rfl, hP6, hM6, hm6⟩ := hq.cut hG hno hML; (· exact ⟨rfl, hB⟩); (obtain ⟨y0, y1, ya0, ya1⟩ := hbox _ (hcL.trans hm6)); unfold str) | (go_at_call 125; (with_reducible refine (exprOne hlt hM6.size hP6 9 _ _ [] nm 0 [] b' e' (hE4.later (Nat.le_refl _) ((Mv.drew _).trans hm6) hlt)).mono ?_); rintro e w7 ⟨b7, rfl, hP7, hm7, hE7⟩; obtain ⟨u0, u1, -⟩ := hbox _ (((((hm3.trans hm4).trans hm5).drawn).trans hm6).trans hm7)) | (go_at_call 125; (with_reducible refine (exprOneL hlt hM5.size b' hm6 hP6 9 _ _ [] nm 0 [] e' hE4).mono ?_); rintro e w7 ⟨b7, rfl, hP7, hm7, hE7⟩; obtain ⟨u0, u1, -⟩ := hbox _ ((hcL.trans hm6).trans hm7)))
            all_goals go_wp2_with fail
            all_goals go_roundg f'
            all_goals first | omega | exact ⟨f', _, _, b7, by omega, Nat.le_refl _, rfl, hG6, hE7, hP7, hM6.trans hm7⟩
        · simp only [if_true] at hG
          obtain ⟨z0, z1, za0, za1⟩ := hbox _ ((hm3.trans hm4).drawn)
          have hPL := (hP4.below (belowAlloc w4 (.cells #[.pointer (some ⟨b', 0, none⟩)] 122))).none (Mv.drew _)
          have hN := nameZ p E s4 _ (hP4.none (Mv.drew _))
          have hNL := nameZ p E s4 _ hPL
          have hML := (hM4.more (.cells #[.pointer (some ⟨b', 0, none⟩)] 122)).drawn
          have hcL := ((hm3.trans hm4).more (.cells #[.pointer (some ⟨b', 0, none⟩)] 122)).drawn
          have hE4 := hE.later (Nat.le_refl _) (((Mv.below hb2).more _).trans (hm3.trans hm4)) hlt
          go_wp2_with fail
          go_region_held (fun w' => w'.cell? ⟨w2.heap.size, 0, none⟩ = some (.int .i64 (posOf E s'.ws).1) ∧ w'.cell? ⟨w2.heap.size, 1, none⟩ = some (.int .i64 (posOf E s'.ws).2))
            (first | exact ⟨z0, z1⟩ | exact ⟨y0, y1⟩ | exact ⟨ya0 _, ya1 _⟩ | exact ⟨za0 _, za1 _⟩ | exact ⟨u0, u1⟩)
            (first | (go_at_call 50; (with_reducible refine Calls.mono hN ?_); intro e w6 hq; obtain ⟨s6, rfl, hB⟩ | ⟨nm, s6, v, hx6, hG6, rfl, rfl, hP6, hM6, hm6⟩ := hq.cut hG hno (hM4.drawn); (· exact ⟨rfl, hB⟩); (obtain ⟨y0, y1, ya0, ya1⟩ := hbox _ (((hm3.trans hm4).drawn).trans hm6)); unfold str) | (go_at_call 50; (with_reducible refine Calls.mono hNL ?_); intro e w6 hq; obtain ⟨s6, rfl, hB⟩ | ⟨nm, s6, v, hx6, hG6, rfl, rfl, hP6, hM6, hm6⟩ := hq.cut hG hno hML; (· exact ⟨rfl, hB⟩); (obtain ⟨y0, y1, ya0, ya1⟩ := hbox _ (hcL.trans hm6)); unfold str) | (go_at_call 125; (with_reducible refine (exprOne hlt hM6.size hP6 8 _ _ [] nm 0 [] b' e' (hE4.later (Nat.le_refl _) ((Mv.drew _).trans hm6) hlt)).mono ?_); rintro e w7 ⟨b7, rfl, hP7, hm7, hE7⟩; obtain ⟨u0, u1, -⟩ := hbox _ ((((hm3.trans hm4).drawn).trans hm6).trans hm7)) | (go_at_call 125; (with_reducible refine (exprOneL hlt hM4.size b' hm6 hP6 8 _ _ [] nm 0 [] e' hE4).mono ?_); rintro e w7 ⟨b7, rfl, hP7, hm7, hE7⟩; obtain ⟨u0, u1, -⟩ := hbox _ ((hcL.trans hm6).trans hm7)))
          all_goals go_wp2_with fail
          all_goals go_roundg f'
          all_goals first | omega | exact ⟨f', _, _, b7, by omega, Nat.le_refl _, rfl, hG6, hE7, hP7, hM6.trans hm7⟩
      · simp only [if_true] at hG
        go_wp2_with fail
        refine ((ih f' (by omega)).binary 0 s3 _ (by omega) (by omega) hP3 (ne_cut hG hno)).mono ?_
        intro e w4 hq
        obtain ⟨s4, rfl, hB⟩ | ⟨i4, s4, v, hx4, hG, rfl, ⟨b4, rfl, hE4⟩, hP4, hM4, hm4⟩ := hq.cut hG hno hM3
        · go_wp2_with fail
          exact ⟨rfl, hB⟩
        unfold ptr
        go_wp2_with fail
        refine (mustZ p E s4 [93] _ hP4).mono ?_
        intro e w5 hq
        obtain ⟨s5, rfl, hB⟩ | ⟨_, s5, v, hx5, hG, rfl, -, hP5, hM5, hm5⟩ := hq.cut hG hno hM4
        · go_wp2_with fail
          exact ⟨rfl, hB⟩
        obtain ⟨z0, z1, za0, za1⟩ := hbox _ ((hm3.trans hm4).trans hm5)
        go_wp2_with fail
        refine (exprTwo hlt hM5.size hP5 7 _ _ [] [] 0 [] b' b4 e' i4 (hE.later (Nat.le_refl _) ((((Mv.below hb2).more _).trans hm3).trans (hm4.trans hm5)) hlt) (hE4.later hM3.size hm5 hlt)).mono ?_
        rintro e w6 ⟨b6, rfl, hP6, hm6, hE6⟩
        go_wp2_with fail
        go_roundg f'
        case measure => omega
        case rel => exact ⟨f', _, _, b6, by omega, Nat.le_refl _, rfl, hG, hE6, hP6, hM5.trans hm6⟩
end Go.Proofs.YtjgpbpmicopemaaGreatDoor

/-
  A list of pointers to parts that a call makes and lengthens.
-/
namespace Go.Proofs.YtjgpbpmicopemaaGreatDoor
open Go.RowKit Go.Shelf

/-- parts in memory: they may be moved, they lie in the world -/
structure Sort1 (α : Type) where
  At : World → (Nat → Prop) → Nat → α → Prop
  mv : ∀ {W W' : World} {K K' : Nat → Prop} {b : Nat} {e : α}, At W K b e → Keeps K W W' → (∀ k, K k → K' k) → At W' K' b e
  within : ∀ {W : World} {K : Nat → Prop} {b : Nat} {e : α}, At W K b e → At W (fun k => K k ∧ k < W.heap.size) b e
def sortE : Sort1 Ex := ⟨ExAt, fun h m hK => h.mv m hK, fun h => h.within⟩
def sortS : Sort1 St := ⟨StAt, fun h m hK => h.mv m hK, fun h => h.within⟩
/-- the list v, owned since w, with these parts -/
def Chain {α : Type} (S : Sort1 α) (T : Nat) (w W : World) (v : Value) (l : List α) : Prop :=
  ∃ bs : List Nat, bs.length = l.length ∧ W.ownsRow w.heap.size T 1 v l.length (bs.map ptr) ∧ ∀ (k : Nat) (e : α) (b : Nat), l[k]? = some e → bs[k]? = some b → S.At W (fun j => w.heap.size ≤ j ∧ v.ownBlock ≠ some j) b e
section
variable {α : Type} {S : Sort1 α} {T : Nat} {w W W' : World} {v : Value} {l : List α} {p : Nat}
theorem Chain.nil (S : Sort1 α) (T : Nat) (w W : World) : Chain S T w W (.slice none 0 0) [] := ⟨[], rfl, World.ownsRow_nil W _ _ _, fun k e b h => by simp at h⟩
theorem ownsRow_mv {B n : Nat} {xs : List Value} (h : W.ownsRow B T 1 v n xs) (m : Mv (fun k => k = p) W W') (hp : p < B) : W'.ownsRow B T 1 v n xs := by
  obtain ⟨h1, h2 | ⟨g, cap, cur, e1, e2, e3, e4⟩⟩ := h
  · exact ⟨h1, .inl h2⟩
  · exact ⟨h1, .inr ⟨g, cap, cur, e1, e2, (m.same g (heap_lt e3) (by omega)).trans e3, e4⟩⟩
theorem Chain.mv (h : Chain S T w W v l) (m : Mv (fun k => k = p) W W') (hp : p < w.heap.size) : Chain S T w W' v l := by
  obtain ⟨bs, h1, h2, h3⟩ := h
  exact ⟨bs, h1, ownsRow_mv h2 m hp, fun k e b hk hb => S.mv (h3 k e b hk hb) (Keeps.of m (fun j hj hx => by subst hx; omega)) (fun _ h => h)⟩
theorem Chain.size (h : Chain S T w W v l) : ∃ a c, v = .slice a l.length c ∧ l.length ≤ c ∧ c ≤ maxLen := by
  obtain ⟨bs, h1, ⟨-, ⟨rfl, h3⟩ | ⟨g, cap, cur, rfl, h3, h4, h5, h6, -⟩⟩, -⟩ := h
  · exact ⟨none, 0, by rw [h3], by omega, Nat.zero_le _⟩
  · exact ⟨_, cap, rfl, h5, h6⟩
theorem Chain.own (h : Chain S T w W v l) : ∀ k, v.ownBlock = some k → w.heap.size ≤ k ∧ k < W.heap.size ∧ ∃ cur, W.heap[k]? = some (.cells cur T (0, 0)) := by
  obtain ⟨bs, h1, ⟨-, ⟨rfl, h3⟩ | ⟨g, cap, cur, rfl, h3, h4, h5, h6, -⟩⟩, -⟩ := h
  · intro k hk; simp [Value.ownBlock] at hk
  · intro k hk
    simp [Value.ownBlock] at hk
    subst hk
    exact ⟨h3, heap_lt h4, cur, h4⟩
/-- what an append leaves -/
theorem Chain.push {W0 W1 : World} {x : α} {b g cap : Nat} {bs : List Nat} (h1 : bs.length = l.length) (h3 : ∀ (k : Nat) (e : α) (b : Nat), l[k]? = some e → bs[k]? = some b → S.At W (fun j => w.heap.size ≤ j ∧ v.ownBlock ≠ some j) b e)
    (hw : w.heap.size ≤ W1.heap.size) (hv1 : ∀ k, v.ownBlock = some k → k < W1.heap.size) (hx : S.At W (fun k => W1.heap.size ≤ k) b x) (hb : Below W.heap.size W W0)
    (hown' : W'.ownsRow w.heap.size T 1 (.slice (some ⟨g, 0, none⟩) (l.length + 1) cap) (l.length + 1) (bs.map ptr ++ [ptr b]))
    (hgr : W0.grownBy W' v.ownBlock) (hat : v.ownBlock = some g ∨ g = W0.heap.size) : Chain S T w W' (.slice (some ⟨g, 0, none⟩) (l.length + 1) cap) (l ++ [x]) := by
  have hs0 := hb.size
  have hK : ∀ j, (w.heap.size ≤ j ∧ v.ownBlock ≠ some j) → j < W.heap.size → W'.heap[j]? = W.heap[j]? := fun j hj hl => (hgr.block j (by omega) (fun e => hj.2 e.symm)).trans (hb.block j hl)
  have hne : ∀ j, (w.heap.size ≤ j ∧ v.ownBlock ≠ some j) ∧ j < W.heap.size → w.heap.size ≤ j ∧ (Value.slice (some ⟨g, 0, none⟩) (l.length + 1) cap).ownBlock ≠ some j := fun j hj => by
    refine ⟨hj.1.1, fun e => ?_⟩
    simp [Value.ownBlock] at e
    subst e
    rcases hat with hat | hat
    · exact hj.1.2 hat
    · omega
  refine ⟨bs ++ [b], by simp [h1], by simpa using hown', fun k e b' hk hb' => ?_⟩
  rcases Nat.lt_or_ge k l.length with hl | hl
  · rw [List.getElem?_append_left hl] at hk
    rw [List.getElem?_append_left (by omega)] at hb'
    exact S.mv (S.within (h3 k e b' hk hb')) (fun j hj hl => hK j hj.1 hl) hne
  · rw [List.getElem?_append_right hl] at hk
    rw [List.getElem?_append_right (by omega)] at hb'
    have hk0 : k - l.length = 0 := by
      rcases Nat.eq_zero_or_pos (k - l.length) with h | h
      · exact h
      · rw [List.getElem?_eq_none (by simp; omega)] at hk; cases hk
    rw [hk0] at hk
    rw [h1, hk0] at hb'
    simp at hk hb'
    subst hk hb'
    have hx' : S.At W (fun j => w.heap.size ≤ j ∧ v.ownBlock ≠ some j) b x := S.mv hx (fun _ _ _ => rfl) (fun j hj => ⟨by omega, fun e => by have := hv1 j e; omega⟩)
    exact S.mv (S.within hx') (fun j hj hl => hK j hj.1 hl) hne
/-- the parser is untouched by an append -/
theorem Chain.tame {W0 : World} {E : Int × Int} {s : Sx} (h : Chain S T w W v l) (hT : T ≠ 114 ∧ T ≠ 26) (hP : PrAt W p E s) (hp : p < w.heap.size) (hb : Below W.heap.size W W0) (hgr : W0.grownBy W' v.ownBlock) : PrAt W' p E s ∧ Mv (fun k => v.ownBlock = some k) W W' := by
  have hm : Mv (fun k => v.ownBlock = some k) W W' := (Mv.below hb).trans (Mv.of_grown hgr (fun r e => e))
  refine ⟨hP.tame hm (fun k hk hl => ?_), hm⟩
  obtain ⟨h1, h2, cur, h3⟩ := h.own k hk
  have := hP.1.1
  exact ⟨by omega, by omega, fun c t r ht => by rw [h3] at ht; cases ht; exact hT⟩
end
theorem Mv.fresh {X Y : Nat → Prop} {A B C : World} (h : Mv X A B) (k : Mv Y B C) (hY : ∀ j, Y j → A.heap.size ≤ j) : Mv X A C :=
  ⟨k.os.trans h.os, k.tape.trans h.tape, k.output.trans h.output, Nat.le_trans h.size k.size, fun j hj hx => (k.same j (Nat.lt_of_lt_of_le hj h.size) (fun hy => by have := hY j hy; omega)).trans (h.same j hj hx)⟩
theorem ExsAt.point {W : World} {K : Nat → Prop} : ∀ {l : List Ex} {bs : List Nat}, bs.length = l.length → (∀ (k : Nat) (e : Ex) (b : Nat), l[k]? = some e → bs[k]? = some b → ExAt W K b e) → ExsAt W K bs (.of l)
  | [], [], _, _ => ExsAt.none
  | [], _ :: _, h, _ => by simp at h
  | _ :: _, [], h, _ => by simp at h
  | e :: l, b :: bs, h, H => by
    show ExsAt W K (b :: bs) (.cons e (.of l))
    unfold ExsAt
    exact ⟨H 0 e b rfl rfl, ExsAt.point (by simpa using h) (fun k e' b' h1 h2 => H (k + 1) e' b' (by simpa using h1) (by simpa using h2))⟩
theorem StsAt.point {W : World} {K : Nat → Prop} : ∀ {l : List St} {bs : List Nat}, bs.length = l.length → (∀ (k : Nat) (e : St) (b : Nat), l[k]? = some e → bs[k]? = some b → StAt W K b e) → StsAt W K bs (.of l)
  | [], [], _, _ => StsAt.none
  | [], _ :: _, h, _ => by simp at h
  | _ :: _, [], h, _ => by simp at h
  | e :: l, b :: bs, h, H => by
    show StsAt W K (b :: bs) (.cons e (.of l))
    unfold StsAt
    exact ⟨H 0 e b rfl rfl, StsAt.point (by simpa using h) (fun k e' b' h1 h2 => H (k + 1) e' b' (by simpa using h1) (by simpa using h2))⟩
theorem Chain.argsE {w W : World} {v : Value} {l : List Ex} (h : Chain sortE 122 w W v l) : ∃ bs, PtrsAt W (fun k => w.heap.size ≤ k) 122 v bs ∧ ExsAt W (fun k => w.heap.size ≤ k) bs (.of l) := by
  obtain ⟨bs, h1, h2, h3⟩ := h
  exact ⟨bs, PtrsAt.ofOwn (h1 ▸ h2), ExsAt.point h1 (fun k e b hk hb => (h3 k e b hk hb : ExAt _ _ _ _).mv (fun _ _ _ => rfl) (fun _ h => h.1))⟩
theorem Chain.argsS {w W : World} {v : Value} {l : List St} (h : Chain sortS 71 w W v l) : ∃ bs, PtrsAt W (fun k => w.heap.size ≤ k) 71 v bs ∧ StsAt W (fun k => w.heap.size ≤ k) bs (.of l) := by
  obtain ⟨bs, h1, h2, h3⟩ := h
  exact ⟨bs, PtrsAt.ofOwn (h1 ▸ h2), StsAt.point h1 (fun k e b hk hb => (h3 k e b hk hb : StAt _ _ _ _).mv (fun _ _ _ => rfl) (fun _ h => h.1))⟩
end Go.Proofs.YtjgpbpmicopemaaGreatDoor

/-
  The parser's primary.
-/
namespace Go.Proofs.YtjgpbpmicopemaaGreatDoor
open Go.RowKit Go.Shelf
set_option maxRecDepth 20000

theorem pr_assoc {α β γ : Type} (g : Pr α) (h : α → Pr β) (k : β → Pr γ) : ((g >>= h) >>= k) = (g >>= fun a => h a >>= k) := by
  funext s
  show Pr.bind (Pr.bind g h) k s = Pr.bind g (fun a => Pr.bind (h a) k) s
  unfold Pr.bind
  cases g s <;> rfl
theorem info122 : (Tryz.prog.info? 122).map (fun i => (i.zero, i.size, i.bytes)) = some (some (.pointer none), 1, 8) := by kernel_rfl
set_option maxHeartbeats 8000000 in
theorem primaryZ {p : Nat} {E : Int × Int} {f : Nat} (hf0 : f ≤ 10000000) (ih : ∀ f', f' ≤ f → AllE p E f') (s : Sx) (w : World) (h : PrAt w p E s) (hno : primaryP (f + 1) s ≠ .out) :
    Calls Tryz.prog 162 #[.pointer (some ⟨p, 0, none⟩)] w (Post p E w encE (primaryP (f + 1) s)) := by
  obtain ⟨R, hG⟩ : ∃ R, primaryP (f + 1) s = R := ⟨_, rfl⟩
  rw [hG] at hno ⊢
  unfold primaryP at hG
  rw [bind_ok (rfl : isP [40] s = .ok (isB s.ws [40]) s)] at hG
  have hlt := h.lt
  go_enter Tryz.func162, Tryz.ntmps162
  go_wp2_with fail
  refine (atZ p E s _ h).mono ?_
  rintro e w1 ⟨rfl, hb1⟩
  have hbox := at_box (posOf E s.ws) (h.below hb1)
  have hP1 := (h.below hb1).below (belowAlloc w1 (.cells #[.int .i64 (posOf E s.ws).1, .int .i64 (posOf E s.ws).2] 26))
  have hM1 := (Mv.below (X := fun k => k = p) hb1).more (.cells #[.int .i64 (posOf E s.ws).1, .int .i64 (posOf E s.ws).2] 26)
  go_wp2_with fail
  refine (isZ p E s [40] _ hP1).mono ?_
  rintro e w' ⟨rfl, rfl⟩
  cases hb : isB s.ws [40]
  · rw [hb] at hG
    simp only [Bool.false_eq_true, if_false] at hG
    go_wp2_with fail
    refine (mayZ p E s [105, 110] _ hP1).mono ?_
    intro e w2 hq
    obtain ⟨s2, rfl, hB⟩ | ⟨c2, s2, v, hx2, hG, rfl, rfl, hP2, hM2, hm2⟩ := hq.cut hG hno hM1
    · go_wp2_with fail
      exact ⟨rfl, hB⟩
    cases c2
    · simp only [Bool.false_eq_true, if_false] at hG
      go_wp2_with fail
      refine (mayZ p E s2 [115, 105, 122, 101, 111, 102] _ hP2).mono ?_
      intro e w3 hq
      obtain ⟨s3, rfl, hB⟩ | ⟨c3, s3, v, hx3, hG, rfl, rfl, hP3, hM3, hm3⟩ := hq.cut hG hno hM2
      · go_wp2_with fail
        exact ⟨rfl, hB⟩
      cases c3
      · simp only [Bool.false_eq_true, if_false] at hG
        rw [bind_ok (rfl : kindP 2 s3 = .ok (kindB s3.ws 2) s3)] at hG
        obtain ⟨bb, cc, oo, g1, g2, g3, g4, g5⟩ := hP3.cells
        obtain ⟨c0, -, -, -, -, -, -, -⟩ := cells7 g5
        have hml : s3.ws.length ≤ 9223372036854775807 := by unfold maxLen at g2; omega
        have hfd := field114_2
        cases hk : kindB s3.ws 2
        · cases hw : s3.ws with
          | nil =>
            rw [hw] at c0
            simp only [List.length_nil] at c0
            clear g1 g2 g3 g4 g5
            rw [hk] at hG
            simp only [Bool.false_eq_true, if_false] at hG
            go_wp2_with fail
            refine (nameZ p E s3 _ hP3).mono ?_
            intro e w4 hq
            obtain ⟨s4, rfl, hB⟩ | ⟨nm, s4, v, hx4, hG, rfl, rfl, hP4, hM4, hm4⟩ := hq.cut hG hno hM3
            · go_wp2_with fail
              exact ⟨rfl, hB⟩
            unfold str
            go_wp2_with fail
            refine (mayZ p E s4 [40] _ hP4).mono ?_
            intro e w5 hq
            obtain ⟨s5, rfl, hB⟩ | ⟨c5, s5, v, hx5, hG, rfl, rfl, hP5, hM5, hm5⟩ := hq.cut hG hno hM4
            · go_wp2_with fail
              exact ⟨rfl, hB⟩
            cases c5
            · simp only [Bool.false_eq_true, if_false] at hG
              obtain ⟨z0, z1, -, -⟩ := hbox _ (((hm2.trans hm3).trans hm4).trans hm5)
              go_wp2_with fail
              refine (exprNone hlt hM5.size hP5 2 _ _ [] nm 0 []).mono ?_
              rintro e w6 ⟨b6, rfl, hP6, hm6, hE6⟩
              go_wp2_with fail
              exact bodyPost_ret (v := ptr b6) (by simp [results, Tryz.results162, go_sem, ptr]) rfl (Post.wellc hG (hM5.trans hm6) hP6 ⟨b6, rfl, hE6⟩)
            · simp only [if_true] at hG
              go_wp2_with fail
              refine (mayZ p E s5 [41] _ hP5).mono ?_
              intro e w6 hq
              obtain ⟨s6, rfl, hB⟩ | ⟨c6, s6, v, hx6, hG, rfl, rfl, hP6, hM6, hm6⟩ := hq.cut hG hno hM5
              · go_wp2_with fail
                exact ⟨rfl, hB⟩
              have hcm := (((hm2.trans hm3).trans hm4).trans hm5).trans hm6
              generalize hc6 : (!c6) = m6 at hG
              have hbx : w6.heap[w1.heap.size]? = some (.cells #[.int .i64 (posOf E s.ws).1, .int .i64 (posOf E s.ws).2] 26 (0, 0)) := (hcm.same _ (by simp) (by have := (h.below hb1).lt; omega)).trans (heap_alloc_new w1 _)
              go_wp2_with fail
              go_loopg [6, 7] f (fun g s6 s7 wr => ∃ (f' : Nat) (more : Bool) (l : List Ex) (s' : Sx), l.length + f' ≤ f ∧ f' ≤ g ∧ s7 = .bool more ∧ (argsP f' more l >>= fun args => exprP 6 [] nm 0 [] args) s' = R ∧ Chain sortE 122 w wr s6 l ∧ PrAt wr p E s' ∧ Mv (fun k => k = p) w wr ∧ wr.heap[w1.heap.size]? = some (.cells #[.int .i64 (posOf E s.ws).1, .int .i64 (posOf E s.ws).2] 26 (0, 0)))
              case atStart => exact ⟨f, m6, [], s6, by simp, Nat.le_refl _, rfl, hG, Chain.nil _ _ _ _, hP6, hM6, hbx⟩
              case round =>
                clear hP2 hP3 hP4 hP5 hP6 hM2 hM3 hM4 hM5 hM6 hm2 hm3 hm4 hm5 hm6 hcm hbx hG
                obtain ⟨f', more, l, s', hfl, hg', rfl, hG, hCh, hP1', hM1', hbx⟩ := hrel
                cases f' with
                | zero => exact absurd (by rw [← hG]; rfl) hno
                | succ f' =>
                  unfold argsP at hG
                  cases more
                  · simp only [Bool.false_eq_true, if_false] at hG
                    have z0 : wr.cell? ⟨w1.heap.size, 0, none⟩ = some (.int .i64 (posOf E s.ws).1) := by unfold World.cell?; rw [hbx]; rfl
                    have z1 : wr.cell? ⟨w1.heap.size, 1, none⟩ = some (.int .i64 (posOf E s.ws).2) := by unfold World.cell?; rw [hbx]; rfl
                    obtain ⟨sa, sc, rfl, -, -⟩ := hCh.size
                    obtain ⟨bs, hq1, hq2⟩ := hCh.argsE
                    go_wp2_with fail
                    refine (exprMany hlt hM1'.size hP1' 6 _ _ [] nm 0 [] l _ bs hq1 hq2).mono ?_
                    rintro e w8 ⟨b8, rfl, hP8, hm8, hE8⟩
                    go_wp2_with fail
                    exact bodyPost_ret (v := ptr b8) (by simp [results, Tryz.results162, go_sem, ptr]) rfl (Post.wellc hG (hM1'.trans hm8) hP8 ⟨b8, rfl, hE8⟩)
                  · simp only [if_true] at hG
                    rw [pr_assoc] at hG
                    go_wp2_with fail
                    refine ((ih f' (by omega)).binary 0 s' _ (by omega) (by omega) hP1' (ne_cut hG hno)).mono ?_
                    intro e w2 hq
                    obtain ⟨s2, rfl, hB⟩ | ⟨a2, s2, v, hx2, hG, rfl, ⟨b2, rfl, hE2⟩, hP2, hM2, hm2⟩ := hq.cut hG hno hM1'
                    · go_wp2_with fail
                      exact ⟨rfl, hB⟩
                    unfold ptr
                    have hCh2 := hCh.mv hm2 hlt
                    have hown := hCh.own
                    obtain ⟨i0, hi, hz0, hz1, hz2⟩ := info_parts info122
                    obtain ⟨bs, q1, q2, q3⟩ := id hCh2
                    have hbx2 := (hm2.same _ (heap_lt hbx) (by have := (h.below hb1).lt; omega)).trans hbx
                    go_wp2_with (at_builtin; refine wpList_append_lies _ rfl _ _ 140 rfl w.heap.size 122 i0 (.pointer none) 1 8 Tryz.underlying140 hi hz0 hz1 hz2 rfl (by decide) _ l.length (bs.map ptr) rfl (q2.alloc _) _ 1 1 [ptr b2] rfl rfl (World.news_of_block (heap_alloc_new w2 _)) (by simp [ptr, Value.oneCell']) (by decide) (by unfold maxLen; omega) (by omega) (by have := hM2.size; simp; omega) _ rfl ?_)
                    intro g cap w4 hown' hgr hat hgl
                    have hCh4 := Chain.push (W1 := wr) (S := sortE) q1 q3 hM1'.size (fun k hk => (hown k hk).2.1) hE2 (belowAlloc w2 _) hown' hgr (by simpa using hat)
                    obtain ⟨hP4, hm4⟩ := hCh2.tame (by decide) hP2 hlt (belowAlloc w2 _) hgr
                    have hM4 := hM2.fresh hm4 (fun j hj => (hCh2.own j hj).1)
                    have hbx4 := (hm4.same _ (heap_lt hbx2) (fun hj => by obtain ⟨-, -, cur, hcur⟩ := hCh2.own _ hj; rw [hbx2] at hcur; cases hcur)).trans hbx2
                    clear hCh2 hCh hown q1 q2 q3 hbx2 hbx hP2 hm2 hM2 hE2 hP1' hM1' hown' hgr hat hgl hm4
                    rw [pr_assoc] at hG
                    go_wp2_with fail
                    refine (mayZ p E s2 [44] _ hP4).mono ?_
                    intro e w5 hq
                    obtain ⟨s5, rfl, hB⟩ | ⟨c5, s5, v, hx5, hG, rfl, rfl, hP5, hM5, hm5⟩ := hq.cut hG hno hM4
                    · go_wp2_with fail
                      exact ⟨rfl, hB⟩
                    have hCh5 := hCh4.mv hm5 hlt
                    have hbx5 := (hm5.same _ (heap_lt hbx4) (by have := (h.below hb1).lt; omega)).trans hbx4
                    cases c5
                    · simp only [Bool.false_eq_true, if_false] at hG
                      rw [pr_assoc] at hG
                      go_wp2_with fail
                      refine (mustZ p E s5 [41] _ hP5).mono ?_
                      intro e w6 hq
                      obtain ⟨s6, rfl, hB⟩ | ⟨_, s6, v, hx6, hG, rfl, -, hP6, hM6, hm6⟩ := hq.cut hG hno hM5
                      · go_wp2_with fail
                        exact ⟨rfl, hB⟩
                      go_wp2_with fail
                      go_roundg f'
                      case measure => omega
                      case rel => exact ⟨f', false, l ++ [a2], s6, by simp; omega, Nat.le_refl _, rfl, hG, hCh5.mv hm6 hlt, hP6, hM6, (hm6.same _ (heap_lt hbx5) (by have := (h.below hb1).lt; omega)).trans hbx5⟩
                    · simp only [if_true] at hG
                      go_wp2_with fail
                      go_roundg f'
                      case measure => omega
                      case rel => exact ⟨f', true, l ++ [a2], s5, by simp; omega, Nat.le_refl _, rfl, hG, hCh5, hP5, hM5, hbx5⟩
          | cons x xs =>
            obtain ⟨gg, go, rfl, hg, hgl, r0, r1, r2, r3, r4, -⟩ := (hw ▸ g3) (by simp)
            rw [hw] at c0 hml
            simp only [List.length_cons] at c0 hml
            have hkx : (x.d.k == 2) = false := by
              rw [hw] at hk
              simpa [kindB] using hk
            clear g1 g2 g3 g4 g5
            rw [hk] at hG
            simp only [Bool.false_eq_true, if_false] at hG
            go_wp2_with fail
            refine (nameZ p E s3 _ hP3).mono ?_
            intro e w4 hq
            obtain ⟨s4, rfl, hB⟩ | ⟨nm, s4, v, hx4, hG, rfl, rfl, hP4, hM4, hm4⟩ := hq.cut hG hno hM3
            · go_wp2_with fail
              exact ⟨rfl, hB⟩
            unfold str
            go_wp2_with fail
            refine (mayZ p E s4 [40] _ hP4).mono ?_
            intro e w5 hq
            obtain ⟨s5, rfl, hB⟩ | ⟨c5, s5, v, hx5, hG, rfl, rfl, hP5, hM5, hm5⟩ := hq.cut hG hno hM4
            · go_wp2_with fail
              exact ⟨rfl, hB⟩
            cases c5
            · simp only [Bool.false_eq_true, if_false] at hG
              obtain ⟨z0, z1, -, -⟩ := hbox _ (((hm2.trans hm3).trans hm4).trans hm5)
              go_wp2_with fail
              refine (exprNone hlt hM5.size hP5 2 _ _ [] nm 0 []).mono ?_
              rintro e w6 ⟨b6, rfl, hP6, hm6, hE6⟩
              go_wp2_with fail
              exact bodyPost_ret (v := ptr b6) (by simp [results, Tryz.results162, go_sem, ptr]) rfl (Post.wellc hG (hM5.trans hm6) hP6 ⟨b6, rfl, hE6⟩)
            · simp only [if_true] at hG
              go_wp2_with fail
              refine (mayZ p E s5 [41] _ hP5).mono ?_
              intro e w6 hq
              obtain ⟨s6, rfl, hB⟩ | ⟨c6, s6, v, hx6, hG, rfl, rfl, hP6, hM6, hm6⟩ := hq.cut hG hno hM5
              · go_wp2_with fail
                exact ⟨rfl, hB⟩
              have hcm := (((hm2.trans hm3).trans hm4).trans hm5).trans hm6
              generalize hc6 : (!c6) = m6 at hG
              have hbx : w6.heap[w1.heap.size]? = some (.cells #[.int .i64 (posOf E s.ws).1, .int .i64 (posOf E s.ws).2] 26 (0, 0)) := (hcm.same _ (by simp) (by have := (h.below hb1).lt; omega)).trans (heap_alloc_new w1 _)
              go_wp2_with fail
              go_loopg [6, 7] f (fun g s6 s7 wr => ∃ (f' : Nat) (more : Bool) (l : List Ex) (s' : Sx), l.length + f' ≤ f ∧ f' ≤ g ∧ s7 = .bool more ∧ (argsP f' more l >>= fun args => exprP 6 [] nm 0 [] args) s' = R ∧ Chain sortE 122 w wr s6 l ∧ PrAt wr p E s' ∧ Mv (fun k => k = p) w wr ∧ wr.heap[w1.heap.size]? = some (.cells #[.int .i64 (posOf E s.ws).1, .int .i64 (posOf E s.ws).2] 26 (0, 0)))
              case atStart => exact ⟨f, m6, [], s6, by simp, Nat.le_refl _, rfl, hG, Chain.nil _ _ _ _, hP6, hM6, hbx⟩
              case round =>
                clear hP2 hP3 hP4 hP5 hP6 hM2 hM3 hM4 hM5 hM6 hm2 hm3 hm4 hm5 hm6 hcm hbx hG
                obtain ⟨f', more, l, s', hfl, hg', rfl, hG, hCh, hP1', hM1', hbx⟩ := hrel
                cases f' with
                | zero => exact absurd (by rw [← hG]; rfl) hno
                | succ f' =>
                  unfold argsP at hG
                  cases more
                  · simp only [Bool.false_eq_true, if_false] at hG
                    have z0 : wr.cell? ⟨w1.heap.size, 0, none⟩ = some (.int .i64 (posOf E s.ws).1) := by unfold World.cell?; rw [hbx]; rfl
                    have z1 : wr.cell? ⟨w1.heap.size, 1, none⟩ = some (.int .i64 (posOf E s.ws).2) := by unfold World.cell?; rw [hbx]; rfl
                    obtain ⟨sa, sc, rfl, -, -⟩ := hCh.size
                    obtain ⟨bs, hq1, hq2⟩ := hCh.argsE
                    go_wp2_with fail
                    refine (exprMany hlt hM1'.size hP1' 6 _ _ [] nm 0 [] l _ bs hq1 hq2).mono ?_
                    rintro e w8 ⟨b8, rfl, hP8, hm8, hE8⟩
                    go_wp2_with fail
                    exact bodyPost_ret (v := ptr b8) (by simp [results, Tryz.results162, go_sem, ptr]) rfl (Post.wellc hG (hM1'.trans hm8) hP8 ⟨b8, rfl, hE8⟩)
                  · simp only [if_true] at hG
                    rw [pr_assoc] at hG
                    go_wp2_with fail
                    refine ((ih f' (by omega)).binary 0 s' _ (by omega) (by omega) hP1' (ne_cut hG hno)).mono ?_
                    intro e w2 hq
                    obtain ⟨s2, rfl, hB⟩ | ⟨a2, s2, v, hx2, hG, rfl, ⟨b2, rfl, hE2⟩, hP2, hM2, hm2⟩ := hq.cut hG hno hM1'
                    · go_wp2_with fail
                      exact ⟨rfl, hB⟩
                    unfold ptr
                    have hCh2 := hCh.mv hm2 hlt
                    have hown := hCh.own
                    obtain ⟨i0, hi, hz0, hz1, hz2⟩ := info_parts info122
                    obtain ⟨bs, q1, q2, q3⟩ := id hCh2
                    have hbx2 := (hm2.same _ (heap_lt hbx) (by have := (h.below hb1).lt; omega)).trans hbx
                    go_wp2_with (at_builtin; refine wpList_append_lies _ rfl _ _ 140 rfl w.heap.size 122 i0 (.pointer none) 1 8 Tryz.underlying140 hi hz0 hz1 hz2 rfl (by decide) _ l.length (bs.map ptr) rfl (q2.alloc _) _ 1 1 [ptr b2] rfl rfl (World.news_of_block (heap_alloc_new w2 _)) (by simp [ptr, Value.oneCell']) (by decide) (by unfold maxLen; omega) (by omega) (by have := hM2.size; simp; omega) _ rfl ?_)
                    intro g cap w4 hown' hgr hat hgl
                    have hCh4 := Chain.push (W1 := wr) (S := sortE) q1 q3 hM1'.size (fun k hk => (hown k hk).2.1) hE2 (belowAlloc w2 _) hown' hgr (by simpa using hat)
                    obtain ⟨hP4, hm4⟩ := hCh2.tame (by decide) hP2 hlt (belowAlloc w2 _) hgr
                    have hM4 := hM2.fresh hm4 (fun j hj => (hCh2.own j hj).1)
                    have hbx4 := (hm4.same _ (heap_lt hbx2) (fun hj => by obtain ⟨-, -, cur, hcur⟩ := hCh2.own _ hj; rw [hbx2] at hcur; cases hcur)).trans hbx2
                    clear hCh2 hCh hown q1 q2 q3 hbx2 hbx hP2 hm2 hM2 hE2 hP1' hM1' hown' hgr hat hgl hm4
                    rw [pr_assoc] at hG
                    go_wp2_with fail
                    refine (mayZ p E s2 [44] _ hP4).mono ?_
                    intro e w5 hq
                    obtain ⟨s5, rfl, hB⟩ | ⟨c5, s5, v, hx5, hG, rfl, rfl, hP5, hM5, hm5⟩ := hq.cut hG hno hM4
                    · go_wp2_with fail
                      exact ⟨rfl, hB⟩
                    have hCh5 := hCh4.mv hm5 hlt
                    have hbx5 := (hm5.same _ (heap_lt hbx4) (by have := (h.below hb1).lt; omega)).trans hbx4
                    cases c5
                    · simp only [Bool.false_eq_true, if_false] at hG
                      rw [pr_assoc] at hG
                      go_wp2_with fail
                      refine (mustZ p E s5 [41] _ hP5).mono ?_
                      intro e w6 hq
                      obtain ⟨s6, rfl, hB⟩ | ⟨_, s6, v, hx6, hG, rfl, -, hP6, hM6, hm6⟩ := hq.cut hG hno hM5
                      · go_wp2_with fail
                        exact ⟨rfl, hB⟩
                      go_wp2_with fail
                      go_roundg f'
                      case measure => omega
                      case rel => exact ⟨f', false, l ++ [a2], s6, by simp; omega, Nat.le_refl _, rfl, hG, hCh5.mv hm6 hlt, hP6, hM6, (hm6.same _ (heap_lt hbx5) (by have := (h.below hb1).lt; omega)).trans hbx5⟩
                    · simp only [if_true] at hG
                      go_wp2_with fail
                      go_roundg f'
                      case measure => omega
                      case rel => exact ⟨f', true, l ++ [a2], s5, by simp; omega, Nat.le_refl _, rfl, hG, hCh5, hP5, hM5, hbx5⟩
        · cases hw : s3.ws with
          | nil => rw [hw] at hk; simp [kindB] at hk
          | cons x xs =>
            obtain ⟨gg, go, rfl, hg, hgl, r0, r1, r2, r3, r4, -⟩ := (hw ▸ g3) (by simp)
            rw [hw] at c0 hml
            simp only [List.length_cons] at c0 hml
            have hkx : x.d.k = 2 := by
              rw [hw] at hk
              simpa [kindB] using hk
            rw [hkx] at r0
            clear g1 g2 g3 g4 g5
            rw [hk] at hG
            simp only [if_true] at hG
            obtain ⟨z0, z1, za0, za1⟩ := hbox _ ((hm2.trans hm3).drawn)
            have hN := takeZ p E s3 w3.drew (hP3.none (Mv.drew _)) (by rw [hw]; simp)
            go_wp2_with fail
            go_region_held (fun w' => w'.cell? ⟨w1.heap.size, 0, none⟩ = some (.int .i64 (posOf E s.ws).1) ∧ w'.cell? ⟨w1.heap.size, 1, none⟩ = some (.int .i64 (posOf E s.ws).2))
              (first | exact ⟨z0, z1⟩ | exact ⟨y0, y1⟩ | exact ⟨ya0 _, ya1 _⟩ | exact ⟨u0, u1⟩)
              (first | (go_at_call 57; (with_reducible refine Calls.mono hN ?_); intro e w4 hq; obtain ⟨s4, rfl, hB⟩ | ⟨x4, s4, v, hx4, hG4, rfl, rfl, hP4, hM4, hm4⟩ := hq.cut hG hno (hM3.drawn); (· exact ⟨rfl, hB⟩); (obtain ⟨y0, y1, ya0, ya1⟩ := hbox _ (((hm2.trans hm3).drawn).trans hm4)); unfold str) | (go_at_call 125; (with_reducible refine Calls.mono (exprNone hlt hM4.size hP4 1 _ _ [] [] x4.d.n []) ?_); rintro e w5 ⟨b5, rfl, hP5, hm5, hE5⟩; obtain ⟨u0, u1, -⟩ := hbox _ ((((hm2.trans hm3).drawn).trans hm4).trans hm5)))
            all_goals go_wp2_with fail
            all_goals exact bodyPost_ret (v := ptr b5) (by simp [results, Tryz.results162, go_sem, ptr]) rfl (Post.wellc hG4 (hM4.trans hm5) hP5 ⟨b5, rfl, hE5⟩)
      · simp only [if_true] at hG
        go_wp2_with fail
        refine (mustZ p E s3 [40] _ hP3).mono ?_
        intro e w4 hq
        obtain ⟨s4, rfl, hB⟩ | ⟨_, s4, v, hx4, hG, rfl, -, hP4, hM4, hm4⟩ := hq.cut hG hno hM3
        · go_wp2_with fail
          exact ⟨rfl, hB⟩
        go_wp2_with fail
        refine (typZ p E s4 _ hP4).mono ?_
        intro e w5 hq
        obtain ⟨s5, rfl, hB⟩ | ⟨t5, s5, v, hx5, hG, rfl, rfl, hP5, hM5, hm5⟩ := hq.cut hG hno hM4
        · go_wp2_with fail
          exact ⟨rfl, hB⟩
        have hlen := typ_len hx5 hP4.kind
        unfold str
        go_wp2_with fail
        refine (arrayZ p E s5 t5 _ hP5 hlen).mono ?_
        intro e w6 hq
        obtain ⟨s6, rfl, hB⟩ | ⟨t6, s6, v, hx6, hG, rfl, rfl, hP6, hM6, hm6⟩ := hq.cut hG hno hM5
        · go_wp2_with fail
          exact ⟨rfl, hB⟩
        unfold str
        go_wp2_with fail
        refine (mustZ p E s6 [41] _ hP6).mono ?_
        intro e w7 hq
        obtain ⟨s7, rfl, hB⟩ | ⟨_, s7, v, hx7, hG, rfl, -, hP7, hM7, hm7⟩ := hq.cut hG hno hM6
        · go_wp2_with fail
          exact ⟨rfl, hB⟩
        obtain ⟨z0, z1, -, -⟩ := hbox _ ((((((hm2).trans hm3).trans hm4).trans hm5).trans hm6).trans hm7)
        go_wp2_with fail
        refine (exprNone hlt hM7.size hP7 11 _ _ [] [] 0 t6).mono ?_
        rintro e w8 ⟨b8, rfl, hP8, hm8, hE8⟩
        go_wp2_with fail
        exact bodyPost_ret (v := ptr b8) (by simp [results, Tryz.results162, go_sem, ptr]) rfl (Post.wellc hG (hM7.trans hm8) hP8 ⟨b8, rfl, hE8⟩)
    · simp only [if_true] at hG
      go_wp2_with fail
      refine (mustZ p E s2 [40] _ hP2).mono ?_
      intro e w3 hq
      obtain ⟨s3, rfl, hB⟩ | ⟨_, s3, v, hx3, hG, rfl, -, hP3, hM3, hm3⟩ := hq.cut hG hno hM2
      · go_wp2_with fail
        exact ⟨rfl, hB⟩
      go_wp2_with fail
      refine (mustZ p E s3 [41] _ hP3).mono ?_
      intro e w4 hq
      obtain ⟨s4, rfl, hB⟩ | ⟨_, s4, v, hx4, hG, rfl, -, hP4, hM4, hm4⟩ := hq.cut hG hno hM3
      · go_wp2_with fail
        exact ⟨rfl, hB⟩
      obtain ⟨z0, z1, -, -⟩ := hbox _ ((hm2.trans hm3).trans hm4)
      go_wp2_with fail
      refine (exprNone hlt hM4.size hP4 10 _ _ [] [] 0 []).mono ?_
      rintro e w5 ⟨b5, rfl, hP5, hm5, hE5⟩
      go_wp2_with fail
      exact bodyPost_ret (v := ptr b5) (by simp [results, Tryz.results162, go_sem, ptr]) rfl (Post.wellc hG (hM4.trans hm5) hP5 ⟨b5, rfl, hE5⟩)
  · rw [hb] at hG
    simp only [if_true] at hG
    go_wp2_with fail
    refine ((ih f (Nat.le_refl _)).within s _ hP1 (by rw [hG]; exact hno)).mono ?_
    intro e w2 hq
    obtain ⟨s2, rfl, hB⟩ | ⟨v, a, rfl, ⟨b, rfl, hE⟩, hW⟩ := hq.last hG hno hM1 (fun v b h => h.later hM1.size (Mv.refl _ _) hlt)
    · go_wp2_with fail
      exact ⟨rfl, hB⟩
    unfold ptr
    go_wp2_with fail
    exact bodyPost_ret (v := ptr b) (by simp [results, Tryz.results162, go_sem, ptr]) rfl hW
end Go.Proofs.YtjgpbpmicopemaaGreatDoor

/-
  Functions that go deeper, and come out by a deferred call.
-/
namespace Go.Proofs.YtjgpbpmicopemaaGreatDoor
open Go.RowKit Go.Shelf
set_option maxRecDepth 20000

theorem deeperEndD (p : Nat) (E : Int × Int) (s : Sx) (w : World) (q : Nat) (u : FrameMode) (h : PrAt w p E s) (hb : w.cell? ⟨q, 0, none⟩ = some (.pointer (some ⟨p, 0, none⟩))) :
    CallsD Tryz.prog 105 #[.pointer (some ⟨q, 0, none⟩)] u w fun e u' w' => u' = u ∧ e = .returned (.tuple #[]) ∧ PrAt w' p E s.up ∧ Mv (fun k => k = p) w w' := by
  obtain ⟨bb, c, o, h1, h2, h3, h4, h5⟩ := h.cells
  obtain ⟨c0, c1, c2, c3, c4, c5, c6, cf⟩ := cells7 h5
  go_enter_d Tryz.func105, Tryz.ntmps105
  go_wp2_with fail
  go_end0
  exact ⟨rfl, h.putDepth _, Mv.setCell _ _ rfl⟩
/-- the deferred call -/
def dEnd (q : Nat) : Deferred := { target := .fn (.func 105) #[.pointer (some ⟨q, 0, none⟩)], args := #[] }
/-- what stands behind a body that went deeper, ahead of its deferred call -/
def bodyPostQ (p : Nat) (fn : Func) (R : Ending → World → Prop) : Exit → Act → World → Prop
  | .normal, a, w | .ret, a, w => ∃ q, a.defers = [dEnd q] ∧ w.cell? ⟨q, 0, none⟩ = some (.pointer (some ⟨p, 0, none⟩)) ∧ ∃ v, (∀ w', (results fn a.tmps).run Tryz.prog w' = .ok v w') ∧ R (.returned v) w
  | .panic c, a, w => ∃ q, a.defers = [dEnd q] ∧ w.cell? ⟨q, 0, none⟩ = some (.pointer (some ⟨p, 0, none⟩)) ∧ R (.panicked c) w
  | .outgrown, _, w => R .outgrown w
  | _, _, _ => False
def deepRe {α : Type} : Re α → Re α
  | .ok a s => .ok a s.up
  | .bad s => .bad s
  | .out => .out
theorem deepP_eq {α : Type} (g : Pr α) (s : Sx) : deepP g s = deepRe (g s.down) := by
  simp only [deepP]
  cases g s.down <;> rfl
section
variable {p : Nat} {E : Int × Int} {w : World} {α : Type} {enc : World → World → Value → α → Prop} {R1 : Re α}
theorem bodyPostQ_ret {fn : Func} {R : Ending → World → Prop} {a : Act} {w : World} {q : Nat} (v : Value) (hr : ∀ w', (results fn a.tmps).run Tryz.prog w' = .ok v w') (hd : a.defers = [dEnd q]) (hc : w.cell? ⟨q, 0, none⟩ = some (.pointer (some ⟨p, 0, none⟩))) (h : R (.returned v) w) : bodyPostQ p fn R .ret a w :=
  ⟨q, hd, hc, v, hr, h⟩
theorem calls_of_deeper {f : FuncId} {fn : Func} {c : Code} {args : Array Value} (hf : Tryz.prog.funcs[f]? = some fn) (hb : fn.body = some c) (hno : R1 ≠ .out)
    (henc : ∀ w1 w2 v a, enc w w1 v a → Mv (fun k => k = p) w1 w2 → enc w w2 v a)
    (h : c.wp Tryz.prog (bodyPostQ p fn (Post p E w enc R1)) { tmps := args ++ Array.replicate (fn.ntmps - args.size) undef, defers := [] } w) :
    Calls Tryz.prog f args w (Post p E w enc (deepRe R1)) := by
  refine calls_of_wp_defers hf hb (Code.wp_mono ?_ h)
  intro e a w1 hq
  have key : ∀ (u : FrameMode) (q : Nat) (s : Sx), u ≠ .run → (∀ w2, PrAt w2 p E s.up → Mv (fun k => k = p) w1 w2 → Leaves Tryz.prog fn a.tmps (Post p E w enc (deepRe R1)) [] (settle u) w2) → PrAt w1 p E s → w1.cell? ⟨q, 0, none⟩ = some (.pointer (some ⟨p, 0, none⟩)) →
      Leaves Tryz.prog fn a.tmps (Post p E w enc (deepRe R1)) [dEnd q] u w1 := fun u q s hu hl hP hc => by
    refine leaves_cons (f := 105) (args := #[.pointer (some ⟨q, 0, none⟩)]) hu (by simp [go_sem]) ?_
    refine (deeperEndD p E s w1 q u hP hc).mono ?_
    rintro e u' w2 ⟨rfl, rfl, hP2, hm2⟩
    exact hl w2 hP2 hm2
  have good : ∀ (q : Nat) (v : Value), (∀ w', (results fn a.tmps).run Tryz.prog w' = .ok v w') → w1.cell? ⟨q, 0, none⟩ = some (.pointer (some ⟨p, 0, none⟩)) → Post p E w enc R1 (.returned v) w1 → Leaves Tryz.prog fn a.tmps (Post p E w enc (deepRe R1)) [dEnd q] .returning w1 := fun q v hr hc hB => by
    obtain ⟨hm, hB⟩ := hB
    cases R1 with
    | out => exact absurd rfl hno
    | bad s' => exact absurd hB.1 (by simp)
    | ok x s' =>
      obtain ⟨hP, v', he, hx⟩ := hB
      cases he
      refine key _ q s' (by simp) (fun w2 hP2 hm2 => ⟨v, hr w2, hm.trans hm2, hP2, v, rfl, henc _ _ _ _ hx hm2⟩) hP hc
  cases e with
  | normal =>
    obtain ⟨q, hd, hc, v, hr, hB⟩ := hq
    show Leaves _ _ _ _ a.defers _ _
    rw [hd]
    exact good q v hr hc hB
  | ret =>
    obtain ⟨q, hd, hc, v, hr, hB⟩ := hq
    show Leaves _ _ _ _ a.defers _ _
    rw [hd]
    exact good q v hr hc hB
  | panic chain =>
    obtain ⟨q, hd, hc, hm, hB⟩ := hq
    show Leaves _ _ _ _ a.defers _ _
    rw [hd]
    cases R1 with
    | out => exact absurd rfl hno
    | ok x s' => obtain ⟨hP, v', he, hx⟩ := hB; cases he
    | bad s' =>
      obtain ⟨he, s'', hP⟩ := hB
      cases he
      exact key _ q s'' (by simp) (fun w2 hP2 hm2 => ⟨hm.trans hm2, rfl, _, hP2⟩) hP hc
  | exit id => exact hq.elim
  | goto l => exact hq.elim
  | outgrown =>
    obtain ⟨hm, hB⟩ := hq
    cases R1 with
    | out => exact absurd rfl hno
    | ok x s' => obtain ⟨hP, v', he, hx⟩ := hB; cases he
    | bad s' => exact absurd hB.1 (by simp)
end
end Go.Proofs.YtjgpbpmicopemaaGreatDoor
