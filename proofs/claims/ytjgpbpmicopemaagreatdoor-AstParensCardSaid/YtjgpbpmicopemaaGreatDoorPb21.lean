/-
  plumbobref5's parser: statements.
-/
import Derived.Test.YtjgpbpmicopemaaGreatDoorPb20
namespace Go.Proofs.YtjgpbpmicopemaaGreatDoor
open Go.RowKit Go.Shelf
set_option maxRecDepth 20000

/-- the expression's parts, whatever is ahead -/
theorem all5 (k : K5) : ∀ f, All5 k f := by
  intro f
  induction f with
  | zero =>
    constructor
    · intro i bad w _ _ hf; omega
    · intro n i bad w hn _ _ hf; omega
    · intro i bad w _ _ hf; omega
    · intro i bad w _ _ hf; omega
    · intro i bad w _ _ hf; omega
  | succ f ih =>
    exact ⟨fun i bad w hi h hf => expr5 ih i bad w hi h hf, fun n i bad w hn hi h hf => chain5 ih n i bad w hn hi h (by omega), fun i bad w hi h hf => unary5 ih i bad w hi h hf, fun i bad w hi h hf => post5 ih i bad w hi h hf, fun i bad w hi h hf => prim5 ih i bad w hi h hf⟩
theorem exprAny (k : K5) (i : Nat) (bad : Bool) (w : World) (hi : i ≤ k.ws.length) (h : P5 k w i bad) : Calls Tryz.prog 93 #[.pointer (some ⟨k.P, 0, none⟩), .int .i64 0] w (Nx5 k w i bad) :=
  (all5 k (20 * R5 k i bad + 16)).expr i bad w hi h (Nat.le_refl _)
/-- the statement's parts, as long as there is no more ahead than this -/
structure AllS5 (k : K5) (f : Nat) : Prop where
  stat : ∀ i bad w, i ≤ k.ws.length → P5 k w i bad → 2 * R5 k i bad + 2 ≤ f → Calls Tryz.prog 46 #[.pointer (some ⟨k.P, 0, none⟩)] w (Nx5 k w i bad)
  plain : ∀ i bad w, i ≤ k.ws.length → P5 k w i bad → 2 * R5 k i bad + 1 ≤ f → Calls Tryz.prog 70 #[.pointer (some ⟨k.P, 0, none⟩)] w (Nx5 k w i bad)
set_option maxHeartbeats 8000000 in
theorem stat5 {k : K5} {f : Nat} (ih : AllS5 k f) (i : Nat) (bad : Bool) (w : World) (hi : i ≤ k.ws.length) (h : P5 k w i bad) (hf : 2 * R5 k i bad + 2 ≤ f + 1) : Calls Tryz.prog 46 #[.pointer (some ⟨k.P, 0, none⟩)] w (Nx5 k w i bad) := by
  go_enter Tryz.func46, Tryz.ntmps46
  go_wp2_with fail
  refine (down5 k i bad w h).mono ?_
  rintro e w1 ⟨rfl, hm1, bad1, h1, hb1⟩
  have hR := R5_mono (k := k) (Nat.le_refl i) hb1
  go_wp2_with fail
  refine (ih.plain i bad1 w1 hi h1 (by omega)).mono ?_
  rintro e w2 ⟨⟨b, rfl⟩, i2, bad2, h2, hm2, l2, l2', b2, s2⟩
  go_wp2_with fail
  refine (up5 k i2 bad2 w2 h2).mono ?_
  rintro e w3 ⟨rfl, h3, hm3⟩
  go_wp2_with fail
  exact bodyPost_ret (v := .pointer (some ⟨b, 0, none⟩)) (by simp [results, Tryz.results46, go_sem]) rfl ⟨⟨b, rfl⟩, i2, bad2, h3, (hm1.trans hm2).trans hm3, l2, l2', fun h => b2 (hb1 h), fun _ => by simpa using s2⟩
set_option maxHeartbeats 16000000 in
theorem decl5 (k : K5) (i : Nat) (bad : Bool) (w : World) (hi : i ≤ k.ws.length) (h : P5 k w i bad) : Calls Tryz.prog 92 #[.pointer (some ⟨k.P, 0, none⟩)] w (Nx5 k w i bad) := by
  obtain ⟨hPl, hQl⟩ := h.low
  have hlen := h.ok.1
  have hml : k.ws.length ≤ 9223372036854775807 := by omega
  obtain ⟨j0, hj0, hz0, hz1, hz2⟩ := info_parts info107
  go_enter Tryz.func92, Tryz.ntmps92
  go_wp2_with fail
  refine (down5 k i bad w h).mono ?_
  rintro e w0 ⟨rfl, hm0, bad0, h0, hb0⟩
  go_wp2_with fail
  refine (node5 k [100, 101, 99, 108] i bad0 w0 h0).mono ?_
  rintro e w1 ⟨h1, hm1, b, rfl, wb0, hbc⟩
  have wb : w.heap.size ≤ b := Nat.le_trans hm0.size wb0
  have d9 := Sd5.made h1 (hm0.trans hm1) hbc
  clear h0 hm0 h1 hm1 wb0
  go_wp2_with fail
  refine (typ5 k i hi bad0 _ d9.P).mono ?_
  rintro e w10 ⟨⟨ty, rfl, hty⟩, i10, bad10, h10, hm10, l10, l10', b10, s10⟩
  have d10 := d9.call h wb h10 hm10
  have hb10 := (hm10.same b (heap_lt hbc) (notX h wb)).trans hbc
  clear d9 h10 hm10 hbc
  obtain ⟨kv, hnd⟩ := d10.nd
  obtain ⟨z0, z1, z2, z3, x0, x1, x2, x3, x4, xf⟩ := hnd.cells
  go_wp2_with fail
  have d11 := d10.put h wb 2 ty (by decide)
  have hb11 : (w10.setCell ⟨b, 2, none⟩ (.string ⟨ty.toArray⟩)).heap[b]? = some (.cells #[.string ⟨#[100, 101, 99, 108]⟩, .string ⟨#[]⟩, .string ⟨ty.toArray⟩, .int .i64 0, .slice none 0 0, .string ⟨#[]⟩, .int .i64 0] 150 (0, 0)) := set_same hb10
  clear x0 x1 x2 x3 x4 xf hnd kv
  generalize w10.setCell ⟨b, 2, none⟩ (.string ⟨ty.toArray⟩) = w11 at *
  refine (name5 k i10 l10' bad10 _ d11.P).mono ?_
  rintro e w12 ⟨⟨nm, rfl, hnm⟩, i12, bad12, h12, hm12, l12, l12', b12, s12⟩
  have d12 := d11.call h wb h12 hm12
  have hb12 := (hm12.same b (heap_lt hb11) (notX h wb)).trans hb11
  obtain ⟨kv, hnd⟩ := d12.nd
  obtain ⟨z0, z1, z2, z3, x0, x1, x2, x3, x4, xf⟩ := hnd.cells
  go_wp2_with fail
  have d13 := d12.put h wb 1 nm (by decide)
  have hb13 : (w12.setCell ⟨b, 1, none⟩ (.string ⟨nm.toArray⟩)).heap[b]? = some (.cells #[.string ⟨#[100, 101, 99, 108]⟩, .string ⟨nm.toArray⟩, .string ⟨ty.toArray⟩, .int .i64 0, .slice none 0 0, .string ⟨#[]⟩, .int .i64 0] 150 (0, 0)) := set_same hb12
  clear x0 x1 x2 x3 x4 xf hnd kv
  generalize w12.setCell ⟨b, 1, none⟩ (.string ⟨nm.toArray⟩) = w13 at *
  have ad : bad12 = true ∨ i < i12 := adv5 (s10 (by simp)) b12 l12
  have od : i ≤ i12 := by omega
  have bd : bad = true → bad12 = true := fun hb => b12 (b10 (hb0 hb))
  refine (see5 k [91] i12 (by omega) bad12 _ d13.P).mono ?_
  rintro e w14 ⟨bs, rfl, hm14, hbs⟩
  have d14 := d13.quiet h wb hm14
  have hb14 := (hm14.same b (heap_lt hb13) (fun h => h)).trans hb13
  clear d13 d12 d11 d10 hm14 h12 hm12
  cases bs
  · go_wp2_with fail
    refine (take5 k [61] i12 l12' bad12 _ d14.P).mono ?_
    rintro e w15 (⟨rfl, ⟨hbt15, hl15⟩, h15, hm15⟩ | ⟨rfl, h15, hm15⟩)
    · have d15 := d14.call h wb h15 hm15
      have dd16 := d15.quiet h wb (Mv.drew _)
      obtain ⟨kv16, hn16⟩ := dd16.nd
      obtain ⟨cc16, -⟩ := hn16.before
      have hN16 := exprAny k (i12 + 1) false _ (by omega) dd16.P
      go_wp2_with fail
      go_region_law (first | (go_simp; go_at_call 93; (with_reducible refine Calls.mono hN16 ?_); rintro e wa16 ⟨⟨x16, rfl⟩, i16, bad16, h16, hm16, l16, l16', b16, s16⟩; (have ho16 := hn16.mv h wb hm16); (obtain ⟨ce16, ca16, xs16, q16⟩ := ho16.before)) | (refine step_append_lies _ rfl _ _ 148 rfl w1.heap.size 107 j0 (.pointer none) 1 8 Tryz.underlying148 hj0 hz0 hz1 hz2 rfl (by decide) kv16 0 xs16 rfl (q16.alloc _) _ 1 1 [.pointer (some ⟨x16, 0, none⟩)] rfl rfl (World.news_of_block (heap_alloc_new wa16 _)) (by simp [Value.oneCell']) (by decide) (by unfold maxLen; omega) (by omega) (by have := dd16.low; have := hm16.size; simp; omega) _ rfl ?_; intro g16 cap16 wb16 hown16 hgr16 hat16 hgl16; (obtain ⟨c9, f9, -⟩ := ho16.room hgr16)))
      all_goals have d16 := Sd5.push h wb ho16 (Nat.le_trans dd16.low hm16.size) h16 (dd16.M.trans hm16) hown16 hgr16
      all_goals
        go_wp2_with fail
        refine (want5 k [59] i16 l16' bad16 _ d16.P).mono ?_
        rintro e w17 ⟨rfl, i17, bad17, h17, hm17, l17, l17', b17, s17⟩
        have d17 := d16.call h wb h17 hm17
        clear h17
        go_wp2_with fail
        refine (up5 k i17 bad17 _ d17.P).mono ?_
        rintro e wu ⟨rfl, hu, hmu⟩
        go_wp2_with fail
        exact bodyPost_ret (v := .pointer (some ⟨b, 0, none⟩)) (by simp [results, Tryz.results92, go_sem]) rfl ⟨⟨b, rfl⟩, i17, bad17, hu, d17.M.trans hmu, by omega, l17', fun hb => absurd (bd hb) (by simp [hbt15]), fun _ => .inr (by omega)⟩
    · have d15 := d14.call h wb h15 hm15
      clear hm15 h15 d14
      go_wp2_with fail
      refine (want5 k [59] i12 l12' bad12 _ d15.P).mono ?_
      rintro e w16 ⟨rfl, i16, bad16, h16, hm16, l16, l16', b16, s16⟩
      have d16 := d15.call h wb h16 hm16
      clear h16
      go_wp2_with fail
      refine (up5 k i16 bad16 _ d16.P).mono ?_
      rintro e wu ⟨rfl, hu, hmu⟩
      go_wp2_with fail
      exact bodyPost_ret (v := .pointer (some ⟨b, 0, none⟩)) (by simp [results, Tryz.results92, go_sem]) rfl ⟨⟨b, rfl⟩, i16, bad16, hu, d16.M.trans hmu, by omega, l16', fun hb => b16 (bd hb), fun _ => adv5 ad b16 l16⟩
  · obtain ⟨n0, n1, n2, n3, n4, n5, n6, nf⟩ := cells7 hb14
    go_wp2_with fail
    refine (array5 k ty hty i12 l12' bad12 _ d14.P).mono ?_
    rintro e w30 ⟨⟨ty2, rfl, hty2⟩, i30, bad30, h30, hm30, l30, l30', b30, s30⟩
    have d30 := d14.call h wb h30 hm30
    clear n0 n1 n2 n3 n4 n5 n6 nf
    obtain ⟨kv, hnd⟩ := d30.nd
    obtain ⟨z0, z1, z2, z3, x0, x1, x2, x3, x4, xf⟩ := hnd.cells
    go_wp2_with fail
    have d31 := d30.put h wb 2 ty2 (by decide)
    clear x0 x1 x2 x3 x4 xf hnd kv
    generalize w30.setCell ⟨b, 2, none⟩ (.string ⟨ty2.toArray⟩) = w31 at *
    refine (want5 k [59] i30 l30' bad30 _ d31.P).mono ?_
    rintro e w32 ⟨rfl, i32, bad32, h32, hm32, l32, l32', b32, s32⟩
    have d32 := d31.call h wb h32 hm32
    clear h32
    go_wp2_with fail
    refine (up5 k i32 bad32 _ d32.P).mono ?_
    rintro e wu ⟨rfl, hu, hmu⟩
    go_wp2_with fail
    exact bodyPost_ret (v := .pointer (some ⟨b, 0, none⟩)) (by simp [results, Tryz.results92, go_sem]) rfl ⟨⟨b, rfl⟩, i32, bad32, hu, d32.M.trans hmu, by omega, l32', fun hb => b32 (b30 (bd hb)), fun _ => adv5 (adv5 ad b30 l30) b32 l32⟩
set_option maxHeartbeats 64000000 in
theorem plain5 {k : K5} {f : Nat} (ih : AllS5 k f) (i : Nat) (bad : Bool) (w : World) (hi : i ≤ k.ws.length) (h : P5 k w i bad) (hf : 2 * R5 k i bad + 1 ≤ f + 1) : Calls Tryz.prog 70 #[.pointer (some ⟨k.P, 0, none⟩)] w (Nx5 k w i bad) := by
  obtain ⟨hPl, hQl⟩ := h.low
  have hlen := h.ok.1
  have hml : k.ws.length ≤ 9223372036854775807 := by omega
  obtain ⟨j0, hj0, hz0, hz1, hz2⟩ := info_parts info107
  go_enter Tryz.func70, Tryz.ntmps70
  go_wp2_with fail
  refine (node5 k [101, 120, 112, 114] i bad w h).mono ?_
  rintro e w1 ⟨h1, hm1, b, rfl, wb, hbc⟩
  have d10 := Sd5.made h1 hm1 hbc
  clear hbc h1 hm1
  go_wp2_with fail
  refine (take5 k [123] i hi bad _ d10.P).mono ?_
  rintro e w11 (⟨rfl, ⟨hbt11, hl11⟩, h11, hm11⟩ | ⟨rfl, h11, hm11⟩)
  · have d11 := d10.call h wb h11 hm11
    subst hbt11
    have hRi := R5_lt (k := k) (i := i) (i1 := i + 1) (bad1 := false) (by omega) (.inr (by omega))
    obtain ⟨kv, hnd⟩ := d11.nd
    obtain ⟨z0, z1, z2, z3, x0, x1, x2, x3, x4, xf⟩ := hnd.cells
    go_wp2_with fail
    have d12 := d11.put h wb 0 [98, 108, 111, 99, 107] (by decide)
    clear x0 x1 x2 x3 x4 xf hnd kv
    generalize w11.setCell ⟨b, 0, none⟩ (.string ⟨#[98, 108, 111, 99, 107]⟩) = w12 at *
    go_loopg [] (R5 k (i + 1) false) (fun g wr => ∃ (i' : Nat) (bad' : Bool) (m : Nat), Sd5 k w b w1.heap.size wr i' bad' m ∧ i < i' ∧ i' ≤ k.ws.length ∧ R5 k i' bad' ≤ R5 k (i + 1) false ∧ m + R5 k i' bad' ≤ k.ws.length + 2 ∧ R5 k i' bad' ≤ g)
    case atStart => exact ⟨i + 1, false, 0, d12, by omega, by omega, Nat.le_refl _, by simp only [R5]; simp; omega, Nat.le_refl _⟩
    case round =>
      clear d12
      obtain ⟨i', bad', m, dL, hlt', l0', hR0, hmm, hg⟩ := hrel
      obtain ⟨dpL, c0, c1, c2, c3, c4, cf⟩ := dL.P.pcells
      cases bad'
      · go_wp2_with fail
        refine (take5 k [125] i' l0' false _ dL.P).mono ?_
        rintro e w61 (⟨rfl, ⟨hbt61, hl61⟩, h61, hm61⟩ | ⟨rfl, h61, hm61⟩)
        · have d61 := dL.call h wb h61 hm61
          go_wp2_with fail
          exact bodyPost_ret (v := .pointer (some ⟨b, 0, none⟩)) (by simp [results, Tryz.results70, go_sem]) rfl ⟨⟨b, rfl⟩, (i' + 1), false, d61.P, d61.M, by omega, by omega, by simp, fun _ => .inr (by omega)⟩
        · have d61 := dL.call h wb h61 hm61
          clear hm61 h61 dL
          go_wp2_with fail
          refine (typed5 k 0 i' (by omega) l0' false _ d61.P).mono ?_
          rintro e w62 ⟨bt, rfl, h62, hm62, hbt⟩
          have d62 := d61.call h wb h62 hm62
          clear hbt h62 hm62 d61
          cases bt
          · have dd63 := d62.quiet h wb (Mv.drew _)
            obtain ⟨kv63, hn63⟩ := dd63.nd
            obtain ⟨cc63, -⟩ := hn63.before
            have hN63 := ih.stat i' false _ l0' dd63.P (by omega)
            go_wp2_with fail
            go_region_law (first | (go_simp; go_at_call 46; (with_reducible refine Calls.mono hN63 ?_); rintro e wa63 ⟨⟨x63, rfl⟩, i63, bad63, h63, hm63, l63, l63', b63, s63⟩; (have ho63 := hn63.mv h wb hm63); (obtain ⟨ce63, ca63, xs63, q63⟩ := ho63.before)) | (refine step_append_lies _ rfl _ _ 148 rfl w1.heap.size 107 j0 (.pointer none) 1 8 Tryz.underlying148 hj0 hz0 hz1 hz2 rfl (by decide) kv63 m xs63 rfl (q63.alloc _) _ 1 1 [.pointer (some ⟨x63, 0, none⟩)] rfl rfl (World.news_of_block (heap_alloc_new wa63 _)) (by simp [Value.oneCell']) (by decide) (by unfold maxLen; omega) (by omega) (by have := dd63.low; have := hm63.size; simp; omega) _ rfl ?_; intro g63 cap63 wb63 hown63 hgr63 hat63 hgl63; (obtain ⟨c9, f9, -⟩ := ho63.room hgr63)))
            all_goals have d63 := Sd5.push h wb ho63 (Nat.le_trans dd63.low hm63.size) h63 (dd63.M.trans hm63) hown63 hgr63
            all_goals have hRz := R5_mono (k := k) (i := i') (i1 := i63) (bad := false) (bad1 := bad63) (by omega) (by simp)
            all_goals have hRy : R5 k i63 bad63 < R5 k i' false := R5_lt (by omega) ((s63 (by simp)).imp id (fun hs => by omega))
            all_goals go_wp2_with fail
            all_goals go_roundg (R5 k i63 bad63)
            all_goals first | omega | exact ⟨i63, bad63, m + 1, d63, by omega, by omega, by omega, by omega, Nat.le_refl _⟩
          · have dd63 := d62.quiet h wb (Mv.drew _)
            obtain ⟨kv63, hn63⟩ := dd63.nd
            obtain ⟨cc63, -⟩ := hn63.before
            have hN63 := decl5 k i' false _ l0' dd63.P
            go_wp2_with fail
            go_region_law (first | (go_simp; go_at_call 92; (with_reducible refine Calls.mono hN63 ?_); rintro e wa63 ⟨⟨x63, rfl⟩, i63, bad63, h63, hm63, l63, l63', b63, s63⟩; (have ho63 := hn63.mv h wb hm63); (obtain ⟨ce63, ca63, xs63, q63⟩ := ho63.before)) | (refine step_append_lies _ rfl _ _ 148 rfl w1.heap.size 107 j0 (.pointer none) 1 8 Tryz.underlying148 hj0 hz0 hz1 hz2 rfl (by decide) kv63 m xs63 rfl (q63.alloc _) _ 1 1 [.pointer (some ⟨x63, 0, none⟩)] rfl rfl (World.news_of_block (heap_alloc_new wa63 _)) (by simp [Value.oneCell']) (by decide) (by unfold maxLen; omega) (by omega) (by have := dd63.low; have := hm63.size; simp; omega) _ rfl ?_; intro g63 cap63 wb63 hown63 hgr63 hat63 hgl63; (obtain ⟨c9, f9, -⟩ := ho63.room hgr63)))
            all_goals have d63 := Sd5.push h wb ho63 (Nat.le_trans dd63.low hm63.size) h63 (dd63.M.trans hm63) hown63 hgr63
            all_goals have hRz := R5_mono (k := k) (i := i') (i1 := i63) (bad := false) (bad1 := bad63) (by omega) (by simp)
            all_goals have hRy : R5 k i63 bad63 < R5 k i' false := R5_lt (by omega) ((s63 (by simp)).imp id (fun hs => by omega))
            all_goals go_wp2_with fail
            all_goals go_roundg (R5 k i63 bad63)
            all_goals first | omega | exact ⟨i63, bad63, m + 1, d63, by omega, by omega, by omega, by omega, Nat.le_refl _⟩
      · go_wp2_with fail
        exact bodyPost_ret (v := .pointer (some ⟨b, 0, none⟩)) (by simp [results, Tryz.results70, go_sem]) rfl ⟨⟨b, rfl⟩, i', true, dL.P, dL.M, by omega, by omega, by simp, fun _ => .inr (by omega)⟩
  · have d11 := d10.call h wb h11 hm11
    clear hm11 h11 d10
    go_wp2_with fail
    refine (take5 k [59] i hi bad _ d11.P).mono ?_
    rintro e w12 (⟨rfl, ⟨hbt12, hl12⟩, h12, hm12⟩ | ⟨rfl, h12, hm12⟩)
    · have d12 := d11.call h wb h12 hm12
      subst hbt12
      obtain ⟨kv, hnd⟩ := d12.nd
      obtain ⟨z0, z1, z2, z3, x0, x1, x2, x3, x4, xf⟩ := hnd.cells
      go_wp2_with fail
      have d13 := d12.put h wb 0 [101, 109, 112, 116, 121] (by decide)
      clear x0 x1 x2 x3 x4 xf hnd kv
      generalize w12.setCell ⟨b, 0, none⟩ (.string ⟨#[101, 109, 112, 116, 121]⟩) = w13 at *
      exact bodyPost_ret (v := .pointer (some ⟨b, 0, none⟩)) (by simp [results, Tryz.results70, go_sem]) rfl ⟨⟨b, rfl⟩, (i + 1), false, d13.P, d13.M, by omega, (by omega), fun hb => absurd hb (by simp), fun _ => .inr (by omega)⟩
    · have d12 := d11.call h wb h12 hm12
      clear hm12 h12 d11
      go_wp2_with fail
      refine (take5 k [105, 102] i hi bad _ d12.P).mono ?_
      rintro e w13 (⟨rfl, ⟨hbt13, hl13⟩, h13, hm13⟩ | ⟨rfl, h13, hm13⟩)
      · have d13 := d12.call h wb h13 hm13
        subst hbt13
        have hRi := R5_lt (k := k) (i := i) (i1 := i + 1) (bad1 := false) (by omega) (.inr (by omega))
        obtain ⟨kv, hnd⟩ := d13.nd
        obtain ⟨z0, z1, z2, z3, x0, x1, x2, x3, x4, xf⟩ := hnd.cells
        go_wp2_with fail
        have d14 := d13.put h wb 0 [105, 102] (by decide)
        clear x0 x1 x2 x3 x4 xf hnd kv
        generalize w13.setCell ⟨b, 0, none⟩ (.string ⟨#[105, 102]⟩) = w14 at *
        refine (want5 k [40] (i + 1) (by omega) false _ d14.P).mono ?_
        rintro e w15 ⟨rfl, i15, bad15, h15, hm15, l15, l15', b15, s15⟩
        have d15 := d14.call h wb h15 hm15
        clear h15
        have dd16 := d15.quiet h wb (Mv.drew _)
        obtain ⟨kv16, hn16⟩ := dd16.nd
        obtain ⟨cc16, -⟩ := hn16.before
        have hN16 := exprAny k i15 bad15 _ l15' dd16.P
        go_upto_region 18 with fail
        go_cut [] from 89 to 99 (fun wx => ∃ (i' : Nat) (bad' : Bool), Sd5 k w b w1.heap.size wx i' bad' 1 ∧ i15 ≤ i' ∧ i' ≤ k.ws.length ∧ (bad' = true ∨ i15 < i') ∧ (bad15 = true → bad' = true))
        case first =>
          go_region_law (first | (go_simp; go_at_call 93; (with_reducible refine Calls.mono hN16 ?_); rintro e wa16 ⟨⟨x16, rfl⟩, i16, bad16, h16, hm16, l16, l16', b16, s16⟩; (have ho16 := hn16.mv h wb hm16); (obtain ⟨ce16, ca16, xs16, q16⟩ := ho16.before)) | (refine step_append_lies _ rfl _ _ 148 rfl w1.heap.size 107 j0 (.pointer none) 1 8 Tryz.underlying148 hj0 hz0 hz1 hz2 rfl (by decide) kv16 0 xs16 rfl (q16.alloc _) _ 1 1 [.pointer (some ⟨x16, 0, none⟩)] rfl rfl (World.news_of_block (heap_alloc_new wa16 _)) (by simp [Value.oneCell']) (by decide) (by unfold maxLen; omega) (by omega) (by have := dd16.low; have := hm16.size; simp; omega) _ rfl ?_; intro g16 cap16 wb16 hown16 hgr16 hat16 hgl16; (obtain ⟨c9, f9, -⟩ := ho16.room hgr16)))
          all_goals (go_wp2_with fail; go_meet; exact ⟨i16, bad16, Sd5.push h wb ho16 (Nat.le_trans dd16.low hm16.size) h16 (dd16.M.trans hm16) hown16 hgr16, l16, l16', by simpa using s16, b16⟩)
        obtain ⟨i16, bad16, d16, l16, l16', s16, b16⟩ := hcut
        go_wp2_with fail
        refine (want5 k [41] i16 l16' bad16 _ d16.P).mono ?_
        rintro e w17 ⟨rfl, i17, bad17, h17, hm17, l17, l17', b17, s17⟩
        have d17 := d16.call h wb h17 hm17
        clear h17
        have hRm17 := R5_mono (k := k) (i := i + 1) (i1 := i17) (bad := false) (bad1 := bad17) (by omega) (by simp)
        have dd18 := d17.quiet h wb (Mv.drew _)
        obtain ⟨kv18, hn18⟩ := dd18.nd
        obtain ⟨cc18, -⟩ := hn18.before
        have hN18 := ih.stat i17 bad17 _ l17' dd18.P (by omega)
        go_upto_region 20 with fail
        go_cut [] from 102 to 112 (fun wx => ∃ (i' : Nat) (bad' : Bool), Sd5 k w b w1.heap.size wx i' bad' 2 ∧ i17 ≤ i' ∧ i' ≤ k.ws.length ∧ (bad' = true ∨ i17 < i') ∧ (bad17 = true → bad' = true))
        case first =>
          go_region_law (first | (go_simp; go_at_call 46; (with_reducible refine Calls.mono hN18 ?_); rintro e wa18 ⟨⟨x18, rfl⟩, i18, bad18, h18, hm18, l18, l18', b18, s18⟩; (have ho18 := hn18.mv h wb hm18); (obtain ⟨ce18, ca18, xs18, q18⟩ := ho18.before)) | (refine step_append_lies _ rfl _ _ 148 rfl w1.heap.size 107 j0 (.pointer none) 1 8 Tryz.underlying148 hj0 hz0 hz1 hz2 rfl (by decide) kv18 1 xs18 rfl (q18.alloc _) _ 1 1 [.pointer (some ⟨x18, 0, none⟩)] rfl rfl (World.news_of_block (heap_alloc_new wa18 _)) (by simp [Value.oneCell']) (by decide) (by unfold maxLen; omega) (by omega) (by have := dd18.low; have := hm18.size; simp; omega) _ rfl ?_; intro g18 cap18 wb18 hown18 hgr18 hat18 hgl18; (obtain ⟨c9, f9, -⟩ := ho18.room hgr18)))
          all_goals (go_wp2_with fail; go_meet; exact ⟨i18, bad18, Sd5.push h wb ho18 (Nat.le_trans dd18.low hm18.size) h18 (dd18.M.trans hm18) hown18 hgr18, l18, l18', by simpa using s18, b18⟩)
        obtain ⟨i18, bad18, d18, l18, l18', s18, b18⟩ := hcut
        go_wp2_with fail
        refine (take5 k [101, 108, 115, 101] i18 l18' bad18 _ d18.P).mono ?_
        rintro e w19 (⟨rfl, ⟨hbt19, hl19⟩, h19, hm19⟩ | ⟨rfl, h19, hm19⟩)
        · have d19 := d18.call h wb h19 hm19
          have hRm19 := R5_mono (k := k) (i := i + 1) (i1 := (i18 + 1)) (bad := false) (bad1 := false) (by omega) (by simp)
          have dd20 := d19.quiet h wb (Mv.drew _)
          obtain ⟨kv20, hn20⟩ := dd20.nd
          obtain ⟨cc20, -⟩ := hn20.before
          have hN20 := ih.stat (i18 + 1) false _ (by omega) dd20.P (by omega)
          go_wp2_with fail
          go_region_law (first | (go_simp; go_at_call 46; (with_reducible refine Calls.mono hN20 ?_); rintro e wa20 ⟨⟨x20, rfl⟩, i20, bad20, h20, hm20, l20, l20', b20, s20⟩; (have ho20 := hn20.mv h wb hm20); (obtain ⟨ce20, ca20, xs20, q20⟩ := ho20.before)) | (refine step_append_lies _ rfl _ _ 148 rfl w1.heap.size 107 j0 (.pointer none) 1 8 Tryz.underlying148 hj0 hz0 hz1 hz2 rfl (by decide) kv20 2 xs20 rfl (q20.alloc _) _ 1 1 [.pointer (some ⟨x20, 0, none⟩)] rfl rfl (World.news_of_block (heap_alloc_new wa20 _)) (by simp [Value.oneCell']) (by decide) (by unfold maxLen; omega) (by omega) (by have := dd20.low; have := hm20.size; simp; omega) _ rfl ?_; intro g20 cap20 wb20 hown20 hgr20 hat20 hgl20; (obtain ⟨c9, f9, -⟩ := ho20.room hgr20)))
          all_goals have d20 := Sd5.push h wb ho20 (Nat.le_trans dd20.low hm20.size) h20 (dd20.M.trans hm20) hown20 hgr20
          all_goals
            go_wp2_with fail
            exact bodyPost_ret (v := .pointer (some ⟨b, 0, none⟩)) (by simp [results, Tryz.results70, go_sem]) rfl ⟨⟨b, rfl⟩, i20, bad20, d20.P, d20.M, by omega, l20', fun hb => absurd hb (by simp), fun _ => .inr (by omega)⟩
        · have d19 := d18.call h wb h19 hm19
          clear hm19 h19 d18
          go_wp2_with fail
          exact bodyPost_ret (v := .pointer (some ⟨b, 0, none⟩)) (by simp [results, Tryz.results70, go_sem]) rfl ⟨⟨b, rfl⟩, i18, bad18, d19.P, d19.M, by omega, l18', fun hb => absurd hb (by simp), fun _ => .inr (by omega)⟩
      · have d13 := d12.call h wb h13 hm13
        clear hm13 h13 d12
        go_wp2_with fail
        refine (take5 k [119, 104, 105, 108, 101] i hi bad _ d13.P).mono ?_
        rintro e w14 (⟨rfl, ⟨hbt14, hl14⟩, h14, hm14⟩ | ⟨rfl, h14, hm14⟩)
        · have d14 := d13.call h wb h14 hm14
          subst hbt14
          have hRi := R5_lt (k := k) (i := i) (i1 := i + 1) (bad1 := false) (by omega) (.inr (by omega))
          obtain ⟨kv, hnd⟩ := d14.nd
          obtain ⟨z0, z1, z2, z3, x0, x1, x2, x3, x4, xf⟩ := hnd.cells
          go_wp2_with fail
          have d15 := d14.put h wb 0 [119, 104, 105, 108, 101] (by decide)
          clear x0 x1 x2 x3 x4 xf hnd kv
          generalize w14.setCell ⟨b, 0, none⟩ (.string ⟨#[119, 104, 105, 108, 101]⟩) = w15 at *
          refine (want5 k [40] (i + 1) (by omega) false _ d15.P).mono ?_
          rintro e w16 ⟨rfl, i16, bad16, h16, hm16, l16, l16', b16, s16⟩
          have d16 := d15.call h wb h16 hm16
          clear h16
          have dd17 := d16.quiet h wb (Mv.drew _)
          obtain ⟨kv17, hn17⟩ := dd17.nd
          obtain ⟨cc17, -⟩ := hn17.before
          have hN17 := exprAny k i16 bad16 _ l16' dd17.P
          go_upto_region 26 with fail
          go_cut [] from 134 to 144 (fun wx => ∃ (i' : Nat) (bad' : Bool), Sd5 k w b w1.heap.size wx i' bad' 1 ∧ i16 ≤ i' ∧ i' ≤ k.ws.length ∧ (bad' = true ∨ i16 < i') ∧ (bad16 = true → bad' = true))
          case first =>
            go_region_law (first | (go_simp; go_at_call 93; (with_reducible refine Calls.mono hN17 ?_); rintro e wa17 ⟨⟨x17, rfl⟩, i17, bad17, h17, hm17, l17, l17', b17, s17⟩; (have ho17 := hn17.mv h wb hm17); (obtain ⟨ce17, ca17, xs17, q17⟩ := ho17.before)) | (refine step_append_lies _ rfl _ _ 148 rfl w1.heap.size 107 j0 (.pointer none) 1 8 Tryz.underlying148 hj0 hz0 hz1 hz2 rfl (by decide) kv17 0 xs17 rfl (q17.alloc _) _ 1 1 [.pointer (some ⟨x17, 0, none⟩)] rfl rfl (World.news_of_block (heap_alloc_new wa17 _)) (by simp [Value.oneCell']) (by decide) (by unfold maxLen; omega) (by omega) (by have := dd17.low; have := hm17.size; simp; omega) _ rfl ?_; intro g17 cap17 wb17 hown17 hgr17 hat17 hgl17; (obtain ⟨c9, f9, -⟩ := ho17.room hgr17)))
            all_goals (go_wp2_with fail; go_meet; exact ⟨i17, bad17, Sd5.push h wb ho17 (Nat.le_trans dd17.low hm17.size) h17 (dd17.M.trans hm17) hown17 hgr17, l17, l17', by simpa using s17, b17⟩)
          obtain ⟨i17, bad17, d17, l17, l17', s17, b17⟩ := hcut
          go_wp2_with fail
          refine (want5 k [41] i17 l17' bad17 _ d17.P).mono ?_
          rintro e w18 ⟨rfl, i18, bad18, h18, hm18, l18, l18', b18, s18⟩
          have d18 := d17.call h wb h18 hm18
          clear h18
          have hRm18 := R5_mono (k := k) (i := i + 1) (i1 := i18) (bad := false) (bad1 := bad18) (by omega) (by simp)
          have dd19 := d18.quiet h wb (Mv.drew _)
          obtain ⟨kv19, hn19⟩ := dd19.nd
          obtain ⟨cc19, -⟩ := hn19.before
          have hN19 := ih.stat i18 bad18 _ l18' dd19.P (by omega)
          go_wp2_with fail
          go_region_law (first | (go_simp; go_at_call 46; (with_reducible refine Calls.mono hN19 ?_); rintro e wa19 ⟨⟨x19, rfl⟩, i19, bad19, h19, hm19, l19, l19', b19, s19⟩; (have ho19 := hn19.mv h wb hm19); (obtain ⟨ce19, ca19, xs19, q19⟩ := ho19.before)) | (refine step_append_lies _ rfl _ _ 148 rfl w1.heap.size 107 j0 (.pointer none) 1 8 Tryz.underlying148 hj0 hz0 hz1 hz2 rfl (by decide) kv19 1 xs19 rfl (q19.alloc _) _ 1 1 [.pointer (some ⟨x19, 0, none⟩)] rfl rfl (World.news_of_block (heap_alloc_new wa19 _)) (by simp [Value.oneCell']) (by decide) (by unfold maxLen; omega) (by omega) (by have := dd19.low; have := hm19.size; simp; omega) _ rfl ?_; intro g19 cap19 wb19 hown19 hgr19 hat19 hgl19; (obtain ⟨c9, f9, -⟩ := ho19.room hgr19)))
          all_goals have d19 := Sd5.push h wb ho19 (Nat.le_trans dd19.low hm19.size) h19 (dd19.M.trans hm19) hown19 hgr19
          all_goals
            go_wp2_with fail
            exact bodyPost_ret (v := .pointer (some ⟨b, 0, none⟩)) (by simp [results, Tryz.results70, go_sem]) rfl ⟨⟨b, rfl⟩, i19, bad19, d19.P, d19.M, by omega, l19', fun hb => absurd hb (by simp), fun _ => .inr (by omega)⟩
        · have d14 := d13.call h wb h14 hm14
          clear hm14 h14 d13
          go_wp2_with fail
          refine (see5 k [98, 114, 101, 97, 107] i (by omega) bad _ d14.P).mono ?_
          rintro e w15 ⟨bs, rfl, hm15, hbs⟩
          have d15 := d14.quiet h wb hm15
          clear d14 hm15
          cases bs
          · go_wp2_with fail
            refine (see5 k [99, 111, 110, 116, 105, 110, 117, 101] i (by omega) bad _ d15.P).mono ?_
            rintro e w16 ⟨bs2, rfl, hm16, hbs2⟩
            have d16 := d15.quiet h wb hm16
            clear d15 hm16
            cases bs2
            · go_wp2_with fail
              refine (take5 k [114, 101, 116, 117, 114, 110] i hi bad _ d16.P).mono ?_
              rintro e w17 (⟨rfl, ⟨hbt17, hl17⟩, h17, hm17⟩ | ⟨rfl, h17, hm17⟩)
              · have d17 := d16.call h wb h17 hm17
                subst hbt17
                obtain ⟨kv, hnd⟩ := d17.nd
                obtain ⟨z0, z1, z2, z3, x0, x1, x2, x3, x4, xf⟩ := hnd.cells
                go_wp2_with fail
                have d18 := d17.put h wb 0 [114, 101, 116, 117, 114, 110] (by decide)
                clear x0 x1 x2 x3 x4 xf hnd kv
                generalize w17.setCell ⟨b, 0, none⟩ (.string ⟨#[114, 101, 116, 117, 114, 110]⟩) = w18 at *
                refine (see5 k [59] (i + 1) (by omega) false _ d18.P).mono ?_
                rintro e w19 ⟨bs3, rfl, hm19, -⟩
                have d19 := d18.quiet h wb hm19
                clear d18 hm19
                cases bs3
                · have dd20 := d19.quiet h wb (Mv.drew _)
                  obtain ⟨kv20, hn20⟩ := dd20.nd
                  obtain ⟨cc20, -⟩ := hn20.before
                  have hN20 := exprAny k (i + 1) false _ (by omega) dd20.P
                  go_wp2_with fail
                  go_region_law (first | (go_simp; go_at_call 93; (with_reducible refine Calls.mono hN20 ?_); rintro e wa20 ⟨⟨x20, rfl⟩, i20, bad20, h20, hm20, l20, l20', b20, s20⟩; (have ho20 := hn20.mv h wb hm20); (obtain ⟨ce20, ca20, xs20, q20⟩ := ho20.before)) | (refine step_append_lies _ rfl _ _ 148 rfl w1.heap.size 107 j0 (.pointer none) 1 8 Tryz.underlying148 hj0 hz0 hz1 hz2 rfl (by decide) kv20 0 xs20 rfl (q20.alloc _) _ 1 1 [.pointer (some ⟨x20, 0, none⟩)] rfl rfl (World.news_of_block (heap_alloc_new wa20 _)) (by simp [Value.oneCell']) (by decide) (by unfold maxLen; omega) (by omega) (by have := dd20.low; have := hm20.size; simp; omega) _ rfl ?_; intro g20 cap20 wb20 hown20 hgr20 hat20 hgl20; (obtain ⟨c9, f9, -⟩ := ho20.room hgr20)))
                  all_goals have d20 := Sd5.push h wb ho20 (Nat.le_trans dd20.low hm20.size) h20 (dd20.M.trans hm20) hown20 hgr20
                  all_goals
                    go_wp2_with fail
                    refine (want5 k [59] i20 l20' bad20 _ d20.P).mono ?_
                    rintro e w21 ⟨rfl, i21, bad21, h21, hm21, l21, l21', b21, s21⟩
                    have d21 := d20.call h wb h21 hm21
                    clear h21
                    go_wp2_with fail
                    exact bodyPost_ret (v := .pointer (some ⟨b, 0, none⟩)) (by simp [results, Tryz.results70, go_sem]) rfl ⟨⟨b, rfl⟩, i21, bad21, d21.P, d21.M, by omega, l21', fun hb => absurd hb (by simp), fun _ => .inr (by omega)⟩
                · go_wp2_with fail
                  refine (want5 k [59] (i + 1) (by omega) false _ d19.P).mono ?_
                  rintro e w20 ⟨rfl, i20, bad20, h20, hm20, l20, l20', b20, s20⟩
                  have d20 := d19.call h wb h20 hm20
                  clear h20
                  go_wp2_with fail
                  exact bodyPost_ret (v := .pointer (some ⟨b, 0, none⟩)) (by simp [results, Tryz.results70, go_sem]) rfl ⟨⟨b, rfl⟩, i20, bad20, d20.P, d20.M, by omega, l20', fun hb => absurd hb (by simp), fun _ => .inr (by omega)⟩
              · have d17 := d16.call h wb h17 hm17
                clear hm17 h17 d16
                go_wp2_with fail
                refine (take5 k [111, 117, 116] i hi bad _ d17.P).mono ?_
                rintro e w18 (⟨rfl, ⟨hbt18, hl18⟩, h18, hm18⟩ | ⟨rfl, h18, hm18⟩)
                · have d18 := d17.call h wb h18 hm18
                  subst hbt18
                  obtain ⟨kv, hnd⟩ := d18.nd
                  obtain ⟨z0, z1, z2, z3, x0, x1, x2, x3, x4, xf⟩ := hnd.cells
                  go_wp2_with fail
                  have d19 := d18.put h wb 0 [111, 117, 116] (by decide)
                  clear x0 x1 x2 x3 x4 xf hnd kv
                  generalize w18.setCell ⟨b, 0, none⟩ (.string ⟨#[111, 117, 116]⟩) = w19 at *
                  refine (want5 k [40] (i + 1) (by omega) false _ d19.P).mono ?_
                  rintro e w20 ⟨rfl, i20, bad20, h20, hm20, l20, l20', b20, s20⟩
                  have d20 := d19.call h wb h20 hm20
                  clear h20
                  have dd21 := d20.quiet h wb (Mv.drew _)
                  obtain ⟨kv21, hn21⟩ := dd21.nd
                  obtain ⟨cc21, -⟩ := hn21.before
                  have hN21 := exprAny k i20 bad20 _ l20' dd21.P
                  go_upto_region 42 with fail
                  go_cut [] from 216 to 226 (fun wx => ∃ (i' : Nat) (bad' : Bool), Sd5 k w b w1.heap.size wx i' bad' 1 ∧ i20 ≤ i' ∧ i' ≤ k.ws.length ∧ (bad' = true ∨ i20 < i') ∧ (bad20 = true → bad' = true))
                  case first =>
                    go_region_law (first | (go_simp; go_at_call 93; (with_reducible refine Calls.mono hN21 ?_); rintro e wa21 ⟨⟨x21, rfl⟩, i21, bad21, h21, hm21, l21, l21', b21, s21⟩; (have ho21 := hn21.mv h wb hm21); (obtain ⟨ce21, ca21, xs21, q21⟩ := ho21.before)) | (refine step_append_lies _ rfl _ _ 148 rfl w1.heap.size 107 j0 (.pointer none) 1 8 Tryz.underlying148 hj0 hz0 hz1 hz2 rfl (by decide) kv21 0 xs21 rfl (q21.alloc _) _ 1 1 [.pointer (some ⟨x21, 0, none⟩)] rfl rfl (World.news_of_block (heap_alloc_new wa21 _)) (by simp [Value.oneCell']) (by decide) (by unfold maxLen; omega) (by omega) (by have := dd21.low; have := hm21.size; simp; omega) _ rfl ?_; intro g21 cap21 wb21 hown21 hgr21 hat21 hgl21; (obtain ⟨c9, f9, -⟩ := ho21.room hgr21)))
                    all_goals (go_wp2_with fail; go_meet; exact ⟨i21, bad21, Sd5.push h wb ho21 (Nat.le_trans dd21.low hm21.size) h21 (dd21.M.trans hm21) hown21 hgr21, l21, l21', by simpa using s21, b21⟩)
                  obtain ⟨i21, bad21, d21, l21, l21', s21, b21⟩ := hcut
                  go_wp2_with fail
                  refine (want5 k [41] i21 l21' bad21 _ d21.P).mono ?_
                  rintro e w22 ⟨rfl, i22, bad22, h22, hm22, l22, l22', b22, s22⟩
                  have d22 := d21.call h wb h22 hm22
                  clear h22
                  go_wp2_with fail
                  refine (want5 k [59] i22 l22' bad22 _ d22.P).mono ?_
                  rintro e w23 ⟨rfl, i23, bad23, h23, hm23, l23, l23', b23, s23⟩
                  have d23 := d22.call h wb h23 hm23
                  clear h23
                  go_wp2_with fail
                  exact bodyPost_ret (v := .pointer (some ⟨b, 0, none⟩)) (by simp [results, Tryz.results70, go_sem]) rfl ⟨⟨b, rfl⟩, i23, bad23, d23.P, d23.M, by omega, l23', fun hb => absurd hb (by simp), fun _ => .inr (by omega)⟩
                · have d18 := d17.call h wb h18 hm18
                  clear hm18 h18 d17
                  have dd19 := d18.quiet h wb (Mv.drew _)
                  obtain ⟨kv19, hn19⟩ := dd19.nd
                  obtain ⟨cc19, -⟩ := hn19.before
                  have hN19 := exprAny k i bad _ hi dd19.P
                  go_upto_region 2 with fail
                  go_cut [] from 6 to 16 (fun wx => ∃ (i' : Nat) (bad' : Bool), Sd5 k w b w1.heap.size wx i' bad' 1 ∧ i ≤ i' ∧ i' ≤ k.ws.length ∧ (bad' = true ∨ i < i') ∧ (bad = true → bad' = true))
                  case first =>
                    go_region_law (first | (go_simp; go_at_call 93; (with_reducible refine Calls.mono hN19 ?_); rintro e wa19 ⟨⟨x19, rfl⟩, i19, bad19, h19, hm19, l19, l19', b19, s19⟩; (have ho19 := hn19.mv h wb hm19); (obtain ⟨ce19, ca19, xs19, q19⟩ := ho19.before)) | (refine step_append_lies _ rfl _ _ 148 rfl w1.heap.size 107 j0 (.pointer none) 1 8 Tryz.underlying148 hj0 hz0 hz1 hz2 rfl (by decide) kv19 0 xs19 rfl (q19.alloc _) _ 1 1 [.pointer (some ⟨x19, 0, none⟩)] rfl rfl (World.news_of_block (heap_alloc_new wa19 _)) (by simp [Value.oneCell']) (by decide) (by unfold maxLen; omega) (by omega) (by have := dd19.low; have := hm19.size; simp; omega) _ rfl ?_; intro g19 cap19 wb19 hown19 hgr19 hat19 hgl19; (obtain ⟨c9, f9, -⟩ := ho19.room hgr19)))
                    all_goals (go_wp2_with fail; go_meet; exact ⟨i19, bad19, Sd5.push h wb ho19 (Nat.le_trans dd19.low hm19.size) h19 (dd19.M.trans hm19) hown19 hgr19, l19, l19', by simpa using s19, b19⟩)
                  obtain ⟨i19, bad19, d19, l19, l19', s19, b19⟩ := hcut
                  have as1 : bad19 = true ∨ i < i19 := s19
                  go_wp2_with fail
                  refine (take5 k [61] i19 l19' bad19 _ d19.P).mono ?_
                  rintro e w20 (⟨rfl, ⟨hbt20, hl20⟩, h20, hm20⟩ | ⟨rfl, h20, hm20⟩)
                  · have d20 := d19.call h wb h20 hm20
                    obtain ⟨kv, hnd⟩ := d20.nd
                    obtain ⟨z0, z1, z2, z3, x0, x1, x2, x3, x4, xf⟩ := hnd.cells
                    go_wp2_with fail
                    have d21 := d20.put h wb 0 [97, 115, 115, 105, 103, 110] (by decide)
                    clear x0 x1 x2 x3 x4 xf hnd kv
                    generalize w20.setCell ⟨b, 0, none⟩ (.string ⟨#[97, 115, 115, 105, 103, 110]⟩) = w21 at *
                    have dd22 := d21.quiet h wb (Mv.drew _)
                    obtain ⟨kv22, hn22⟩ := dd22.nd
                    obtain ⟨cc22, -⟩ := hn22.before
                    have hN22 := exprAny k (i19 + 1) false _ (by omega) dd22.P
                    go_wp2_with fail
                    go_region_law (first | (go_simp; go_at_call 93; (with_reducible refine Calls.mono hN22 ?_); rintro e wa22 ⟨⟨x22, rfl⟩, i22, bad22, h22, hm22, l22, l22', b22, s22⟩; (have ho22 := hn22.mv h wb hm22); (obtain ⟨ce22, ca22, xs22, q22⟩ := ho22.before)) | (refine step_append_lies _ rfl _ _ 148 rfl w1.heap.size 107 j0 (.pointer none) 1 8 Tryz.underlying148 hj0 hz0 hz1 hz2 rfl (by decide) kv22 1 xs22 rfl (q22.alloc _) _ 1 1 [.pointer (some ⟨x22, 0, none⟩)] rfl rfl (World.news_of_block (heap_alloc_new wa22 _)) (by simp [Value.oneCell']) (by decide) (by unfold maxLen; omega) (by omega) (by have := dd22.low; have := hm22.size; simp; omega) _ rfl ?_; intro g22 cap22 wb22 hown22 hgr22 hat22 hgl22; (obtain ⟨c9, f9, -⟩ := ho22.room hgr22)))
                    all_goals have d22 := Sd5.push h wb ho22 (Nat.le_trans dd22.low hm22.size) h22 (dd22.M.trans hm22) hown22 hgr22
                    all_goals
                      go_wp2_with fail
                      refine (want5 k [59] i22 l22' bad22 _ d22.P).mono ?_
                      rintro e w23 ⟨rfl, i23, bad23, h23, hm23, l23, l23', b23, s23⟩
                      have d23 := d22.call h wb h23 hm23
                      clear h23
                      go_wp2_with fail
                      exact bodyPost_ret (v := .pointer (some ⟨b, 0, none⟩)) (by simp [results, Tryz.results70, go_sem]) rfl ⟨⟨b, rfl⟩, i23, bad23, d23.P, d23.M, by omega, l23', fun hb => absurd (b19 hb) (by simp [hbt20]), fun _ => .inr (by omega)⟩
                  · have d20 := d19.call h wb h20 hm20
                    clear hm20 h20 d19
                    go_wp2_with fail
                    refine (want5 k [59] i19 l19' bad19 _ d20.P).mono ?_
                    rintro e w21 ⟨rfl, i21, bad21, h21, hm21, l21, l21', b21, s21⟩
                    have d21 := d20.call h wb h21 hm21
                    clear h21
                    go_wp2_with fail
                    exact bodyPost_ret (v := .pointer (some ⟨b, 0, none⟩)) (by simp [results, Tryz.results70, go_sem]) rfl ⟨⟨b, rfl⟩, i21, bad21, d21.P, d21.M, by omega, l21', fun hb => b21 (b19 hb), fun _ => adv5 as1 b21 l21⟩
            · obtain ⟨hbad, hib⟩ := hbs2 (by simp)
              subst hbad
              have dd := d16.quiet h wb (Mv.drew _)
              obtain ⟨kv, hnd⟩ := dd.nd
              obtain ⟨z0, z1, z2, z3, x0, x1, x2, x3, x4, xf⟩ := hnd.cells
              obtain ⟨dpB, c0, c1, c2, c3, c4, cf⟩ := dd.P.pcells
              obtain ⟨g, x, e1, ⟨r0, r1, r2, r3, r4⟩, hx⟩ := dd.P.wcells hib
              rw [e1] at c0
              have hib' : (i : Int) < k.ws.length := by omega
              have hxt := hx.t
              go_wp2_with fail
              go_region
              have d70 := (d16.put h wb 0 x.d.t (by decide)).quiet h wb (Mv.drew _)
              clear c0 c1 c2 c3 c4 cf r0 r1 r2 r3 r4 z0 z1 z2 z3 x0 x1 x2 x3 x4 xf hnd dd d16
              generalize (w16.setCell ⟨b, 0, none⟩ (.string ⟨x.d.t.toArray⟩)).drew = w70 at *
              obtain ⟨dpB, c0, c1, c2, c3, c4, cf⟩ := d70.P.pcells
              have hcc : ((i + 1 : Nat) : Int) = (i : Int) + 1 := by omega
              have h71 := d70.P.set1 (i + 1)
              rw [hcc] at h71
              clear hcc
              have hm71 : Mv (X5 k) w70 (w70.setCell ⟨k.P, 1, none⟩ (.int .i64 ((i : Int) + 1))) := Mv.setCell _ _ (.inl rfl)
              have d71 := d70.call h wb h71 hm71
              go_wp2_with fail
              generalize w70.setCell ⟨k.P, 1, none⟩ (.int .i64 ((i : Int) + 1)) = w71 at *
              clear c0 c1 c2 c3 c4 cf h71 hm71 d70
              refine (want5 k [59] (i + 1) (by omega) false _ d71.P).mono ?_
              rintro e w72 ⟨rfl, i72, bad72, h72, hm72, l72, l72', b72, s72⟩
              have d72 := d71.call h wb h72 hm72
              clear h72
              go_wp2_with fail
              exact bodyPost_ret (v := .pointer (some ⟨b, 0, none⟩)) (by simp [results, Tryz.results70, go_sem]) rfl ⟨⟨b, rfl⟩, i72, bad72, d72.P, d72.M, by omega, l72', fun hb => absurd hb (by simp), fun _ => .inr (by omega)⟩
          · obtain ⟨hbad, hib⟩ := hbs (by simp)
            subst hbad
            have dd := d15.quiet h wb (Mv.drew _)
            obtain ⟨kv, hnd⟩ := dd.nd
            obtain ⟨z0, z1, z2, z3, x0, x1, x2, x3, x4, xf⟩ := hnd.cells
            obtain ⟨dpB, c0, c1, c2, c3, c4, cf⟩ := dd.P.pcells
            obtain ⟨g, x, e1, ⟨r0, r1, r2, r3, r4⟩, hx⟩ := dd.P.wcells hib
            rw [e1] at c0
            have hib' : (i : Int) < k.ws.length := by omega
            have hxt := hx.t
            go_wp2_with fail
            go_region
            have d70 := (d15.put h wb 0 x.d.t (by decide)).quiet h wb (Mv.drew _)
            clear c0 c1 c2 c3 c4 cf r0 r1 r2 r3 r4 z0 z1 z2 z3 x0 x1 x2 x3 x4 xf hnd dd d15
            generalize (w15.setCell ⟨b, 0, none⟩ (.string ⟨x.d.t.toArray⟩)).drew = w70 at *
            obtain ⟨dpB, c0, c1, c2, c3, c4, cf⟩ := d70.P.pcells
            have hcc : ((i + 1 : Nat) : Int) = (i : Int) + 1 := by omega
            have h71 := d70.P.set1 (i + 1)
            rw [hcc] at h71
            clear hcc
            have hm71 : Mv (X5 k) w70 (w70.setCell ⟨k.P, 1, none⟩ (.int .i64 ((i : Int) + 1))) := Mv.setCell _ _ (.inl rfl)
            have d71 := d70.call h wb h71 hm71
            go_wp2_with fail
            generalize w70.setCell ⟨k.P, 1, none⟩ (.int .i64 ((i : Int) + 1)) = w71 at *
            clear c0 c1 c2 c3 c4 cf h71 hm71 d70
            refine (want5 k [59] (i + 1) (by omega) false _ d71.P).mono ?_
            rintro e w72 ⟨rfl, i72, bad72, h72, hm72, l72, l72', b72, s72⟩
            have d72 := d71.call h wb h72 hm72
            clear h72
            go_wp2_with fail
            exact bodyPost_ret (v := .pointer (some ⟨b, 0, none⟩)) (by simp [results, Tryz.results70, go_sem]) rfl ⟨⟨b, rfl⟩, i72, bad72, d72.P, d72.M, by omega, l72', fun hb => absurd hb (by simp), fun _ => .inr (by omega)⟩
theorem allS5 (k : K5) : ∀ f, AllS5 k f := by
  intro f
  induction f with
  | zero =>
    constructor
    · intro i bad w _ _ hf; omega
    · intro i bad w _ _ hf; omega
  | succ f ih => exact ⟨fun i bad w hi h hf => stat5 ih i bad w hi h hf, fun i bad w hi h hf => plain5 ih i bad w hi h hf⟩
theorem statAny (k : K5) (i : Nat) (bad : Bool) (w : World) (hi : i ≤ k.ws.length) (h : P5 k w i bad) : Calls Tryz.prog 46 #[.pointer (some ⟨k.P, 0, none⟩)] w (Nx5 k w i bad) :=
  (allS5 k (2 * R5 k i bad + 2)).stat i bad w hi h (Nat.le_refl _)
end Go.Proofs.YtjgpbpmicopemaaGreatDoor
