/-
  plumbobref5's parser: a primary.
-/
import Derived.Test.YtjgpbpmicopemaaGreatDoorPb19
import Derived.Deep.RegionLaw
import Derived.Deep.Cut
import Derived.Deep.CutRange
namespace Go.Proofs.YtjgpbpmicopemaaGreatDoor
open Go.RowKit Go.Shelf
set_option maxRecDepth 20000

set_option maxHeartbeats 32000000 in
theorem prim5 {k : K5} {f : Nat} (ih : All5 k f) (i : Nat) (bad : Bool) (w : World) (hi : i ≤ k.ws.length) (h : P5 k w i bad) (hf : 20 * R5 k i bad + 2 ≤ f + 1) : Calls Tryz.prog 168 #[.pointer (some ⟨k.P, 0, none⟩)] w (Nx5 k w i bad) := by
  obtain ⟨hPl, hQl⟩ := h.low
  have hlen := h.ok.1
  have hml : k.ws.length ≤ 9223372036854775807 := by omega
  obtain ⟨j0, hj0, hz0, hz1, hz2⟩ := info_parts info107
  have hfail : ∀ n, P5 k (((w.drewN n).setCell ⟨k.P, 2, none⟩ (.bool true)).alloc (.cells #[.string ⟨#[110, 117, 109]⟩, .string ⟨#[]⟩, .string ⟨#[]⟩, .int .i64 0, .slice none 0 0, .string ⟨#[]⟩, .int .i64 0] 150)) i true ∧ Mv (X5 k) w (((w.drewN n).setCell ⟨k.P, 2, none⟩ (.bool true)).alloc (.cells #[.string ⟨#[110, 117, 109]⟩, .string ⟨#[]⟩, .string ⟨#[]⟩, .int .i64 0, .slice none 0 0, .string ⟨#[]⟩, .int .i64 0] 150)) := fun n => ⟨((h.mv (Mv.quiet w n)).set2 true).mv (Mv.alloc _ _), ((Mv.quiet w n).toX.trans (Mv.setCell _ _ (.inl rfl))).more _⟩
  obtain ⟨dp, c0, c1, c2, c3, c4, cf⟩ := h.pcells
  cases bad
  · by_cases hlt : i < k.ws.length
    · obtain ⟨g, x, e1, ⟨r0, r1, r2, r3, r4⟩, hx⟩ := h.wcells hlt
      rw [e1] at c0
      have hlt' : (i : Int) < k.ws.length := by omega
      have hnl : decide (k.ws.length ≤ i) = false := decide_eq_false (by omega)
      go_enter Tryz.func168, Tryz.ntmps168
      go_wp2_with fail
      go_quiet (fail)
      have hmq : Mv (fun _ => False) w (w.drewN nq) := Mv.quiet w nq
      generalize w.drewN nq = wq at *
      have h0 := (h.mv hmq).mv (Mv.drew _)
      have hM0 : Mv (X5 k) w wq.drew := hmq.drawn.toX
      have v0 : wq.cell? ⟨k.P, 0, none⟩ = some (.slice (some ⟨g, 0, none⟩) k.ws.length k.c) := hmq.cell c0 (fun h => h)
      have v0d : wq.drew.cell? ⟨k.P, 0, none⟩ = some (.slice (some ⟨g, 0, none⟩) k.ws.length k.c) := v0
      have v0a : ∀ o, (wq.alloc o).cell? ⟨k.P, 0, none⟩ = some (.slice (some ⟨g, 0, none⟩) k.ws.length k.c) := fun o => cell_alloc v0 o
      have v0e : ∀ o, (wq.alloc o).drew.cell? ⟨k.P, 0, none⟩ = some (.slice (some ⟨g, 0, none⟩) k.ws.length k.c) := fun o => cell_alloc v0 o
      have v1 : wq.cell? ⟨k.P, 1, none⟩ = some (.int .i64 i) := hmq.cell c1 (fun h => h)
      have v1d : wq.drew.cell? ⟨k.P, 1, none⟩ = some (.int .i64 i) := v1
      have v1a : ∀ o, (wq.alloc o).cell? ⟨k.P, 1, none⟩ = some (.int .i64 i) := fun o => cell_alloc v1 o
      have v1e : ∀ o, (wq.alloc o).drew.cell? ⟨k.P, 1, none⟩ = some (.int .i64 i) := fun o => cell_alloc v1 o
      have y0 : wq.cell? ⟨g, i * 5, none⟩ = some (.int .i64 x.d.k) := hmq.cell r0 (fun h => h)
      have y0d : wq.drew.cell? ⟨g, i * 5, none⟩ = some (.int .i64 x.d.k) := y0
      have y0a : ∀ o, (wq.alloc o).cell? ⟨g, i * 5, none⟩ = some (.int .i64 x.d.k) := fun o => cell_alloc y0 o
      have y0e : ∀ o, (wq.alloc o).drew.cell? ⟨g, i * 5, none⟩ = some (.int .i64 x.d.k) := fun o => cell_alloc y0 o
      have y1 : wq.cell? ⟨g, i * 5 + 1, none⟩ = some (.string ⟨x.d.t.toArray⟩) := hmq.cell r1 (fun h => h)
      have y1d : wq.drew.cell? ⟨g, i * 5 + 1, none⟩ = some (.string ⟨x.d.t.toArray⟩) := y1
      have y1a : ∀ o, (wq.alloc o).cell? ⟨g, i * 5 + 1, none⟩ = some (.string ⟨x.d.t.toArray⟩) := fun o => cell_alloc y1 o
      have y1e : ∀ o, (wq.alloc o).drew.cell? ⟨g, i * 5 + 1, none⟩ = some (.string ⟨x.d.t.toArray⟩) := fun o => cell_alloc y1 o
      have y2 : wq.cell? ⟨g, i * 5 + 2, none⟩ = some (.int .i64 x.d.n) := hmq.cell r2 (fun h => h)
      have y2d : wq.drew.cell? ⟨g, i * 5 + 2, none⟩ = some (.int .i64 x.d.n) := y2
      have y2a : ∀ o, (wq.alloc o).cell? ⟨g, i * 5 + 2, none⟩ = some (.int .i64 x.d.n) := fun o => cell_alloc y2 o
      have y2e : ∀ o, (wq.alloc o).drew.cell? ⟨g, i * 5 + 2, none⟩ = some (.int .i64 x.d.n) := fun o => cell_alloc y2 o
      have y3 : wq.cell? ⟨g, i * 5 + 3, none⟩ = some (.int .i64 x.p.1) := hmq.cell r3 (fun h => h)
      have y3d : wq.drew.cell? ⟨g, i * 5 + 3, none⟩ = some (.int .i64 x.p.1) := y3
      have y3a : ∀ o, (wq.alloc o).cell? ⟨g, i * 5 + 3, none⟩ = some (.int .i64 x.p.1) := fun o => cell_alloc y3 o
      have y3e : ∀ o, (wq.alloc o).drew.cell? ⟨g, i * 5 + 3, none⟩ = some (.int .i64 x.p.1) := fun o => cell_alloc y3 o
      have y4 : wq.cell? ⟨g, i * 5 + 4, none⟩ = some (.int .i64 x.p.2) := hmq.cell r4 (fun h => h)
      have y4d : wq.drew.cell? ⟨g, i * 5 + 4, none⟩ = some (.int .i64 x.p.2) := y4
      have y4a : ∀ o, (wq.alloc o).cell? ⟨g, i * 5 + 4, none⟩ = some (.int .i64 x.p.2) := fun o => cell_alloc y4 o
      have y4e : ∀ o, (wq.alloc o).drew.cell? ⟨g, i * 5 + 4, none⟩ = some (.int .i64 x.p.2) := fun o => cell_alloc y4 o
      clear c0 c1 c2 c3 c4 cf r0 r1 r2 r3 r4
      go_upto_region 4 with fail
      go_cut [3] from 26 to 35 (fun s3 wx => ∃ q : Nat, s3 = .pointer (some ⟨q, 0, none⟩) ∧ w.heap.size ≤ q ∧ wx.heap[q]? = some (.cells #[.int .i64 x.d.k, .string ⟨x.d.t.toArray⟩, .int .i64 x.d.n, .int .i64 x.p.1, .int .i64 x.p.2] 34 (0, 0)) ∧ P5 k wx i false ∧ Mv (X5 k) w wx)
      case first =>
        go_region
        all_goals (go_wp2_with fail; go_meet; exact ⟨wq.heap.size, rfl, hmq.size, heap_alloc_new wq _, (h.mv hmq).mv (Mv.alloc (X := fun _ => False) wq _).drawn, (hmq.toX.more _).drawn⟩)
      case rest =>
        obtain ⟨q, rfl, hq, hqc, h0, hM0⟩ := hcut
        clear v0 v0d v0a v0e v1 v1d v1a v1e y0 y0d y0a y0e y1 y1d y1a y1e y2 y2d y2a y2e y3 y3d y3a y3e y4 y4d y4a y4e hmq
        generalize hwcc : wc = wz at *
        clear hwcc
        go_wp2_with fail
        refine (node5 k [110, 117, 109] i false _ h0).mono ?_
        rintro e w1 ⟨h1, hm1, b, rfl, wb0, hbc⟩
        have wb : w.heap.size ≤ b := Nat.le_trans hM0.size wb0
        have d10 := Sd5.made h1 (hM0.trans hm1) hbc
        have hqb : q ≠ b := by have := heap_lt hqc; omega
        have hqX := notX h hq
        have hqc := (hm1.same q (heap_lt hqc) hqX).trans hqc
        clear h0 hM0 hbc h1 hm1
        obtain ⟨q0, q1, q2, q3, q4, qf⟩ : w1.cell? ⟨q, 0, none⟩ = some (.int .i64 x.d.k) ∧ w1.cell? ⟨q, 1, none⟩ = some (.string ⟨x.d.t.toArray⟩) ∧ w1.cell? ⟨q, 2, none⟩ = some (.int .i64 x.d.n) ∧ w1.cell? ⟨q, 3, none⟩ = some (.int .i64 x.p.1) ∧ w1.cell? ⟨q, 4, none⟩ = some (.int .i64 x.p.2) ∧ ∀ i, w1.frozen? ⟨q, i, none⟩ = false := by
          refine ⟨?_, ?_, ?_, ?_, ?_, ?_⟩ <;> simp [World.cell?, World.frozen?, hqc]
        by_cases hk2 : x.d.k = 2
        · have hk' : (x.d.k == 2) = true := by simpa using hk2
          go_wp2_with fail
          refine (number5 k i hi false _ d10.P).mono ?_
          rintro e w11 ⟨⟨n, rfl, hn⟩, i11, bad11, h11, hm11, l11, l11', b11, s11⟩
          have d11 := d10.call h wb h11 hm11
          obtain ⟨kv, hnd⟩ := d11.nd
          obtain ⟨z0, z1, z2, z3, x0, x1, x2, x3, x4, xf⟩ := hnd.cells
          go_wp2_with fail
          have d12 := d11.putN h wb n
          exact bodyPost_ret (v := .pointer (some ⟨b, 0, none⟩)) (by simp [results, Tryz.results168, go_sem]) rfl ⟨⟨b, rfl⟩, i11, bad11, d12.P, d12.M, by omega, l11', by simp, fun _ => by simpa using s11⟩
        · have hk0 : (x.d.k == 2) = false := by simpa using hk2
          by_cases hk1 : x.d.k = 1
          · have hk' : (x.d.k == 1) = true := by simpa using hk1
            obtain ⟨kv, hnd⟩ := d10.nd
            obtain ⟨z0, z1, z2, z3, x0, x1, x2, x3, x4, xf⟩ := hnd.cells
            go_wp2_with fail
            have d11 := d10.put h wb 0 [110, 97, 109, 101] (by decide)
            clear x0 x1 x2 x3 x4 xf hnd kv
            clear q0 q1 q2 q3 q4 qf hqc
            generalize w1.setCell ⟨b, 0, none⟩ (.string ⟨#[110, 97, 109, 101]⟩) = w11 at *
            refine (name5 k i hi false _ d11.P).mono ?_
            rintro e w12 ⟨⟨nm, rfl, hnm⟩, i12, bad12, h12, hm12, l12, l12', b12, s12⟩
            have d12 := d11.call h wb h12 hm12
            obtain ⟨kv, hnd⟩ := d12.nd
            obtain ⟨z0, z1, z2, z3, x0, x1, x2, x3, x4, xf⟩ := hnd.cells
            go_wp2_with fail
            have d13 := d12.put h wb 1 nm (by decide)
            clear x0 x1 x2 x3 x4 xf hnd kv
            generalize w12.setCell ⟨b, 1, none⟩ (.string ⟨nm.toArray⟩) = w13 at *
            refine (take5 k [40] i12 l12' bad12 _ d13.P).mono ?_
            rintro e w14 (⟨rfl, ⟨hbt14, hl14⟩, h14, hm14⟩ | ⟨rfl, h14, hm14⟩)
            · have d14 := d13.call h wb h14 hm14
              obtain ⟨kv, hnd⟩ := d14.nd
              obtain ⟨z0, z1, z2, z3, x0, x1, x2, x3, x4, xf⟩ := hnd.cells
              go_wp2_with fail
              have d15 := d14.put h wb 0 [99, 97, 108, 108] (by decide)
              clear x0 x1 x2 x3 x4 xf hnd kv
              generalize w14.setCell ⟨b, 0, none⟩ (.string ⟨#[99, 97, 108, 108]⟩) = w15 at *
              clear d12 d13 hbt14 hm14 h14
              go_loopg [] (R5 k (i12 + 1) false) (fun g wr => ∃ (i' : Nat) (bad' : Bool) (m : Nat), Sd5 k w b w1.heap.size wr i' bad' m ∧ i < i' ∧ i' ≤ k.ws.length ∧ R5 k i' bad' ≤ R5 k (i12 + 1) false ∧ m + R5 k i' bad' ≤ k.ws.length + 2 ∧ R5 k i' bad' ≤ g)
              case atStart => exact ⟨i12 + 1, false, 0, d15, by omega, by omega, Nat.le_refl _, by simp only [R5]; simp; omega, Nat.le_refl _⟩
              case round =>
                clear d15
                obtain ⟨i', bad', m, dL, hlt', l0', hR0, hmm, hg⟩ := hrel
                obtain ⟨dpL, c0, c1, c2, c3, c4, cf⟩ := dL.P.pcells
                have hRi := R5_lt (k := k) (i := i) (i1 := i12 + 1) (bad1 := false) (by omega) (.inr (by omega))
                cases bad'
                · go_wp2_with fail
                  refine (take5 k [41] i' l0' false _ dL.P).mono ?_
                  rintro e w21 (⟨rfl, ⟨hbt21, hl21⟩, h21, hm21⟩ | ⟨rfl, h21, hm21⟩)
                  · have d21 := dL.call h wb h21 hm21
                    go_wp2_with fail
                    exact bodyPost_ret (v := .pointer (some ⟨b, 0, none⟩)) (by simp [results, Tryz.results168, go_sem]) rfl ⟨⟨b, rfl⟩, (i' + 1), false, d21.P, d21.M, by omega, by omega, by simp, fun _ => .inr (by omega)⟩
                  · have d21 := dL.call h wb h21 hm21
                    clear hm21 h21 dL
                    obtain ⟨kvL, hnL⟩ := d21.nd
                    obtain ⟨aL, cL, hkL⟩ := row_form2 hnL
                    obtain ⟨cL4, -⟩ := hnL.before
                    rw [hkL] at cL4
                    cases m with
                    | zero =>
                      go_wp2_with fail
                      have dd31 := d21.quiet h wb (Mv.drew _)
                      obtain ⟨kv31, hn31⟩ := dd31.nd
                      obtain ⟨cc31, -⟩ := hn31.before
                      have hN31 := ih.expr i' false _ l0' dd31.P (by have := R5_mono (k := k) (i := i') (i1 := i') (bad := false) (bad1 := false) (by omega) (by simp); omega)
                      go_wp2_with fail
                      go_region_law (first | (go_simp; go_at_call 93; (with_reducible refine Calls.mono hN31 ?_); rintro e wa31 ⟨⟨x31, rfl⟩, i31, bad31, h31, hm31, l31, l31', b31, s31⟩; (have ho31 := hn31.mv h wb hm31); (obtain ⟨ce31, ca31, xs31, q31⟩ := ho31.before)) | (refine step_append_lies _ rfl _ _ 148 rfl w1.heap.size 107 j0 (.pointer none) 1 8 Tryz.underlying148 hj0 hz0 hz1 hz2 rfl (by decide) kv31 0 xs31 rfl (q31.alloc _) _ 1 1 [.pointer (some ⟨x31, 0, none⟩)] rfl rfl (World.news_of_block (heap_alloc_new wa31 _)) (by simp [Value.oneCell']) (by decide) (by unfold maxLen; omega) (by omega) (by have := dd31.low; have := hm31.size; simp; omega) _ rfl ?_; intro g31 cap31 wb31 hown31 hgr31 hat31 hgl31; (obtain ⟨c9, f9, -⟩ := ho31.room hgr31)))
                      all_goals have d31 := Sd5.push h wb ho31 (Nat.le_trans dd31.low hm31.size) h31 (dd31.M.trans hm31) hown31 hgr31
                      all_goals have hRz := R5_mono (k := k) (i := i') (i1 := i') (bad := false) (bad1 := false) (by omega) (by simp)
                      all_goals have hRy : R5 k i31 bad31 < R5 k i' false := R5_lt (by omega) ((s31 (by simp)).imp id (fun hs => by omega))
                      all_goals go_wp2_with fail
                      all_goals go_roundg (R5 k i31 bad31)
                      all_goals first | omega | exact ⟨i31, bad31, 0 + 1, d31, by omega, by omega, by omega, by omega, Nat.le_refl _⟩
                    | succ m =>
                      have hmL : decide (0 < m + 1) = true := by simp
                      go_wp2_with fail
                      refine (want5 k [44] i' l0' false _ d21.P).mono ?_
                      rintro e w41 ⟨rfl, i41, bad41, h41, hm41, l41, l41', b41, s41⟩
                      have d41 := d21.call h wb h41 hm41
                      clear h41
                      have dd42 := d41.quiet h wb (Mv.drew _)
                      obtain ⟨kv42, hn42⟩ := dd42.nd
                      obtain ⟨cc42, -⟩ := hn42.before
                      have hN42 := ih.expr i41 bad41 _ l41' dd42.P (by have := R5_mono (k := k) (i := i') (i1 := i41) (bad := false) (bad1 := bad41) (by omega) (by simp); omega)
                      go_wp2_with fail
                      go_region_law (first | (go_simp; go_at_call 93; (with_reducible refine Calls.mono hN42 ?_); rintro e wa42 ⟨⟨x42, rfl⟩, i42, bad42, h42, hm42, l42, l42', b42, s42⟩; (have ho42 := hn42.mv h wb hm42); (obtain ⟨ce42, ca42, xs42, q42⟩ := ho42.before)) | (refine step_append_lies _ rfl _ _ 148 rfl w1.heap.size 107 j0 (.pointer none) 1 8 Tryz.underlying148 hj0 hz0 hz1 hz2 rfl (by decide) kv42 (m + 1) xs42 rfl (q42.alloc _) _ 1 1 [.pointer (some ⟨x42, 0, none⟩)] rfl rfl (World.news_of_block (heap_alloc_new wa42 _)) (by simp [Value.oneCell']) (by decide) (by unfold maxLen; omega) (by omega) (by have := dd42.low; have := hm42.size; simp; omega) _ rfl ?_; intro g42 cap42 wb42 hown42 hgr42 hat42 hgl42; (obtain ⟨c9, f9, -⟩ := ho42.room hgr42)))
                      all_goals have d42 := Sd5.push h wb ho42 (Nat.le_trans dd42.low hm42.size) h42 (dd42.M.trans hm42) hown42 hgr42
                      all_goals have hRz := R5_mono (k := k) (i := i') (i1 := i41) (bad := false) (bad1 := bad41) (by omega) (by simp)
                      all_goals have hRy : R5 k i42 bad42 < R5 k i' false := R5_lt (by omega) ((s42 (by simp)).imp id (fun hs => by omega))
                      all_goals go_wp2_with fail
                      all_goals go_roundg (R5 k i42 bad42)
                      all_goals first | omega | exact ⟨i42, bad42, m + 1 + 1, d42, by omega, by omega, by omega, by omega, Nat.le_refl _⟩
                · go_wp2_with fail
                  exact bodyPost_ret (v := .pointer (some ⟨b, 0, none⟩)) (by simp [results, Tryz.results168, go_sem]) rfl ⟨⟨b, rfl⟩, i', true, dL.P, dL.M, by omega, by omega, by simp, fun _ => .inr (by omega)⟩
            · have d14 := d13.call h wb h14 hm14
              clear hm14 h14 d13
              go_wp2_with fail
              exact bodyPost_ret (v := .pointer (some ⟨b, 0, none⟩)) (by simp [results, Tryz.results168, go_sem]) rfl ⟨⟨b, rfl⟩, i12, bad12, d14.P, d14.M, by omega, l12', (fun hb => absurd hb (by simp)), fun _ => adv5 (s12 (by simp)) (fun h => h) (Nat.le_refl _)⟩
          · have hk3 : (x.d.k == 1) = false := by simpa using hk1
            go_wp2_with fail
            refine (take5 k [40] i hi false _ d10.P).mono ?_
            rintro e w11 (⟨rfl, ⟨hbt11, hl11⟩, h11, hm11⟩ | ⟨rfl, h11, hm11⟩)
            · have d11 := d10.call h wb h11 hm11
              obtain ⟨nn, dd, g4, g5, gf⟩ := d11.P.qcells
              obtain ⟨dpP, c0, c1, c2, c3, c4, cf⟩ := d11.P.pcells
              have hRi := R5_lt (k := k) (i := i) (i1 := i + 1) (bad1 := false) (by omega) (.inr (by omega))
              have hset := d11.P.setN (wrap64 (nn - 1))
              have hmset : Mv (X5 k) w11 (w11.setCell ⟨k.Q, 4, none⟩ (.int .i64 (wrap64 (nn - 1)))) := Mv.setCell _ _ (.inr rfl)
              have dS := d11.call h wb hset hmset
              go_wp2_with fail
              generalize w11.setCell ⟨k.Q, 4, none⟩ (.int .i64 (wrap64 (nn - 1))) = wS at *
              clear hset hmset g4 g5 gf c0 c1 c2 c3 c4 cf
              refine (ih.expr (i + 1) false _ (by omega) dS.P (by omega)).mono ?_
              rintro e w51 ⟨⟨x51, rfl⟩, i51, bad51, h51, hm51, l51, l51', b51, s51⟩
              have d51 := dS.call h wb h51 hm51
              go_wp2_with fail
              refine (want5 k [41] i51 l51' bad51 _ d51.P).mono ?_
              rintro e w52 ⟨rfl, i52, bad52, h52, hm52, l52, l52', b52, s52⟩
              have d52 := d51.call h wb h52 hm52
              clear h52
              go_wp2_with fail
              exact bodyPost_ret (v := .pointer (some ⟨x51, 0, none⟩)) (by simp [results, Tryz.results168, go_sem]) rfl ⟨⟨x51, rfl⟩, i52, bad52, d52.P, d52.M, by omega, l52', by simp, fun _ => .inr (by omega)⟩
            · have d11 := d10.call h wb h11 hm11
              clear hm11 h11 d10
              go_wp2_with fail
              refine (take5 k [105, 110] i hi false _ d11.P).mono ?_
              rintro e w12 (⟨rfl, ⟨hbt12, hl12⟩, h12, hm12⟩ | ⟨rfl, h12, hm12⟩)
              · have d12 := d11.call h wb h12 hm12
                obtain ⟨kv, hnd⟩ := d12.nd
                obtain ⟨z0, z1, z2, z3, x0, x1, x2, x3, x4, xf⟩ := hnd.cells
                go_wp2_with fail
                have d13 := d12.put h wb 0 [105, 110] (by decide)
                clear x0 x1 x2 x3 x4 xf hnd kv
                generalize w12.setCell ⟨b, 0, none⟩ (.string ⟨#[105, 110]⟩) = w13 at *
                refine (want5 k [40] (i + 1) (by omega) false _ d13.P).mono ?_
                rintro e w14 ⟨rfl, i14, bad14, h14, hm14, l14, l14', b14, s14⟩
                have d14 := d13.call h wb h14 hm14
                clear h14
                go_wp2_with fail
                refine (want5 k [41] i14 l14' bad14 _ d14.P).mono ?_
                rintro e w15 ⟨rfl, i15, bad15, h15, hm15, l15, l15', b15, s15⟩
                have d15 := d14.call h wb h15 hm15
                clear h15
                go_wp2_with fail
                exact bodyPost_ret (v := .pointer (some ⟨b, 0, none⟩)) (by simp [results, Tryz.results168, go_sem]) rfl ⟨⟨b, rfl⟩, i15, bad15, d15.P, d15.M, by omega, l15', by simp, fun _ => .inr (by omega)⟩
              · have d12 := d11.call h wb h12 hm12
                clear hm12 h12 d11
                go_wp2_with fail
                refine (take5 k [115, 105, 122, 101, 111, 102] i hi false _ d12.P).mono ?_
                rintro e w13 (⟨rfl, ⟨hbt13, hl13⟩, h13, hm13⟩ | ⟨rfl, h13, hm13⟩)
                · have d13 := d12.call h wb h13 hm13
                  obtain ⟨kv, hnd⟩ := d13.nd
                  obtain ⟨z0, z1, z2, z3, x0, x1, x2, x3, x4, xf⟩ := hnd.cells
                  go_wp2_with fail
                  have d14 := d13.put h wb 0 [115, 105, 122, 101, 111, 102] (by decide)
                  clear x0 x1 x2 x3 x4 xf hnd kv
                  generalize w13.setCell ⟨b, 0, none⟩ (.string ⟨#[115, 105, 122, 101, 111, 102]⟩) = w14 at *
                  refine (want5 k [40] (i + 1) (by omega) false _ d14.P).mono ?_
                  rintro e w15 ⟨rfl, i15, bad15, h15, hm15, l15, l15', b15, s15⟩
                  have d15 := d14.call h wb h15 hm15
                  clear h15
                  go_wp2_with fail
                  refine (typ5 k i15 l15' bad15 _ d15.P).mono ?_
                  rintro e w16 ⟨⟨ty, rfl, hty⟩, i16, bad16, h16, hm16, l16, l16', b16, s16⟩
                  have d16 := d15.call h wb h16 hm16
                  go_wp2_with fail
                  refine (array5 k ty hty i16 l16' bad16 _ d16.P).mono ?_
                  rintro e w17 ⟨⟨ty2, rfl, hty2⟩, i17, bad17, h17, hm17, l17, l17', b17, s17⟩
                  have d17 := d16.call h wb h17 hm17
                  obtain ⟨kv, hnd⟩ := d17.nd
                  obtain ⟨z0, z1, z2, z3, x0, x1, x2, x3, x4, xf⟩ := hnd.cells
                  go_wp2_with fail
                  have d18 := d17.put h wb 2 ty2 (by decide)
                  clear x0 x1 x2 x3 x4 xf hnd kv
                  generalize w17.setCell ⟨b, 2, none⟩ (.string ⟨ty2.toArray⟩) = w18 at *
                  refine (want5 k [41] i17 l17' bad17 _ d18.P).mono ?_
                  rintro e w19 ⟨rfl, i19, bad19, h19, hm19, l19, l19', b19, s19⟩
                  have d19 := d18.call h wb h19 hm19
                  clear h19
                  go_wp2_with fail
                  exact bodyPost_ret (v := .pointer (some ⟨b, 0, none⟩)) (by simp [results, Tryz.results168, go_sem]) rfl ⟨⟨b, rfl⟩, i19, bad19, d19.P, d19.M, by omega, l19', by simp, fun _ => .inr (by omega)⟩
                · have d13 := d12.call h wb h13 hm13
                  clear hm13 h13 d12
                  obtain ⟨dpP, c0, c1, c2, c3, c4, cf⟩ := d13.P.pcells
                  go_wp2_with fail
                  have hz1 := d13.P.set2 true
                  have hz2 : Mv (X5 k) w (w13.setCell ⟨k.P, 2, none⟩ (.bool true)) := d13.M.trans (Mv.setCell _ _ (.inl rfl))
                  exact bodyPost_ret (v := .pointer (some ⟨b, 0, none⟩)) (by simp [results, Tryz.results168, go_sem]) rfl ⟨⟨b, rfl⟩, i, true, hz1, hz2, Nat.le_refl _, hi, by simp, fun _ => .inl rfl⟩
    · have hlt' : ¬ (i : Int) < k.ws.length := by omega
      have hnl : decide (k.ws.length ≤ i) = true := decide_eq_true (by omega)
      go_enter Tryz.func168, Tryz.ntmps168
      go_wp2_with fail
      go_quiet (fail)
      go_wp2_with fail
      exact bodyPost_ret (v := .pointer (some ⟨_, 0, none⟩)) (by simp [results, Tryz.results168, go_sem]; rfl) rfl ⟨⟨_, rfl⟩, i, true, (hfail _).1, (hfail _).2, Nat.le_refl _, hi, fun _ => rfl, fun _ => .inl rfl⟩
  · go_enter Tryz.func168, Tryz.ntmps168
    go_wp2_with fail
    go_quiet (fail)
    go_wp2_with fail
    exact bodyPost_ret (v := .pointer (some ⟨_, 0, none⟩)) (by simp [results, Tryz.results168, go_sem]; rfl) rfl ⟨⟨_, rfl⟩, i, true, (hfail _).1, (hfail _).2, Nat.le_refl _, hi, fun _ => rfl, fun _ => .inl rfl⟩
end Go.Proofs.YtjgpbpmicopemaaGreatDoor
