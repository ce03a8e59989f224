import Derived.Test.YtjgpbpmicopemaaGreatDoorPb22
import Derived.Deep.RegionLaw
import Derived.Deep.Cut
import Derived.Deep.CutRange
namespace Go.Proofs.YtjgpbpmicopemaaGreatDoor
open Go.RowKit Go.Shelf
set_option maxRecDepth 20000
theorem info101 : (Tryz.prog.info? 101).map (fun i => (i.zero, i.size, i.bytes)) = some (some (.agg #[.string ⟨#[]⟩, .slice none 0 0]), 2, 40) := by kernel_rfl
theorem info103 : (Tryz.prog.info? 103).map (fun i => (i.zero, i.size, i.bytes)) = some (some (.agg #[.string ⟨#[]⟩, .string ⟨#[]⟩, .bool false]), 3, 40) := by kernel_rfl
theorem info109 : (Tryz.prog.info? 109).map (fun i => (i.zero, i.size, i.bytes)) = some (some (.agg #[.string ⟨#[]⟩, .string ⟨#[]⟩, .slice none 0 0, .pointer none, .slice none 0 0]), 5, 88) := by kernel_rfl
theorem info106 : (Tryz.prog.info? 106).map (fun i => (i.zero, i.size, i.bytes)) = some (some (.agg #[.int .i64 0, .int .i64 0]), 2, 16) := by kernel_rfl
def Im5 (k : K5) (B c : Nat) (w : World) (i : Nat) (e : Ending) (w' : World) : Prop := e = .returned (.tuple #[]) ∧ ∃ k' : K5, (k'.ws = k.ws ∧ k'.a = k.a ∧ k'.c = k.c ∧ k'.P = k.P ∧ k'.Q = k.Q) ∧ ∃ (i' : Nat) (bad' : Bool), P5 k' w' i' bad' ∧ Ls5 k' B (c + 2) w' ∧ Mv (fun j => B ≤ j) w w' ∧ i ≤ i' ∧ i' ≤ k.ws.length ∧ (bad' = true ∨ i < i')
theorem Mv.old {k : K5} {B c : Nat} {w0 W W' : World} (m : Mv (X5 k) W W') (hL : Ls5 k B c w0) : Mv (fun j => B ≤ j) W W' := m.mono (by
  rintro _ j (rfl | rfl)
  · exact hL.low.1
  · exact hL.low.2.1)
theorem Ls5.more {k : K5} {B c : Nat} {W : World} (h : Ls5 k B c W) : Ls5 k B (c + 1) W := by
  obtain ⟨⟨n1, x1, a1, b1⟩, ⟨n2, x2, a2, b2⟩, ⟨n3, x3, a3, b3⟩, ⟨n4, x4, a4, b4⟩, low, g⟩ := h
  exact ⟨⟨n1, x1, a1, by omega⟩, ⟨n2, x2, a2, by omega⟩, ⟨n3, x3, a3, by omega⟩, ⟨n4, x4, a4, by omega⟩, low, g⟩
set_option maxHeartbeats 64000000 in
theorem item5 {k : K5} {B c : Nat} (i : Nat) (w : World) (h : P5 k w i false) (hi : i < k.ws.length) (hL : Ls5 k B c w) (hc : c ≤ 200000) : Calls Tryz.prog 26 #[.pointer (some ⟨k.P, 0, none⟩)] w (Im5 k B c w i) := by
  obtain ⟨hPl, hQl⟩ := h.low
  have hlen := h.ok.1
  have hBw := hL.low.2.2
  go_enter Tryz.func26, Tryz.ntmps26
  go_wp2_with fail
  refine (typ5 k i (by omega) false w h).mono ?_
  rintro e w1 ⟨⟨t, rfl, ht⟩, i1, bad1, h1, hm1, l1, l1', -, s1⟩
  have a1 : bad1 = true ∨ i < i1 := by simpa using s1
  have hx7 := cut_upto t 7
  go_upto_region 1 with fail
  go_cut [30] from 11 to 30 (fun s30 wx => ∃ (bb : Bool) (i2 : Nat), s30 = .bool bb ∧ P5 k wx i2 bad1 ∧ Mv (X5 k) w wx ∧ i1 ≤ i2 ∧ i2 ≤ k.ws.length ∧ (bb = true → 7 < t.length))
  case first =>
    by_cases h7 : 7 < t.length
    · have h7' : (7 : Int) < t.length := by omega
      have hi1 : t.length - 1 < t.length := by omega
      cases hb1 : (t.take 7 == [115, 116, 114, 117, 99, 116, 32])
      · go_wp2_with fail
        go_meet
        exact ⟨false, i1, rfl, h1, hm1, Nat.le_refl _, l1', by simp⟩
      · go_wp2_with fail
        · go_meet
          exact ⟨false, i1, rfl, h1, hm1, Nat.le_refl _, l1', by simp⟩
        · refine (take5 k [123] i1 l1' bad1 _ h1).mono ?_
          rintro e w3 (⟨rfl, ⟨hbt, hl⟩, h3, hm3⟩ | ⟨rfl, h3, hm3⟩)
          · go_wp2_with fail
            go_meet
            exact ⟨true, i1 + 1, by first | rfl | simp [*], by rw [hbt]; exact h3, hm1.trans hm3, by omega, by omega, fun _ => h7⟩
          · go_wp2_with fail
            go_meet
            exact ⟨false, i1, rfl, h3, hm1.trans hm3, Nat.le_refl _, l1', by simp⟩
    · have h7' : ¬ (7 : Int) < t.length := by omega
      go_wp2_with fail
      go_meet
      exact ⟨false, i1, rfl, h1, hm1, Nat.le_refl _, l1', by simp⟩
  case rest =>
    obtain ⟨bb, i2, rfl, h2, m2, l2, l2', hbb⟩ := hcut
    have a2 := adv5 a1 (fun h => h) l2
    have o2 : i ≤ i2 := by omega
    have hw2 : w.heap.size ≤ wc.heap.size := m2.size
    generalize hwc : wc = w2 at *
    clear hwc
    cases bb
    · go_wp2_with fail
      refine (name5 k i2 l2' bad1 _ h2).mono ?_
      rintro e w11 ⟨⟨n11, rfl, hn11⟩, i11, bad11, h11, hm11, l11, l11', b11, s11⟩
      have m12 := m2.trans hm11
      have a11 := adv5 a2 b11 l11
      have o11 := Nat.le_trans o2 l11
      go_wp2_with fail
      refine (take5 k [40] i11 l11' bad11 _ h11).mono ?_
      rintro e w13 (⟨rfl, ⟨hbt13, hl13⟩, h13, hm13⟩ | ⟨rfl, h13, hm13⟩)
      · have m14 := m12.trans hm13
        have a13 : false = true ∨ i < i11 + 1 := .inr (by have := o11; omega)
        have o13 : i ≤ i11 + 1 := by have := o11; omega
        have wF16 : w.heap.size ≤ w13.heap.size := m14.size
        have f16f := heap_alloc_new w13 (.cells #[.string ⟨t.toArray⟩, .string ⟨n11.toArray⟩, .slice none 0 0, .pointer none, .slice none 0 0] 109)
        have h16 := h13.mv (Mv.alloc (X := fun _ => False) w13 (.cells #[.string ⟨t.toArray⟩, .string ⟨n11.toArray⟩, .slice none 0 0, .pointer none, .slice none 0 0] 109))
        have m16 := m14.more (.cells #[.string ⟨t.toArray⟩, .string ⟨n11.toArray⟩, .slice none 0 0, .pointer none, .slice none 0 0] 109)
        have sz16 : w13.heap.size < (w13.alloc (.cells #[.string ⟨t.toArray⟩, .string ⟨n11.toArray⟩, .slice none 0 0, .pointer none, .slice none 0 0] 109)).heap.size := by simp
        go_wp2_with fail
        generalize w13.alloc (.cells #[.string ⟨t.toArray⟩, .string ⟨n11.toArray⟩, .slice none 0 0, .pointer none, .slice none 0 0] 109) = v16 at *
        generalize w13.heap.size = F16 at *
        have wB15 : w.heap.size ≤ v16.heap.size := m16.size
        have FB15 : F16 < v16.heap.size := sz16
        have hRs := R5_lt (k := k) (i := i) (i1 := (i11 + 1)) (bad1 := false) (by omega) (.inr (by omega))
        have hR1 : R5 k i false ≤ k.ws.length + 1 := by simp only [R5]; simp
        go_loopg [8] (R5 k (i11 + 1) false) (fun g s8 wr => ∃ (i' : Nat) (bad' : Bool) (v : Value) (m : Nat) (xs : List Value), P5 k wr i' bad' ∧ Mv (X5 k) w wr ∧ wr.heap[F16]? = some (.cells #[.string ⟨t.toArray⟩, .string ⟨n11.toArray⟩, v, .pointer none, .slice none 0 0] 109 (0, 0)) ∧ wr.ownsRow v16.heap.size 103 3 v m xs ∧ v16.heap.size ≤ wr.heap.size ∧ i < i' ∧ i' ≤ k.ws.length ∧ m + R5 k i' bad' ≤ k.ws.length + 2 ∧ R5 k i' bad' ≤ g)
        case atStart => exact ⟨(i11 + 1), false, _, 0, [], h16, m16, f16f, World.ownsRow_nil _ _ _ _, Nat.le_refl _, by omega, by omega, by omega, Nat.le_refl _⟩
        case round =>
          obtain ⟨i', bad', v, m, xs, hP, hM, hf, hr, hsB, hlt, hle, hmm, hg⟩ := hrel
          obtain ⟨sa, sc, rfl⟩ := row_form hr
          obtain ⟨dpL, c0, c1, c2, c3, c4, cf⟩ := hP.pcells
          cases bad'
          · go_wp2_with fail
            refine (take5 k [41] i' hle false _ hP).mono ?_
            rintro e w17 (⟨rfl, ⟨hbt17, hl17⟩, h17, hm17⟩ | ⟨rfl, h17, hm17⟩)
            · have f18f := (hm17.same _ (heap_lt hf) (notX h wF16)).trans hf
              have r18r := row_other hr hm17 (X5_type hP (by decide) (by decide))
              have m18 := hM.trans hm17
              have sB18 := Nat.le_trans hsB hm17.size
              clear hf hr
              have a17 : false = true ∨ i < i' + 1 := .inr (by have := (Nat.le_of_lt hlt); omega)
              have o17 : i ≤ i' + 1 := by have := (Nat.le_of_lt hlt); omega
              go_wp2_with fail
              refine (see5 k [123] (i' + 1) (by omega) false _ h17).mono ?_
              rintro e w19 ⟨bs, rfl, hm19, hbs⟩
              have hh19 := h17.mv hm19
              have hx19 := hm19.toX (k := k)
              have f20f := (hx19.same _ (heap_lt f18f) (notX h wF16)).trans f18f
              have r20r := row_other r18r hx19 (X5_type h17 (by decide) (by decide))
              have m20 := m18.trans hx19
              have sB20 := Nat.le_trans sB18 hx19.size
              clear f18f r18r
              cases bs
              · obtain ⟨dpB, g0, g1, g2, g3, g4, gf⟩ := hh19.pcells
                go_wp2_with fail
                have hzz := m20.trans (Mv.setCell (X := X5 k) w19 (g := k.P) (i := 2) (.bool true) (.inl rfl))
                refine bodyPost_end (v := .tuple #[]) (by simp [results, Tryz.results26, go_sem]) rfl ⟨rfl, k, ⟨rfl, rfl, rfl, rfl, rfl⟩, (i' + 1), true, hh19.set2 true, (hL.mv h hzz).more.more, hzz.old hL, by omega, (by omega), .inl rfl⟩
              · go_wp2_with fail
                refine (statAny k (i' + 1) false _ (by omega) hh19).mono ?_
                rintro e w21 ⟨⟨b21, rfl⟩, i21, bad21, h21, hm21, l21, l21', bb21, s21⟩
                have f22f := (hm21.same _ (heap_lt f20f) (notX h wF16)).trans f20f
                have r22r := row_other r20r hm21 (X5_type hh19 (by decide) (by decide))
                have m22 := m20.trans hm21
                have sB22 := Nat.le_trans sB20 hm21.size
                clear f20f r20r
                have a21 := adv5 a17 bb21 l21
                have o21 := Nat.le_trans o17 l21
                have x24_0 : w21.cell? ⟨F16, 0, none⟩ = some (.string ⟨t.toArray⟩) := by unfold World.cell?; rw [f22f]; rfl
                have x24_1 : w21.cell? ⟨F16, 1, none⟩ = some (.string ⟨n11.toArray⟩) := by unfold World.cell?; rw [f22f]; rfl
                have x24_2 : w21.cell? ⟨F16, 2, none⟩ = some (.slice sa m sc) := by unfold World.cell?; rw [f22f]; rfl
                have x24_3 : w21.cell? ⟨F16, 3, none⟩ = some (.pointer none) := by unfold World.cell?; rw [f22f]; rfl
                have x24_4 : w21.cell? ⟨F16, 4, none⟩ = some (.slice none 0 0) := by unfold World.cell?; rw [f22f]; rfl
                have x24_f : ∀ i, w21.frozen? ⟨F16, i, none⟩ = false := fun i => by unfold World.frozen?; rw [f22f]; rfl
                go_wp2_with fail
                have e23 : Mv (fun j => j = F16) w21 (w21.setCell ⟨F16, 3, none⟩ (.pointer (some ⟨b21, 0, none⟩))) := (Mv.setCell (X := fun j => j = F16) _ _ rfl)
                have g23 : Mv (fun j => w.heap.size ≤ j) w21 (w21.setCell ⟨F16, 3, none⟩ (.pointer (some ⟨b21, 0, none⟩))) := e23.mono (fun _ j hj => by rw [hj]; exact wF16)
                have h23 := h.fresh h21 g23
                have m23 := m22.newer g23
                have f23f : (w21.setCell ⟨F16, 3, none⟩ (.pointer (some ⟨b21, 0, none⟩))).heap[F16]? = some (.cells #[.string ⟨t.toArray⟩, .string ⟨n11.toArray⟩, .slice sa m sc, .pointer (some ⟨b21, 0, none⟩), .slice none 0 0] 109 (0, 0)) := (set_same f22f)
                have r23r := row_other r22r e23 (fun j cur hj _ hc => by subst hj; rw [f22f] at hc; cases hc)
                have sB23 := Nat.le_trans sB22 g23.size
                clear x24_0 x24_1 x24_2 x24_3 x24_4 x24_f
                generalize w21.setCell ⟨F16, 3, none⟩ (.pointer (some ⟨b21, 0, none⟩)) = v23 at *
                have L25 := hL.mv h m23
                obtain ⟨⟨u1, x1, ra1, rb1⟩, ⟨u2, x2, ra2, rb2⟩, ⟨u3, x3, ra3, rb3⟩, ⟨u4, x4, ra4, rb4⟩, -, -⟩ := id L25
                have Ld25 : Ls5 k B c v23.drew := L25.mv h23 (Mv.drew _)
                have Pd25 : P5 k v23.drew i21 bad21 := h23.mv (Mv.drew _)
                have rd25 : v23.drew.ownsRow B 109 5 k.v3 u3 x3 := ra3
                have fd25 : v23.drew.heap[F16]? = some (.cells #[.string ⟨t.toArray⟩, .string ⟨n11.toArray⟩, .slice sa m sc, .pointer (some ⟨b21, 0, none⟩), .slice none 0 0] 109 (0, 0)) := f23f
                obtain ⟨dp25, -, -, -, pp25, -, p25f⟩ := h23.pcells
                obtain ⟨nn25, dd25, qq250, qq251, qq252, qq253, -, -, q25f⟩ := h23.qall
                have q25fd : ∀ i, v23.drew.frozen? ⟨k.Q, i, none⟩ = false := q25f
                have pc25 : v23.cell? ⟨k.P, 3, none⟩ = some (.pointer (some ⟨k.Q, 0, none⟩)) := pp25
                have pc25a : ∀ o, (v23.alloc o).cell? ⟨k.P, 3, none⟩ = some (.pointer (some ⟨k.Q, 0, none⟩)) := fun o => cell_alloc pc25 o
                have qc25 : v23.cell? ⟨k.Q, 2, none⟩ = some (k.v3) := qq252
                have qc25a : ∀ o, (v23.alloc o).cell? ⟨k.Q, 2, none⟩ = some (k.v3) := fun o => cell_alloc qc25 o
                clear pp25 qq250 qq251 qq252 qq253
                have y25_0 : v23.cell? ⟨F16, 0, none⟩ = some (.string ⟨t.toArray⟩) := by unfold World.cell?; rw [f23f]; rfl
                have y25_0a : ∀ o, (v23.alloc o).cell? ⟨F16, 0, none⟩ = some (.string ⟨t.toArray⟩) := fun o => cell_alloc y25_0 o
                have y25_1 : v23.cell? ⟨F16, 1, none⟩ = some (.string ⟨n11.toArray⟩) := by unfold World.cell?; rw [f23f]; rfl
                have y25_1a : ∀ o, (v23.alloc o).cell? ⟨F16, 1, none⟩ = some (.string ⟨n11.toArray⟩) := fun o => cell_alloc y25_1 o
                have y25_2 : v23.cell? ⟨F16, 2, none⟩ = some (.slice sa m sc) := by unfold World.cell?; rw [f23f]; rfl
                have y25_2a : ∀ o, (v23.alloc o).cell? ⟨F16, 2, none⟩ = some (.slice sa m sc) := fun o => cell_alloc y25_2 o
                have y25_3 : v23.cell? ⟨F16, 3, none⟩ = some (.pointer (some ⟨b21, 0, none⟩)) := by unfold World.cell?; rw [f23f]; rfl
                have y25_3a : ∀ o, (v23.alloc o).cell? ⟨F16, 3, none⟩ = some (.pointer (some ⟨b21, 0, none⟩)) := fun o => cell_alloc y25_3 o
                have y25_4 : v23.cell? ⟨F16, 4, none⟩ = some (.slice none 0 0) := by unfold World.cell?; rw [f23f]; rfl
                have y25_4a : ∀ o, (v23.alloc o).cell? ⟨F16, 4, none⟩ = some (.slice none 0 0) := fun o => cell_alloc y25_4 o
                obtain ⟨j0, hj0, hz0, hz1, hz2⟩ := info_parts info109
                go_upto_region 29 with fail
                go_cut [] from 202 to 217 (fun wx => ∃ v, P5 { k with v3 := v } wx i21 bad21 ∧ Ls5 { k with v3 := v } B (c + 1) wx ∧ Mv (fun j => B ≤ j) v23.drew wx ∧ ∃ a c', v = .slice a (u3 + 1) c')
                case first =>
                  refine wp_region_any (by kernel_rfl) (wpC.any (n := 16) (C := fun w' => w'.cell? ⟨k.P, 3, none⟩ = some (.pointer (some ⟨k.Q, 0, none⟩)) ∧ w'.cell? ⟨k.Q, 2, none⟩ = some (k.v3) ∧ (w'.cell? ⟨F16, 0, none⟩ = some (.string ⟨t.toArray⟩) ∧ w'.cell? ⟨F16, 1, none⟩ = some (.string ⟨n11.toArray⟩) ∧ w'.cell? ⟨F16, 2, none⟩ = some (.slice sa m sc) ∧ w'.cell? ⟨F16, 3, none⟩ = some (.pointer (some ⟨b21, 0, none⟩)) ∧ w'.cell? ⟨F16, 4, none⟩ = some (.slice none 0 0))) _ _ _ _ ?_)
                  try (change wpC _ _ _ _ _ _ _ _ _ (World.drew _))
                  have hC25 : (fun w' : World => w'.cell? ⟨k.P, 3, none⟩ = some (.pointer (some ⟨k.Q, 0, none⟩)) ∧ w'.cell? ⟨k.Q, 2, none⟩ = some (k.v3) ∧ (w'.cell? ⟨F16, 0, none⟩ = some (.string ⟨t.toArray⟩) ∧ w'.cell? ⟨F16, 1, none⟩ = some (.string ⟨n11.toArray⟩) ∧ w'.cell? ⟨F16, 2, none⟩ = some (.slice sa m sc) ∧ w'.cell? ⟨F16, 3, none⟩ = some (.pointer (some ⟨b21, 0, none⟩)) ∧ w'.cell? ⟨F16, 4, none⟩ = some (.slice none 0 0))) v23.drew := ⟨pc25, qc25, y25_0, y25_1, y25_2, y25_3, y25_4⟩
                  refine wpC_take (i := 0) (v := ?v25x0) rfl (by kernel_rfl) (fun _ _ _ h => h) hC25 (Or.inl ⟨by rfl, ?hy25x0⟩) ?rest25x0
                  case hy25x0 => (rintro w' ⟨e1, e2, e3⟩; go_simp; try with_reducible rfl)
                  refine wpC_take (i := 1) (v := ?v25x1) rfl (by kernel_rfl) (fun _ _ _ h => h) hC25 (Or.inl ⟨by rfl, ?hy25x1⟩) ?rest25x1
                  case hy25x1 => (rintro w' ⟨e1, e2, e3⟩; go_simp; try with_reducible rfl)
                  refine wpC_take (i := 2) (v := ?v25x2) rfl (by kernel_rfl) (fun _ _ _ h => h) hC25 (Or.inl ⟨by rfl, ?hy25x2⟩) ?rest25x2
                  case hy25x2 => (rintro w' ⟨e1, e2, e3⟩; go_simp; try with_reducible rfl)
                  refine wpC_take (i := 3) (v := ?v25x3) rfl (by kernel_rfl) (fun _ _ _ h => h) hC25 (Or.inl ⟨by rfl, ?hy25x3⟩) ?rest25x3
                  case hy25x3 => (rintro w' ⟨e1, e2, e3⟩; go_simp; try with_reducible rfl)
                  refine wpC_take (i := 4) (v := ?v25x4) rfl (by kernel_rfl) (fun _ _ _ h => h) hC25 (Or.inl ⟨by rfl, ?hy25x4⟩) ?rest25x4
                  case hy25x4 => (rintro w' ⟨e1, e2, e3⟩; go_simp; try with_reducible rfl)
                  refine wpC_take (i := 5) (v := ?v25x5) rfl (by kernel_rfl) (fun _ _ _ h => h) hC25 (Or.inl ⟨by rfl, ?hy25x5⟩) ?rest25x5
                  case hy25x5 => (rintro w' ⟨e1, e2, e3⟩; go_simp; try with_reducible rfl)
                  refine wpC_take (i := 6) (v := ?v25x6) rfl (by kernel_rfl) (fun _ _ _ h => h) hC25 (Or.inl ⟨by rfl, ?hy25x6⟩) ?rest25x6
                  case hy25x6 => (rintro w' ⟨e1, e2, e3⟩; go_simp; try with_reducible rfl)
                  refine wpC_take (i := 7) (v := ?v25x7) rfl (by kernel_rfl) (fun _ _ _ h => h) hC25 (Or.inl ⟨by rfl, ?hy25x7⟩) ?rest25x7
                  case hy25x7 => (rintro w' ⟨e1, e2, e3⟩; go_simp; try with_reducible rfl)
                  refine wpC_take (i := 8) (v := ?v25x8) rfl (by kernel_rfl) (fun _ _ _ h => h) hC25 (Or.inl ⟨by rfl, ?hy25x8⟩) ?rest25x8
                  case hy25x8 => (rintro w' ⟨e1, e2, e3⟩; go_simp; try with_reducible rfl)
                  refine wpC_take (i := 9) (v := ?v25x9) rfl (by kernel_rfl) (fun _ _ _ h => h) hC25 (Or.inl ⟨by rfl, ?hy25x9⟩) ?rest25x9
                  case hy25x9 => (rintro w' ⟨e1, e2, e3⟩; go_simp; try with_reducible rfl)
                  refine wpC_take (i := 10) (v := ?v25x10) rfl (by kernel_rfl) (fun _ _ _ h => h) hC25 (Or.inl ⟨by rfl, ?hy25x10⟩) ?rest25x10
                  case hy25x10 => (rintro w' ⟨e1, e2, e3⟩; go_simp; try with_reducible rfl)
                  refine wpC_take (i := 11) (v := ?v25x11) rfl (by kernel_rfl) (fun _ _ _ h => h) hC25 (Or.inl ⟨by rfl, ?hy25x11⟩) ?rest25x11
                  case hy25x11 => (rintro w' ⟨e1, e2, e3⟩; go_simp; try with_reducible rfl)
                  clear hC25
                  refine wpC_one (i := 12) (by kernel_rfl) rfl (fun K hK => ?_)
                  go_simp
                  refine hK _ _ (fun _ => ⟨pc25a _, qc25a _, y25_0a _, y25_1a _, y25_2a _, y25_3a _, y25_4a _⟩) ?_
                  clear hK K
                  refine wpC_one (i := 13) (by kernel_rfl) rfl (fun K hK => ?_)
                  refine step_append_lies _ rfl _ _ 45 rfl B 109 j0 (.agg #[.string ⟨#[]⟩, .string ⟨#[]⟩, .slice none 0 0, .pointer none, .slice none 0 0]) 5 88 Tryz.underlying45 hj0 hz0 hz1 hz2 rfl (by decide) k.v3 u3 x3 rfl (rd25.alloc _) _ 1 1 [.string ⟨t.toArray⟩, .string ⟨n11.toArray⟩, .slice sa m sc, .pointer (some ⟨b21, 0, none⟩), .slice none 0 0] rfl rfl (World.news_of_block (heap_alloc_new v23.drew _)) (by simp [Value.oneCell']) (by decide) (by unfold maxLen; omega) (by omega) (by have := Ld25.low.2.2; simp at this ⊢; omega) _ rfl ?_
                  intro gg25 cap25 wz25 hown25 hgr25 hat25 hgl25
                  obtain ⟨Pn25, mn25⟩ := Ld25.near3 Pd25 rd25 hgr25
                  obtain ⟨dq25, -, -, -, pz253, -, pz25f⟩ := Pn25.pcells
                  obtain ⟨nz25, ddz25, qz250, qz251, qz252, qz253, -, -, qz25f⟩ := Pn25.qall
                  have fz25 := (mn25.same _ (heap_lt fd25) (fun e => by have := hL.lt3 _ e; have := wF16; omega)).trans fd25
                  refine hK _ _ (fun _ => ⟨pz253, qz252, by unfold World.cell?; rw [fz25]; rfl, by unfold World.cell?; rw [fz25]; rfl, by unfold World.cell?; rw [fz25]; rfl, by unfold World.cell?; rw [fz25]; rfl, by unfold World.cell?; rw [fz25]; rfl⟩) ?_
                  clear hK K
                  refine wpC_one (i := 14) (by kernel_rfl) rfl (fun K hK => ?_)
                  go_simp
                  refine hK _ _ (fun _ => ⟨pz253, qz252, by unfold World.cell?; rw [fz25]; rfl, by unfold World.cell?; rw [fz25]; rfl, by unfold World.cell?; rw [fz25]; rfl, by unfold World.cell?; rw [fz25]; rfl, by unfold World.cell?; rw [fz25]; rfl⟩) ?_
                  clear hK K
                  refine wpC_one (i := 15) (by kernel_rfl) rfl (fun K hK => ?_)
                  go_simp
                  refine hK _ _ (fun _ => ⟨pz253, qz252, by unfold World.cell?; rw [fz25]; rfl, by unfold World.cell?; rw [fz25]; rfl, by unfold World.cell?; rw [fz25]; rfl, by unfold World.cell?; rw [fz25]; rfl, by unfold World.cell?; rw [fz25]; rfl⟩) ?_
                  clear hK K
                  refine wpC_one (i := 16) (by kernel_rfl) rfl (fun K hK => ?_)
                  go_simp
                  refine hK _ _ (fun h => absurd h (by decide)) ?_
                  clear hK K
                  refine wpC_done (by kernel_rfl) ?_
                  go_wp2_with fail
                  go_meet
                  obtain ⟨k1, k2, k3⟩ := Ld25.push3 Pd25 rd25 rb3 hgr25 hown25
                  exact ⟨_, k1, k2, k3, _, _, rfl⟩
                case rest =>
                  obtain ⟨v, P26, L26, M26, sa26, sc26, hsv26⟩ := hcut
                  clear L25 Ld25 Pd25 rd25 fd25 p25f q25f q25fd
                  clear pc25 pc25a qc25 qc25a y25_0 y25_0a y25_1 y25_1a y25_2 y25_2a y25_3 y25_3a y25_4 y25_4a
                  have Ld26 : Ls5 { k with v3 := v } B (c + 1) wc.drew := L26.mv P26 (Mv.drew _)
                  have Pd26 : P5 { k with v3 := v } wc.drew i21 bad21 := P26.mv (Mv.drew _)
                  obtain ⟨-, -, -, ⟨u5, x5, rd26, rb5⟩, -, -⟩ := id Ld26
                  obtain ⟨dp26, -, -, -, pp26, -, p26f⟩ := P26.pcells
                  obtain ⟨nn26, dd26, qq260, qq261, qq262, qq263, -, -, q26f⟩ := P26.qall
                  have q26fd : ∀ i, wc.drew.frozen? ⟨k.Q, i, none⟩ = false := q26f
                  have pc26 : wc.cell? ⟨k.P, 3, none⟩ = some (.pointer (some ⟨k.Q, 0, none⟩)) := pp26
                  have pc26a : ∀ o, (wc.alloc o).cell? ⟨k.P, 3, none⟩ = some (.pointer (some ⟨k.Q, 0, none⟩)) := fun o => cell_alloc pc26 o
                  have qc26 : wc.cell? ⟨k.Q, 3, none⟩ = some (k.v4) := qq263
                  have qc26a : ∀ o, (wc.alloc o).cell? ⟨k.Q, 3, none⟩ = some (k.v4) := fun o => cell_alloc qc26 o
                  have qb26 : wc.cell? ⟨k.Q, 2, none⟩ = some (.slice sa26 (u3 + 1) sc26) := by rw [← hsv26]; exact qq262
                  have qb26a : ∀ o, (wc.alloc o).cell? ⟨k.Q, 2, none⟩ = some (.slice sa26 (u3 + 1) sc26) := fun o => cell_alloc qb26 o
                  clear pp26 qq260 qq261 qq262 qq263
                  obtain ⟨j1, hj1, hy0, hy1, hy2⟩ := info_parts info106
                  go_upto_region 30 with fail
                  refine wp_region_any (by kernel_rfl) (wpC.any (n := 25) (C := fun w' => w'.cell? ⟨k.P, 3, none⟩ = some (.pointer (some ⟨k.Q, 0, none⟩)) ∧ w'.cell? ⟨k.Q, 3, none⟩ = some k.v4 ∧ w'.cell? ⟨k.Q, 2, none⟩ = some (.slice sa26 (u3 + 1) sc26)) _ _ _ _ ?_)
                  try (change wpC _ _ _ _ _ _ _ _ _ (World.drew _))
                  have hC26 : (fun w' : World => w'.cell? ⟨k.P, 3, none⟩ = some (.pointer (some ⟨k.Q, 0, none⟩)) ∧ w'.cell? ⟨k.Q, 3, none⟩ = some k.v4 ∧ w'.cell? ⟨k.Q, 2, none⟩ = some (.slice sa26 (u3 + 1) sc26)) wc.drew := ⟨pc26, qc26, qb26⟩
                  refine wpC_take (i := 0) (v := ?v26x0) rfl (by kernel_rfl) (fun _ _ _ h => h) hC26 (Or.inl ⟨by rfl, ?hy26x0⟩) ?rest26x0
                  case hy26x0 => (rintro w' ⟨e1, e2, e3⟩; go_simp; try with_reducible rfl)
                  refine wpC_take (i := 1) (v := ?v26x1) rfl (by kernel_rfl) (fun _ _ _ h => h) hC26 (Or.inl ⟨by rfl, ?hy26x1⟩) ?rest26x1
                  case hy26x1 => (rintro w' ⟨e1, e2, e3⟩; go_simp; try with_reducible rfl)
                  refine wpC_take (i := 2) (v := ?v26x2) rfl (by kernel_rfl) (fun _ _ _ h => h) hC26 (Or.inl ⟨by rfl, ?hy26x2⟩) ?rest26x2
                  case hy26x2 => (rintro w' ⟨e1, e2, e3⟩; go_simp; try with_reducible rfl)
                  refine wpC_take (i := 3) (v := ?v26x3) rfl (by kernel_rfl) (fun _ _ _ h => h) hC26 (Or.inl ⟨by rfl, ?hy26x3⟩) ?rest26x3
                  case hy26x3 => (rintro w' ⟨e1, e2, e3⟩; go_simp; try with_reducible rfl)
                  refine wpC_take (i := 4) (v := ?v26x4) rfl (by kernel_rfl) (fun _ _ _ h => h) hC26 (Or.inl ⟨by rfl, ?hy26x4⟩) ?rest26x4
                  case hy26x4 => (rintro w' ⟨e1, e2, e3⟩; go_simp; try with_reducible rfl)
                  refine wpC_take (i := 5) (v := ?v26x5) rfl (by kernel_rfl) (fun _ _ _ h => h) hC26 (Or.inl ⟨by rfl, ?hy26x5⟩) ?rest26x5
                  case hy26x5 => (rintro w' ⟨e1, e2, e3⟩; go_simp; try with_reducible rfl)
                  refine wpC_take (i := 6) (v := ?v26x6) rfl (by kernel_rfl) (fun _ _ _ h => h) hC26 (Or.inl ⟨by rfl, ?hy26x6⟩) ?rest26x6
                  case hy26x6 => (rintro w' ⟨e1, e2, e3⟩; go_simp; try with_reducible rfl)
                  refine wpC_take (i := 7) (v := ?v26x7) rfl (by kernel_rfl) (fun _ _ _ h => h) hC26 (Or.inl ⟨by rfl, ?hy26x7⟩) ?rest26x7
                  case hy26x7 => (rintro w' ⟨e1, e2, e3⟩; go_simp; try with_reducible rfl)
                  refine wpC_take (i := 8) (v := ?v26x8) rfl (by kernel_rfl) (fun _ _ _ h => h) hC26 (Or.inl ⟨by rfl, ?hy26x8⟩) ?rest26x8
                  case hy26x8 => (rintro w' ⟨e1, e2, e3⟩; go_simp; try with_reducible rfl)
                  refine wpC_take (i := 9) (v := ?v26x9) rfl (by kernel_rfl) (fun _ _ _ h => h) hC26 (Or.inl ⟨by rfl, ?hy26x9⟩) ?rest26x9
                  case hy26x9 => (rintro w' ⟨e1, e2, e3⟩; go_simp; try with_reducible rfl)
                  refine wpC_take (i := 10) (v := ?v26x10) rfl (by kernel_rfl) (fun _ _ _ h => h) hC26 (Or.inl ⟨by rfl, ?hy26x10⟩) ?rest26x10
                  case hy26x10 => (rintro w' ⟨e1, e2, e3⟩; go_simp; try with_reducible rfl)
                  refine wpC_take (i := 11) (v := ?v26x11) rfl (by kernel_rfl) (fun _ _ _ h => h) hC26 (Or.inl ⟨by rfl, ?hy26x11⟩) ?rest26x11
                  case hy26x11 => (rintro w' ⟨e1, e2, e3⟩; go_simp; try with_reducible rfl)
                  refine wpC_take (i := 12) (v := ?v26x12) rfl (by kernel_rfl) (fun _ _ _ h => h) hC26 (Or.inl ⟨by rfl, ?hy26x12⟩) ?rest26x12
                  case hy26x12 => (rintro w' ⟨e1, e2, e3⟩; go_simp; try with_reducible rfl)
                  refine wpC_take (i := 13) (v := ?v26x13) rfl (by kernel_rfl) (fun _ _ _ h => h) hC26 (Or.inl ⟨by rfl, ?hy26x13⟩) ?rest26x13
                  case hy26x13 => (rintro w' ⟨e1, e2, e3⟩; go_simp; try with_reducible rfl)
                  refine wpC_take (i := 14) (v := ?v26x14) rfl (by kernel_rfl) (fun _ _ _ h => h) hC26 (Or.inl ⟨by rfl, ?hy26x14⟩) ?rest26x14
                  case hy26x14 => (rintro w' ⟨e1, e2, e3⟩; go_simp; try with_reducible rfl)
                  refine wpC_take (i := 15) (v := ?v26x15) rfl (by kernel_rfl) (fun _ _ _ h => h) hC26 (Or.inl ⟨by rfl, ?hy26x15⟩) ?rest26x15
                  case hy26x15 => (rintro w' ⟨e1, e2, e3⟩; go_simp; try with_reducible rfl)
                  refine wpC_take (i := 16) (v := ?v26x16) rfl (by kernel_rfl) (fun _ _ _ h => h) hC26 (Or.inl ⟨by rfl, ?hy26x16⟩) ?rest26x16
                  case hy26x16 => (rintro w' ⟨e1, e2, e3⟩; go_simp; try with_reducible rfl)
                  refine wpC_take (i := 17) (v := ?v26x17) rfl (by kernel_rfl) (fun _ _ _ h => h) hC26 (Or.inl ⟨by rfl, ?hy26x17⟩) ?rest26x17
                  case hy26x17 => (rintro w' ⟨e1, e2, e3⟩; go_simp; try with_reducible rfl)
                  refine wpC_take (i := 18) (v := ?v26x18) rfl (by kernel_rfl) (fun _ _ _ h => h) hC26 (Or.inl ⟨by rfl, ?hy26x18⟩) ?rest26x18
                  case hy26x18 => (rintro w' ⟨e1, e2, e3⟩; go_simp; try with_reducible rfl)
                  refine wpC_take (i := 19) (v := ?v26x19) rfl (by kernel_rfl) (fun _ _ _ h => h) hC26 (Or.inl ⟨by rfl, ?hy26x19⟩) ?rest26x19
                  case hy26x19 => (rintro w' ⟨e1, e2, e3⟩; go_simp; try with_reducible rfl)
                  refine wpC_take (i := 20) (v := ?v26x20) rfl (by kernel_rfl) (fun _ _ _ h => h) hC26 (Or.inl ⟨by rfl, ?hy26x20⟩) ?rest26x20
                  case hy26x20 => (rintro w' ⟨e1, e2, e3⟩; go_simp; try with_reducible rfl)
                  clear hC26
                  refine wpC_one (i := 21) (by kernel_rfl) rfl (fun K hK => ?_)
                  go_simp
                  refine hK _ _ (fun _ => ⟨pc26a _, qc26a _, qb26a _⟩) ?_
                  clear hK K
                  refine wpC_one (i := 22) (by kernel_rfl) rfl (fun K hK => ?_)
                  refine step_append_lies _ rfl _ _ 46 rfl B 106 j1 (.agg #[.int .i64 0, .int .i64 0]) 2 16 Tryz.underlying46 hj1 hy0 hy1 hy2 rfl (by decide) k.v4 u5 x5 rfl (rd26.alloc _) _ 1 1 [.int .i64 2, .int .i64 _] rfl rfl (World.news_of_block (heap_alloc_new wc.drew _)) (by simp [Value.oneCell']) (by decide) (by unfold maxLen; omega) (by omega) (by have := Ld26.low.2.2; simp at this ⊢; omega) _ rfl ?_
                  intro gg26 cap26 wz26 hown26 hgr26 hat26 hgl26
                  obtain ⟨Pn26, mn26⟩ := Ld26.near4 Pd26 rd26 hgr26
                  obtain ⟨pz263, qz263, qz26b, qz26f⟩ : wz26.cell? ⟨k.P, 3, none⟩ = some (.pointer (some ⟨k.Q, 0, none⟩)) ∧ wz26.cell? ⟨k.Q, 3, none⟩ = some k.v4 ∧ wz26.cell? ⟨k.Q, 2, none⟩ = some (.slice sa26 (u3 + 1) sc26) ∧ ∀ i, wz26.frozen? ⟨k.Q, i, none⟩ = false := by
                    obtain ⟨dp, -, -, -, c3, -, cf⟩ := Pn26.pcells
                    obtain ⟨n1, n2, m0, m1, m2, m3, -, -, mf⟩ := Pn26.qall
                    exact ⟨c3, m3, by rw [← hsv26]; exact m2, mf⟩
                  refine hK _ _ (fun _ => ⟨pz263, qz263, qz26b⟩) ?_
                  clear hK K
                  refine wpC_one (i := 23) (by kernel_rfl) rfl (fun K hK => ?_)
                  go_simp
                  refine hK _ _ (fun _ => ⟨pz263, qz263, qz26b⟩) ?_
                  clear hK K
                  refine wpC_one (i := 24) (by kernel_rfl) rfl (fun K hK => ?_)
                  go_simp
                  refine hK _ _ (fun _ => ⟨pz263, qz263, qz26b⟩) ?_
                  clear hK K
                  refine wpC_one (i := 25) (by kernel_rfl) rfl (fun K hK => ?_)
                  go_simp
                  refine hK _ _ (fun h => absurd h (by decide)) ?_
                  clear hK K
                  refine wpC_done (by kernel_rfl) ?_
                  obtain ⟨k1, k2, k3⟩ := Ld26.push4 Pd26 rd26 rb5 hgr26 hown26
                  go_wp2_with fail
                  refine bodyPost_end (v := .tuple #[]) (by simp [results, Tryz.results26, go_sem]) rfl ⟨rfl, _, ?_, i21, bad21, k1, k2, ((m23.drawn.old hL).trans M26).trans ((Mv.drew _).trans k3), o21, l21', a21⟩
                  exact ⟨rfl, rfl, rfl, rfl, rfl⟩
            · have f27f := (hm17.same _ (heap_lt hf) (notX h wF16)).trans hf
              have r27r := row_other hr hm17 (X5_type hP (by decide) (by decide))
              have m27 := hM.trans hm17
              have sB27 := Nat.le_trans hsB hm17.size
              clear hf hr
              have x29_0 : w17.cell? ⟨F16, 0, none⟩ = some (.string ⟨t.toArray⟩) := by unfold World.cell?; rw [f27f]; rfl
              have x29_1 : w17.cell? ⟨F16, 1, none⟩ = some (.string ⟨n11.toArray⟩) := by unfold World.cell?; rw [f27f]; rfl
              have x29_2 : w17.cell? ⟨F16, 2, none⟩ = some (.slice sa m sc) := by unfold World.cell?; rw [f27f]; rfl
              have x29_3 : w17.cell? ⟨F16, 3, none⟩ = some (.pointer none) := by unfold World.cell?; rw [f27f]; rfl
              have x29_4 : w17.cell? ⟨F16, 4, none⟩ = some (.slice none 0 0) := by unfold World.cell?; rw [f27f]; rfl
              have x29_f : ∀ i, w17.frozen? ⟨F16, i, none⟩ = false := fun i => by unfold World.frozen?; rw [f27f]; rfl
              cases m with
              | zero =>
                go_wp2_with fail
                clear x29_0 x29_1 x29_2 x29_3 x29_4 x29_f
                go_wp2_with fail
                refine (take5 k [112, 117, 98, 108, 105, 99] i' hle false _ h17).mono ?_
                intro e w30 hq
                obtain ⟨pb, ip, bp, rfl, hpp, hmp, lp, lp', rp⟩ : ∃ (pb : Bool) (ip : Nat) (bp : Bool), e = .returned (.bool pb) ∧ P5 k w30 ip bp ∧ Mv (X5 k) w17 w30 ∧ i' ≤ ip ∧ ip ≤ k.ws.length ∧ (false = true → bp = true) := by
                  have hl0 : i' ≤ k.ws.length := hle
                  rcases hq with ⟨rfl, ⟨hb1, hl1⟩, h3, hm3⟩ | ⟨rfl, h3, hm3⟩
                  · exact ⟨true, _, false, rfl, h3, hm3, by omega, by omega, by rw [hb1]; simp⟩
                  · exact ⟨false, _, _, rfl, h3, hm3, Nat.le_refl _, hl0, fun h => h⟩
                have f31f := (hmp.same _ (heap_lt f27f) (notX h wF16)).trans f27f
                have r31r := row_other r27r hmp (X5_type h17 (by decide) (by decide))
                have m31 := m27.trans hmp
                have sB31 := Nat.le_trans sB27 hmp.size
                clear f27f r27r
                have ap := adv5 (.inr hlt : false = true ∨ i < i') rp lp
                have op := Nat.le_trans (Nat.le_of_lt hlt) lp
                have hov32 : ∀ j, (Value.slice sa 0 sc).ownBlock = some j → j < w30.heap.size := fun j hj => (ownsRow_own r31r j hj).2.1
                have wF32 : w.heap.size ≤ w30.heap.size := m31.size
                have f32d := heap_alloc_new w30 (.cells #[.string ⟨#[]⟩, .string ⟨#[]⟩, .bool pb] 103)
                have f32f := at_alloc f31f (.cells #[.string ⟨#[]⟩, .string ⟨#[]⟩, .bool pb] 103)
                have ne32f : F16 ≠ w30.heap.size := by have := heap_lt f31f; omega
                have r32r := r31r.alloc (.cells #[.string ⟨#[]⟩, .string ⟨#[]⟩, .bool pb] 103)
                have h32 := hpp.mv (Mv.alloc (X := fun _ => False) w30 (.cells #[.string ⟨#[]⟩, .string ⟨#[]⟩, .bool pb] 103))
                have m32 := m31.more (.cells #[.string ⟨#[]⟩, .string ⟨#[]⟩, .bool pb] 103)
                have sz32 : w30.heap.size < (w30.alloc (.cells #[.string ⟨#[]⟩, .string ⟨#[]⟩, .bool pb] 103)).heap.size := by simp
                have sB32 := Nat.le_trans sB31 (Mv.alloc (X := fun _ => False) w30 (.cells #[.string ⟨#[]⟩, .string ⟨#[]⟩, .bool pb] 103)).size
                clear f31f r31r
                go_wp2_with fail
                generalize w30.alloc (.cells #[.string ⟨#[]⟩, .string ⟨#[]⟩, .bool pb] 103) = v32 at *
                generalize w30.heap.size = F32 at *
                refine (typ5 k ip lp' bp _ h32).mono ?_
                rintro e w33 ⟨⟨t33, rfl, ht33⟩, i33, bad33, h33, hm33, l33, l33', b33, s33⟩
                have f34f := (hm33.same _ (heap_lt f32f) (notX h wF16)).trans f32f
                have f34d := (hm33.same _ (heap_lt f32d) (notX h wF32)).trans f32d
                have r34r := row_other r32r hm33 (X5_type h32 (by decide) (by decide))
                have m34 := m32.trans hm33
                have sB34 := Nat.le_trans sB32 hm33.size
                clear f32f f32d r32r
                have a33 := adv5 ap b33 l33
                have o33 := Nat.le_trans op l33
                have x36_0 : w33.cell? ⟨F32, 0, none⟩ = some (.string ⟨#[]⟩) := by unfold World.cell?; rw [f34d]; rfl
                have x36_1 : w33.cell? ⟨F32, 1, none⟩ = some (.string ⟨#[]⟩) := by unfold World.cell?; rw [f34d]; rfl
                have x36_2 : w33.cell? ⟨F32, 2, none⟩ = some (.bool pb) := by unfold World.cell?; rw [f34d]; rfl
                have x36_f : ∀ i, w33.frozen? ⟨F32, i, none⟩ = false := fun i => by unfold World.frozen?; rw [f34d]; rfl
                go_wp2_with fail
                have e35 : Mv (fun j => j = F32) w33 (w33.setCell ⟨F32, 0, none⟩ (.string ⟨t33.toArray⟩)) := (Mv.setCell (X := fun j => j = F32) _ _ rfl)
                have g35 : Mv (fun j => w.heap.size ≤ j) w33 (w33.setCell ⟨F32, 0, none⟩ (.string ⟨t33.toArray⟩)) := e35.mono (fun _ j hj => by rw [hj]; exact wF32)
                have h35 := h.fresh h33 g35
                have m35 := m34.newer g35
                have f35d : (w33.setCell ⟨F32, 0, none⟩ (.string ⟨t33.toArray⟩)).heap[F32]? = some (.cells #[.string ⟨t33.toArray⟩, .string ⟨#[]⟩, .bool pb] 103 (0, 0)) := (set_same f34d)
                have f35f := (e35.same _ (heap_lt f34f) ne32f).trans f34f
                have r35r := ownsRow_keep r34r e35 (fun j hj hx => by have := hov32 j hj; omega)
                have sB35 := Nat.le_trans sB34 g35.size
                clear x36_0 x36_1 x36_2 x36_f
                generalize w33.setCell ⟨F32, 0, none⟩ (.string ⟨t33.toArray⟩) = v35 at *
                refine (name5 k i33 l33' bad33 _ h35).mono ?_
                rintro e w37 ⟨⟨n37, rfl, hn37⟩, i37, bad37, h37, hm37, l37, l37', b37, s37⟩
                have f38f := (hm37.same _ (heap_lt f35f) (notX h wF16)).trans f35f
                have f38d := (hm37.same _ (heap_lt f35d) (notX h wF32)).trans f35d
                have r38r := row_other r35r hm37 (X5_type h35 (by decide) (by decide))
                have m38 := m35.trans hm37
                have sB38 := Nat.le_trans sB35 hm37.size
                clear f35f f35d r35r
                have a37 := adv5 a33 b37 l37
                have o37 := Nat.le_trans o33 l37
                have x40_0 : w37.cell? ⟨F32, 0, none⟩ = some (.string ⟨t33.toArray⟩) := by unfold World.cell?; rw [f38d]; rfl
                have x40_1 : w37.cell? ⟨F32, 1, none⟩ = some (.string ⟨#[]⟩) := by unfold World.cell?; rw [f38d]; rfl
                have x40_2 : w37.cell? ⟨F32, 2, none⟩ = some (.bool pb) := by unfold World.cell?; rw [f38d]; rfl
                have x40_f : ∀ i, w37.frozen? ⟨F32, i, none⟩ = false := fun i => by unfold World.frozen?; rw [f38d]; rfl
                go_upto_region 25 with fail
                have e39 : Mv (fun j => j = F32) w37 (w37.setCell ⟨F32, 1, none⟩ (.string ⟨n37.toArray⟩)) := (Mv.setCell (X := fun j => j = F32) _ _ rfl)
                have g39 : Mv (fun j => w.heap.size ≤ j) w37 (w37.setCell ⟨F32, 1, none⟩ (.string ⟨n37.toArray⟩)) := e39.mono (fun _ j hj => by rw [hj]; exact wF32)
                have h39 := h.fresh h37 g39
                have m39 := m38.newer g39
                have f39d : (w37.setCell ⟨F32, 1, none⟩ (.string ⟨n37.toArray⟩)).heap[F32]? = some (.cells #[.string ⟨t33.toArray⟩, .string ⟨n37.toArray⟩, .bool pb] 103 (0, 0)) := (set_same f38d)
                have f39f := (e39.same _ (heap_lt f38f) ne32f).trans f38f
                have r39r := ownsRow_keep r38r e39 (fun j hj hx => by have := hov32 j hj; omega)
                have sB39 := Nat.le_trans sB38 g39.size
                clear x40_0 x40_1 x40_2 x40_f
                generalize w37.setCell ⟨F32, 1, none⟩ (.string ⟨n37.toArray⟩) = v39 at *
                have hRz : R5 k i37 bad37 < R5 k i' false := R5_lt (by omega) ((adv5 (adv5 (show bad33 = true ∨ i' < i33 from (s33 (by simp)).imp id (fun hs => by omega)) b37 l37) (fun h => h) (Nat.le_refl _)).imp id (fun hs => by omega))
                have x42_0 : v39.cell? ⟨F32, 0, none⟩ = some (.string ⟨t33.toArray⟩) := by unfold World.cell?; rw [f39d]; rfl
                have x42_1 : v39.cell? ⟨F32, 1, none⟩ = some (.string ⟨n37.toArray⟩) := by unfold World.cell?; rw [f39d]; rfl
                have x42_2 : v39.cell? ⟨F32, 2, none⟩ = some (.bool pb) := by unfold World.cell?; rw [f39d]; rfl
                have x42_f : ∀ i, v39.frozen? ⟨F32, i, none⟩ = false := fun i => by unfold World.frozen?; rw [f39d]; rfl
                have x43_0 : v39.cell? ⟨F16, 0, none⟩ = some (.string ⟨t.toArray⟩) := by unfold World.cell?; rw [f39f]; rfl
                have x43_1 : v39.cell? ⟨F16, 1, none⟩ = some (.string ⟨n11.toArray⟩) := by unfold World.cell?; rw [f39f]; rfl
                have x43_2 : v39.cell? ⟨F16, 2, none⟩ = some (.slice sa 0 sc) := by unfold World.cell?; rw [f39f]; rfl
                have x43_3 : v39.cell? ⟨F16, 3, none⟩ = some (.pointer none) := by unfold World.cell?; rw [f39f]; rfl
                have x43_4 : v39.cell? ⟨F16, 4, none⟩ = some (.slice none 0 0) := by unfold World.cell?; rw [f39f]; rfl
                have x43_f : ∀ i, v39.frozen? ⟨F16, i, none⟩ = false := fun i => by unfold World.frozen?; rw [f39f]; rfl
                obtain ⟨j0, hj0, hz0, hz1, hz2⟩ := info_parts info103
                go_wp2_with (at_builtin; refine wpList_append_lies _ rfl _ _ 44 rfl v16.heap.size 103 j0 (.agg #[.string ⟨#[]⟩, .string ⟨#[]⟩, .bool false]) 3 40 Tryz.underlying44 hj0 hz0 hz1 hz2 rfl (by decide) (Value.slice sa 0 sc) 0 xs rfl (r39r.alloc _) _ 1 1 [.string ⟨t33.toArray⟩, .string ⟨n37.toArray⟩, .bool pb] rfl rfl (World.news_of_block (heap_alloc_new v39 _)) (by simp [Value.oneCell']) (by decide) (by unfold maxLen; omega) (by omega) (by have := sB39; simp; omega) _ rfl ?_)
                intro gg41 cap41 wz41 hown41 hgr41 hat41 hgl41
                have mn41 : Mv (fun j => (Value.slice sa 0 sc).ownBlock = some j) v39 wz41 := (Mv.alloc _ _).trans (Mv.of_grown hgr41 (fun r e => e))
                have hb41 : ∀ j, (Value.slice sa 0 sc).ownBlock = some j → v16.heap.size ≤ j := fun j hj => (ownsRow_own r39r j hj).1
                have mo41 : Mv (fun j => w.heap.size ≤ j) v39 wz41 := mn41.mono (fun j _ hj => by have := hb41 j hj; have := wB15; omega)
                have hz41 := h.fresh h39 mo41
                have mz41 := m39.newer mo41
                have fz41 := (mn41.same _ (heap_lt f39f) (fun e => by have := hb41 _ e; have := FB15; omega)).trans f39f
                clear x42_0 x42_1 x42_2 x42_f
                clear x43_0 x43_1 x43_2 x43_3 x43_4 x43_f
                have xz41_0 : wz41.cell? ⟨F16, 0, none⟩ = some (.string ⟨t.toArray⟩) := by unfold World.cell?; rw [fz41]; rfl
                have xz41_1 : wz41.cell? ⟨F16, 1, none⟩ = some (.string ⟨n11.toArray⟩) := by unfold World.cell?; rw [fz41]; rfl
                have xz41_2 : wz41.cell? ⟨F16, 2, none⟩ = some (.slice sa 0 sc) := by unfold World.cell?; rw [fz41]; rfl
                have xz41_3 : wz41.cell? ⟨F16, 3, none⟩ = some (.pointer none) := by unfold World.cell?; rw [fz41]; rfl
                have xz41_4 : wz41.cell? ⟨F16, 4, none⟩ = some (.slice none 0 0) := by unfold World.cell?; rw [fz41]; rfl
                have xz41_f : ∀ i, wz41.frozen? ⟨F16, i, none⟩ = false := fun i => by unfold World.frozen?; rw [fz41]; rfl
                have e41 : Mv (fun j => j = F16) wz41 (wz41.setCell ⟨F16, 2, none⟩ (.slice (some ⟨gg41, 0, none⟩) (0 + 1) cap41)) := Mv.setCell _ _ rfl
                have g41 : Mv (fun j => w.heap.size ≤ j) wz41 (wz41.setCell ⟨F16, 2, none⟩ (.slice (some ⟨gg41, 0, none⟩) (0 + 1) cap41)) := e41.mono (fun _ j hj => by rw [hj]; exact wF16)
                have hy41 := h.fresh hz41 g41
                have my41 := mz41.newer g41
                have fy41 : (wz41.setCell ⟨F16, 2, none⟩ (.slice (some ⟨gg41, 0, none⟩) (0 + 1) cap41)).heap[F16]? = some (.cells #[.string ⟨t.toArray⟩, .string ⟨n11.toArray⟩, .slice (some ⟨gg41, 0, none⟩) (0 + 1) cap41, .pointer none, .slice none 0 0] 109 (0, 0)) := set_same fz41
                have ry41 := ownsRow_keep hown41 e41 (fun j hj hx => by have := (ownsRow_own hown41 j hj).1; have := FB15; omega)
                have hsz41 : v16.heap.size ≤ (wz41.setCell ⟨F16, 2, none⟩ (.slice (some ⟨gg41, 0, none⟩) (0 + 1) cap41)).heap.size := Nat.le_trans sB39 (Nat.le_trans mo41.size g41.size)
                go_wp2_with fail
                go_roundg (R5 k i37 bad37)
                case measure => omega
                case rel => exact ⟨i37, bad37, _, 0 + 1, _, hy41, my41, fy41, ry41, hsz41, by omega, l37', by omega, Nat.le_refl _⟩
              | succ m =>
                have hmL : decide (0 < m + 1) = true := by simp
                go_wp2_with fail
                clear x29_0 x29_1 x29_2 x29_3 x29_4 x29_f
                refine (want5 k [44] i' hle false _ h17).mono ?_
                rintro e w44 ⟨rfl, i44, bad44, h44, hm44, l44, l44', b44, s44⟩
                have f45f := (hm44.same _ (heap_lt f27f) (notX h wF16)).trans f27f
                have r45r := row_other r27r hm44 (X5_type h17 (by decide) (by decide))
                have m45 := m27.trans hm44
                have sB45 := Nat.le_trans sB27 hm44.size
                clear f27f r27r
                have a44 := adv5 (.inr hlt : false = true ∨ i < i') b44 l44
                have o44 := Nat.le_trans (Nat.le_of_lt hlt) l44
                go_wp2_with fail
                refine (take5 k [112, 117, 98, 108, 105, 99] i44 l44' bad44 _ h44).mono ?_
                intro e w46 hq
                obtain ⟨pb, ip, bp, rfl, hpp, hmp, lp, lp', rp⟩ : ∃ (pb : Bool) (ip : Nat) (bp : Bool), e = .returned (.bool pb) ∧ P5 k w46 ip bp ∧ Mv (X5 k) w44 w46 ∧ i44 ≤ ip ∧ ip ≤ k.ws.length ∧ (bad44 = true → bp = true) := by
                  have hl0 : i44 ≤ k.ws.length := l44'
                  rcases hq with ⟨rfl, ⟨hb1, hl1⟩, h3, hm3⟩ | ⟨rfl, h3, hm3⟩
                  · exact ⟨true, _, false, rfl, h3, hm3, by omega, by omega, by rw [hb1]; simp⟩
                  · exact ⟨false, _, _, rfl, h3, hm3, Nat.le_refl _, hl0, fun h => h⟩
                have f47f := (hmp.same _ (heap_lt f45f) (notX h wF16)).trans f45f
                have r47r := row_other r45r hmp (X5_type h44 (by decide) (by decide))
                have m47 := m45.trans hmp
                have sB47 := Nat.le_trans sB45 hmp.size
                clear f45f r45r
                have ap := adv5 a44 rp lp
                have op := Nat.le_trans o44 lp
                have hov48 : ∀ j, (Value.slice sa (m + 1) sc).ownBlock = some j → j < w46.heap.size := fun j hj => (ownsRow_own r47r j hj).2.1
                have wF48 : w.heap.size ≤ w46.heap.size := m47.size
                have f48d := heap_alloc_new w46 (.cells #[.string ⟨#[]⟩, .string ⟨#[]⟩, .bool pb] 103)
                have f48f := at_alloc f47f (.cells #[.string ⟨#[]⟩, .string ⟨#[]⟩, .bool pb] 103)
                have ne48f : F16 ≠ w46.heap.size := by have := heap_lt f47f; omega
                have r48r := r47r.alloc (.cells #[.string ⟨#[]⟩, .string ⟨#[]⟩, .bool pb] 103)
                have h48 := hpp.mv (Mv.alloc (X := fun _ => False) w46 (.cells #[.string ⟨#[]⟩, .string ⟨#[]⟩, .bool pb] 103))
                have m48 := m47.more (.cells #[.string ⟨#[]⟩, .string ⟨#[]⟩, .bool pb] 103)
                have sz48 : w46.heap.size < (w46.alloc (.cells #[.string ⟨#[]⟩, .string ⟨#[]⟩, .bool pb] 103)).heap.size := by simp
                have sB48 := Nat.le_trans sB47 (Mv.alloc (X := fun _ => False) w46 (.cells #[.string ⟨#[]⟩, .string ⟨#[]⟩, .bool pb] 103)).size
                clear f47f r47r
                go_wp2_with fail
                generalize w46.alloc (.cells #[.string ⟨#[]⟩, .string ⟨#[]⟩, .bool pb] 103) = v48 at *
                generalize w46.heap.size = F48 at *
                refine (typ5 k ip lp' bp _ h48).mono ?_
                rintro e w49 ⟨⟨t49, rfl, ht49⟩, i49, bad49, h49, hm49, l49, l49', b49, s49⟩
                have f50f := (hm49.same _ (heap_lt f48f) (notX h wF16)).trans f48f
                have f50d := (hm49.same _ (heap_lt f48d) (notX h wF48)).trans f48d
                have r50r := row_other r48r hm49 (X5_type h48 (by decide) (by decide))
                have m50 := m48.trans hm49
                have sB50 := Nat.le_trans sB48 hm49.size
                clear f48f f48d r48r
                have a49 := adv5 ap b49 l49
                have o49 := Nat.le_trans op l49
                have x52_0 : w49.cell? ⟨F48, 0, none⟩ = some (.string ⟨#[]⟩) := by unfold World.cell?; rw [f50d]; rfl
                have x52_1 : w49.cell? ⟨F48, 1, none⟩ = some (.string ⟨#[]⟩) := by unfold World.cell?; rw [f50d]; rfl
                have x52_2 : w49.cell? ⟨F48, 2, none⟩ = some (.bool pb) := by unfold World.cell?; rw [f50d]; rfl
                have x52_f : ∀ i, w49.frozen? ⟨F48, i, none⟩ = false := fun i => by unfold World.frozen?; rw [f50d]; rfl
                go_wp2_with fail
                have e51 : Mv (fun j => j = F48) w49 (w49.setCell ⟨F48, 0, none⟩ (.string ⟨t49.toArray⟩)) := (Mv.setCell (X := fun j => j = F48) _ _ rfl)
                have g51 : Mv (fun j => w.heap.size ≤ j) w49 (w49.setCell ⟨F48, 0, none⟩ (.string ⟨t49.toArray⟩)) := e51.mono (fun _ j hj => by rw [hj]; exact wF48)
                have h51 := h.fresh h49 g51
                have m51 := m50.newer g51
                have f51d : (w49.setCell ⟨F48, 0, none⟩ (.string ⟨t49.toArray⟩)).heap[F48]? = some (.cells #[.string ⟨t49.toArray⟩, .string ⟨#[]⟩, .bool pb] 103 (0, 0)) := (set_same f50d)
                have f51f := (e51.same _ (heap_lt f50f) ne48f).trans f50f
                have r51r := ownsRow_keep r50r e51 (fun j hj hx => by have := hov48 j hj; omega)
                have sB51 := Nat.le_trans sB50 g51.size
                clear x52_0 x52_1 x52_2 x52_f
                generalize w49.setCell ⟨F48, 0, none⟩ (.string ⟨t49.toArray⟩) = v51 at *
                refine (name5 k i49 l49' bad49 _ h51).mono ?_
                rintro e w53 ⟨⟨n53, rfl, hn53⟩, i53, bad53, h53, hm53, l53, l53', b53, s53⟩
                have f54f := (hm53.same _ (heap_lt f51f) (notX h wF16)).trans f51f
                have f54d := (hm53.same _ (heap_lt f51d) (notX h wF48)).trans f51d
                have r54r := row_other r51r hm53 (X5_type h51 (by decide) (by decide))
                have m54 := m51.trans hm53
                have sB54 := Nat.le_trans sB51 hm53.size
                clear f51f f51d r51r
                have a53 := adv5 a49 b53 l53
                have o53 := Nat.le_trans o49 l53
                have x56_0 : w53.cell? ⟨F48, 0, none⟩ = some (.string ⟨t49.toArray⟩) := by unfold World.cell?; rw [f54d]; rfl
                have x56_1 : w53.cell? ⟨F48, 1, none⟩ = some (.string ⟨#[]⟩) := by unfold World.cell?; rw [f54d]; rfl
                have x56_2 : w53.cell? ⟨F48, 2, none⟩ = some (.bool pb) := by unfold World.cell?; rw [f54d]; rfl
                have x56_f : ∀ i, w53.frozen? ⟨F48, i, none⟩ = false := fun i => by unfold World.frozen?; rw [f54d]; rfl
                go_upto_region 25 with fail
                have e55 : Mv (fun j => j = F48) w53 (w53.setCell ⟨F48, 1, none⟩ (.string ⟨n53.toArray⟩)) := (Mv.setCell (X := fun j => j = F48) _ _ rfl)
                have g55 : Mv (fun j => w.heap.size ≤ j) w53 (w53.setCell ⟨F48, 1, none⟩ (.string ⟨n53.toArray⟩)) := e55.mono (fun _ j hj => by rw [hj]; exact wF48)
                have h55 := h.fresh h53 g55
                have m55 := m54.newer g55
                have f55d : (w53.setCell ⟨F48, 1, none⟩ (.string ⟨n53.toArray⟩)).heap[F48]? = some (.cells #[.string ⟨t49.toArray⟩, .string ⟨n53.toArray⟩, .bool pb] 103 (0, 0)) := (set_same f54d)
                have f55f := (e55.same _ (heap_lt f54f) ne48f).trans f54f
                have r55r := ownsRow_keep r54r e55 (fun j hj hx => by have := hov48 j hj; omega)
                have sB55 := Nat.le_trans sB54 g55.size
                clear x56_0 x56_1 x56_2 x56_f
                generalize w53.setCell ⟨F48, 1, none⟩ (.string ⟨n53.toArray⟩) = v55 at *
                have hRz : R5 k i53 bad53 < R5 k i' false := R5_lt (by omega) ((adv5 (adv5 (show bad49 = true ∨ i' < i49 from (s49 (by simp)).imp id (fun hs => by omega)) b53 l53) (fun h => h) (Nat.le_refl _)).imp id (fun hs => by omega))
                have x58_0 : v55.cell? ⟨F48, 0, none⟩ = some (.string ⟨t49.toArray⟩) := by unfold World.cell?; rw [f55d]; rfl
                have x58_1 : v55.cell? ⟨F48, 1, none⟩ = some (.string ⟨n53.toArray⟩) := by unfold World.cell?; rw [f55d]; rfl
                have x58_2 : v55.cell? ⟨F48, 2, none⟩ = some (.bool pb) := by unfold World.cell?; rw [f55d]; rfl
                have x58_f : ∀ i, v55.frozen? ⟨F48, i, none⟩ = false := fun i => by unfold World.frozen?; rw [f55d]; rfl
                have x59_0 : v55.cell? ⟨F16, 0, none⟩ = some (.string ⟨t.toArray⟩) := by unfold World.cell?; rw [f55f]; rfl
                have x59_1 : v55.cell? ⟨F16, 1, none⟩ = some (.string ⟨n11.toArray⟩) := by unfold World.cell?; rw [f55f]; rfl
                have x59_2 : v55.cell? ⟨F16, 2, none⟩ = some (.slice sa (m + 1) sc) := by unfold World.cell?; rw [f55f]; rfl
                have x59_3 : v55.cell? ⟨F16, 3, none⟩ = some (.pointer none) := by unfold World.cell?; rw [f55f]; rfl
                have x59_4 : v55.cell? ⟨F16, 4, none⟩ = some (.slice none 0 0) := by unfold World.cell?; rw [f55f]; rfl
                have x59_f : ∀ i, v55.frozen? ⟨F16, i, none⟩ = false := fun i => by unfold World.frozen?; rw [f55f]; rfl
                obtain ⟨j0, hj0, hz0, hz1, hz2⟩ := info_parts info103
                go_wp2_with (at_builtin; refine wpList_append_lies _ rfl _ _ 44 rfl v16.heap.size 103 j0 (.agg #[.string ⟨#[]⟩, .string ⟨#[]⟩, .bool false]) 3 40 Tryz.underlying44 hj0 hz0 hz1 hz2 rfl (by decide) (Value.slice sa (m + 1) sc) (m + 1) xs rfl (r55r.alloc _) _ 1 1 [.string ⟨t49.toArray⟩, .string ⟨n53.toArray⟩, .bool pb] rfl rfl (World.news_of_block (heap_alloc_new v55 _)) (by simp [Value.oneCell']) (by decide) (by unfold maxLen; omega) (by omega) (by have := sB55; simp; omega) _ rfl ?_)
                intro gg57 cap57 wz57 hown57 hgr57 hat57 hgl57
                have mn57 : Mv (fun j => (Value.slice sa (m + 1) sc).ownBlock = some j) v55 wz57 := (Mv.alloc _ _).trans (Mv.of_grown hgr57 (fun r e => e))
                have hb57 : ∀ j, (Value.slice sa (m + 1) sc).ownBlock = some j → v16.heap.size ≤ j := fun j hj => (ownsRow_own r55r j hj).1
                have mo57 : Mv (fun j => w.heap.size ≤ j) v55 wz57 := mn57.mono (fun j _ hj => by have := hb57 j hj; have := wB15; omega)
                have hz57 := h.fresh h55 mo57
                have mz57 := m55.newer mo57
                have fz57 := (mn57.same _ (heap_lt f55f) (fun e => by have := hb57 _ e; have := FB15; omega)).trans f55f
                clear x58_0 x58_1 x58_2 x58_f
                clear x59_0 x59_1 x59_2 x59_3 x59_4 x59_f
                have xz57_0 : wz57.cell? ⟨F16, 0, none⟩ = some (.string ⟨t.toArray⟩) := by unfold World.cell?; rw [fz57]; rfl
                have xz57_1 : wz57.cell? ⟨F16, 1, none⟩ = some (.string ⟨n11.toArray⟩) := by unfold World.cell?; rw [fz57]; rfl
                have xz57_2 : wz57.cell? ⟨F16, 2, none⟩ = some (.slice sa (m + 1) sc) := by unfold World.cell?; rw [fz57]; rfl
                have xz57_3 : wz57.cell? ⟨F16, 3, none⟩ = some (.pointer none) := by unfold World.cell?; rw [fz57]; rfl
                have xz57_4 : wz57.cell? ⟨F16, 4, none⟩ = some (.slice none 0 0) := by unfold World.cell?; rw [fz57]; rfl
                have xz57_f : ∀ i, wz57.frozen? ⟨F16, i, none⟩ = false := fun i => by unfold World.frozen?; rw [fz57]; rfl
                have e57 : Mv (fun j => j = F16) wz57 (wz57.setCell ⟨F16, 2, none⟩ (.slice (some ⟨gg57, 0, none⟩) ((m + 1) + 1) cap57)) := Mv.setCell _ _ rfl
                have g57 : Mv (fun j => w.heap.size ≤ j) wz57 (wz57.setCell ⟨F16, 2, none⟩ (.slice (some ⟨gg57, 0, none⟩) ((m + 1) + 1) cap57)) := e57.mono (fun _ j hj => by rw [hj]; exact wF16)
                have hy57 := h.fresh hz57 g57
                have my57 := mz57.newer g57
                have fy57 : (wz57.setCell ⟨F16, 2, none⟩ (.slice (some ⟨gg57, 0, none⟩) ((m + 1) + 1) cap57)).heap[F16]? = some (.cells #[.string ⟨t.toArray⟩, .string ⟨n11.toArray⟩, .slice (some ⟨gg57, 0, none⟩) ((m + 1) + 1) cap57, .pointer none, .slice none 0 0] 109 (0, 0)) := set_same fz57
                have ry57 := ownsRow_keep hown57 e57 (fun j hj hx => by have := (ownsRow_own hown57 j hj).1; have := FB15; omega)
                have hsz57 : v16.heap.size ≤ (wz57.setCell ⟨F16, 2, none⟩ (.slice (some ⟨gg57, 0, none⟩) ((m + 1) + 1) cap57)).heap.size := Nat.le_trans sB55 (Nat.le_trans mo57.size g57.size)
                go_wp2_with fail
                go_roundg (R5 k i53 bad53)
                case measure => omega
                case rel => exact ⟨i53, bad53, _, (m + 1) + 1, _, hy57, my57, fy57, ry57, hsz57, by omega, l53', by omega, Nat.le_refl _⟩
          · go_wp2_with fail
            refine (see5 k [123] i' (by omega) true _ hP).mono ?_
            rintro e w60 ⟨bs, rfl, hm60, hbs⟩
            have hh60 := hP.mv hm60
            have hx60 := hm60.toX (k := k)
            have f61f := (hx60.same _ (heap_lt hf) (notX h wF16)).trans hf
            have r61r := row_other hr hx60 (X5_type hP (by decide) (by decide))
            have m61 := hM.trans hx60
            have sB61 := Nat.le_trans hsB hx60.size
            clear hf hr
            cases bs
            · obtain ⟨dpB, g0, g1, g2, g3, g4, gf⟩ := hh60.pcells
              go_wp2_with fail
              have hzz := m61.trans (Mv.setCell (X := X5 k) w60 (g := k.P) (i := 2) (.bool true) (.inl rfl))
              refine bodyPost_end (v := .tuple #[]) (by simp [results, Tryz.results26, go_sem]) rfl ⟨rfl, k, ⟨rfl, rfl, rfl, rfl, rfl⟩, i', true, hh60.set2 true, (hL.mv h hzz).more.more, hzz.old hL, by omega, hle, .inl rfl⟩
            · exact absurd (hbs (by simp)).1 (by simp)
      · have m62 := m12.trans hm13
        go_wp2_with fail
        refine (array5 k t (by omega) i11 l11' bad11 _ h13).mono ?_
        rintro e w63 ⟨⟨t63, rfl, ht63⟩, i63, bad63, h63, hm63, l63, l63', b63, s63⟩
        have m64 := m62.trans hm63
        have a63 := adv5 a11 b63 l63
        have o63 := Nat.le_trans o11 l63
        have wF65 : w.heap.size ≤ w63.heap.size := m64.size
        have f65d := heap_alloc_new w63 (.cells #[.string ⟨t63.toArray⟩, .string ⟨n11.toArray⟩, .bool false] 103)
        have h65 := h63.mv (Mv.alloc (X := fun _ => False) w63 (.cells #[.string ⟨t63.toArray⟩, .string ⟨n11.toArray⟩, .bool false] 103))
        have m65 := m64.more (.cells #[.string ⟨t63.toArray⟩, .string ⟨n11.toArray⟩, .bool false] 103)
        have sz65 : w63.heap.size < (w63.alloc (.cells #[.string ⟨t63.toArray⟩, .string ⟨n11.toArray⟩, .bool false] 103)).heap.size := by simp
        go_wp2_with fail
        generalize w63.alloc (.cells #[.string ⟨t63.toArray⟩, .string ⟨n11.toArray⟩, .bool false] 103) = v65 at *
        generalize w63.heap.size = F65 at *
        refine (want5 k [59] i63 l63' bad63 _ h65).mono ?_
        rintro e w66 ⟨rfl, i66, bad66, h66, hm66, l66, l66', b66, s66⟩
        have f67d := (hm66.same _ (heap_lt f65d) (notX h wF65)).trans f65d
        have m67 := m65.trans hm66
        clear f65d
        have a66 := adv5 a63 b66 l66
        have o66 := Nat.le_trans o63 l66
        have L68 := hL.mv h m67
        obtain ⟨⟨u1, x1, ra1, rb1⟩, ⟨u2, x2, ra2, rb2⟩, ⟨u3, x3, ra3, rb3⟩, ⟨u4, x4, ra4, rb4⟩, -, -⟩ := id L68
        have Ld68 : Ls5 k B c w66.drew := L68.mv h66 (Mv.drew _)
        have Pd68 : P5 k w66.drew i66 bad66 := h66.mv (Mv.drew _)
        have rd68 : w66.drew.ownsRow B 103 3 k.v2 u2 x2 := ra2
        have fd68 : w66.drew.heap[F65]? = some (.cells #[.string ⟨t63.toArray⟩, .string ⟨n11.toArray⟩, .bool false] 103 (0, 0)) := f67d
        obtain ⟨dp68, -, -, -, pp68, -, p68f⟩ := h66.pcells
        obtain ⟨nn68, dd68, qq680, qq681, qq682, qq683, -, -, q68f⟩ := h66.qall
        have q68fd : ∀ i, w66.drew.frozen? ⟨k.Q, i, none⟩ = false := q68f
        have pc68 : w66.cell? ⟨k.P, 3, none⟩ = some (.pointer (some ⟨k.Q, 0, none⟩)) := pp68
        have pc68a : ∀ o, (w66.alloc o).cell? ⟨k.P, 3, none⟩ = some (.pointer (some ⟨k.Q, 0, none⟩)) := fun o => cell_alloc pc68 o
        have qc68 : w66.cell? ⟨k.Q, 1, none⟩ = some (k.v2) := qq681
        have qc68a : ∀ o, (w66.alloc o).cell? ⟨k.Q, 1, none⟩ = some (k.v2) := fun o => cell_alloc qc68 o
        clear pp68 qq680 qq681 qq682 qq683
        have y68_0 : w66.cell? ⟨F65, 0, none⟩ = some (.string ⟨t63.toArray⟩) := by unfold World.cell?; rw [f67d]; rfl
        have y68_0a : ∀ o, (w66.alloc o).cell? ⟨F65, 0, none⟩ = some (.string ⟨t63.toArray⟩) := fun o => cell_alloc y68_0 o
        have y68_1 : w66.cell? ⟨F65, 1, none⟩ = some (.string ⟨n11.toArray⟩) := by unfold World.cell?; rw [f67d]; rfl
        have y68_1a : ∀ o, (w66.alloc o).cell? ⟨F65, 1, none⟩ = some (.string ⟨n11.toArray⟩) := fun o => cell_alloc y68_1 o
        have y68_2 : w66.cell? ⟨F65, 2, none⟩ = some (.bool false) := by unfold World.cell?; rw [f67d]; rfl
        have y68_2a : ∀ o, (w66.alloc o).cell? ⟨F65, 2, none⟩ = some (.bool false) := fun o => cell_alloc y68_2 o
        obtain ⟨j0, hj0, hz0, hz1, hz2⟩ := info_parts info103
        go_upto_region 16 with fail
        go_cut [] from 118 to 133 (fun wx => ∃ v, P5 { k with v2 := v } wx i66 bad66 ∧ Ls5 { k with v2 := v } B (c + 1) wx ∧ Mv (fun j => B ≤ j) w66.drew wx ∧ ∃ a c', v = .slice a (u2 + 1) c')
        case first =>
          refine wp_region_any (by kernel_rfl) (wpC.any (n := 16) (C := fun w' => w'.cell? ⟨k.P, 3, none⟩ = some (.pointer (some ⟨k.Q, 0, none⟩)) ∧ w'.cell? ⟨k.Q, 1, none⟩ = some (k.v2) ∧ (w'.cell? ⟨F65, 0, none⟩ = some (.string ⟨t63.toArray⟩) ∧ w'.cell? ⟨F65, 1, none⟩ = some (.string ⟨n11.toArray⟩) ∧ w'.cell? ⟨F65, 2, none⟩ = some (.bool false))) _ _ _ _ ?_)
          try (change wpC _ _ _ _ _ _ _ _ _ (World.drew _))
          have hC68 : (fun w' : World => w'.cell? ⟨k.P, 3, none⟩ = some (.pointer (some ⟨k.Q, 0, none⟩)) ∧ w'.cell? ⟨k.Q, 1, none⟩ = some (k.v2) ∧ (w'.cell? ⟨F65, 0, none⟩ = some (.string ⟨t63.toArray⟩) ∧ w'.cell? ⟨F65, 1, none⟩ = some (.string ⟨n11.toArray⟩) ∧ w'.cell? ⟨F65, 2, none⟩ = some (.bool false))) w66.drew := ⟨pc68, qc68, y68_0, y68_1, y68_2⟩
          refine wpC_take (i := 0) (v := ?v68x0) rfl (by kernel_rfl) (fun _ _ _ h => h) hC68 (Or.inl ⟨by rfl, ?hy68x0⟩) ?rest68x0
          case hy68x0 => (rintro w' ⟨e1, e2, e3⟩; go_simp; try with_reducible rfl)
          refine wpC_take (i := 1) (v := ?v68x1) rfl (by kernel_rfl) (fun _ _ _ h => h) hC68 (Or.inl ⟨by rfl, ?hy68x1⟩) ?rest68x1
          case hy68x1 => (rintro w' ⟨e1, e2, e3⟩; go_simp; try with_reducible rfl)
          refine wpC_take (i := 2) (v := ?v68x2) rfl (by kernel_rfl) (fun _ _ _ h => h) hC68 (Or.inl ⟨by rfl, ?hy68x2⟩) ?rest68x2
          case hy68x2 => (rintro w' ⟨e1, e2, e3⟩; go_simp; try with_reducible rfl)
          refine wpC_take (i := 3) (v := ?v68x3) rfl (by kernel_rfl) (fun _ _ _ h => h) hC68 (Or.inl ⟨by rfl, ?hy68x3⟩) ?rest68x3
          case hy68x3 => (rintro w' ⟨e1, e2, e3⟩; go_simp; try with_reducible rfl)
          refine wpC_take (i := 4) (v := ?v68x4) rfl (by kernel_rfl) (fun _ _ _ h => h) hC68 (Or.inl ⟨by rfl, ?hy68x4⟩) ?rest68x4
          case hy68x4 => (rintro w' ⟨e1, e2, e3⟩; go_simp; try with_reducible rfl)
          refine wpC_take (i := 5) (v := ?v68x5) rfl (by kernel_rfl) (fun _ _ _ h => h) hC68 (Or.inl ⟨by rfl, ?hy68x5⟩) ?rest68x5
          case hy68x5 => (rintro w' ⟨e1, e2, e3⟩; go_simp; try with_reducible rfl)
          refine wpC_take (i := 6) (v := ?v68x6) rfl (by kernel_rfl) (fun _ _ _ h => h) hC68 (Or.inl ⟨by rfl, ?hy68x6⟩) ?rest68x6
          case hy68x6 => (rintro w' ⟨e1, e2, e3⟩; go_simp; try with_reducible rfl)
          refine wpC_take (i := 7) (v := ?v68x7) rfl (by kernel_rfl) (fun _ _ _ h => h) hC68 (Or.inl ⟨by rfl, ?hy68x7⟩) ?rest68x7
          case hy68x7 => (rintro w' ⟨e1, e2, e3⟩; go_simp; try with_reducible rfl)
          refine wpC_take (i := 8) (v := ?v68x8) rfl (by kernel_rfl) (fun _ _ _ h => h) hC68 (Or.inl ⟨by rfl, ?hy68x8⟩) ?rest68x8
          case hy68x8 => (rintro w' ⟨e1, e2, e3⟩; go_simp; try with_reducible rfl)
          refine wpC_take (i := 9) (v := ?v68x9) rfl (by kernel_rfl) (fun _ _ _ h => h) hC68 (Or.inl ⟨by rfl, ?hy68x9⟩) ?rest68x9
          case hy68x9 => (rintro w' ⟨e1, e2, e3⟩; go_simp; try with_reducible rfl)
          refine wpC_take (i := 10) (v := ?v68x10) rfl (by kernel_rfl) (fun _ _ _ h => h) hC68 (Or.inl ⟨by rfl, ?hy68x10⟩) ?rest68x10
          case hy68x10 => (rintro w' ⟨e1, e2, e3⟩; go_simp; try with_reducible rfl)
          refine wpC_take (i := 11) (v := ?v68x11) rfl (by kernel_rfl) (fun _ _ _ h => h) hC68 (Or.inl ⟨by rfl, ?hy68x11⟩) ?rest68x11
          case hy68x11 => (rintro w' ⟨e1, e2, e3⟩; go_simp; try with_reducible rfl)
          clear hC68
          refine wpC_one (i := 12) (by kernel_rfl) rfl (fun K hK => ?_)
          go_simp
          refine hK _ _ (fun _ => ⟨pc68a _, qc68a _, y68_0a _, y68_1a _, y68_2a _⟩) ?_
          clear hK K
          refine wpC_one (i := 13) (by kernel_rfl) rfl (fun K hK => ?_)
          refine step_append_lies _ rfl _ _ 44 rfl B 103 j0 (.agg #[.string ⟨#[]⟩, .string ⟨#[]⟩, .bool false]) 3 40 Tryz.underlying44 hj0 hz0 hz1 hz2 rfl (by decide) k.v2 u2 x2 rfl (rd68.alloc _) _ 1 1 [.string ⟨t63.toArray⟩, .string ⟨n11.toArray⟩, .bool false] rfl rfl (World.news_of_block (heap_alloc_new w66.drew _)) (by simp [Value.oneCell']) (by decide) (by unfold maxLen; omega) (by omega) (by have := Ld68.low.2.2; simp at this ⊢; omega) _ rfl ?_
          intro gg68 cap68 wz68 hown68 hgr68 hat68 hgl68
          obtain ⟨Pn68, mn68⟩ := Ld68.near2 Pd68 rd68 hgr68
          obtain ⟨dq68, -, -, -, pz683, -, pz68f⟩ := Pn68.pcells
          obtain ⟨nz68, ddz68, qz680, qz681, qz682, qz683, -, -, qz68f⟩ := Pn68.qall
          have fz68 := (mn68.same _ (heap_lt fd68) (fun e => by have := hL.lt2 _ e; have := wF65; omega)).trans fd68
          refine hK _ _ (fun _ => ⟨pz683, qz681, by unfold World.cell?; rw [fz68]; rfl, by unfold World.cell?; rw [fz68]; rfl, by unfold World.cell?; rw [fz68]; rfl⟩) ?_
          clear hK K
          refine wpC_one (i := 14) (by kernel_rfl) rfl (fun K hK => ?_)
          go_simp
          refine hK _ _ (fun _ => ⟨pz683, qz681, by unfold World.cell?; rw [fz68]; rfl, by unfold World.cell?; rw [fz68]; rfl, by unfold World.cell?; rw [fz68]; rfl⟩) ?_
          clear hK K
          refine wpC_one (i := 15) (by kernel_rfl) rfl (fun K hK => ?_)
          go_simp
          refine hK _ _ (fun _ => ⟨pz683, qz681, by unfold World.cell?; rw [fz68]; rfl, by unfold World.cell?; rw [fz68]; rfl, by unfold World.cell?; rw [fz68]; rfl⟩) ?_
          clear hK K
          refine wpC_one (i := 16) (by kernel_rfl) rfl (fun K hK => ?_)
          go_simp
          refine hK _ _ (fun h => absurd h (by decide)) ?_
          clear hK K
          refine wpC_done (by kernel_rfl) ?_
          go_wp2_with fail
          go_meet
          obtain ⟨k1, k2, k3⟩ := Ld68.push2 Pd68 rd68 rb2 hgr68 hown68
          exact ⟨_, k1, k2, k3, _, _, rfl⟩
        case rest =>
          obtain ⟨v, P69, L69, M69, sa69, sc69, hsv69⟩ := hcut
          clear L68 Ld68 Pd68 rd68 fd68 p68f q68f q68fd
          clear pc68 pc68a qc68 qc68a y68_0 y68_0a y68_1 y68_1a y68_2 y68_2a
          have Ld69 : Ls5 { k with v2 := v } B (c + 1) wc.drew := L69.mv P69 (Mv.drew _)
          have Pd69 : P5 { k with v2 := v } wc.drew i66 bad66 := P69.mv (Mv.drew _)
          obtain ⟨-, -, -, ⟨u5, x5, rd69, rb5⟩, -, -⟩ := id Ld69
          obtain ⟨dp69, -, -, -, pp69, -, p69f⟩ := P69.pcells
          obtain ⟨nn69, dd69, qq690, qq691, qq692, qq693, -, -, q69f⟩ := P69.qall
          have q69fd : ∀ i, wc.drew.frozen? ⟨k.Q, i, none⟩ = false := q69f
          have pc69 : wc.cell? ⟨k.P, 3, none⟩ = some (.pointer (some ⟨k.Q, 0, none⟩)) := pp69
          have pc69a : ∀ o, (wc.alloc o).cell? ⟨k.P, 3, none⟩ = some (.pointer (some ⟨k.Q, 0, none⟩)) := fun o => cell_alloc pc69 o
          have qc69 : wc.cell? ⟨k.Q, 3, none⟩ = some (k.v4) := qq693
          have qc69a : ∀ o, (wc.alloc o).cell? ⟨k.Q, 3, none⟩ = some (k.v4) := fun o => cell_alloc qc69 o
          have qb69 : wc.cell? ⟨k.Q, 1, none⟩ = some (.slice sa69 (u2 + 1) sc69) := by rw [← hsv69]; exact qq691
          have qb69a : ∀ o, (wc.alloc o).cell? ⟨k.Q, 1, none⟩ = some (.slice sa69 (u2 + 1) sc69) := fun o => cell_alloc qb69 o
          clear pp69 qq690 qq691 qq692 qq693
          obtain ⟨j1, hj1, hy0, hy1, hy2⟩ := info_parts info106
          go_upto_region 17 with fail
          refine wp_region_any (by kernel_rfl) (wpC.any (n := 25) (C := fun w' => w'.cell? ⟨k.P, 3, none⟩ = some (.pointer (some ⟨k.Q, 0, none⟩)) ∧ w'.cell? ⟨k.Q, 3, none⟩ = some k.v4 ∧ w'.cell? ⟨k.Q, 1, none⟩ = some (.slice sa69 (u2 + 1) sc69)) _ _ _ _ ?_)
          try (change wpC _ _ _ _ _ _ _ _ _ (World.drew _))
          have hC69 : (fun w' : World => w'.cell? ⟨k.P, 3, none⟩ = some (.pointer (some ⟨k.Q, 0, none⟩)) ∧ w'.cell? ⟨k.Q, 3, none⟩ = some k.v4 ∧ w'.cell? ⟨k.Q, 1, none⟩ = some (.slice sa69 (u2 + 1) sc69)) wc.drew := ⟨pc69, qc69, qb69⟩
          refine wpC_take (i := 0) (v := ?v69x0) rfl (by kernel_rfl) (fun _ _ _ h => h) hC69 (Or.inl ⟨by rfl, ?hy69x0⟩) ?rest69x0
          case hy69x0 => (rintro w' ⟨e1, e2, e3⟩; go_simp; try with_reducible rfl)
          refine wpC_take (i := 1) (v := ?v69x1) rfl (by kernel_rfl) (fun _ _ _ h => h) hC69 (Or.inl ⟨by rfl, ?hy69x1⟩) ?rest69x1
          case hy69x1 => (rintro w' ⟨e1, e2, e3⟩; go_simp; try with_reducible rfl)
          refine wpC_take (i := 2) (v := ?v69x2) rfl (by kernel_rfl) (fun _ _ _ h => h) hC69 (Or.inl ⟨by rfl, ?hy69x2⟩) ?rest69x2
          case hy69x2 => (rintro w' ⟨e1, e2, e3⟩; go_simp; try with_reducible rfl)
          refine wpC_take (i := 3) (v := ?v69x3) rfl (by kernel_rfl) (fun _ _ _ h => h) hC69 (Or.inl ⟨by rfl, ?hy69x3⟩) ?rest69x3
          case hy69x3 => (rintro w' ⟨e1, e2, e3⟩; go_simp; try with_reducible rfl)
          refine wpC_take (i := 4) (v := ?v69x4) rfl (by kernel_rfl) (fun _ _ _ h => h) hC69 (Or.inl ⟨by rfl, ?hy69x4⟩) ?rest69x4
          case hy69x4 => (rintro w' ⟨e1, e2, e3⟩; go_simp; try with_reducible rfl)
          refine wpC_take (i := 5) (v := ?v69x5) rfl (by kernel_rfl) (fun _ _ _ h => h) hC69 (Or.inl ⟨by rfl, ?hy69x5⟩) ?rest69x5
          case hy69x5 => (rintro w' ⟨e1, e2, e3⟩; go_simp; try with_reducible rfl)
          refine wpC_take (i := 6) (v := ?v69x6) rfl (by kernel_rfl) (fun _ _ _ h => h) hC69 (Or.inl ⟨by rfl, ?hy69x6⟩) ?rest69x6
          case hy69x6 => (rintro w' ⟨e1, e2, e3⟩; go_simp; try with_reducible rfl)
          refine wpC_take (i := 7) (v := ?v69x7) rfl (by kernel_rfl) (fun _ _ _ h => h) hC69 (Or.inl ⟨by rfl, ?hy69x7⟩) ?rest69x7
          case hy69x7 => (rintro w' ⟨e1, e2, e3⟩; go_simp; try with_reducible rfl)
          refine wpC_take (i := 8) (v := ?v69x8) rfl (by kernel_rfl) (fun _ _ _ h => h) hC69 (Or.inl ⟨by rfl, ?hy69x8⟩) ?rest69x8
          case hy69x8 => (rintro w' ⟨e1, e2, e3⟩; go_simp; try with_reducible rfl)
          refine wpC_take (i := 9) (v := ?v69x9) rfl (by kernel_rfl) (fun _ _ _ h => h) hC69 (Or.inl ⟨by rfl, ?hy69x9⟩) ?rest69x9
          case hy69x9 => (rintro w' ⟨e1, e2, e3⟩; go_simp; try with_reducible rfl)
          refine wpC_take (i := 10) (v := ?v69x10) rfl (by kernel_rfl) (fun _ _ _ h => h) hC69 (Or.inl ⟨by rfl, ?hy69x10⟩) ?rest69x10
          case hy69x10 => (rintro w' ⟨e1, e2, e3⟩; go_simp; try with_reducible rfl)
          refine wpC_take (i := 11) (v := ?v69x11) rfl (by kernel_rfl) (fun _ _ _ h => h) hC69 (Or.inl ⟨by rfl, ?hy69x11⟩) ?rest69x11
          case hy69x11 => (rintro w' ⟨e1, e2, e3⟩; go_simp; try with_reducible rfl)
          refine wpC_take (i := 12) (v := ?v69x12) rfl (by kernel_rfl) (fun _ _ _ h => h) hC69 (Or.inl ⟨by rfl, ?hy69x12⟩) ?rest69x12
          case hy69x12 => (rintro w' ⟨e1, e2, e3⟩; go_simp; try with_reducible rfl)
          refine wpC_take (i := 13) (v := ?v69x13) rfl (by kernel_rfl) (fun _ _ _ h => h) hC69 (Or.inl ⟨by rfl, ?hy69x13⟩) ?rest69x13
          case hy69x13 => (rintro w' ⟨e1, e2, e3⟩; go_simp; try with_reducible rfl)
          refine wpC_take (i := 14) (v := ?v69x14) rfl (by kernel_rfl) (fun _ _ _ h => h) hC69 (Or.inl ⟨by rfl, ?hy69x14⟩) ?rest69x14
          case hy69x14 => (rintro w' ⟨e1, e2, e3⟩; go_simp; try with_reducible rfl)
          refine wpC_take (i := 15) (v := ?v69x15) rfl (by kernel_rfl) (fun _ _ _ h => h) hC69 (Or.inl ⟨by rfl, ?hy69x15⟩) ?rest69x15
          case hy69x15 => (rintro w' ⟨e1, e2, e3⟩; go_simp; try with_reducible rfl)
          refine wpC_take (i := 16) (v := ?v69x16) rfl (by kernel_rfl) (fun _ _ _ h => h) hC69 (Or.inl ⟨by rfl, ?hy69x16⟩) ?rest69x16
          case hy69x16 => (rintro w' ⟨e1, e2, e3⟩; go_simp; try with_reducible rfl)
          refine wpC_take (i := 17) (v := ?v69x17) rfl (by kernel_rfl) (fun _ _ _ h => h) hC69 (Or.inl ⟨by rfl, ?hy69x17⟩) ?rest69x17
          case hy69x17 => (rintro w' ⟨e1, e2, e3⟩; go_simp; try with_reducible rfl)
          refine wpC_take (i := 18) (v := ?v69x18) rfl (by kernel_rfl) (fun _ _ _ h => h) hC69 (Or.inl ⟨by rfl, ?hy69x18⟩) ?rest69x18
          case hy69x18 => (rintro w' ⟨e1, e2, e3⟩; go_simp; try with_reducible rfl)
          refine wpC_take (i := 19) (v := ?v69x19) rfl (by kernel_rfl) (fun _ _ _ h => h) hC69 (Or.inl ⟨by rfl, ?hy69x19⟩) ?rest69x19
          case hy69x19 => (rintro w' ⟨e1, e2, e3⟩; go_simp; try with_reducible rfl)
          refine wpC_take (i := 20) (v := ?v69x20) rfl (by kernel_rfl) (fun _ _ _ h => h) hC69 (Or.inl ⟨by rfl, ?hy69x20⟩) ?rest69x20
          case hy69x20 => (rintro w' ⟨e1, e2, e3⟩; go_simp; try with_reducible rfl)
          clear hC69
          refine wpC_one (i := 21) (by kernel_rfl) rfl (fun K hK => ?_)
          go_simp
          refine hK _ _ (fun _ => ⟨pc69a _, qc69a _, qb69a _⟩) ?_
          clear hK K
          refine wpC_one (i := 22) (by kernel_rfl) rfl (fun K hK => ?_)
          refine step_append_lies _ rfl _ _ 46 rfl B 106 j1 (.agg #[.int .i64 0, .int .i64 0]) 2 16 Tryz.underlying46 hj1 hy0 hy1 hy2 rfl (by decide) k.v4 u5 x5 rfl (rd69.alloc _) _ 1 1 [.int .i64 1, .int .i64 _] rfl rfl (World.news_of_block (heap_alloc_new wc.drew _)) (by simp [Value.oneCell']) (by decide) (by unfold maxLen; omega) (by omega) (by have := Ld69.low.2.2; simp at this ⊢; omega) _ rfl ?_
          intro gg69 cap69 wz69 hown69 hgr69 hat69 hgl69
          obtain ⟨Pn69, mn69⟩ := Ld69.near4 Pd69 rd69 hgr69
          obtain ⟨pz693, qz693, qz69b, qz69f⟩ : wz69.cell? ⟨k.P, 3, none⟩ = some (.pointer (some ⟨k.Q, 0, none⟩)) ∧ wz69.cell? ⟨k.Q, 3, none⟩ = some k.v4 ∧ wz69.cell? ⟨k.Q, 1, none⟩ = some (.slice sa69 (u2 + 1) sc69) ∧ ∀ i, wz69.frozen? ⟨k.Q, i, none⟩ = false := by
            obtain ⟨dp, -, -, -, c3, -, cf⟩ := Pn69.pcells
            obtain ⟨n1, n2, m0, m1, m2, m3, -, -, mf⟩ := Pn69.qall
            exact ⟨c3, m3, by rw [← hsv69]; exact m1, mf⟩
          refine hK _ _ (fun _ => ⟨pz693, qz693, qz69b⟩) ?_
          clear hK K
          refine wpC_one (i := 23) (by kernel_rfl) rfl (fun K hK => ?_)
          go_simp
          refine hK _ _ (fun _ => ⟨pz693, qz693, qz69b⟩) ?_
          clear hK K
          refine wpC_one (i := 24) (by kernel_rfl) rfl (fun K hK => ?_)
          go_simp
          refine hK _ _ (fun _ => ⟨pz693, qz693, qz69b⟩) ?_
          clear hK K
          refine wpC_one (i := 25) (by kernel_rfl) rfl (fun K hK => ?_)
          go_simp
          refine hK _ _ (fun h => absurd h (by decide)) ?_
          clear hK K
          refine wpC_done (by kernel_rfl) ?_
          obtain ⟨k1, k2, k3⟩ := Ld69.push4 Pd69 rd69 rb5 hgr69 hown69
          go_wp2_with fail
          refine bodyPost_end (v := .tuple #[]) (by simp [results, Tryz.results26, go_sem]) rfl ⟨rfl, _, ?_, i66, bad66, k1, k2, ((m67.drawn.old hL).trans M69).trans ((Mv.drew _).trans k3), o66, l66', a66⟩
          exact ⟨rfl, rfl, rfl, rfl, rfl⟩
    · have hx8 := cut_from t 7
      have h7 := hbb (by simp)
      have wF71 : w.heap.size ≤ w2.heap.size := m2.size
      have f71s := heap_alloc_new w2 (.cells #[.string ⟨(t.drop 7).toArray⟩, .slice none 0 0] 101)
      have h71 := h2.mv (Mv.alloc (X := fun _ => False) w2 (.cells #[.string ⟨(t.drop 7).toArray⟩, .slice none 0 0] 101))
      have m71 := m2.more (.cells #[.string ⟨(t.drop 7).toArray⟩, .slice none 0 0] 101)
      have sz71 : w2.heap.size < (w2.alloc (.cells #[.string ⟨(t.drop 7).toArray⟩, .slice none 0 0] 101)).heap.size := by simp
      go_wp2_with fail
      generalize w2.alloc (.cells #[.string ⟨(t.drop 7).toArray⟩, .slice none 0 0] 101) = v71 at *
      generalize w2.heap.size = F71 at *
      have wB70 : w.heap.size ≤ v71.heap.size := m71.size
      have FB70 : F71 < v71.heap.size := sz71
      have hR1 : R5 k i2 bad1 ≤ k.ws.length + 1 := by unfold R5; split <;> omega
      go_loopg [4] (R5 k i2 bad1) (fun g s4 wr => ∃ (i' : Nat) (bad' : Bool) (v : Value) (m : Nat) (xs : List Value), P5 k wr i' bad' ∧ Mv (X5 k) w wr ∧ wr.heap[F71]? = some (.cells #[.string ⟨(t.drop 7).toArray⟩, v] 101 (0, 0)) ∧ wr.ownsRow v71.heap.size 103 3 v m xs ∧ v71.heap.size ≤ wr.heap.size ∧ (bad' = true ∨ i < i') ∧ i ≤ i' ∧ i' ≤ k.ws.length ∧ m + R5 k i' bad' ≤ k.ws.length + 2 ∧ R5 k i' bad' ≤ g)
      case atStart => exact ⟨i2, bad1, _, 0, [], h71, m71, f71s, World.ownsRow_nil _ _ _ _, Nat.le_refl _, a2, o2, l2', by omega, Nat.le_refl _⟩
      case round =>
        obtain ⟨i', bad', v, m, xs, hP, hM, hf, hr, hsB, hlt, hlo, hle, hmm, hg⟩ := hrel
        obtain ⟨sa, sc, rfl⟩ := row_form hr
        obtain ⟨dpL, c0, c1, c2, c3, c4, cf⟩ := hP.pcells
        cases bad'
        · go_wp2_with fail
          refine (take5 k [125] i' hle false _ hP).mono ?_
          rintro e w72 (⟨rfl, ⟨hbt72, hl72⟩, h72, hm72⟩ | ⟨rfl, h72, hm72⟩)
          · have f73s := (hm72.same _ (heap_lt hf) (notX h wF71)).trans hf
            have r73r := row_other hr hm72 (X5_type hP (by decide) (by decide))
            have m73 := hM.trans hm72
            have sB73 := Nat.le_trans hsB hm72.size
            clear hf hr
            have a72 : false = true ∨ i < i' + 1 := .inr (by have := hlo; omega)
            have o72 : i ≤ i' + 1 := by have := hlo; omega
            go_wp2_with fail
            refine (want5 k [59] (i' + 1) (by omega) false _ h72).mono ?_
            rintro e w74 ⟨rfl, i74, bad74, h74, hm74, l74, l74', b74, s74⟩
            have f75s := (hm74.same _ (heap_lt f73s) (notX h wF71)).trans f73s
            have r75r := row_other r73r hm74 (X5_type h72 (by decide) (by decide))
            have m75 := m73.trans hm74
            have sB75 := Nat.le_trans sB73 hm74.size
            clear f73s r73r
            have a74 := adv5 a72 b74 l74
            have o74 := Nat.le_trans o72 l74
            have L76 := hL.mv h m75
            obtain ⟨⟨u1, x1, ra1, rb1⟩, ⟨u2, x2, ra2, rb2⟩, ⟨u3, x3, ra3, rb3⟩, ⟨u4, x4, ra4, rb4⟩, -, -⟩ := id L76
            have Ld76 : Ls5 k B c w74.drew := L76.mv h74 (Mv.drew _)
            have Pd76 : P5 k w74.drew i74 bad74 := h74.mv (Mv.drew _)
            have rd76 : w74.drew.ownsRow B 101 2 k.v1 u1 x1 := ra1
            have fd76 : w74.drew.heap[F71]? = some (.cells #[.string ⟨(t.drop 7).toArray⟩, .slice sa m sc] 101 (0, 0)) := f75s
            obtain ⟨dp76, -, -, -, pp76, -, p76f⟩ := h74.pcells
            obtain ⟨nn76, dd76, qq760, qq761, qq762, qq763, -, -, q76f⟩ := h74.qall
            have q76fd : ∀ i, w74.drew.frozen? ⟨k.Q, i, none⟩ = false := q76f
            have pc76 : w74.cell? ⟨k.P, 3, none⟩ = some (.pointer (some ⟨k.Q, 0, none⟩)) := pp76
            have pc76a : ∀ o, (w74.alloc o).cell? ⟨k.P, 3, none⟩ = some (.pointer (some ⟨k.Q, 0, none⟩)) := fun o => cell_alloc pc76 o
            have qc76 : w74.cell? ⟨k.Q, 0, none⟩ = some (k.v1) := qq760
            have qc76a : ∀ o, (w74.alloc o).cell? ⟨k.Q, 0, none⟩ = some (k.v1) := fun o => cell_alloc qc76 o
            clear pp76 qq760 qq761 qq762 qq763
            have y76_0 : w74.cell? ⟨F71, 0, none⟩ = some (.string ⟨(t.drop 7).toArray⟩) := by unfold World.cell?; rw [f75s]; rfl
            have y76_0a : ∀ o, (w74.alloc o).cell? ⟨F71, 0, none⟩ = some (.string ⟨(t.drop 7).toArray⟩) := fun o => cell_alloc y76_0 o
            have y76_1 : w74.cell? ⟨F71, 1, none⟩ = some (.slice sa m sc) := by unfold World.cell?; rw [f75s]; rfl
            have y76_1a : ∀ o, (w74.alloc o).cell? ⟨F71, 1, none⟩ = some (.slice sa m sc) := fun o => cell_alloc y76_1 o
            obtain ⟨j0, hj0, hz0, hz1, hz2⟩ := info_parts info101
            go_upto_region 10 with fail
            go_cut [] from 65 to 80 (fun wx => ∃ v, P5 { k with v1 := v } wx i74 bad74 ∧ Ls5 { k with v1 := v } B (c + 1) wx ∧ Mv (fun j => B ≤ j) w74.drew wx ∧ ∃ a c', v = .slice a (u1 + 1) c')
            case first =>
              refine wp_region_any (by kernel_rfl) (wpC.any (n := 16) (C := fun w' => w'.cell? ⟨k.P, 3, none⟩ = some (.pointer (some ⟨k.Q, 0, none⟩)) ∧ w'.cell? ⟨k.Q, 0, none⟩ = some (k.v1) ∧ (w'.cell? ⟨F71, 0, none⟩ = some (.string ⟨(t.drop 7).toArray⟩) ∧ w'.cell? ⟨F71, 1, none⟩ = some (.slice sa m sc))) _ _ _ _ ?_)
              try (change wpC _ _ _ _ _ _ _ _ _ (World.drew _))
              have hC76 : (fun w' : World => w'.cell? ⟨k.P, 3, none⟩ = some (.pointer (some ⟨k.Q, 0, none⟩)) ∧ w'.cell? ⟨k.Q, 0, none⟩ = some (k.v1) ∧ (w'.cell? ⟨F71, 0, none⟩ = some (.string ⟨(t.drop 7).toArray⟩) ∧ w'.cell? ⟨F71, 1, none⟩ = some (.slice sa m sc))) w74.drew := ⟨pc76, qc76, y76_0, y76_1⟩
              refine wpC_take (i := 0) (v := ?v76x0) rfl (by kernel_rfl) (fun _ _ _ h => h) hC76 (Or.inl ⟨by rfl, ?hy76x0⟩) ?rest76x0
              case hy76x0 => (rintro w' ⟨e1, e2, e3⟩; go_simp; try with_reducible rfl)
              refine wpC_take (i := 1) (v := ?v76x1) rfl (by kernel_rfl) (fun _ _ _ h => h) hC76 (Or.inl ⟨by rfl, ?hy76x1⟩) ?rest76x1
              case hy76x1 => (rintro w' ⟨e1, e2, e3⟩; go_simp; try with_reducible rfl)
              refine wpC_take (i := 2) (v := ?v76x2) rfl (by kernel_rfl) (fun _ _ _ h => h) hC76 (Or.inl ⟨by rfl, ?hy76x2⟩) ?rest76x2
              case hy76x2 => (rintro w' ⟨e1, e2, e3⟩; go_simp; try with_reducible rfl)
              refine wpC_take (i := 3) (v := ?v76x3) rfl (by kernel_rfl) (fun _ _ _ h => h) hC76 (Or.inl ⟨by rfl, ?hy76x3⟩) ?rest76x3
              case hy76x3 => (rintro w' ⟨e1, e2, e3⟩; go_simp; try with_reducible rfl)
              refine wpC_take (i := 4) (v := ?v76x4) rfl (by kernel_rfl) (fun _ _ _ h => h) hC76 (Or.inl ⟨by rfl, ?hy76x4⟩) ?rest76x4
              case hy76x4 => (rintro w' ⟨e1, e2, e3⟩; go_simp; try with_reducible rfl)
              refine wpC_take (i := 5) (v := ?v76x5) rfl (by kernel_rfl) (fun _ _ _ h => h) hC76 (Or.inl ⟨by rfl, ?hy76x5⟩) ?rest76x5
              case hy76x5 => (rintro w' ⟨e1, e2, e3⟩; go_simp; try with_reducible rfl)
              refine wpC_take (i := 6) (v := ?v76x6) rfl (by kernel_rfl) (fun _ _ _ h => h) hC76 (Or.inl ⟨by rfl, ?hy76x6⟩) ?rest76x6
              case hy76x6 => (rintro w' ⟨e1, e2, e3⟩; go_simp; try with_reducible rfl)
              refine wpC_take (i := 7) (v := ?v76x7) rfl (by kernel_rfl) (fun _ _ _ h => h) hC76 (Or.inl ⟨by rfl, ?hy76x7⟩) ?rest76x7
              case hy76x7 => (rintro w' ⟨e1, e2, e3⟩; go_simp; try with_reducible rfl)
              refine wpC_take (i := 8) (v := ?v76x8) rfl (by kernel_rfl) (fun _ _ _ h => h) hC76 (Or.inl ⟨by rfl, ?hy76x8⟩) ?rest76x8
              case hy76x8 => (rintro w' ⟨e1, e2, e3⟩; go_simp; try with_reducible rfl)
              refine wpC_take (i := 9) (v := ?v76x9) rfl (by kernel_rfl) (fun _ _ _ h => h) hC76 (Or.inl ⟨by rfl, ?hy76x9⟩) ?rest76x9
              case hy76x9 => (rintro w' ⟨e1, e2, e3⟩; go_simp; try with_reducible rfl)
              refine wpC_take (i := 10) (v := ?v76x10) rfl (by kernel_rfl) (fun _ _ _ h => h) hC76 (Or.inl ⟨by rfl, ?hy76x10⟩) ?rest76x10
              case hy76x10 => (rintro w' ⟨e1, e2, e3⟩; go_simp; try with_reducible rfl)
              refine wpC_take (i := 11) (v := ?v76x11) rfl (by kernel_rfl) (fun _ _ _ h => h) hC76 (Or.inl ⟨by rfl, ?hy76x11⟩) ?rest76x11
              case hy76x11 => (rintro w' ⟨e1, e2, e3⟩; go_simp; try with_reducible rfl)
              clear hC76
              refine wpC_one (i := 12) (by kernel_rfl) rfl (fun K hK => ?_)
              go_simp
              refine hK _ _ (fun _ => ⟨pc76a _, qc76a _, y76_0a _, y76_1a _⟩) ?_
              clear hK K
              refine wpC_one (i := 13) (by kernel_rfl) rfl (fun K hK => ?_)
              refine step_append_lies _ rfl _ _ 43 rfl B 101 j0 (.agg #[.string ⟨#[]⟩, .slice none 0 0]) 2 40 Tryz.underlying43 hj0 hz0 hz1 hz2 rfl (by decide) k.v1 u1 x1 rfl (rd76.alloc _) _ 1 1 [.string ⟨(t.drop 7).toArray⟩, .slice sa m sc] rfl rfl (World.news_of_block (heap_alloc_new w74.drew _)) (by simp [Value.oneCell']) (by decide) (by unfold maxLen; omega) (by omega) (by have := Ld76.low.2.2; simp at this ⊢; omega) _ rfl ?_
              intro gg76 cap76 wz76 hown76 hgr76 hat76 hgl76
              obtain ⟨Pn76, mn76⟩ := Ld76.near1 Pd76 rd76 hgr76
              obtain ⟨dq76, -, -, -, pz763, -, pz76f⟩ := Pn76.pcells
              obtain ⟨nz76, ddz76, qz760, qz761, qz762, qz763, -, -, qz76f⟩ := Pn76.qall
              have fz76 := (mn76.same _ (heap_lt fd76) (fun e => by have := hL.lt1 _ e; have := wF71; omega)).trans fd76
              refine hK _ _ (fun _ => ⟨pz763, qz760, by unfold World.cell?; rw [fz76]; rfl, by unfold World.cell?; rw [fz76]; rfl⟩) ?_
              clear hK K
              refine wpC_one (i := 14) (by kernel_rfl) rfl (fun K hK => ?_)
              go_simp
              refine hK _ _ (fun _ => ⟨pz763, qz760, by unfold World.cell?; rw [fz76]; rfl, by unfold World.cell?; rw [fz76]; rfl⟩) ?_
              clear hK K
              refine wpC_one (i := 15) (by kernel_rfl) rfl (fun K hK => ?_)
              go_simp
              refine hK _ _ (fun _ => ⟨pz763, qz760, by unfold World.cell?; rw [fz76]; rfl, by unfold World.cell?; rw [fz76]; rfl⟩) ?_
              clear hK K
              refine wpC_one (i := 16) (by kernel_rfl) rfl (fun K hK => ?_)
              go_simp
              refine hK _ _ (fun h => absurd h (by decide)) ?_
              clear hK K
              refine wpC_done (by kernel_rfl) ?_
              go_wp2_with fail
              go_meet
              obtain ⟨k1, k2, k3⟩ := Ld76.push1 Pd76 rd76 rb1 hgr76 hown76
              exact ⟨_, k1, k2, k3, _, _, rfl⟩
            case rest =>
              obtain ⟨v, P77, L77, M77, sa77, sc77, hsv77⟩ := hcut
              clear L76 Ld76 Pd76 rd76 fd76 p76f q76f q76fd
              clear pc76 pc76a qc76 qc76a y76_0 y76_0a y76_1 y76_1a
              have Ld77 : Ls5 { k with v1 := v } B (c + 1) wc.drew := L77.mv P77 (Mv.drew _)
              have Pd77 : P5 { k with v1 := v } wc.drew i74 bad74 := P77.mv (Mv.drew _)
              obtain ⟨-, -, -, ⟨u5, x5, rd77, rb5⟩, -, -⟩ := id Ld77
              obtain ⟨dp77, -, -, -, pp77, -, p77f⟩ := P77.pcells
              obtain ⟨nn77, dd77, qq770, qq771, qq772, qq773, -, -, q77f⟩ := P77.qall
              have q77fd : ∀ i, wc.drew.frozen? ⟨k.Q, i, none⟩ = false := q77f
              have pc77 : wc.cell? ⟨k.P, 3, none⟩ = some (.pointer (some ⟨k.Q, 0, none⟩)) := pp77
              have pc77a : ∀ o, (wc.alloc o).cell? ⟨k.P, 3, none⟩ = some (.pointer (some ⟨k.Q, 0, none⟩)) := fun o => cell_alloc pc77 o
              have qc77 : wc.cell? ⟨k.Q, 3, none⟩ = some (k.v4) := qq773
              have qc77a : ∀ o, (wc.alloc o).cell? ⟨k.Q, 3, none⟩ = some (k.v4) := fun o => cell_alloc qc77 o
              have qb77 : wc.cell? ⟨k.Q, 0, none⟩ = some (.slice sa77 (u1 + 1) sc77) := by rw [← hsv77]; exact qq770
              have qb77a : ∀ o, (wc.alloc o).cell? ⟨k.Q, 0, none⟩ = some (.slice sa77 (u1 + 1) sc77) := fun o => cell_alloc qb77 o
              clear pp77 qq770 qq771 qq772 qq773
              obtain ⟨j1, hj1, hy0, hy1, hy2⟩ := info_parts info106
              go_upto_region 11 with fail
              refine wp_region_any (by kernel_rfl) (wpC.any (n := 25) (C := fun w' => w'.cell? ⟨k.P, 3, none⟩ = some (.pointer (some ⟨k.Q, 0, none⟩)) ∧ w'.cell? ⟨k.Q, 3, none⟩ = some k.v4 ∧ w'.cell? ⟨k.Q, 0, none⟩ = some (.slice sa77 (u1 + 1) sc77)) _ _ _ _ ?_)
              try (change wpC _ _ _ _ _ _ _ _ _ (World.drew _))
              have hC77 : (fun w' : World => w'.cell? ⟨k.P, 3, none⟩ = some (.pointer (some ⟨k.Q, 0, none⟩)) ∧ w'.cell? ⟨k.Q, 3, none⟩ = some k.v4 ∧ w'.cell? ⟨k.Q, 0, none⟩ = some (.slice sa77 (u1 + 1) sc77)) wc.drew := ⟨pc77, qc77, qb77⟩
              refine wpC_take (i := 0) (v := ?v77x0) rfl (by kernel_rfl) (fun _ _ _ h => h) hC77 (Or.inl ⟨by rfl, ?hy77x0⟩) ?rest77x0
              case hy77x0 => (rintro w' ⟨e1, e2, e3⟩; go_simp; try with_reducible rfl)
              refine wpC_take (i := 1) (v := ?v77x1) rfl (by kernel_rfl) (fun _ _ _ h => h) hC77 (Or.inl ⟨by rfl, ?hy77x1⟩) ?rest77x1
              case hy77x1 => (rintro w' ⟨e1, e2, e3⟩; go_simp; try with_reducible rfl)
              refine wpC_take (i := 2) (v := ?v77x2) rfl (by kernel_rfl) (fun _ _ _ h => h) hC77 (Or.inl ⟨by rfl, ?hy77x2⟩) ?rest77x2
              case hy77x2 => (rintro w' ⟨e1, e2, e3⟩; go_simp; try with_reducible rfl)
              refine wpC_take (i := 3) (v := ?v77x3) rfl (by kernel_rfl) (fun _ _ _ h => h) hC77 (Or.inl ⟨by rfl, ?hy77x3⟩) ?rest77x3
              case hy77x3 => (rintro w' ⟨e1, e2, e3⟩; go_simp; try with_reducible rfl)
              refine wpC_take (i := 4) (v := ?v77x4) rfl (by kernel_rfl) (fun _ _ _ h => h) hC77 (Or.inl ⟨by rfl, ?hy77x4⟩) ?rest77x4
              case hy77x4 => (rintro w' ⟨e1, e2, e3⟩; go_simp; try with_reducible rfl)
              refine wpC_take (i := 5) (v := ?v77x5) rfl (by kernel_rfl) (fun _ _ _ h => h) hC77 (Or.inl ⟨by rfl, ?hy77x5⟩) ?rest77x5
              case hy77x5 => (rintro w' ⟨e1, e2, e3⟩; go_simp; try with_reducible rfl)
              refine wpC_take (i := 6) (v := ?v77x6) rfl (by kernel_rfl) (fun _ _ _ h => h) hC77 (Or.inl ⟨by rfl, ?hy77x6⟩) ?rest77x6
              case hy77x6 => (rintro w' ⟨e1, e2, e3⟩; go_simp; try with_reducible rfl)
              refine wpC_take (i := 7) (v := ?v77x7) rfl (by kernel_rfl) (fun _ _ _ h => h) hC77 (Or.inl ⟨by rfl, ?hy77x7⟩) ?rest77x7
              case hy77x7 => (rintro w' ⟨e1, e2, e3⟩; go_simp; try with_reducible rfl)
              refine wpC_take (i := 8) (v := ?v77x8) rfl (by kernel_rfl) (fun _ _ _ h => h) hC77 (Or.inl ⟨by rfl, ?hy77x8⟩) ?rest77x8
              case hy77x8 => (rintro w' ⟨e1, e2, e3⟩; go_simp; try with_reducible rfl)
              refine wpC_take (i := 9) (v := ?v77x9) rfl (by kernel_rfl) (fun _ _ _ h => h) hC77 (Or.inl ⟨by rfl, ?hy77x9⟩) ?rest77x9
              case hy77x9 => (rintro w' ⟨e1, e2, e3⟩; go_simp; try with_reducible rfl)
              refine wpC_take (i := 10) (v := ?v77x10) rfl (by kernel_rfl) (fun _ _ _ h => h) hC77 (Or.inl ⟨by rfl, ?hy77x10⟩) ?rest77x10
              case hy77x10 => (rintro w' ⟨e1, e2, e3⟩; go_simp; try with_reducible rfl)
              refine wpC_take (i := 11) (v := ?v77x11) rfl (by kernel_rfl) (fun _ _ _ h => h) hC77 (Or.inl ⟨by rfl, ?hy77x11⟩) ?rest77x11
              case hy77x11 => (rintro w' ⟨e1, e2, e3⟩; go_simp; try with_reducible rfl)
              refine wpC_take (i := 12) (v := ?v77x12) rfl (by kernel_rfl) (fun _ _ _ h => h) hC77 (Or.inl ⟨by rfl, ?hy77x12⟩) ?rest77x12
              case hy77x12 => (rintro w' ⟨e1, e2, e3⟩; go_simp; try with_reducible rfl)
              refine wpC_take (i := 13) (v := ?v77x13) rfl (by kernel_rfl) (fun _ _ _ h => h) hC77 (Or.inl ⟨by rfl, ?hy77x13⟩) ?rest77x13
              case hy77x13 => (rintro w' ⟨e1, e2, e3⟩; go_simp; try with_reducible rfl)
              refine wpC_take (i := 14) (v := ?v77x14) rfl (by kernel_rfl) (fun _ _ _ h => h) hC77 (Or.inl ⟨by rfl, ?hy77x14⟩) ?rest77x14
              case hy77x14 => (rintro w' ⟨e1, e2, e3⟩; go_simp; try with_reducible rfl)
              refine wpC_take (i := 15) (v := ?v77x15) rfl (by kernel_rfl) (fun _ _ _ h => h) hC77 (Or.inl ⟨by rfl, ?hy77x15⟩) ?rest77x15
              case hy77x15 => (rintro w' ⟨e1, e2, e3⟩; go_simp; try with_reducible rfl)
              refine wpC_take (i := 16) (v := ?v77x16) rfl (by kernel_rfl) (fun _ _ _ h => h) hC77 (Or.inl ⟨by rfl, ?hy77x16⟩) ?rest77x16
              case hy77x16 => (rintro w' ⟨e1, e2, e3⟩; go_simp; try with_reducible rfl)
              refine wpC_take (i := 17) (v := ?v77x17) rfl (by kernel_rfl) (fun _ _ _ h => h) hC77 (Or.inl ⟨by rfl, ?hy77x17⟩) ?rest77x17
              case hy77x17 => (rintro w' ⟨e1, e2, e3⟩; go_simp; try with_reducible rfl)
              refine wpC_take (i := 18) (v := ?v77x18) rfl (by kernel_rfl) (fun _ _ _ h => h) hC77 (Or.inl ⟨by rfl, ?hy77x18⟩) ?rest77x18
              case hy77x18 => (rintro w' ⟨e1, e2, e3⟩; go_simp; try with_reducible rfl)
              refine wpC_take (i := 19) (v := ?v77x19) rfl (by kernel_rfl) (fun _ _ _ h => h) hC77 (Or.inl ⟨by rfl, ?hy77x19⟩) ?rest77x19
              case hy77x19 => (rintro w' ⟨e1, e2, e3⟩; go_simp; try with_reducible rfl)
              refine wpC_take (i := 20) (v := ?v77x20) rfl (by kernel_rfl) (fun _ _ _ h => h) hC77 (Or.inl ⟨by rfl, ?hy77x20⟩) ?rest77x20
              case hy77x20 => (rintro w' ⟨e1, e2, e3⟩; go_simp; try with_reducible rfl)
              clear hC77
              refine wpC_one (i := 21) (by kernel_rfl) rfl (fun K hK => ?_)
              go_simp
              refine hK _ _ (fun _ => ⟨pc77a _, qc77a _, qb77a _⟩) ?_
              clear hK K
              refine wpC_one (i := 22) (by kernel_rfl) rfl (fun K hK => ?_)
              refine step_append_lies _ rfl _ _ 46 rfl B 106 j1 (.agg #[.int .i64 0, .int .i64 0]) 2 16 Tryz.underlying46 hj1 hy0 hy1 hy2 rfl (by decide) k.v4 u5 x5 rfl (rd77.alloc _) _ 1 1 [.int .i64 0, .int .i64 _] rfl rfl (World.news_of_block (heap_alloc_new wc.drew _)) (by simp [Value.oneCell']) (by decide) (by unfold maxLen; omega) (by omega) (by have := Ld77.low.2.2; simp at this ⊢; omega) _ rfl ?_
              intro gg77 cap77 wz77 hown77 hgr77 hat77 hgl77
              obtain ⟨Pn77, mn77⟩ := Ld77.near4 Pd77 rd77 hgr77
              obtain ⟨pz773, qz773, qz77b, qz77f⟩ : wz77.cell? ⟨k.P, 3, none⟩ = some (.pointer (some ⟨k.Q, 0, none⟩)) ∧ wz77.cell? ⟨k.Q, 3, none⟩ = some k.v4 ∧ wz77.cell? ⟨k.Q, 0, none⟩ = some (.slice sa77 (u1 + 1) sc77) ∧ ∀ i, wz77.frozen? ⟨k.Q, i, none⟩ = false := by
                obtain ⟨dp, -, -, -, c3, -, cf⟩ := Pn77.pcells
                obtain ⟨n1, n2, m0, m1, m2, m3, -, -, mf⟩ := Pn77.qall
                exact ⟨c3, m3, by rw [← hsv77]; exact m0, mf⟩
              refine hK _ _ (fun _ => ⟨pz773, qz773, qz77b⟩) ?_
              clear hK K
              refine wpC_one (i := 23) (by kernel_rfl) rfl (fun K hK => ?_)
              go_simp
              refine hK _ _ (fun _ => ⟨pz773, qz773, qz77b⟩) ?_
              clear hK K
              refine wpC_one (i := 24) (by kernel_rfl) rfl (fun K hK => ?_)
              go_simp
              refine hK _ _ (fun _ => ⟨pz773, qz773, qz77b⟩) ?_
              clear hK K
              refine wpC_one (i := 25) (by kernel_rfl) rfl (fun K hK => ?_)
              go_simp
              refine hK _ _ (fun h => absurd h (by decide)) ?_
              clear hK K
              refine wpC_done (by kernel_rfl) ?_
              obtain ⟨k1, k2, k3⟩ := Ld77.push4 Pd77 rd77 rb5 hgr77 hown77
              go_wp2_with fail
              refine bodyPost_end (v := .tuple #[]) (by simp [results, Tryz.results26, go_sem]) rfl ⟨rfl, _, ?_, i74, bad74, k1, k2, ((m75.drawn.old hL).trans M77).trans ((Mv.drew _).trans k3), o74, l74', a74⟩
              exact ⟨rfl, rfl, rfl, rfl, rfl⟩
          · have f78s := (hm72.same _ (heap_lt hf) (notX h wF71)).trans hf
            have r78r := row_other hr hm72 (X5_type hP (by decide) (by decide))
            have m78 := hM.trans hm72
            have sB78 := Nat.le_trans hsB hm72.size
            clear hf hr
            go_wp2_with fail
            refine (typ5 k i' hle false _ h72).mono ?_
            rintro e w79 ⟨⟨t79, rfl, ht79⟩, i79, bad79, h79, hm79, l79, l79', b79, s79⟩
            have f80s := (hm79.same _ (heap_lt f78s) (notX h wF71)).trans f78s
            have r80r := row_other r78r hm79 (X5_type h72 (by decide) (by decide))
            have m80 := m78.trans hm79
            have sB80 := Nat.le_trans sB78 hm79.size
            clear f78s r78r
            have a79 := adv5 (show false = true ∨ i < i' by simpa using hlt) b79 l79
            have o79 := Nat.le_trans hlo l79
            have hov81 : ∀ j, (Value.slice sa m sc).ownBlock = some j → j < w79.heap.size := fun j hj => (ownsRow_own r80r j hj).2.1
            have wF81 : w.heap.size ≤ w79.heap.size := m80.size
            have f81d := heap_alloc_new w79 (.cells #[.string ⟨t79.toArray⟩, .string ⟨#[]⟩, .bool false] 103)
            have f81s := at_alloc f80s (.cells #[.string ⟨t79.toArray⟩, .string ⟨#[]⟩, .bool false] 103)
            have ne81s : F71 ≠ w79.heap.size := by have := heap_lt f80s; omega
            have r81r := r80r.alloc (.cells #[.string ⟨t79.toArray⟩, .string ⟨#[]⟩, .bool false] 103)
            have h81 := h79.mv (Mv.alloc (X := fun _ => False) w79 (.cells #[.string ⟨t79.toArray⟩, .string ⟨#[]⟩, .bool false] 103))
            have m81 := m80.more (.cells #[.string ⟨t79.toArray⟩, .string ⟨#[]⟩, .bool false] 103)
            have sz81 : w79.heap.size < (w79.alloc (.cells #[.string ⟨t79.toArray⟩, .string ⟨#[]⟩, .bool false] 103)).heap.size := by simp
            have sB81 := Nat.le_trans sB80 (Mv.alloc (X := fun _ => False) w79 (.cells #[.string ⟨t79.toArray⟩, .string ⟨#[]⟩, .bool false] 103)).size
            clear f80s r80r
            go_wp2_with fail
            generalize w79.alloc (.cells #[.string ⟨t79.toArray⟩, .string ⟨#[]⟩, .bool false] 103) = v81 at *
            generalize w79.heap.size = F81 at *
            refine (name5 k i79 l79' bad79 _ h81).mono ?_
            rintro e w82 ⟨⟨n82, rfl, hn82⟩, i82, bad82, h82, hm82, l82, l82', b82, s82⟩
            have f83s := (hm82.same _ (heap_lt f81s) (notX h wF71)).trans f81s
            have f83d := (hm82.same _ (heap_lt f81d) (notX h wF81)).trans f81d
            have r83r := row_other r81r hm82 (X5_type h81 (by decide) (by decide))
            have m83 := m81.trans hm82
            have sB83 := Nat.le_trans sB81 hm82.size
            clear f81s f81d r81r
            have a82 := adv5 a79 b82 l82
            have o82 := Nat.le_trans o79 l82
            have x85_0 : w82.cell? ⟨F81, 0, none⟩ = some (.string ⟨t79.toArray⟩) := by unfold World.cell?; rw [f83d]; rfl
            have x85_1 : w82.cell? ⟨F81, 1, none⟩ = some (.string ⟨#[]⟩) := by unfold World.cell?; rw [f83d]; rfl
            have x85_2 : w82.cell? ⟨F81, 2, none⟩ = some (.bool false) := by unfold World.cell?; rw [f83d]; rfl
            have x85_f : ∀ i, w82.frozen? ⟨F81, i, none⟩ = false := fun i => by unfold World.frozen?; rw [f83d]; rfl
            go_wp2_with fail
            have e84 : Mv (fun j => j = F81) w82 (w82.setCell ⟨F81, 1, none⟩ (.string ⟨n82.toArray⟩)) := (Mv.setCell (X := fun j => j = F81) _ _ rfl)
            have g84 : Mv (fun j => w.heap.size ≤ j) w82 (w82.setCell ⟨F81, 1, none⟩ (.string ⟨n82.toArray⟩)) := e84.mono (fun _ j hj => by rw [hj]; exact wF81)
            have h84 := h.fresh h82 g84
            have m84 := m83.newer g84
            have f84d : (w82.setCell ⟨F81, 1, none⟩ (.string ⟨n82.toArray⟩)).heap[F81]? = some (.cells #[.string ⟨t79.toArray⟩, .string ⟨n82.toArray⟩, .bool false] 103 (0, 0)) := (set_same f83d)
            have f84s := (e84.same _ (heap_lt f83s) ne81s).trans f83s
            have r84r := ownsRow_keep r83r e84 (fun j hj hx => by have := hov81 j hj; omega)
            have sB84 := Nat.le_trans sB83 g84.size
            clear x85_0 x85_1 x85_2 x85_f
            generalize w82.setCell ⟨F81, 1, none⟩ (.string ⟨n82.toArray⟩) = v84 at *
            refine (array5 k t79 ht79 i82 l82' bad82 _ h84).mono ?_
            rintro e w87 ⟨⟨t87, rfl, ht87⟩, i87, bad87, h87, hm87, l87, l87', b87, s87⟩
            have f88s := (hm87.same _ (heap_lt f84s) (notX h wF71)).trans f84s
            have f88d := (hm87.same _ (heap_lt f84d) (notX h wF81)).trans f84d
            have r88r := row_other r84r hm87 (X5_type h84 (by decide) (by decide))
            have m88 := m84.trans hm87
            have sB88 := Nat.le_trans sB84 hm87.size
            clear f84s f84d r84r
            have a87 := adv5 a82 b87 l87
            have o87 := Nat.le_trans o82 l87
            have x90_0 : w87.cell? ⟨F81, 0, none⟩ = some (.string ⟨t79.toArray⟩) := by unfold World.cell?; rw [f88d]; rfl
            have x90_1 : w87.cell? ⟨F81, 1, none⟩ = some (.string ⟨n82.toArray⟩) := by unfold World.cell?; rw [f88d]; rfl
            have x90_2 : w87.cell? ⟨F81, 2, none⟩ = some (.bool false) := by unfold World.cell?; rw [f88d]; rfl
            have x90_f : ∀ i, w87.frozen? ⟨F81, i, none⟩ = false := fun i => by unfold World.frozen?; rw [f88d]; rfl
            go_wp2_with fail
            have e89 : Mv (fun j => j = F81) w87 (w87.setCell ⟨F81, 0, none⟩ (.string ⟨t87.toArray⟩)) := (Mv.setCell (X := fun j => j = F81) _ _ rfl)
            have g89 : Mv (fun j => w.heap.size ≤ j) w87 (w87.setCell ⟨F81, 0, none⟩ (.string ⟨t87.toArray⟩)) := e89.mono (fun _ j hj => by rw [hj]; exact wF81)
            have h89 := h.fresh h87 g89
            have m89 := m88.newer g89
            have f89d : (w87.setCell ⟨F81, 0, none⟩ (.string ⟨t87.toArray⟩)).heap[F81]? = some (.cells #[.string ⟨t87.toArray⟩, .string ⟨n82.toArray⟩, .bool false] 103 (0, 0)) := (set_same f88d)
            have f89s := (e89.same _ (heap_lt f88s) ne81s).trans f88s
            have r89r := ownsRow_keep r88r e89 (fun j hj hx => by have := hov81 j hj; omega)
            have sB89 := Nat.le_trans sB88 g89.size
            clear x90_0 x90_1 x90_2 x90_f
            generalize w87.setCell ⟨F81, 0, none⟩ (.string ⟨t87.toArray⟩) = v89 at *
            refine (want5 k [59] i87 l87' bad87 _ h89).mono ?_
            rintro e w91 ⟨rfl, i91, bad91, h91, hm91, l91, l91', b91, s91⟩
            have f92s := (hm91.same _ (heap_lt f89s) (notX h wF71)).trans f89s
            have f92d := (hm91.same _ (heap_lt f89d) (notX h wF81)).trans f89d
            have r92r := row_other r89r hm91 (X5_type h89 (by decide) (by decide))
            have m92 := m89.trans hm91
            have sB92 := Nat.le_trans sB89 hm91.size
            clear f89s f89d r89r
            have a91 := adv5 a87 b91 l91
            have o91 := Nat.le_trans o87 l91
            have hRz : R5 k i91 bad91 < R5 k i' false := R5_lt (by omega) (adv5 (adv5 (adv5 (show bad79 = true ∨ i' < i79 from (s79 (by simp)).imp id (fun hs => by omega)) b82 l82) b87 l87) b91 l91)
            have x94_0 : w91.cell? ⟨F81, 0, none⟩ = some (.string ⟨t87.toArray⟩) := by unfold World.cell?; rw [f92d]; rfl
            have x94_1 : w91.cell? ⟨F81, 1, none⟩ = some (.string ⟨n82.toArray⟩) := by unfold World.cell?; rw [f92d]; rfl
            have x94_2 : w91.cell? ⟨F81, 2, none⟩ = some (.bool false) := by unfold World.cell?; rw [f92d]; rfl
            have x94_f : ∀ i, w91.frozen? ⟨F81, i, none⟩ = false := fun i => by unfold World.frozen?; rw [f92d]; rfl
            have x95_0 : w91.cell? ⟨F71, 0, none⟩ = some (.string ⟨(t.drop 7).toArray⟩) := by unfold World.cell?; rw [f92s]; rfl
            have x95_1 : w91.cell? ⟨F71, 1, none⟩ = some (.slice sa m sc) := by unfold World.cell?; rw [f92s]; rfl
            have x95_f : ∀ i, w91.frozen? ⟨F71, i, none⟩ = false := fun i => by unfold World.frozen?; rw [f92s]; rfl
            obtain ⟨j0, hj0, hz0, hz1, hz2⟩ := info_parts info103
            go_wp2_with (at_builtin; refine wpList_append_lies _ rfl _ _ 44 rfl v71.heap.size 103 j0 (.agg #[.string ⟨#[]⟩, .string ⟨#[]⟩, .bool false]) 3 40 Tryz.underlying44 hj0 hz0 hz1 hz2 rfl (by decide) (Value.slice sa m sc) m xs rfl (r92r.alloc _) _ 1 1 [.string ⟨t87.toArray⟩, .string ⟨n82.toArray⟩, .bool false] rfl rfl (World.news_of_block (heap_alloc_new w91 _)) (by simp [Value.oneCell']) (by decide) (by unfold maxLen; omega) (by omega) (by have := sB92; simp; omega) _ rfl ?_)
            intro gg93 cap93 wz93 hown93 hgr93 hat93 hgl93
            have mn93 : Mv (fun j => (Value.slice sa m sc).ownBlock = some j) w91 wz93 := (Mv.alloc _ _).trans (Mv.of_grown hgr93 (fun r e => e))
            have hb93 : ∀ j, (Value.slice sa m sc).ownBlock = some j → v71.heap.size ≤ j := fun j hj => (ownsRow_own r92r j hj).1
            have mo93 : Mv (fun j => w.heap.size ≤ j) w91 wz93 := mn93.mono (fun j _ hj => by have := hb93 j hj; have := wB70; omega)
            have hz93 := h.fresh h91 mo93
            have mz93 := m92.newer mo93
            have fz93 := (mn93.same _ (heap_lt f92s) (fun e => by have := hb93 _ e; have := FB70; omega)).trans f92s
            clear x94_0 x94_1 x94_2 x94_f
            clear x95_0 x95_1 x95_f
            have xz93_0 : wz93.cell? ⟨F71, 0, none⟩ = some (.string ⟨(t.drop 7).toArray⟩) := by unfold World.cell?; rw [fz93]; rfl
            have xz93_1 : wz93.cell? ⟨F71, 1, none⟩ = some (.slice sa m sc) := by unfold World.cell?; rw [fz93]; rfl
            have xz93_f : ∀ i, wz93.frozen? ⟨F71, i, none⟩ = false := fun i => by unfold World.frozen?; rw [fz93]; rfl
            have e93 : Mv (fun j => j = F71) wz93 (wz93.setCell ⟨F71, 1, none⟩ (.slice (some ⟨gg93, 0, none⟩) (m + 1) cap93)) := Mv.setCell _ _ rfl
            have g93 : Mv (fun j => w.heap.size ≤ j) wz93 (wz93.setCell ⟨F71, 1, none⟩ (.slice (some ⟨gg93, 0, none⟩) (m + 1) cap93)) := e93.mono (fun _ j hj => by rw [hj]; exact wF71)
            have hy93 := h.fresh hz93 g93
            have my93 := mz93.newer g93
            have fy93 : (wz93.setCell ⟨F71, 1, none⟩ (.slice (some ⟨gg93, 0, none⟩) (m + 1) cap93)).heap[F71]? = some (.cells #[.string ⟨(t.drop 7).toArray⟩, .slice (some ⟨gg93, 0, none⟩) (m + 1) cap93] 101 (0, 0)) := set_same fz93
            have ry93 := ownsRow_keep hown93 e93 (fun j hj hx => by have := (ownsRow_own hown93 j hj).1; have := FB70; omega)
            have hsz93 : v71.heap.size ≤ (wz93.setCell ⟨F71, 1, none⟩ (.slice (some ⟨gg93, 0, none⟩) (m + 1) cap93)).heap.size := Nat.le_trans sB92 (Nat.le_trans mo93.size g93.size)
            go_wp2_with fail
            go_roundg (R5 k i91 bad91)
            case measure => omega
            case rel => exact ⟨i91, bad91, _, m + 1, _, hy93, my93, fy93, ry93, hsz93, a91, o91, l91', by omega, Nat.le_refl _⟩
        · go_wp2_with fail
          refine (want5 k [59] i' hle true _ hP).mono ?_
          rintro e w96 ⟨rfl, i96, bad96, h96, hm96, l96, l96', b96, s96⟩
          have f97s := (hm96.same _ (heap_lt hf) (notX h wF71)).trans hf
          have r97r := row_other hr hm96 (X5_type hP (by decide) (by decide))
          have m97 := hM.trans hm96
          have sB97 := Nat.le_trans hsB hm96.size
          clear hf hr
          have a96 := adv5 (show true = true ∨ i < i' from .inl rfl) b96 l96
          have o96 := Nat.le_trans hlo l96
          have L98 := hL.mv h m97
          obtain ⟨⟨u1, x1, ra1, rb1⟩, ⟨u2, x2, ra2, rb2⟩, ⟨u3, x3, ra3, rb3⟩, ⟨u4, x4, ra4, rb4⟩, -, -⟩ := id L98
          have Ld98 : Ls5 k B c w96.drew := L98.mv h96 (Mv.drew _)
          have Pd98 : P5 k w96.drew i96 bad96 := h96.mv (Mv.drew _)
          have rd98 : w96.drew.ownsRow B 101 2 k.v1 u1 x1 := ra1
          have fd98 : w96.drew.heap[F71]? = some (.cells #[.string ⟨(t.drop 7).toArray⟩, .slice sa m sc] 101 (0, 0)) := f97s
          obtain ⟨dp98, -, -, -, pp98, -, p98f⟩ := h96.pcells
          obtain ⟨nn98, dd98, qq980, qq981, qq982, qq983, -, -, q98f⟩ := h96.qall
          have q98fd : ∀ i, w96.drew.frozen? ⟨k.Q, i, none⟩ = false := q98f
          have pc98 : w96.cell? ⟨k.P, 3, none⟩ = some (.pointer (some ⟨k.Q, 0, none⟩)) := pp98
          have pc98a : ∀ o, (w96.alloc o).cell? ⟨k.P, 3, none⟩ = some (.pointer (some ⟨k.Q, 0, none⟩)) := fun o => cell_alloc pc98 o
          have qc98 : w96.cell? ⟨k.Q, 0, none⟩ = some (k.v1) := qq980
          have qc98a : ∀ o, (w96.alloc o).cell? ⟨k.Q, 0, none⟩ = some (k.v1) := fun o => cell_alloc qc98 o
          clear pp98 qq980 qq981 qq982 qq983
          have y98_0 : w96.cell? ⟨F71, 0, none⟩ = some (.string ⟨(t.drop 7).toArray⟩) := by unfold World.cell?; rw [f97s]; rfl
          have y98_0a : ∀ o, (w96.alloc o).cell? ⟨F71, 0, none⟩ = some (.string ⟨(t.drop 7).toArray⟩) := fun o => cell_alloc y98_0 o
          have y98_1 : w96.cell? ⟨F71, 1, none⟩ = some (.slice sa m sc) := by unfold World.cell?; rw [f97s]; rfl
          have y98_1a : ∀ o, (w96.alloc o).cell? ⟨F71, 1, none⟩ = some (.slice sa m sc) := fun o => cell_alloc y98_1 o
          obtain ⟨j0, hj0, hz0, hz1, hz2⟩ := info_parts info101
          go_upto_region 10 with fail
          go_cut [] from 65 to 80 (fun wx => ∃ v, P5 { k with v1 := v } wx i96 bad96 ∧ Ls5 { k with v1 := v } B (c + 1) wx ∧ Mv (fun j => B ≤ j) w96.drew wx ∧ ∃ a c', v = .slice a (u1 + 1) c')
          case first =>
            refine wp_region_any (by kernel_rfl) (wpC.any (n := 16) (C := fun w' => w'.cell? ⟨k.P, 3, none⟩ = some (.pointer (some ⟨k.Q, 0, none⟩)) ∧ w'.cell? ⟨k.Q, 0, none⟩ = some (k.v1) ∧ (w'.cell? ⟨F71, 0, none⟩ = some (.string ⟨(t.drop 7).toArray⟩) ∧ w'.cell? ⟨F71, 1, none⟩ = some (.slice sa m sc))) _ _ _ _ ?_)
            try (change wpC _ _ _ _ _ _ _ _ _ (World.drew _))
            have hC98 : (fun w' : World => w'.cell? ⟨k.P, 3, none⟩ = some (.pointer (some ⟨k.Q, 0, none⟩)) ∧ w'.cell? ⟨k.Q, 0, none⟩ = some (k.v1) ∧ (w'.cell? ⟨F71, 0, none⟩ = some (.string ⟨(t.drop 7).toArray⟩) ∧ w'.cell? ⟨F71, 1, none⟩ = some (.slice sa m sc))) w96.drew := ⟨pc98, qc98, y98_0, y98_1⟩
            refine wpC_take (i := 0) (v := ?v98x0) rfl (by kernel_rfl) (fun _ _ _ h => h) hC98 (Or.inl ⟨by rfl, ?hy98x0⟩) ?rest98x0
            case hy98x0 => (rintro w' ⟨e1, e2, e3⟩; go_simp; try with_reducible rfl)
            refine wpC_take (i := 1) (v := ?v98x1) rfl (by kernel_rfl) (fun _ _ _ h => h) hC98 (Or.inl ⟨by rfl, ?hy98x1⟩) ?rest98x1
            case hy98x1 => (rintro w' ⟨e1, e2, e3⟩; go_simp; try with_reducible rfl)
            refine wpC_take (i := 2) (v := ?v98x2) rfl (by kernel_rfl) (fun _ _ _ h => h) hC98 (Or.inl ⟨by rfl, ?hy98x2⟩) ?rest98x2
            case hy98x2 => (rintro w' ⟨e1, e2, e3⟩; go_simp; try with_reducible rfl)
            refine wpC_take (i := 3) (v := ?v98x3) rfl (by kernel_rfl) (fun _ _ _ h => h) hC98 (Or.inl ⟨by rfl, ?hy98x3⟩) ?rest98x3
            case hy98x3 => (rintro w' ⟨e1, e2, e3⟩; go_simp; try with_reducible rfl)
            refine wpC_take (i := 4) (v := ?v98x4) rfl (by kernel_rfl) (fun _ _ _ h => h) hC98 (Or.inl ⟨by rfl, ?hy98x4⟩) ?rest98x4
            case hy98x4 => (rintro w' ⟨e1, e2, e3⟩; go_simp; try with_reducible rfl)
            refine wpC_take (i := 5) (v := ?v98x5) rfl (by kernel_rfl) (fun _ _ _ h => h) hC98 (Or.inl ⟨by rfl, ?hy98x5⟩) ?rest98x5
            case hy98x5 => (rintro w' ⟨e1, e2, e3⟩; go_simp; try with_reducible rfl)
            refine wpC_take (i := 6) (v := ?v98x6) rfl (by kernel_rfl) (fun _ _ _ h => h) hC98 (Or.inl ⟨by rfl, ?hy98x6⟩) ?rest98x6
            case hy98x6 => (rintro w' ⟨e1, e2, e3⟩; go_simp; try with_reducible rfl)
            refine wpC_take (i := 7) (v := ?v98x7) rfl (by kernel_rfl) (fun _ _ _ h => h) hC98 (Or.inl ⟨by rfl, ?hy98x7⟩) ?rest98x7
            case hy98x7 => (rintro w' ⟨e1, e2, e3⟩; go_simp; try with_reducible rfl)
            refine wpC_take (i := 8) (v := ?v98x8) rfl (by kernel_rfl) (fun _ _ _ h => h) hC98 (Or.inl ⟨by rfl, ?hy98x8⟩) ?rest98x8
            case hy98x8 => (rintro w' ⟨e1, e2, e3⟩; go_simp; try with_reducible rfl)
            refine wpC_take (i := 9) (v := ?v98x9) rfl (by kernel_rfl) (fun _ _ _ h => h) hC98 (Or.inl ⟨by rfl, ?hy98x9⟩) ?rest98x9
            case hy98x9 => (rintro w' ⟨e1, e2, e3⟩; go_simp; try with_reducible rfl)
            refine wpC_take (i := 10) (v := ?v98x10) rfl (by kernel_rfl) (fun _ _ _ h => h) hC98 (Or.inl ⟨by rfl, ?hy98x10⟩) ?rest98x10
            case hy98x10 => (rintro w' ⟨e1, e2, e3⟩; go_simp; try with_reducible rfl)
            refine wpC_take (i := 11) (v := ?v98x11) rfl (by kernel_rfl) (fun _ _ _ h => h) hC98 (Or.inl ⟨by rfl, ?hy98x11⟩) ?rest98x11
            case hy98x11 => (rintro w' ⟨e1, e2, e3⟩; go_simp; try with_reducible rfl)
            clear hC98
            refine wpC_one (i := 12) (by kernel_rfl) rfl (fun K hK => ?_)
            go_simp
            refine hK _ _ (fun _ => ⟨pc98a _, qc98a _, y98_0a _, y98_1a _⟩) ?_
            clear hK K
            refine wpC_one (i := 13) (by kernel_rfl) rfl (fun K hK => ?_)
            refine step_append_lies _ rfl _ _ 43 rfl B 101 j0 (.agg #[.string ⟨#[]⟩, .slice none 0 0]) 2 40 Tryz.underlying43 hj0 hz0 hz1 hz2 rfl (by decide) k.v1 u1 x1 rfl (rd98.alloc _) _ 1 1 [.string ⟨(t.drop 7).toArray⟩, .slice sa m sc] rfl rfl (World.news_of_block (heap_alloc_new w96.drew _)) (by simp [Value.oneCell']) (by decide) (by unfold maxLen; omega) (by omega) (by have := Ld98.low.2.2; simp at this ⊢; omega) _ rfl ?_
            intro gg98 cap98 wz98 hown98 hgr98 hat98 hgl98
            obtain ⟨Pn98, mn98⟩ := Ld98.near1 Pd98 rd98 hgr98
            obtain ⟨dq98, -, -, -, pz983, -, pz98f⟩ := Pn98.pcells
            obtain ⟨nz98, ddz98, qz980, qz981, qz982, qz983, -, -, qz98f⟩ := Pn98.qall
            have fz98 := (mn98.same _ (heap_lt fd98) (fun e => by have := hL.lt1 _ e; have := wF71; omega)).trans fd98
            refine hK _ _ (fun _ => ⟨pz983, qz980, by unfold World.cell?; rw [fz98]; rfl, by unfold World.cell?; rw [fz98]; rfl⟩) ?_
            clear hK K
            refine wpC_one (i := 14) (by kernel_rfl) rfl (fun K hK => ?_)
            go_simp
            refine hK _ _ (fun _ => ⟨pz983, qz980, by unfold World.cell?; rw [fz98]; rfl, by unfold World.cell?; rw [fz98]; rfl⟩) ?_
            clear hK K
            refine wpC_one (i := 15) (by kernel_rfl) rfl (fun K hK => ?_)
            go_simp
            refine hK _ _ (fun _ => ⟨pz983, qz980, by unfold World.cell?; rw [fz98]; rfl, by unfold World.cell?; rw [fz98]; rfl⟩) ?_
            clear hK K
            refine wpC_one (i := 16) (by kernel_rfl) rfl (fun K hK => ?_)
            go_simp
            refine hK _ _ (fun h => absurd h (by decide)) ?_
            clear hK K
            refine wpC_done (by kernel_rfl) ?_
            go_wp2_with fail
            go_meet
            obtain ⟨k1, k2, k3⟩ := Ld98.push1 Pd98 rd98 rb1 hgr98 hown98
            exact ⟨_, k1, k2, k3, _, _, rfl⟩
          case rest =>
            obtain ⟨v, P99, L99, M99, sa99, sc99, hsv99⟩ := hcut
            clear L98 Ld98 Pd98 rd98 fd98 p98f q98f q98fd
            clear pc98 pc98a qc98 qc98a y98_0 y98_0a y98_1 y98_1a
            have Ld99 : Ls5 { k with v1 := v } B (c + 1) wc.drew := L99.mv P99 (Mv.drew _)
            have Pd99 : P5 { k with v1 := v } wc.drew i96 bad96 := P99.mv (Mv.drew _)
            obtain ⟨-, -, -, ⟨u5, x5, rd99, rb5⟩, -, -⟩ := id Ld99
            obtain ⟨dp99, -, -, -, pp99, -, p99f⟩ := P99.pcells
            obtain ⟨nn99, dd99, qq990, qq991, qq992, qq993, -, -, q99f⟩ := P99.qall
            have q99fd : ∀ i, wc.drew.frozen? ⟨k.Q, i, none⟩ = false := q99f
            have pc99 : wc.cell? ⟨k.P, 3, none⟩ = some (.pointer (some ⟨k.Q, 0, none⟩)) := pp99
            have pc99a : ∀ o, (wc.alloc o).cell? ⟨k.P, 3, none⟩ = some (.pointer (some ⟨k.Q, 0, none⟩)) := fun o => cell_alloc pc99 o
            have qc99 : wc.cell? ⟨k.Q, 3, none⟩ = some (k.v4) := qq993
            have qc99a : ∀ o, (wc.alloc o).cell? ⟨k.Q, 3, none⟩ = some (k.v4) := fun o => cell_alloc qc99 o
            have qb99 : wc.cell? ⟨k.Q, 0, none⟩ = some (.slice sa99 (u1 + 1) sc99) := by rw [← hsv99]; exact qq990
            have qb99a : ∀ o, (wc.alloc o).cell? ⟨k.Q, 0, none⟩ = some (.slice sa99 (u1 + 1) sc99) := fun o => cell_alloc qb99 o
            clear pp99 qq990 qq991 qq992 qq993
            obtain ⟨j1, hj1, hy0, hy1, hy2⟩ := info_parts info106
            go_upto_region 11 with fail
            refine wp_region_any (by kernel_rfl) (wpC.any (n := 25) (C := fun w' => w'.cell? ⟨k.P, 3, none⟩ = some (.pointer (some ⟨k.Q, 0, none⟩)) ∧ w'.cell? ⟨k.Q, 3, none⟩ = some k.v4 ∧ w'.cell? ⟨k.Q, 0, none⟩ = some (.slice sa99 (u1 + 1) sc99)) _ _ _ _ ?_)
            try (change wpC _ _ _ _ _ _ _ _ _ (World.drew _))
            have hC99 : (fun w' : World => w'.cell? ⟨k.P, 3, none⟩ = some (.pointer (some ⟨k.Q, 0, none⟩)) ∧ w'.cell? ⟨k.Q, 3, none⟩ = some k.v4 ∧ w'.cell? ⟨k.Q, 0, none⟩ = some (.slice sa99 (u1 + 1) sc99)) wc.drew := ⟨pc99, qc99, qb99⟩
            refine wpC_take (i := 0) (v := ?v99x0) rfl (by kernel_rfl) (fun _ _ _ h => h) hC99 (Or.inl ⟨by rfl, ?hy99x0⟩) ?rest99x0
            case hy99x0 => (rintro w' ⟨e1, e2, e3⟩; go_simp; try with_reducible rfl)
            refine wpC_take (i := 1) (v := ?v99x1) rfl (by kernel_rfl) (fun _ _ _ h => h) hC99 (Or.inl ⟨by rfl, ?hy99x1⟩) ?rest99x1
            case hy99x1 => (rintro w' ⟨e1, e2, e3⟩; go_simp; try with_reducible rfl)
            refine wpC_take (i := 2) (v := ?v99x2) rfl (by kernel_rfl) (fun _ _ _ h => h) hC99 (Or.inl ⟨by rfl, ?hy99x2⟩) ?rest99x2
            case hy99x2 => (rintro w' ⟨e1, e2, e3⟩; go_simp; try with_reducible rfl)
            refine wpC_take (i := 3) (v := ?v99x3) rfl (by kernel_rfl) (fun _ _ _ h => h) hC99 (Or.inl ⟨by rfl, ?hy99x3⟩) ?rest99x3
            case hy99x3 => (rintro w' ⟨e1, e2, e3⟩; go_simp; try with_reducible rfl)
            refine wpC_take (i := 4) (v := ?v99x4) rfl (by kernel_rfl) (fun _ _ _ h => h) hC99 (Or.inl ⟨by rfl, ?hy99x4⟩) ?rest99x4
            case hy99x4 => (rintro w' ⟨e1, e2, e3⟩; go_simp; try with_reducible rfl)
            refine wpC_take (i := 5) (v := ?v99x5) rfl (by kernel_rfl) (fun _ _ _ h => h) hC99 (Or.inl ⟨by rfl, ?hy99x5⟩) ?rest99x5
            case hy99x5 => (rintro w' ⟨e1, e2, e3⟩; go_simp; try with_reducible rfl)
            refine wpC_take (i := 6) (v := ?v99x6) rfl (by kernel_rfl) (fun _ _ _ h => h) hC99 (Or.inl ⟨by rfl, ?hy99x6⟩) ?rest99x6
            case hy99x6 => (rintro w' ⟨e1, e2, e3⟩; go_simp; try with_reducible rfl)
            refine wpC_take (i := 7) (v := ?v99x7) rfl (by kernel_rfl) (fun _ _ _ h => h) hC99 (Or.inl ⟨by rfl, ?hy99x7⟩) ?rest99x7
            case hy99x7 => (rintro w' ⟨e1, e2, e3⟩; go_simp; try with_reducible rfl)
            refine wpC_take (i := 8) (v := ?v99x8) rfl (by kernel_rfl) (fun _ _ _ h => h) hC99 (Or.inl ⟨by rfl, ?hy99x8⟩) ?rest99x8
            case hy99x8 => (rintro w' ⟨e1, e2, e3⟩; go_simp; try with_reducible rfl)
            refine wpC_take (i := 9) (v := ?v99x9) rfl (by kernel_rfl) (fun _ _ _ h => h) hC99 (Or.inl ⟨by rfl, ?hy99x9⟩) ?rest99x9
            case hy99x9 => (rintro w' ⟨e1, e2, e3⟩; go_simp; try with_reducible rfl)
            refine wpC_take (i := 10) (v := ?v99x10) rfl (by kernel_rfl) (fun _ _ _ h => h) hC99 (Or.inl ⟨by rfl, ?hy99x10⟩) ?rest99x10
            case hy99x10 => (rintro w' ⟨e1, e2, e3⟩; go_simp; try with_reducible rfl)
            refine wpC_take (i := 11) (v := ?v99x11) rfl (by kernel_rfl) (fun _ _ _ h => h) hC99 (Or.inl ⟨by rfl, ?hy99x11⟩) ?rest99x11
            case hy99x11 => (rintro w' ⟨e1, e2, e3⟩; go_simp; try with_reducible rfl)
            refine wpC_take (i := 12) (v := ?v99x12) rfl (by kernel_rfl) (fun _ _ _ h => h) hC99 (Or.inl ⟨by rfl, ?hy99x12⟩) ?rest99x12
            case hy99x12 => (rintro w' ⟨e1, e2, e3⟩; go_simp; try with_reducible rfl)
            refine wpC_take (i := 13) (v := ?v99x13) rfl (by kernel_rfl) (fun _ _ _ h => h) hC99 (Or.inl ⟨by rfl, ?hy99x13⟩) ?rest99x13
            case hy99x13 => (rintro w' ⟨e1, e2, e3⟩; go_simp; try with_reducible rfl)
            refine wpC_take (i := 14) (v := ?v99x14) rfl (by kernel_rfl) (fun _ _ _ h => h) hC99 (Or.inl ⟨by rfl, ?hy99x14⟩) ?rest99x14
            case hy99x14 => (rintro w' ⟨e1, e2, e3⟩; go_simp; try with_reducible rfl)
            refine wpC_take (i := 15) (v := ?v99x15) rfl (by kernel_rfl) (fun _ _ _ h => h) hC99 (Or.inl ⟨by rfl, ?hy99x15⟩) ?rest99x15
            case hy99x15 => (rintro w' ⟨e1, e2, e3⟩; go_simp; try with_reducible rfl)
            refine wpC_take (i := 16) (v := ?v99x16) rfl (by kernel_rfl) (fun _ _ _ h => h) hC99 (Or.inl ⟨by rfl, ?hy99x16⟩) ?rest99x16
            case hy99x16 => (rintro w' ⟨e1, e2, e3⟩; go_simp; try with_reducible rfl)
            refine wpC_take (i := 17) (v := ?v99x17) rfl (by kernel_rfl) (fun _ _ _ h => h) hC99 (Or.inl ⟨by rfl, ?hy99x17⟩) ?rest99x17
            case hy99x17 => (rintro w' ⟨e1, e2, e3⟩; go_simp; try with_reducible rfl)
            refine wpC_take (i := 18) (v := ?v99x18) rfl (by kernel_rfl) (fun _ _ _ h => h) hC99 (Or.inl ⟨by rfl, ?hy99x18⟩) ?rest99x18
            case hy99x18 => (rintro w' ⟨e1, e2, e3⟩; go_simp; try with_reducible rfl)
            refine wpC_take (i := 19) (v := ?v99x19) rfl (by kernel_rfl) (fun _ _ _ h => h) hC99 (Or.inl ⟨by rfl, ?hy99x19⟩) ?rest99x19
            case hy99x19 => (rintro w' ⟨e1, e2, e3⟩; go_simp; try with_reducible rfl)
            refine wpC_take (i := 20) (v := ?v99x20) rfl (by kernel_rfl) (fun _ _ _ h => h) hC99 (Or.inl ⟨by rfl, ?hy99x20⟩) ?rest99x20
            case hy99x20 => (rintro w' ⟨e1, e2, e3⟩; go_simp; try with_reducible rfl)
            clear hC99
            refine wpC_one (i := 21) (by kernel_rfl) rfl (fun K hK => ?_)
            go_simp
            refine hK _ _ (fun _ => ⟨pc99a _, qc99a _, qb99a _⟩) ?_
            clear hK K
            refine wpC_one (i := 22) (by kernel_rfl) rfl (fun K hK => ?_)
            refine step_append_lies _ rfl _ _ 46 rfl B 106 j1 (.agg #[.int .i64 0, .int .i64 0]) 2 16 Tryz.underlying46 hj1 hy0 hy1 hy2 rfl (by decide) k.v4 u5 x5 rfl (rd99.alloc _) _ 1 1 [.int .i64 0, .int .i64 _] rfl rfl (World.news_of_block (heap_alloc_new wc.drew _)) (by simp [Value.oneCell']) (by decide) (by unfold maxLen; omega) (by omega) (by have := Ld99.low.2.2; simp at this ⊢; omega) _ rfl ?_
            intro gg99 cap99 wz99 hown99 hgr99 hat99 hgl99
            obtain ⟨Pn99, mn99⟩ := Ld99.near4 Pd99 rd99 hgr99
            obtain ⟨pz993, qz993, qz99b, qz99f⟩ : wz99.cell? ⟨k.P, 3, none⟩ = some (.pointer (some ⟨k.Q, 0, none⟩)) ∧ wz99.cell? ⟨k.Q, 3, none⟩ = some k.v4 ∧ wz99.cell? ⟨k.Q, 0, none⟩ = some (.slice sa99 (u1 + 1) sc99) ∧ ∀ i, wz99.frozen? ⟨k.Q, i, none⟩ = false := by
              obtain ⟨dp, -, -, -, c3, -, cf⟩ := Pn99.pcells
              obtain ⟨n1, n2, m0, m1, m2, m3, -, -, mf⟩ := Pn99.qall
              exact ⟨c3, m3, by rw [← hsv99]; exact m0, mf⟩
            refine hK _ _ (fun _ => ⟨pz993, qz993, qz99b⟩) ?_
            clear hK K
            refine wpC_one (i := 23) (by kernel_rfl) rfl (fun K hK => ?_)
            go_simp
            refine hK _ _ (fun _ => ⟨pz993, qz993, qz99b⟩) ?_
            clear hK K
            refine wpC_one (i := 24) (by kernel_rfl) rfl (fun K hK => ?_)
            go_simp
            refine hK _ _ (fun _ => ⟨pz993, qz993, qz99b⟩) ?_
            clear hK K
            refine wpC_one (i := 25) (by kernel_rfl) rfl (fun K hK => ?_)
            go_simp
            refine hK _ _ (fun h => absurd h (by decide)) ?_
            clear hK K
            refine wpC_done (by kernel_rfl) ?_
            obtain ⟨k1, k2, k3⟩ := Ld99.push4 Pd99 rd99 rb5 hgr99 hown99
            go_wp2_with fail
            refine bodyPost_end (v := .tuple #[]) (by simp [results, Tryz.results26, go_sem]) rfl ⟨rfl, _, ?_, i96, bad96, k1, k2, ((m97.drawn.old hL).trans M99).trans ((Mv.drew _).trans k3), o96, l96', a96⟩
            exact ⟨rfl, rfl, rfl, rfl, rfl⟩
end Go.Proofs.YtjgpbpmicopemaaGreatDoor
