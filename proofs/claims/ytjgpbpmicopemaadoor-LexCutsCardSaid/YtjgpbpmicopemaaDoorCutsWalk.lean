/-
  LexCuts answers true, for every text and every number.
-/
import Derived.Test.YtjgpbpmicopemaaDoorRefWords
import Derived.Test.YtjgpbpmicopemaaDoorAgain
import Derived.Deep.CutBlock
import Derived.Test.YtjgpbpmicopemaaDoorRound
import Derived.Sort.QuietIn
namespace Go.Proofs.YtjgpbpmicopemaaDoor
open Go.RowKit Go.Shelf
attribute [local go_sem] Oper.semAt_some

/-- the law's own boxes: where to leave, the answer -/
structure Cb (w0 : World) (n : Int) (W : World) : Prop where
  leave : IntAt W w0.heap.size n
  res : BlAt W (w0.heap.size + 1) false
  low : Below w0.heap.size w0 W
  size : w0.heap.size + 2 ≤ W.heap.size
theorem Cb.below {w0 : World} {n : Int} {W W' : World} (h : Cb w0 n W) (hb : Below W.heap.size W W') : Cb w0 n W' :=
  ⟨(hb.block _ (heap_lt h.leave)).trans h.leave, (hb.block _ (heap_lt h.res)).trans h.res, h.low.trans (hb.mono h.low.size), Nat.le_trans h.size hb.size⟩
theorem Cb.start (w : World) (n : Int) : Cb w n ((w.alloc (.cells #[.int .i64 n] 3)).alloc (.cells #[.bool false] 4)) := by
  have h := heap_alloc_new (w.alloc (.cells #[.int .i64 n] 3)) (.cells #[.bool false] 4)
  rw [World.size_alloc] at h
  exact ⟨(Below.heap_alloc _ _ _ (by simp)).trans (heap_alloc_new w _), h, ((Below.refl _ _).alloc (Nat.le_refl _) _).alloc (by simp) _, by simp⟩
theorem row34_sl {W : World} {B : Nat} {v : Value} {xs : List It} (h : W.ownsRow B 34 5 v xs.length (xs.flatMap It.cells)) : SlRow W v xs := by
  obtain ⟨h1, ⟨rfl, h2⟩ | ⟨g, cap, cur, rfl, e2, e3, e4, e5, e6, e7⟩⟩ := h
  · exact ⟨none, 0, by rw [h2], by omega, by decide, fun h => by omega⟩
  · refine ⟨_, _, rfl, e4, e5, fun _ => ⟨g, rfl, heap_lt e3, fun i hi r hr => ?_⟩⟩
    rw [← flat_get xs i r hi hr, ← e7, List.getElem?_take, if_pos (by omega), Nat.mul_comm 5 i]
    simp only [World.cell?, e3]
    simp
def WAt (W : World) (g : Nat) (v : Value) : Prop := W.heap[g]? = some (.cells #[v] 31 (0, 0))
theorem WAt.cells {W : World} {g : Nat} {v : Value} (h : WAt W g v) : W.cell? ⟨g, 0, none⟩ = some v := by
  unfold WAt at h
  simp [World.cell?, h]
theorem WAt.below {W W' : World} {g : Nat} {v : Value} (h : WAt W g v) (hb : Below W.heap.size W W') : WAt W' g v := (hb.block _ (heap_lt h)).trans h
/-- the two words' lists beside one another -/
theorem both (s : List UInt8) (p : Int × Int) (pre : List It) (n : Int) (h : (65536 < s.length ∧ pre = [] ∧ p = (0, 0) ∧ n = 2) ∨ (s.length ≤ 65536 ∧ pre = goods s ∧ p = faultP s ∧ n = if (faultO s).isSome then 3 else 0)) :
    wordsE s = n ∧ wordsP s = p ∧ eachL s = pre ∧ (n = 0 ∧ wordsL s = pre ∨ n ≠ 0 ∧ wordsL s = []) := by
  unfold wordsE wordsP eachL wordsL
  rcases h with ⟨h1, rfl, rfl, rfl⟩ | ⟨h1, rfl, rfl, rfl⟩
  · simp [h1]
  · have h2 : ¬ 65536 < s.length := by omega
    simp only [if_neg h2]
    cases hf : faultO s with
    | none => simp [faultP, hf]
    | some x => simp
/-- what stands where the words are gone through -/
structure Ag (w0 : World) (n : Int) (x4 L M : Nat) (ve v2 : Value) (pre : List It) (W : World) : Prop where
  cb : Cb w0 n W
  wv : WAt W x4 v2
  sl : SlAt W L ve
  rw : W.ownsRow (L + 1) 30 5 ve pre.length (pre.flatMap It.cells)
  sy : SlRow W v2 pre
  lx : x4 < M
  lL : L < M
  l0 : w0.heap.size + 2 ≤ M
  le : ∀ g, ve.ownBlock = some g → g < M
  l2 : ∀ g, v2.ownBlock = some g → g < M
  size : M ≤ W.heap.size
theorem Ag.mv {w0 : World} {n : Int} {x4 L M : Nat} {ve v2 : Value} {pre : List It} {W W' : World} {X : Nat → Prop} (h : Ag w0 n x4 L M ve v2 pre W) (m : Mv X W W') (hX : ∀ k, X k → M ≤ k) : Ag w0 n x4 L M ve v2 pre W' := by
  have key : ∀ {g : Nat} {o : Obj}, W.heap[g]? = some o → g < M → W'.heap[g]? = some o := fun hg hl => (m.same _ (heap_lt hg) (fun hx => by have := hX _ hx; omega)).trans hg
  have k0 := h.l0
  refine ⟨⟨key h.cb.leave (by omega), key h.cb.res (by omega), ⟨m.os.trans h.cb.low.os, m.tape.trans h.cb.low.tape, m.output.trans h.cb.low.output, Nat.le_trans h.cb.low.size m.size, fun k hk => (m.same k (Nat.lt_of_lt_of_le hk h.cb.low.size) (fun hx => by have := hX _ hx; omega)).trans (h.cb.low.block k hk)⟩, Nat.le_trans h.cb.size m.size⟩,
    key h.wv h.lx, key h.sl h.lL, ownsRow_at h.rw (fun g hg => m.same g (row_in h.rw g hg).2 (fun hx => by have := hX _ hx; have := h.le g hg; omega)), ?_, h.lx, h.lL, h.l0, h.le, h.l2, Nat.le_trans h.size m.size⟩
  obtain ⟨b, c, e, h1, h2, h3⟩ := h.sy
  refine ⟨b, c, e, h1, h2, fun hp => ?_⟩
  obtain ⟨g, e1, e3, e4⟩ := h3 hp
  have hg : g < M := h.l2 g (by rw [e, e1]; rfl)
  have hs : W'.heap[g]? = W.heap[g]? := m.same g e3 (fun hx => by have := hX _ hx; omega)
  refine ⟨g, e1, Nat.lt_of_lt_of_le e3 m.size, fun i hi r hr => ?_⟩
  rw [← e4 i hi r hr]
  unfold World.cell?
  rw [show W'.heap[g]? = W.heap[g]? from hs]
theorem Ag.below {w0 : World} {n : Int} {x4 L M : Nat} {ve v2 : Value} {pre : List It} {W W' : World} (h : Ag w0 n x4 L M ve v2 pre W) (hb : Below W.heap.size W W') : Ag w0 n x4 L M ve v2 pre W' :=
  h.mv (X := fun _ => False) (Mv.below hb) (fun _ h => h.elim)
def GoOn (gn : Nat) (w9 : World) (pref : List (Nat × It)) (W : World) : Prop := Mv (fun k => k = gn) w9 W ∧ IntAt W gn pref.length
def Bad (pre : List It) (pref : List (Nat × It)) (_ : World) : Prop := ∃ pre' x, pref = pre' ++ [x] ∧ (x.1 ≠ pre'.length ∨ ¬ ∃ h : pre'.length < pre.length, x.2.d = pre[pre'.length].d ∧ x.2.p = pre[pre'.length].p)
def Left (r : Nat) (gn : Nat) (w9 : World) (_ : List (Nat × It)) (W : World) : Prop := r = 0 ∧ Mv (fun k => k = gn) w9 W ∧ ∃ m : Int, IntAt W gn m
theorem keeps_drewN (W : World) (q : Nat) : KeepsOthers W (W.drewN q) := ⟨Nat.le_refl _, fun _ _ h _ => h⟩
theorem kept_drewN {X : Nat → Prop} (W : World) (q : Nat) : Kept X W (W.drewN q) := ⟨Nat.le_refl _, fun _ _ _ => rfl⟩
theorem mv_drewN {X : Nat → Prop} (W : World) (q : Nat) : Mv X W (W.drewN q) := ⟨rfl, rfl, rfl, Nat.le_refl _, fun _ _ _ => rfl⟩
theorem numbered_at {pre : List It} {pre' r : List (Nat × It)} {x : Nat × It} (h : pre' ++ [x] ++ r = numbered pre) : ∃ h : pre'.length < pre.length, x = (pre'.length, pre[pre'.length]) := by
  have hl : pre'.length < (numbered pre).length := by rw [← h]; simp
  have hl2 : pre'.length < pre.length := by simpa [numbered] using hl
  refine ⟨hl2, ?_⟩
  have e : (numbered pre)[pre'.length]? = some x := by rw [← h]; simp
  simp [numbered, hl2] at e
  exact e.symm
theorem scan_good : ∀ (f : Nat) (p : Int × Int) (l : List UInt8), ((scanF f p l).takeWhile (fun x => !x.bad)).length ≤ l.length
  | 0, _, _ => by simp [scanF]
  | _ + 1, _, [] => by simp [scanF]
  | f + 1, p, c :: l => by
    unfold scanF
    split
    · simp [itBad]
    · split
      · have := scan_good f (nextP p ((c :: l).take (blankV (c :: l)).1.toNat)) ((c :: l).drop (blankV (c :: l)).1.toNat)
        rw [List.length_drop] at this
        omega
      · cases hw : wordO (c :: l) with
        | none => simp [itBad]
        | some d =>
          obtain ⟨h1, h2⟩ := word_low c l d hw
          have := scan_good f (nextP p ((c :: l).take d.t.length)) ((c :: l).drop d.t.length)
          rw [List.length_drop] at this
          simp only [List.takeWhile_cons, Bool.not_false, if_true]
          rw [List.length_cons]
          omega
theorem each_few (s : List UInt8) : (eachL s).length ≤ 65536 := by
  unfold eachL
  split
  · simp
  · have := scan_good (s.length + 1) (1, 1) s
    show ((scanL s).takeWhile _).length ≤ _
    unfold scanL
    omega
set_option maxRecDepth 20000 in
set_option maxHeartbeats 4000000 in
theorem cuts_any (s : List UInt8) (hs : s.length ≤ 9223372036854775807) (n : Int) (w : World) (hE : Env w) : Calls Tryd.prog 4 #[str s, .int .i64 n] w (BL true w) := by
  refine (callsIn_wide (n := 5)).1 ?_
  have C0 : ∀ W, Env W → CallsIn Fence.wide 4 Tryd.prog 8 #[] W (BL true W) := fun W hW => callsIn_wide.2 (awake_any W hW)
  have C1 : ∀ W, Env W → CallsIn Fence.wide 4 Tryd.prog 9 #[.string ⟨s.toArray⟩] W (RWs s W) := fun W hW => callsIn_wide.2 (words_any s hs W hW)
  have C2 : ∀ W, CallsIn Fence.wide 4 Tryd.prog 10 #[.string ⟨s.toArray⟩] W (RRw s W) := fun W => callsIn_wide.2 (rwords_any s hs W)
  have C3 : ∀ W, Env W → CallsIn Fence.wide 4 Tryd.prog 11 #[.string ⟨s.toArray⟩] W (REa s W) := fun W hW => callsIn_wide.2 (each_any s hs W hW)
  have hst := Cb.start w n
  unfold str
  refine callsIn_of_wp_marks Tryd.func4 rfl trivial ?_ rfl
  simp only [Tryd.ntmps4, List.size_toArray, List.length_cons, List.length_nil, Nat.reduceAdd, Nat.reduceSub, Array.replicate_succ, Array.replicate_zero, List.push_toArray, List.append_toArray, List.nil_append, List.cons_append]
  gi_wp2_with fail
  generalize (w.alloc (Obj.cells #[Value.int IntKind.i64 n] 3)).alloc (Obj.cells #[Value.bool false] 4) = w0 at *
  refine ⟨trivial, (C0 _ (hE.below hst.low)).mono ?_⟩
  rintro e w1 ⟨rfl, hb⟩
  have B1 := hst.below hb
  clear hst hb
  gi_wp2_with fail
  refine ⟨trivial, (C1 _ (hE.below B1.low)).mono ?_⟩
  rintro e w2 ⟨v1, rfl, hrow, hb⟩
  have B2 := B1.below hb
  obtain ⟨vb1, vc1, rfl, h11, h12, -⟩ := row_sl hrow
  have sx := row_sl hrow
  clear B1 hb hrow
  gi_wp2_with fail
  have p1 : PlcAt (w2.alloc (.cells #[.int .i64 (wordsP s).1, .int .i64 (wordsP s).2] 25)) w2.heap.size (wordsP s) := heap_alloc_new w2 _
  have B3 := B2.below (belowAlloc w2 (.cells #[.int .i64 (wordsP s).1, .int .i64 (wordsP s).2] 25))
  have sx := sx.below (belowAlloc w2 (.cells #[.int .i64 (wordsP s).1, .int .i64 (wordsP s).2] 25))
  generalize hx2 : w2.heap.size = x2 at *
  generalize w2.alloc (.cells #[.int .i64 (wordsP s).1, .int .i64 (wordsP s).2] 25) = w3 at *
  clear B2
  refine ⟨trivial, (C2 _).mono ?_⟩
  rintro e w4 ⟨v2, p, nn, rfl, pre, hrow, hb, hboth⟩
  obtain ⟨heE, heP, heL, heN⟩ := both s p pre nn hboth
  have B4 := B3.below hb
  have sx := sx.below hb
  have p1 := p1.below hb
  obtain ⟨vb2, vc2, rfl, h21, h22, -⟩ := row34_sl hrow
  have sy := row34_sl hrow
  rw [heP] at p1
  rw [heE]
  have hv2 := fun g hg => (row34_in hrow g hg).2
  clear B3 hb hrow hboth heE heP
  have bA : Below w4.heap.size w4 ((w4.alloc (.cells #[.slice vb2 pre.length vc2] 31)).alloc (.cells #[.int .i64 p.1, .int .i64 p.2] 25)) := (belowAlloc w4 _).alloc (by simp) _
  obtain ⟨nw1, nw2⟩ : ((w4.alloc (.cells #[.slice vb2 pre.length vc2] 31)).alloc (.cells #[.int .i64 p.1, .int .i64 p.2] 25)).heap[w4.heap.size]? = some (.cells #[.slice vb2 pre.length vc2] 31 (0, 0)) ∧ ((w4.alloc (.cells #[.slice vb2 pre.length vc2] 31)).alloc (.cells #[.int .i64 p.1, .int .i64 p.2] 25)).heap[w4.heap.size + 1]? = some (.cells #[.int .i64 p.1, .int .i64 p.2] 25 (0, 0)) := two_new w4 _ _
  have hw5 : WAt ((w4.alloc (.cells #[.slice vb2 pre.length vc2] 31)).alloc (.cells #[.int .i64 p.1, .int .i64 p.2] 25)) w4.heap.size (.slice vb2 pre.length vc2) := nw1
  have B5 := B4.below bA
  have sx := sx.below bA
  have sy := sy.below bA
  obtain ⟨x0, x1, -, -⟩ := (p1.below bA).cells
  clear p1 B4 nw1 nw2

  have hlen : (nn = 0 ∧ (wordsL s).length = pre.length) ∨ (nn ≠ 0 ∧ (wordsL s).length = 0) := by
    rcases heN with ⟨a, b⟩ | ⟨a, b⟩
    · exact .inl ⟨a, by rw [b]⟩
    · exact .inr ⟨a, by rw [b]; rfl⟩
  have hpre : ∀ k (h : k < (wordsL s).length), ∃ h' : k < pre.length, (wordsL s)[k] = pre[k] := fun k h => by
    rcases heN with ⟨a, b⟩ | ⟨a, b⟩
    · exact ⟨by rw [← b]; exact h, by simp only [b]⟩
    · rw [b] at h; exact absurd h (by simp)
  clear heN
  generalize wordsL s = X at *
  generalize hxl : X.length = xl at hlen h11 sx ⊢
  have hd := Lib.hid hlen
  clear hlen
  gi_upto_region 7 with fail
  generalize hx4 : w4.heap.size = x4 at *
  generalize (w4.alloc (.cells #[.slice vb2 pre.length vc2] 31)).alloc (.cells #[.int .i64 p.1, .int .i64 p.2] 25) = w5 at *
  have hwc := hw5.cells
  gi_cut [56] from 39 (fun s56 wx => s56 = .bool false ∧ wx = w5)
  case first =>
    rcases hd.out with ⟨hn0, hl0⟩ | ⟨hn0, hl0⟩
    · subst hn0
      have hll : ((xl : Int) != (pre.length : Int)) = false := by rw [hl0, bne, beq_self_eq_true]; rfl
      clear hl0
      gi_wp2_with fail
      gi_meet
      exact ⟨rfl, rfl⟩
    · have hnn : (nn == 0) = false := beq_eq_false_iff_ne.2 hn0
      subst hl0
      clear hnn
      gi_wp2_with fail
      gi_meet
      exact ⟨rfl, rfl⟩
  case rest =>
    obtain ⟨rfl, hw⟩ := hcut
    rw [hw]
    clear hw hd x0 x1
    gi_wp2_with fail
    gi_loopg [11] xl (fun g s11 wr => ∃ k : Nat, s11 = .int .i64 k ∧ k ≤ xl ∧ xl - k ≤ g ∧ ∃ d, wr = w5.drewN d)
    case atStart => exact ⟨0, rfl, Nat.zero_le _, by omega, 0, rfl⟩
    case round =>
      obtain ⟨k, rfl, hk, hg, d, rfl⟩ := hrel
      by_cases hlt : k < xl
      · obtain ⟨hlt2, hxy⟩ := hpre k (by omega)
        obtain ⟨gx, ex, -, cx⟩ := sx.at k (by omega)
        subst ex
        obtain ⟨gy, ey, -, cy⟩ := sy.at k hlt2
        subst ey
        obtain ⟨a0, a1, a2, a3, a4⟩ := cx _ rfl
        obtain ⟨b0, b1, b2, b3, b4⟩ := cy _ rfl
        rw [← hxy] at b0 b1 b2 b3 b4
        generalize X[k]'(by omega) = x at *
        obtain ⟨⟨xk, xt, xn⟩, xp, xb⟩ := x
        simp only at a0 a1 a2 a3 a4 b0 b1 b2 b3 b4
        clear hpre hxy cx cy sx sy
        have hkk : (k : Int) + 1 ≤ 9223372036854775807 := by unfold maxLen at h12; omega
        gi_wp2_with fail
        gi_quiet (fail)
        gi_wp2_with fail
        gi_roundg (xl - (k + 1))
        case measure => omega
        case rel => exact ⟨k + 1, by simp, hlt, by omega, _, rfl⟩
      · gi_wp2_with fail
        have bD := below_drewN (Below.refl w5.heap.size w5) d
        have hw5 := hw5.below bD
        have sy := sy.below bD
        have B5 := B5.below bD
        clear bD hwc hpre sx p1 hg hk
        generalize w5.drewN d = w6 at *
        refine ⟨trivial, (C3 _ (hE.below B5.low)).mono ?_⟩
        rintro e w7 ⟨ve, rfl, hsl, hrow, hb⟩
        rw [heL] at hrow
        have B7 := B5.below hb
        have sy := sy.below hb
        have hw7 := hw5.below hb
        have hx6 : x4 < w6.heap.size := heap_lt hw5
        generalize w6.heap.size = L at *
        clear hw5 B5 C0 C1 C2 C3
        have hnil := nilFn
        have hpl : pre.length ≤ 65536 := by rw [← heL]; exact each_few s
        have A7 : Ag w n x4 L w7.heap.size ve (.slice vb2 pre.length vc2) pre w7 := ⟨B7, hw7, hsl, hrow, sy, heap_lt hw7, heap_lt hsl, B7.size, fun g hg => (row_in hrow g hg).2, fun g hg => by have := hv2 g hg; have := heap_lt hw7; omega, Nat.le_refl _⟩
        clear B7 hw7 hsl hrow sy hb hx6 heL
        obtain ⟨M, hM⟩ : ∃ M, M = w7.heap.size := ⟨_, rfl⟩
        rw [← hM] at A7
        have hML : M ≤ w7.heap.size := Nat.le_of_eq hM
        clear hM
        gi_wp2_with fail
        have A8 := A7.below (belowAlloc w7 (.cells #[.int .i64 0] 3))
        have hga : IntAt (w7.alloc (.cells #[.int .i64 0] 3)) w7.heap.size 0 := heap_alloc_new w7 _
        have hgM : M ≤ w7.heap.size := hML
        have hgs : w7.heap.size < (w7.alloc (.cells #[.int .i64 0] 3)).heap.size := by simp
        clear A7 hML
        generalize w7.heap.size = ga at *
        generalize w7.alloc (.cells #[.int .i64 0] 3) = w8 at *
        refine wpIn_loop_rounds 3 ?_
        rw [roundsIn_succ]
        obtain ⟨z0, z1⟩ := hga.cells
        gi_wp2_with fail
        have A9 := A8.below (belowAlloc w8 (.cells #[.int .i64 0] 3))
        have hga9 : IntAt (w8.alloc (.cells #[.int .i64 0] 3)) ga 0 := (Below.heap_alloc _ _ _ (heap_lt hga)).trans hga
        have hgn : IntAt (w8.alloc (.cells #[.int .i64 0] 3)) w8.heap.size 0 := heap_alloc_new w8 _
        have hgnM : M ≤ w8.heap.size := A8.size
        have hgag : ga < w8.heap.size := heap_lt hga
        have hgn9 : w8.heap.size < (w8.alloc (.cells #[.int .i64 0] 3)).heap.size := by simp
        clear z0 z1
        generalize w8.heap.size = gn at *
        have hwg : w.heap.size < gn := by have := A8.l0; omega
        have hwg1 : w.heap.size + 1 < gn := by have := A8.l0; omega
        generalize w8.alloc (.cells #[.int .i64 0] 3) = w9 at *
        refine range_block (b := 4) (encs := encsE) (X := fun k => k = gn ∨ k = w9.heap.size + 1) rfl (by omega) (gf := 18) (lb := #[.pointer (some ⟨L, 0, none⟩)]) rfl trivial (enters_of Tryd.func18 (by kernel_rfl) rfl)
          (each_on 4 (by omega) L ve pre (L + 1) _ w9 A9.sl A9.rw hpl ?hX2) (.inr rfl) (fun _ => rfl)
          (GoOn gn w9) (Bad pre) (Left 0 gn w9)
          ?hI ?hIr ?hIb ⟨Mv.refl _ _, hgn⟩ ?round ?hno ?fin
        case hX2 =>
          rintro g hg (h | h)
          · have := A9.le g hg; omega
          · have := A9.le g hg; omega
        case hI =>
          rintro s A B ⟨h1, h2⟩ m
          exact ⟨h1.later m (fun k h => by omega), (m.same _ (heap_lt h2) (fun hr => by omega)).trans h2⟩
        case hIr => exact fun s A B h m => h
        case hIb =>
          rintro s A B ⟨h0, h1, j, h2⟩ m
          exact ⟨h0, h1.later m (fun k h => by omega), j, (m.same _ (heap_lt h2) (fun hr => by omega)).trans h2⟩
        case round =>
          rintro pref ⟨i, ⟨⟨dk, dt, dn⟩, pp, bad⟩⟩ Wp W ⟨h1, h2⟩ hmv hlen hsz
          have h1W : Mv (fun k => k = gn) w9 W := h1.later hmv (fun k h => by omega)
          have h2W : IntAt W gn pref.length := (hmv.same _ (heap_lt h2) (fun hr => by omega)).trans h2
          have hWs : w9.heap.size + 2 ≤ W.heap.size := by have := hmv.size; omega
          clear h1 h2 hmv
          dsimp only [encsE, Wd.val, str]
          simp only [show ∀ a b : Value, (#[98, 99] : Array Tmp).zip #[a, b] = #[(98, a), (99, b)] from fun _ _ => by simp only [List.zip_toArray]; rfl, List.size_toArray, List.length_cons, List.length_nil, List.foldl_toArray', List.foldl_cons, List.foldl_nil, List.setIfInBounds_toArray, List.set_cons_succ, List.set_cons_zero]
          gi_wp2
          refine ⟨KeepsOthers.alloc _ _, Kept.below ((Below.refl _ _).alloc (Nat.le_refl _) _), fun W3 hm3 => ?_⟩
          have h1W3 : Mv (fun k => k = gn) w9 W3 := (h1W.later (Y := fun _ => False) (Mv.alloc _ _) (fun k h => h.elim)).later hm3 (fun k h => by omega)
          have h2W3 : IntAt W3 gn pref.length := (hm3.same _ (by have := heap_lt h2W; simp; omega) (by omega)).trans ((Below.heap_alloc W _ _ (heap_lt h2W)).trans h2W)
          have hga3 : IntAt W3 ga 0 := (h1W3.same _ (heap_lt hga9) (by omega)).trans hga9
          have A3 := A9.mv h1W3 (fun k h => by omega)
          have hbx : W3.heap[W.heap.size]? = some (.cells #[.int .i64 dk, .string ⟨dt.toArray⟩, .int .i64 dn, .int .i64 pp.1, .int .i64 pp.2] 30 (0, 0)) := (hm3.same _ (by simp) (by omega)).trans (heap_alloc_new W _)
          obtain ⟨x0, x1, x2, x3, x4', -, -⟩ := box5t hbx
          obtain ⟨z0, z1⟩ := h2W3.cells
          obtain ⟨y0, -⟩ := hga3.cells
          obtain ⟨l0, -⟩ := A3.cb.leave.cells
          obtain ⟨b0, b1⟩ := A3.cb.res.cells
          have wc3 := A3.wv.cells
          by_cases hi : i = pref.length
          · subst hi
            by_cases hk : pref.length < pre.length
            · obtain ⟨gy, ey, -, cy⟩ := A3.sy.at pref.length hk
              subst ey
              obtain ⟨c0, c1, c2, c3, c4⟩ := cy _ rfl
              clear cy
              have hbad : ∀ (h : ¬ ((⟨dk, dt, dn⟩ : Wd) = pre[pref.length].d ∧ pp = pre[pref.length].p)), ∃ pre' x, pref ++ [(pref.length, (⟨⟨dk, dt, dn⟩, pp, bad⟩ : It))] = pre' ++ [x] ∧ (x.1 ≠ pre'.length ∨ ¬ ∃ h : pre'.length < pre.length, x.2.d = pre[pre'.length].d ∧ x.2.p = pre[pre'.length].p) :=
                fun h => ⟨_, _, rfl, .inr fun ⟨_, h2⟩ => h h2⟩
              replace hbad := Lib.hid hbad
              have hgood := Lib.hid (show pre[pref.length] = pre[pref.length] from rfl)
              generalize pre[pref.length] = y at *
              obtain ⟨⟨yk, yt, yn⟩, yp, yb⟩ := y
              simp only at c0 c1 c2 c3 c4
              have hkz : (pref.length : Int) < pre.length := by omega
              by_cases e1 : dk = yk
              · by_cases e2 : dt = yt
                · by_cases e3 : dn = yn
                  · by_cases e4 : pp.1 = yp.1
                    · by_cases e5 : pp.2 = yp.2
                      · subst e1; subst e2; subst e3
                        rw [e4] at x3
                        rw [e5] at x4'
                        clear hbad hgood
                        gi_wp2_with fail
                        have nx1 : ¬ ((pre.length : Int) ≤ (pref.length : Int)) := by omega
                        refine wpIn_region_round (by kernel_rfl) (by kernel_rfl) (by kernel_rfl) ?_
                        repeat (gi_big_quiet_step (fail))
                        refine wpQuietIn_nil ?_
                        intro _ hw'
                        obtain ⟨nq, hw''⟩ := hw'
                        subst hw''
                        by_cases hlv : (pref.length : Int) + 1 = n
                        · gi_wp2_with fail
                          exact ⟨(keeps_drewN _ _).trans (KeepsOthers.setCell _ _ _), .inr ⟨rfl, rfl, (h1W3.trans (mv_drewN _ _)).trans (Mv.setCell _ _ rfl), n, set_same (show (W3.drewN nq).heap[gn]? = _ from h2W3)⟩⟩
                        · gi_wp2_with fail
                          refine ⟨(keeps_drewN _ _).trans (KeepsOthers.setCell _ _ _), (kept_drewN _ _).trans (Kept.setCell _ _ (.inl (.inl rfl))), (h1W3.trans (mv_drewN _ _)).trans (Mv.setCell _ _ rfl), ?_⟩
                          have q := set_same (i := 0) (v := .int .i64 ((pref.length : Int) + 1)) (show (W3.drewN nq).heap[gn]? = _ from h2W3)
                          rw [List.length_append]
                          exact q
                      · have f1 : (pp.2 == yp.2) = false := beq_eq_false_iff_ne.2 e5
                        subst e1; subst e2; subst e3
                        rw [e4] at x3
                        gi_wp2_with fail
                        have nx1 : ¬ ((pre.length : Int) ≤ (pref.length : Int)) := by omega
                        refine wpIn_region_round (by kernel_rfl) (by kernel_rfl) (by kernel_rfl) ?_
                        repeat (gi_big_quiet_step (fail))
                        refine wpQuietIn_nil ?_
                        intro _ hw'
                        obtain ⟨nq, hw''⟩ := hw'
                        subst hw''
                        gi_wp2_with fail
                        exact ⟨(keeps_drewN _ _).trans (KeepsOthers.setCell _ _ _), .inl ⟨rfl, hbad.out (fun h => e5 (by rw [h.2]))⟩⟩
                    · have f1 : (pp.1 == yp.1) = false := beq_eq_false_iff_ne.2 e4
                      subst e1; subst e2; subst e3
                      gi_wp2_with fail
                      have nx1 : ¬ ((pre.length : Int) ≤ (pref.length : Int)) := by omega
                      refine wpIn_region_round (by kernel_rfl) (by kernel_rfl) (by kernel_rfl) ?_
                      repeat (gi_big_quiet_step (fail))
                      refine wpQuietIn_nil ?_
                      intro _ hw'
                      obtain ⟨nq, hw''⟩ := hw'
                      subst hw''
                      gi_wp2_with fail
                      exact ⟨(keeps_drewN _ _).trans (KeepsOthers.setCell _ _ _), .inl ⟨rfl, hbad.out (fun h => e4 (by rw [h.2]))⟩⟩
                  · have f1 : (dn == yn) = false := beq_eq_false_iff_ne.2 e3
                    subst e1; subst e2
                    gi_wp2_with fail
                    have nx1 : ¬ ((pre.length : Int) ≤ (pref.length : Int)) := by omega
                    refine wpIn_region_round (by kernel_rfl) (by kernel_rfl) (by kernel_rfl) ?_
                    repeat (gi_big_quiet_step (fail))
                    refine wpQuietIn_nil ?_
                    intro _ hw'
                    obtain ⟨nq, hw''⟩ := hw'
                    subst hw''
                    gi_wp2_with fail
                    exact ⟨(keeps_drewN _ _).trans (KeepsOthers.setCell _ _ _), .inl ⟨rfl, hbad.out (fun h => e3 (Wd.mk.inj h.1).2.2)⟩⟩
                · have f1 : (dt == yt) = false := beq_eq_false_iff_ne.2 e2
                  subst e1
                  gi_wp2_with fail
                  have nx1 : ¬ ((pre.length : Int) ≤ (pref.length : Int)) := by omega
                  refine wpIn_region_round (by kernel_rfl) (by kernel_rfl) (by kernel_rfl) ?_
                  repeat (gi_big_quiet_step (fail))
                  refine wpQuietIn_nil ?_
                  intro _ hw'
                  obtain ⟨nq, hw''⟩ := hw'
                  subst hw''
                  gi_wp2_with fail
                  exact ⟨(keeps_drewN _ _).trans (KeepsOthers.setCell _ _ _), .inl ⟨rfl, hbad.out (fun h => e2 (Wd.mk.inj h.1).2.1)⟩⟩
              · have f1 : (dk == yk) = false := beq_eq_false_iff_ne.2 e1
                gi_wp2_with fail
                have nx1 : ¬ ((pre.length : Int) ≤ (pref.length : Int)) := by omega
                refine wpIn_region_round (by kernel_rfl) (by kernel_rfl) (by kernel_rfl) ?_
                repeat (gi_big_quiet_step (fail))
                refine wpQuietIn_nil ?_
                intro _ hw'
                obtain ⟨nq, hw''⟩ := hw'
                subst hw''
                gi_wp2_with fail
                exact ⟨(keeps_drewN _ _).trans (KeepsOthers.setCell _ _ _), .inl ⟨rfl, hbad.out (fun h => e1 (Wd.mk.inj h.1).1)⟩⟩
            · have f1 : True := trivial
              gi_wp2_with fail
              have nx1 : (pre.length : Int) ≤ (pref.length : Int) := by omega
              refine wpIn_region_round (by kernel_rfl) (by kernel_rfl) (by kernel_rfl) ?_
              repeat (gi_big_quiet_step (fail))
              refine wpQuietIn_nil ?_
              intro _ hw'
              obtain ⟨nq, hw''⟩ := hw'
              subst hw''
              gi_wp2_with fail
              exact ⟨(keeps_drewN _ _).trans (KeepsOthers.setCell _ _ _), .inl ⟨rfl, _, _, rfl, .inr fun h => hk h.1⟩⟩
          · have f1 : ((i : Int) == (pref.length : Int)) = false := beq_eq_false_iff_ne.2 (fun h => hi (by omega))
            gi_wp2_with fail
            have nx1 : ((i : Int) != (pref.length : Int)) = true := by rw [bne, f1]; rfl
            refine wpIn_region_round (by kernel_rfl) (by kernel_rfl) (by kernel_rfl) ?_
            repeat (gi_big_quiet_step (fail))
            refine wpQuietIn_nil ?_
            intro _ hw'
            obtain ⟨nq, hw''⟩ := hw'
            subst hw''
            gi_wp2_with fail
            exact ⟨(keeps_drewN _ _).trans (KeepsOthers.setCell _ _ _), .inl ⟨rfl, _, _, rfl, .inl hi⟩⟩
        case hno =>
          rintro pref W ⟨r, hr⟩ ⟨pre', x, rfl, hx⟩
          obtain ⟨hl, rfl⟩ := numbered_at hr
          rcases hx with hx | hx
          · exact hx rfl
          · exact hx ⟨hl, rfl, rfl⟩
        case fin =>
          intro W hW hD
          have hWW : Mv (fun k => k = gn) w9 W ∧ ∃ m : Int, IntAt W gn m := by
            rcases hW with ⟨xs, rfl, h1, h2⟩ | ⟨pref, hp, -, h1, h2⟩
            · exact ⟨h1, _, h2⟩
            · exact ⟨h1, h2⟩
          obtain ⟨hm9, m, hgm⟩ := hWW
          have A10 := A9.mv hm9 (fun k h => by omega)
          have hga10 : IntAt W ga 0 := (hm9.same _ (heap_lt hga9) (by omega)).trans hga9
          obtain ⟨z0, z1⟩ := hga10.cells
          obtain ⟨y0, -⟩ := hgm.cells
          have wc3 := A10.wv.cells
          gi_wp2_with fail
          rw [roundsIn_succ]
          have hDM : M ≤ w9.heap.size := by omega
          have hD1 : (W.alloc (.cells #[.int .i64 1] 3)).heap[w9.heap.size]? = some (.deferred (some [])) := (Below.heap_alloc _ _ _ (heap_lt hD)).trans hD
          have A11 := A10.below (belowAlloc W (.cells #[.int .i64 1] 3))
          have hga2 : IntAt (W.alloc (.cells #[.int .i64 1] 3)) W.heap.size 1 := heap_alloc_new W _
          have hgM2 : M ≤ W.heap.size := A10.size
          clear A10 hga10 z0 z1 y0 wc3 hm9 hgm hD A9 hga9 hgn hgnM hgag hgn9 hwg hwg1 hW A8 hga hgM hgs
          generalize w9.heap.size = D1 at *
          generalize W.heap.size = ga2 at *
          generalize W.alloc (.cells #[.int .i64 1] 3) = w12 at *
          obtain ⟨z0, z1⟩ := hga2.cells
          gi_wp2_with fail
          have A9 := A11.below (belowAlloc w12 (.cells #[.int .i64 0] 3))
          have hga9 : IntAt (w12.alloc (.cells #[.int .i64 0] 3)) ga2 1 := (Below.heap_alloc _ _ _ (heap_lt hga2)).trans hga2
          have hgn : IntAt (w12.alloc (.cells #[.int .i64 0] 3)) w12.heap.size 0 := heap_alloc_new w12 _
          have hgnM : M ≤ w12.heap.size := A11.size
          have hgag : ga2 < w12.heap.size := heap_lt hga2
          have hgn9 : w12.heap.size < (w12.alloc (.cells #[.int .i64 0] 3)).heap.size := by simp
          clear z0 z1
          have hD1' : (w12.alloc (.cells #[.int .i64 0] 3)).heap[D1]? = some (.deferred (some [])) := (Below.heap_alloc _ _ _ (heap_lt hD1)).trans hD1
          have hDg : D1 < w12.heap.size := heap_lt hD1
          generalize w12.heap.size = gn at *
          have hwg : w.heap.size < gn := by have := A11.l0; omega
          have hwg1 : w.heap.size + 1 < gn := by have := A11.l0; omega
          generalize w12.alloc (.cells #[.int .i64 0] 3) = w9 at *
          replace hD1 := hD1'
          refine range_block (b := 4) (encs := encsE) (X := fun k => k = gn ∨ k = w9.heap.size + 1) rfl (by omega) (gf := 18) (lb := #[.pointer (some ⟨L, 0, none⟩)]) rfl trivial (enters_of Tryd.func18 (by kernel_rfl) rfl)
            (each_on 4 (by omega) L ve pre (L + 1) _ w9 A9.sl A9.rw hpl ?hX2) (.inr rfl) (fun _ => rfl)
            (GoOn gn w9) (Bad pre) (Left 1 gn w9)
            ?hI ?hIr ?hIb ⟨Mv.refl _ _, hgn⟩ ?round ?hno ?fin
          case hX2 =>
            rintro g hg (h | h)
            · have := A9.le g hg; omega
            · have := A9.le g hg; omega
          case hI =>
            rintro s A B ⟨h1, h2⟩ m
            exact ⟨h1.later m (fun k h => by omega), (m.same _ (heap_lt h2) (fun hr => by omega)).trans h2⟩
          case hIr => exact fun s A B h m => h
          case hIb =>
            rintro s A B ⟨h0, h1, j, h2⟩ m
            exact ⟨h0, h1.later m (fun k h => by omega), j, (m.same _ (heap_lt h2) (fun hr => by omega)).trans h2⟩
          case round =>
            rintro pref ⟨i, ⟨⟨dk, dt, dn⟩, pp, bad⟩⟩ Wp W ⟨h1, h2⟩ hmv hlen hsz
            have h1W : Mv (fun k => k = gn) w9 W := h1.later hmv (fun k h => by omega)
            have h2W : IntAt W gn pref.length := (hmv.same _ (heap_lt h2) (fun hr => by omega)).trans h2
            have hWs : w9.heap.size + 2 ≤ W.heap.size := by have := hmv.size; omega
            clear h1 h2 hmv
            dsimp only [encsE, Wd.val, str]
            simp only [show ∀ a b : Value, (#[98, 99] : Array Tmp).zip #[a, b] = #[(98, a), (99, b)] from fun _ _ => by simp only [List.zip_toArray]; rfl, List.size_toArray, List.length_cons, List.length_nil, List.foldl_toArray', List.foldl_cons, List.foldl_nil, List.setIfInBounds_toArray, List.set_cons_succ, List.set_cons_zero]
            gi_wp2
            refine ⟨KeepsOthers.alloc _ _, Kept.below ((Below.refl _ _).alloc (Nat.le_refl _) _), fun W3 hm3 => ?_⟩
            have h1W3 : Mv (fun k => k = gn) w9 W3 := (h1W.later (Y := fun _ => False) (Mv.alloc _ _) (fun k h => h.elim)).later hm3 (fun k h => by omega)
            have h2W3 : IntAt W3 gn pref.length := (hm3.same _ (by have := heap_lt h2W; simp; omega) (by omega)).trans ((Below.heap_alloc W _ _ (heap_lt h2W)).trans h2W)
            have hga3 : IntAt W3 ga2 1 := (h1W3.same _ (heap_lt hga9) (by omega)).trans hga9
            have A3 := A9.mv h1W3 (fun k h => by omega)
            have hbx : W3.heap[W.heap.size]? = some (.cells #[.int .i64 dk, .string ⟨dt.toArray⟩, .int .i64 dn, .int .i64 pp.1, .int .i64 pp.2] 30 (0, 0)) := (hm3.same _ (by simp) (by omega)).trans (heap_alloc_new W _)
            obtain ⟨x0, x1, x2, x3, x4', -, -⟩ := box5t hbx
            obtain ⟨z0, z1⟩ := h2W3.cells
            obtain ⟨y0, -⟩ := hga3.cells
            obtain ⟨l0, -⟩ := A3.cb.leave.cells
            obtain ⟨b0, b1⟩ := A3.cb.res.cells
            have wc3 := A3.wv.cells
            by_cases hi : i = pref.length
            · subst hi
              by_cases hk : pref.length < pre.length
              · obtain ⟨gy, ey, -, cy⟩ := A3.sy.at pref.length hk
                subst ey
                obtain ⟨c0, c1, c2, c3, c4⟩ := cy _ rfl
                clear cy
                have hbad : ∀ (h : ¬ ((⟨dk, dt, dn⟩ : Wd) = pre[pref.length].d ∧ pp = pre[pref.length].p)), ∃ pre' x, pref ++ [(pref.length, (⟨⟨dk, dt, dn⟩, pp, bad⟩ : It))] = pre' ++ [x] ∧ (x.1 ≠ pre'.length ∨ ¬ ∃ h : pre'.length < pre.length, x.2.d = pre[pre'.length].d ∧ x.2.p = pre[pre'.length].p) :=
                  fun h => ⟨_, _, rfl, .inr fun ⟨_, h2⟩ => h h2⟩
                replace hbad := Lib.hid hbad
                have hgood := Lib.hid (show pre[pref.length] = pre[pref.length] from rfl)
                generalize pre[pref.length] = y at *
                obtain ⟨⟨yk, yt, yn⟩, yp, yb⟩ := y
                simp only at c0 c1 c2 c3 c4
                have hkz : (pref.length : Int) < pre.length := by omega
                by_cases e1 : dk = yk
                · by_cases e2 : dt = yt
                  · by_cases e3 : dn = yn
                    · by_cases e4 : pp.1 = yp.1
                      · by_cases e5 : pp.2 = yp.2
                        · subst e1; subst e2; subst e3
                          rw [e4] at x3
                          rw [e5] at x4'
                          clear hbad hgood
                          gi_wp2_with fail
                          have nx1 : ¬ ((pre.length : Int) ≤ (pref.length : Int)) := by omega
                          refine wpIn_region_round (by kernel_rfl) (by kernel_rfl) (by kernel_rfl) ?_
                          repeat (gi_big_quiet_step (fail))
                          refine wpQuietIn_nil ?_
                          intro _ hw'
                          obtain ⟨nq, hw''⟩ := hw'
                          subst hw''
                          gi_wp2_with fail
                          refine ⟨(keeps_drewN _ _).trans (KeepsOthers.setCell _ _ _), (kept_drewN _ _).trans (Kept.setCell _ _ (.inl (.inl rfl))), (h1W3.trans (mv_drewN _ _)).trans (Mv.setCell _ _ rfl), ?_⟩
                          have q := set_same (i := 0) (v := .int .i64 ((pref.length : Int) + 1)) (show (W3.drewN nq).heap[gn]? = _ from h2W3)
                          rw [List.length_append]
                          exact q
                        · have f1 : (pp.2 == yp.2) = false := beq_eq_false_iff_ne.2 e5
                          subst e1; subst e2; subst e3
                          rw [e4] at x3
                          gi_wp2_with fail
                          have nx1 : ¬ ((pre.length : Int) ≤ (pref.length : Int)) := by omega
                          refine wpIn_region_round (by kernel_rfl) (by kernel_rfl) (by kernel_rfl) ?_
                          repeat (gi_big_quiet_step (fail))
                          refine wpQuietIn_nil ?_
                          intro _ hw'
                          obtain ⟨nq, hw''⟩ := hw'
                          subst hw''
                          gi_wp2_with fail
                          exact ⟨(keeps_drewN _ _).trans (KeepsOthers.setCell _ _ _), .inl ⟨rfl, hbad.out (fun h => e5 (by rw [h.2]))⟩⟩
                      · have f1 : (pp.1 == yp.1) = false := beq_eq_false_iff_ne.2 e4
                        subst e1; subst e2; subst e3
                        gi_wp2_with fail
                        have nx1 : ¬ ((pre.length : Int) ≤ (pref.length : Int)) := by omega
                        refine wpIn_region_round (by kernel_rfl) (by kernel_rfl) (by kernel_rfl) ?_
                        repeat (gi_big_quiet_step (fail))
                        refine wpQuietIn_nil ?_
                        intro _ hw'
                        obtain ⟨nq, hw''⟩ := hw'
                        subst hw''
                        gi_wp2_with fail
                        exact ⟨(keeps_drewN _ _).trans (KeepsOthers.setCell _ _ _), .inl ⟨rfl, hbad.out (fun h => e4 (by rw [h.2]))⟩⟩
                    · have f1 : (dn == yn) = false := beq_eq_false_iff_ne.2 e3
                      subst e1; subst e2
                      gi_wp2_with fail
                      have nx1 : ¬ ((pre.length : Int) ≤ (pref.length : Int)) := by omega
                      refine wpIn_region_round (by kernel_rfl) (by kernel_rfl) (by kernel_rfl) ?_
                      repeat (gi_big_quiet_step (fail))
                      refine wpQuietIn_nil ?_
                      intro _ hw'
                      obtain ⟨nq, hw''⟩ := hw'
                      subst hw''
                      gi_wp2_with fail
                      exact ⟨(keeps_drewN _ _).trans (KeepsOthers.setCell _ _ _), .inl ⟨rfl, hbad.out (fun h => e3 (Wd.mk.inj h.1).2.2)⟩⟩
                  · have f1 : (dt == yt) = false := beq_eq_false_iff_ne.2 e2
                    subst e1
                    gi_wp2_with fail
                    have nx1 : ¬ ((pre.length : Int) ≤ (pref.length : Int)) := by omega
                    refine wpIn_region_round (by kernel_rfl) (by kernel_rfl) (by kernel_rfl) ?_
                    repeat (gi_big_quiet_step (fail))
                    refine wpQuietIn_nil ?_
                    intro _ hw'
                    obtain ⟨nq, hw''⟩ := hw'
                    subst hw''
                    gi_wp2_with fail
                    exact ⟨(keeps_drewN _ _).trans (KeepsOthers.setCell _ _ _), .inl ⟨rfl, hbad.out (fun h => e2 (Wd.mk.inj h.1).2.1)⟩⟩
                · have f1 : (dk == yk) = false := beq_eq_false_iff_ne.2 e1
                  gi_wp2_with fail
                  have nx1 : ¬ ((pre.length : Int) ≤ (pref.length : Int)) := by omega
                  refine wpIn_region_round (by kernel_rfl) (by kernel_rfl) (by kernel_rfl) ?_
                  repeat (gi_big_quiet_step (fail))
                  refine wpQuietIn_nil ?_
                  intro _ hw'
                  obtain ⟨nq, hw''⟩ := hw'
                  subst hw''
                  gi_wp2_with fail
                  exact ⟨(keeps_drewN _ _).trans (KeepsOthers.setCell _ _ _), .inl ⟨rfl, hbad.out (fun h => e1 (Wd.mk.inj h.1).1)⟩⟩
              · have f1 : True := trivial
                gi_wp2_with fail
                have nx1 : (pre.length : Int) ≤ (pref.length : Int) := by omega
                refine wpIn_region_round (by kernel_rfl) (by kernel_rfl) (by kernel_rfl) ?_
                repeat (gi_big_quiet_step (fail))
                refine wpQuietIn_nil ?_
                intro _ hw'
                obtain ⟨nq, hw''⟩ := hw'
                subst hw''
                gi_wp2_with fail
                exact ⟨(keeps_drewN _ _).trans (KeepsOthers.setCell _ _ _), .inl ⟨rfl, _, _, rfl, .inr fun h => hk h.1⟩⟩
            · have f1 : ((i : Int) == (pref.length : Int)) = false := beq_eq_false_iff_ne.2 (fun h => hi (by omega))
              gi_wp2_with fail
              have nx1 : ((i : Int) != (pref.length : Int)) = true := by rw [bne, f1]; rfl
              refine wpIn_region_round (by kernel_rfl) (by kernel_rfl) (by kernel_rfl) ?_
              repeat (gi_big_quiet_step (fail))
              refine wpQuietIn_nil ?_
              intro _ hw'
              obtain ⟨nq, hw''⟩ := hw'
              subst hw''
              gi_wp2_with fail
              exact ⟨(keeps_drewN _ _).trans (KeepsOthers.setCell _ _ _), .inl ⟨rfl, _, _, rfl, .inl hi⟩⟩
          case hno =>
            rintro pref W ⟨r, hr⟩ ⟨pre', x, rfl, hx⟩
            obtain ⟨hl, rfl⟩ := numbered_at hr
            rcases hx with hx | hx
            · exact hx rfl
            · exact hx ⟨hl, rfl, rfl⟩
          case fin =>
            intro W hW hD
            have hWW : Mv (fun k => k = gn) w9 W ∧ IntAt W gn pre.length := by
              rcases hW with ⟨xs, rfl, h1, h2⟩ | ⟨pref, hp, h0, h1, h2⟩
              · refine ⟨h1, ?_⟩
                have hnl : (numbered pre).length = pre.length := by simp [numbered]
                rw [hnl] at h2
                exact h2
              · cases h0
            obtain ⟨hm9, hgm⟩ := hWW
            have A10 := A9.mv hm9 (fun k h => by omega)
            have hga10 : IntAt W ga2 1 := (hm9.same _ (heap_lt hga9) (by omega)).trans hga9
            have hD2 : W.heap[D1]? = some (.deferred (some [])) := by
              have hq : w9.heap[D1]? = some (.deferred (some [])) := hD1
              exact (hm9.same _ (heap_lt hq) (by omega)).trans hq
            obtain ⟨z0, z1⟩ := hga10.cells
            obtain ⟨y0, -⟩ := hgm.cells
            have wc3 := A10.wv.cells
            gi_wp2_with fail
            rw [roundsIn_succ]
            have hDD : w9.heap.size ≠ D1 := by have := heap_lt (show w9.heap[D1]? = _ from hD1); omega
            have A13 := A10.below (belowAlloc W (.cells #[.int .i64 2] 3))
            have hga13 : IntAt (W.alloc (.cells #[.int .i64 2] 3)) W.heap.size 2 := heap_alloc_new W _
            have hD3 : (W.alloc (.cells #[.int .i64 2] 3)).heap[D1]? = some (.deferred (some [])) := (Below.heap_alloc _ _ _ (heap_lt hD2)).trans hD2
            have hD4 : (W.alloc (.cells #[.int .i64 2] 3)).heap[w9.heap.size]? = some (.deferred (some [])) := (Below.heap_alloc _ _ _ (heap_lt hD)).trans hD
            have hMg : M ≤ w9.heap.size := by omega
            clear A10 hga10 hD2 hD z0 z1 y0 wc3 hm9 hgm A9 hga9 hgn hW hD1 hD1' A11 hga2
            generalize W.alloc (.cells #[.int .i64 2] 3) = w13 at *
            obtain ⟨z0, z1⟩ := hga13.cells
            obtain ⟨b0, b1⟩ := A13.cb.res.cells
            gi_wp2_with fail
            refine ⟨by simp, .inl ⟨_, _, rfl, run_takeDeferred ((set_other (by have := A13.l0; omega)).trans hD4), ?_⟩⟩
            have k0 := A13.l0
            have hm5 : Mv (fun k => w.heap.size + 1 ≤ k) w13 (w13.setCell ⟨w.heap.size + 1, 0, none⟩ (.bool true)) := Mv.setCell _ _ (Nat.le_refl _)
            have hB14 : BlAt (w13.setCell ⟨w.heap.size + 1, 0, none⟩ (.bool true)) (w.heap.size + 1) true := set_same A13.cb.res
            have hD14 : (w13.setCell ⟨w.heap.size + 1, 0, none⟩ (.bool true)).heap[D1]? = some (.deferred (some [])) := (set_other (by omega)).trans hD3
            generalize w13.setCell ⟨w.heap.size + 1, 0, none⟩ (.bool true) = w14 at *
            have hm6 : Mv (fun k => k = w9.heap.size) w14 (w14.putObj w9.heap.size (.deferred none)) := Mv.putObj _ _ rfl
            have hB15 : BlAt (w14.putObj w9.heap.size (.deferred none)) (w.heap.size + 1) true := (hm6.same _ (heap_lt hB14) (by omega)).trans hB14
            have hD15 := (hm6.same _ (heap_lt hD14) (by omega)).trans hD14
            generalize w14.putObj w9.heap.size (.deferred none) = w15 at *
            refine ⟨by simp, .inl ⟨_, _, rfl, run_takeDeferred hD15, ?_⟩⟩
            have hm7 : Mv (fun k => k = D1) w15 (w15.putObj D1 (.deferred none)) := Mv.putObj _ _ rfl
            have hB16 : BlAt (w15.putObj D1 (.deferred none)) (w.heap.size + 1) true := (hm7.same _ (heap_lt hB15) (by omega)).trans hB15
            obtain ⟨r0, -⟩ := hB16.cells
            refine ⟨.bool true, by simp [results, Tryd.results4, go_sem, r0], rfl, ?_⟩
            have h8 : Mv (fun k => w.heap.size + 1 ≤ k) w13 (w15.putObj D1 (.deferred none)) := (hm5.trans (hm6.mono (fun k _ h => by omega))).trans (hm7.mono (fun k _ h => by omega))
            have hlow := A13.cb.low
            exact ⟨h8.os.trans hlow.os, h8.tape.trans hlow.tape, h8.output.trans hlow.output, Nat.le_trans hlow.size h8.size, fun k hk => (h8.same k (Nat.lt_of_lt_of_le hk hlow.size) (by omega)).trans (hlow.block k hk)⟩
end Go.Proofs.YtjgpbpmicopemaaDoor
