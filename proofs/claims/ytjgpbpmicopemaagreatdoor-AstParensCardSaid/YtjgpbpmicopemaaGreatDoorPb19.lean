import Derived.Test.YtjgpbpmicopemaaGreatDoorPb18
import Derived.Deep.RegionLaw

/-
  plumbobref5's parser: what its expressions need.
-/
namespace Go.Proofs.YtjgpbpmicopemaaGreatDoor
open Go.RowKit Go.Shelf
set_option maxRecDepth 20000

/-- how much is ahead -/
def R5 (k : K5) (i : Nat) (bad : Bool) : Nat := if bad then 0 else k.ws.length - i + 1
theorem R5_mono {k : K5} {i i1 : Nat} {bad bad1 : Bool} (hi : i ≤ i1) (hb : bad = true → bad1 = true) : R5 k i1 bad1 ≤ R5 k i bad := by
  unfold R5
  cases bad1
  · cases bad
    · simp; omega
    · exact absurd (hb rfl) (by simp)
  · simp
theorem R5_lt {k : K5} {i i1 : Nat} {bad1 : Bool} (hl : i1 ≤ k.ws.length) (h : bad1 = true ∨ i < i1) : R5 k i1 bad1 < R5 k i false := by
  unfold R5
  cases bad1
  · rcases h with h | h
    · cases h
    · simp; omega
  · simp
theorem P5.low {k : K5} {W : World} {i : Nat} {bad : Bool} (h : P5 k W i bad) : k.P < W.heap.size ∧ k.Q < W.heap.size := by
  obtain ⟨_, h1⟩ := h.par
  obtain ⟨_, _, h2⟩ := h.prg
  exact ⟨heap_lt h1, heap_lt h2⟩
/-- what is newer has been written -/
theorem P5.fresh {k : K5} {w W W' : World} {i i0 : Nat} {bad bad0 : Bool} (h0 : P5 k w i0 bad0) (h : P5 k W i bad) (m : Mv (fun j => w.heap.size ≤ j) W W') : P5 k W' i bad := by
  obtain ⟨⟨dp, h1⟩, ⟨n, d, h2⟩, h3, h4, h5⟩ := h
  obtain ⟨l1, l2⟩ := h0.low
  refine ⟨⟨dp, (m.same _ (heap_lt h1) (by omega)).trans h1⟩, ⟨n, d, (m.same _ (heap_lt h2) (by omega)).trans h2⟩, h3, fun hn => ?_, h5⟩
  obtain ⟨g, e1, e2, e3, e4, e5⟩ := h4 hn
  obtain ⟨g', f1, -, -, f4, -⟩ := h0.row hn
  obtain rfl : g' = g := by rw [e1] at f1; cases f1; rfl
  exact ⟨g', e1, e2, e3, Nat.lt_of_lt_of_le e4 m.size, fun j x hx => (e5 j x hx).mv m (by show ¬ w.heap.size ≤ g'; omega)⟩
/-- newer blocks do not count -/
theorem Mv.newer {k : K5} {w W W' : World} (h : Mv (X5 k) w W) (m : Mv (fun j => w.heap.size ≤ j) W W') : Mv (X5 k) w W' := h.fresh m (fun _ h => h)
/-- a node that a call has made for itself -/
structure Nd (W : World) (b B m : Nat) (kv : Value) : Prop where
  at_ : ∃ (op nm ty : Bs) (n : Int) (is : Bs) (rf : Int), W.heap[b]? = some (.cells #[.string ⟨op.toArray⟩, .string ⟨nm.toArray⟩, .string ⟨ty.toArray⟩, .int .i64 n, kv, .string ⟨is.toArray⟩, .int .i64 rf] 150 (0, 0))
  row : ∃ xs, W.ownsRow B 107 1 kv m xs
  bB : b < B
theorem Nd.mv {k : K5} {w W W' : World} {b B m i : Nat} {bad : Bool} {kv : Value} (h0 : P5 k w i bad) (hw : w.heap.size ≤ b) (h : Nd W b B m kv) (hm : Mv (X5 k) W W') : Nd W' b B m kv := by
  obtain ⟨⟨op, nm, ty, n, is, rf, hb⟩, ⟨xs, hr⟩, hB⟩ := h
  obtain ⟨l1, l2⟩ := h0.low
  refine ⟨⟨op, nm, ty, n, is, rf, (hm.same _ (heap_lt hb) (by intro h; rcases h with h | h <;> omega)).trans hb⟩, ⟨xs, ownsRow_keep hr hm (fun j hj h => ?_)⟩, hB⟩
  have := (ownsRow_own hr j hj).1
  rcases h with h | h <;> omega
theorem Nd.cells {W : World} {b B m : Nat} {kv : Value} (h : Nd W b B m kv) : ∃ (op nm ty : Bs) (n : Int), W.cell? ⟨b, 0, none⟩ = some (.string ⟨op.toArray⟩) ∧ W.cell? ⟨b, 1, none⟩ = some (.string ⟨nm.toArray⟩) ∧ W.cell? ⟨b, 2, none⟩ = some (.string ⟨ty.toArray⟩) ∧ W.cell? ⟨b, 3, none⟩ = some (.int .i64 n) ∧ W.cell? ⟨b, 4, none⟩ = some kv ∧ (∀ i, W.frozen? ⟨b, i, none⟩ = false) := by
  obtain ⟨⟨op, nm, ty, n, is, rf, hb⟩, -, -⟩ := h
  refine ⟨op, nm, ty, n, ?_, ?_, ?_, ?_, ?_, ?_⟩ <;> simp [World.cell?, World.frozen?, hb]
/-- a call's end: a node, and where the parser stands -/
def Nx5 (k : K5) (w : World) (i : Nat) (bad : Bool) (e : Ending) (w' : World) : Prop := (∃ b, e = .returned (.pointer (some ⟨b, 0, none⟩))) ∧ At5 k true w i bad w'
/-- the parser's parts, as long as there is no more ahead than this -/
structure All5 (k : K5) (f : Nat) : Prop where
  expr : ∀ i bad w, i ≤ k.ws.length → P5 k w i bad → 20 * R5 k i bad + 16 ≤ f → Calls Tryz.prog 93 #[.pointer (some ⟨k.P, 0, none⟩), .int .i64 0] w (Nx5 k w i bad)
  chain : ∀ (n : Nat) i bad w, n ≤ 10 → i ≤ k.ws.length → P5 k w i bad → 20 * R5 k i bad + 15 ≤ f + n → Calls Tryz.prog 113 #[.pointer (some ⟨k.P, 0, none⟩), .int .i64 n] w (Nx5 k w i bad)
  unary : ∀ i bad w, i ≤ k.ws.length → P5 k w i bad → 20 * R5 k i bad + 4 ≤ f → Calls Tryz.prog 130 #[.pointer (some ⟨k.P, 0, none⟩)] w (Nx5 k w i bad)
  post : ∀ i bad w, i ≤ k.ws.length → P5 k w i bad → 20 * R5 k i bad + 3 ≤ f → Calls Tryz.prog 151 #[.pointer (some ⟨k.P, 0, none⟩)] w (Nx5 k w i bad)
  prim : ∀ i bad w, i ≤ k.ws.length → P5 k w i bad → 20 * R5 k i bad + 2 ≤ f → Calls Tryz.prog 168 #[.pointer (some ⟨k.P, 0, none⟩)] w (Nx5 k w i bad)
set_option maxHeartbeats 8000000 in
theorem expr5 {k : K5} {f : Nat} (ih : All5 k f) (i : Nat) (bad : Bool) (w : World) (hi : i ≤ k.ws.length) (h : P5 k w i bad) (hf : 20 * R5 k i bad + 16 ≤ f + 1) : Calls Tryz.prog 93 #[.pointer (some ⟨k.P, 0, none⟩), .int .i64 0] w (Nx5 k w i bad) := by
  go_enter Tryz.func93, Tryz.ntmps93
  go_wp2_with fail
  refine (down5 k i bad w h).mono ?_
  rintro e w1 ⟨rfl, hm1, bad1, h1, hb1⟩
  have hR := R5_mono (k := k) (Nat.le_refl i) hb1
  go_wp2_with fail
  refine (ih.chain 0 i bad1 w1 (by omega) hi h1 (by omega)).mono ?_
  rintro e w2 ⟨⟨b, rfl⟩, i2, bad2, h2, hm2, l2, l2', b2, s2⟩
  go_wp2_with fail
  refine (up5 k i2 bad2 w2 h2).mono ?_
  rintro e w3 ⟨rfl, h3, hm3⟩
  go_wp2_with fail
  exact bodyPost_ret (v := .pointer (some ⟨b, 0, none⟩)) (by simp [results, Tryz.results93, go_sem]) rfl ⟨⟨b, rfl⟩, i2, bad2, h3, (hm1.trans hm2).trans hm3, l2, l2', fun h => b2 (hb1 h), fun _ => by simpa using s2⟩
theorem info107 : (Tryz.prog.info? 107).map (fun i => (i.zero, i.size, i.bytes)) = some (some (.pointer none), 1, 8) := by kernel_rfl
/-- the operators of a level -/
def Lv5 (w : World) (e : Ending) (w' : World) : Prop := Mv (fun _ => False) w w' ∧ ∃ (g m c : Nat) (xs : List Bs), e = .returned (.slice (some ⟨g, 0, none⟩) m c) ∧ m = xs.length ∧ m ≤ 4 ∧ m ≤ c ∧ c ≤ 4 ∧ w.heap.size ≤ g ∧ w'.heap[g]? = some (.cells ((xs.map str).toArray) 9 (0, 0))
theorem new_at {W : World} {o : Obj} {n : Nat} (h : W.heap.size = n) : (W.alloc o).heap[n]? = some o := by subst h; exact heap_alloc_new W o
set_option maxHeartbeats 8000000 in
theorem level5 (n : Nat) (hn : n ≤ 9) (w : World) : Calls Tryz.prog 131 #[.int .i64 n] w (Lv5 w) := by
  have hc : n = 0 ∨ n = 1 ∨ n = 2 ∨ n = 3 ∨ n = 4 ∨ n = 5 ∨ n = 6 ∨ n = 7 ∨ n = 8 ∨ n = 9 := by omega
  clear hn
  rcases hc with rfl | rfl | rfl | rfl | rfl | rfl | rfl | rfl | rfl | rfl
  · go_enter Tryz.func131, Tryz.ntmps131
    go_wp2_with fail
    refine bodyPost_ret (v := .slice (some ⟨w.heap.size, 0, none⟩) 1 1) (by simp [results, Tryz.results131, go_sem]) rfl ⟨?_, w.heap.size, 1, 1, [[124, 124]], rfl, rfl, by omega, by omega, by omega, by omega, ?_⟩
    · repeat' (first | exact Mv.alloc _ _ | refine Mv.more ?_ _)
    · iterate 10 refine at_alloc ?_ _
      exact new_at (by simp)
  · go_enter Tryz.func131, Tryz.ntmps131
    go_wp2_with fail
    refine bodyPost_ret (v := .slice (some ⟨w.heap.size + 1, 0, none⟩) 1 1) (by simp [results, Tryz.results131, go_sem]) rfl ⟨?_, w.heap.size + 1, 1, 1, [[38, 38]], rfl, rfl, by omega, by omega, by omega, by omega, ?_⟩
    · repeat' (first | exact Mv.alloc _ _ | refine Mv.more ?_ _)
    · iterate 9 refine at_alloc ?_ _
      exact new_at (by simp)
  · go_enter Tryz.func131, Tryz.ntmps131
    go_wp2_with fail
    refine bodyPost_ret (v := .slice (some ⟨w.heap.size + 1 + 1, 0, none⟩) 1 1) (by simp [results, Tryz.results131, go_sem]) rfl ⟨?_, w.heap.size + 1 + 1, 1, 1, [[124]], rfl, rfl, by omega, by omega, by omega, by omega, ?_⟩
    · repeat' (first | exact Mv.alloc _ _ | refine Mv.more ?_ _)
    · iterate 8 refine at_alloc ?_ _
      exact new_at (by simp)
  · go_enter Tryz.func131, Tryz.ntmps131
    go_wp2_with fail
    refine bodyPost_ret (v := .slice (some ⟨w.heap.size + 1 + 1 + 1, 0, none⟩) 1 1) (by simp [results, Tryz.results131, go_sem]) rfl ⟨?_, w.heap.size + 1 + 1 + 1, 1, 1, [[94]], rfl, rfl, by omega, by omega, by omega, by omega, ?_⟩
    · repeat' (first | exact Mv.alloc _ _ | refine Mv.more ?_ _)
    · iterate 7 refine at_alloc ?_ _
      exact new_at (by simp)
  · go_enter Tryz.func131, Tryz.ntmps131
    go_wp2_with fail
    refine bodyPost_ret (v := .slice (some ⟨w.heap.size + 1 + 1 + 1 + 1, 0, none⟩) 1 1) (by simp [results, Tryz.results131, go_sem]) rfl ⟨?_, w.heap.size + 1 + 1 + 1 + 1, 1, 1, [[38]], rfl, rfl, by omega, by omega, by omega, by omega, ?_⟩
    · repeat' (first | exact Mv.alloc _ _ | refine Mv.more ?_ _)
    · iterate 6 refine at_alloc ?_ _
      exact new_at (by simp)
  · go_enter Tryz.func131, Tryz.ntmps131
    go_wp2_with fail
    refine bodyPost_ret (v := .slice (some ⟨w.heap.size + 1 + 1 + 1 + 1 + 1, 0, none⟩) 2 2) (by simp [results, Tryz.results131, go_sem]) rfl ⟨?_, w.heap.size + 1 + 1 + 1 + 1 + 1, 2, 2, [[61, 61], [33, 61]], rfl, rfl, by omega, by omega, by omega, by omega, ?_⟩
    · repeat' (first | exact Mv.alloc _ _ | refine Mv.more ?_ _)
    · iterate 5 refine at_alloc ?_ _
      exact new_at (by simp)
  · go_enter Tryz.func131, Tryz.ntmps131
    go_wp2_with fail
    refine bodyPost_ret (v := .slice (some ⟨w.heap.size + 1 + 1 + 1 + 1 + 1 + 1, 0, none⟩) 4 4) (by simp [results, Tryz.results131, go_sem]) rfl ⟨?_, w.heap.size + 1 + 1 + 1 + 1 + 1 + 1, 4, 4, [[60], [60, 61], [62], [62, 61]], rfl, rfl, by omega, by omega, by omega, by omega, ?_⟩
    · repeat' (first | exact Mv.alloc _ _ | refine Mv.more ?_ _)
    · iterate 4 refine at_alloc ?_ _
      exact new_at (by simp)
  · go_enter Tryz.func131, Tryz.ntmps131
    go_wp2_with fail
    refine bodyPost_ret (v := .slice (some ⟨w.heap.size + 1 + 1 + 1 + 1 + 1 + 1 + 1, 0, none⟩) 2 2) (by simp [results, Tryz.results131, go_sem]) rfl ⟨?_, w.heap.size + 1 + 1 + 1 + 1 + 1 + 1 + 1, 2, 2, [[60, 60], [62, 62]], rfl, rfl, by omega, by omega, by omega, by omega, ?_⟩
    · repeat' (first | exact Mv.alloc _ _ | refine Mv.more ?_ _)
    · iterate 3 refine at_alloc ?_ _
      exact new_at (by simp)
  · go_enter Tryz.func131, Tryz.ntmps131
    go_wp2_with fail
    refine bodyPost_ret (v := .slice (some ⟨w.heap.size + 1 + 1 + 1 + 1 + 1 + 1 + 1 + 1, 0, none⟩) 2 2) (by simp [results, Tryz.results131, go_sem]) rfl ⟨?_, w.heap.size + 1 + 1 + 1 + 1 + 1 + 1 + 1 + 1, 2, 2, [[43], [45]], rfl, rfl, by omega, by omega, by omega, by omega, ?_⟩
    · repeat' (first | exact Mv.alloc _ _ | refine Mv.more ?_ _)
    · iterate 2 refine at_alloc ?_ _
      exact new_at (by simp)
  · go_enter Tryz.func131, Tryz.ntmps131
    go_wp2_with fail
    refine bodyPost_ret (v := .slice (some ⟨w.heap.size + 1 + 1 + 1 + 1 + 1 + 1 + 1 + 1 + 1, 0, none⟩) 3 3) (by simp [results, Tryz.results131, go_sem]) rfl ⟨?_, w.heap.size + 1 + 1 + 1 + 1 + 1 + 1 + 1 + 1 + 1, 3, 3, [[42], [47], [37]], rfl, rfl, by omega, by omega, by omega, by omega, ?_⟩
    · repeat' (first | exact Mv.alloc _ _ | refine Mv.more ?_ _)
    · iterate 1 refine at_alloc ?_ _
      exact new_at (by simp)
end Go.Proofs.YtjgpbpmicopemaaGreatDoor

/-
  plumbobref5's parser: an operand.
-/
namespace Go.Proofs.YtjgpbpmicopemaaGreatDoor
open Go.RowKit Go.Shelf
set_option maxRecDepth 20000

theorem own5 {k : K5} {w W : World} {i i0 : Nat} {bad bad0 : Bool} {b o : Nat} (v : Value) (h0 : P5 k w i0 bad0) (hM : Mv (X5 k) w W) (h : P5 k W i bad) (hb : w.heap.size ≤ b) : P5 k (W.setCell ⟨b, o, none⟩ v) i bad ∧ Mv (X5 k) w (W.setCell ⟨b, o, none⟩ v) := by
  have m : Mv (fun j => w.heap.size ≤ j) W (W.setCell ⟨b, o, none⟩ v) := Mv.setCell _ _ hb
  exact ⟨h0.fresh h m, hM.newer m⟩
theorem notX {k : K5} {w : World} {i b : Nat} {bad : Bool} (h : P5 k w i bad) (hb : w.heap.size ≤ b) : ¬ X5 k b := by
  obtain ⟨h1, h2⟩ := h.low
  show ¬ (b = k.P ∨ b = k.Q)
  omega
set_option maxHeartbeats 8000000 in
theorem unary5 {k : K5} {f : Nat} (ih : All5 k f) (i : Nat) (bad : Bool) (w : World) (hi : i ≤ k.ws.length) (h : P5 k w i bad) (hf : 20 * R5 k i bad + 4 ≤ f + 1) : Calls Tryz.prog 130 #[.pointer (some ⟨k.P, 0, none⟩)] w (Nx5 k w i bad) := by
  have h1 := h.mv (Mv.alloc (X := fun _ => False) w (.cells #[.string ⟨#[45]⟩, .string ⟨#[126]⟩, .string ⟨#[33]⟩, .string ⟨#[42]⟩, .string ⟨#[38]⟩] 9))
  have hrow := heap_alloc_new w (.cells #[.string ⟨#[45]⟩, .string ⟨#[126]⟩, .string ⟨#[33]⟩, .string ⟨#[42]⟩, .string ⟨#[38]⟩] 9)
  have hm1 : Mv (X5 k) w (w.alloc (.cells #[.string ⟨#[45]⟩, .string ⟨#[126]⟩, .string ⟨#[33]⟩, .string ⟨#[42]⟩, .string ⟨#[38]⟩] 9)) := Mv.alloc _ _
  obtain ⟨hPl, hQl⟩ := h.low
  go_enter Tryz.func130, Tryz.ntmps130
  go_wp2_with fail
  generalize w.alloc (.cells #[.string ⟨#[45]⟩, .string ⟨#[126]⟩, .string ⟨#[33]⟩, .string ⟨#[42]⟩, .string ⟨#[38]⟩] 9) = w1 at *
  go_loopg [4] 5 (fun g s4 wr => ∃ j : Nat, j ≤ 5 ∧ 5 - j ≤ g ∧ s4 = .int .i64 j ∧ P5 k wr i bad ∧ Mv (X5 k) w wr ∧ wr.heap[w.heap.size]? = some (.cells #[.string ⟨#[45]⟩, .string ⟨#[126]⟩, .string ⟨#[33]⟩, .string ⟨#[42]⟩, .string ⟨#[38]⟩] 9 (0, 0)))
  case atStart => exact ⟨0, by omega, by omega, rfl, h1, hm1, hrow⟩
  case round =>
    obtain ⟨j, hj, hg, rfl, hR, hM, hrw⟩ := hrel
    by_cases hlt : j < 5
    · have hlt' : (j : Int) < 5 := by omega
      obtain ⟨t, ht⟩ : ∃ t : Bs, wr.cell? ⟨w.heap.size, j, none⟩ = some (.string ⟨t.toArray⟩) := by
        have : j = 0 ∨ j = 1 ∨ j = 2 ∨ j = 3 ∨ j = 4 := by omega
        rcases this with rfl | rfl | rfl | rfl | rfl
        · exact ⟨[45], by simp [World.cell?, hrw]⟩
        · exact ⟨[126], by simp [World.cell?, hrw]⟩
        · exact ⟨[33], by simp [World.cell?, hrw]⟩
        · exact ⟨[42], by simp [World.cell?, hrw]⟩
        · exact ⟨[38], by simp [World.cell?, hrw]⟩
      go_wp2_with fail
      refine (take5 k t i hi bad wr hR).mono ?_
      rintro e w2 (⟨rfl, ⟨rfl, hl2⟩, h2, hm2⟩ | ⟨rfl, h2, hm2⟩)
      · have hlt2 := R5_lt (k := k) (i := i) (i1 := i + 1) (bad1 := false) (by omega) (.inr (by omega))
        go_wp2_with fail
        refine (down5 k (i + 1) false w2 h2).mono ?_
        rintro e w3 ⟨rfl, hm3, bad3, h3, -⟩
        have hR3 := R5_mono (k := k) (i := i + 1) (i1 := i + 1) (bad := false) (bad1 := bad3) (Nat.le_refl _) (by simp)
        go_wp2_with fail
        refine (node5 k [117, 110] (i + 1) bad3 w3 h3).mono ?_
        rintro e w4 ⟨h4, hm4, b, rfl, hb, hbc⟩
        have hM4 := ((hM.trans hm2).trans hm3).trans hm4
        have hM3 := ((hM.trans hm2).trans hm3)
        have hwb : w.heap.size ≤ b := Nat.le_trans hM3.size hb
        have ht4 : w4.cell? ⟨w.heap.size, j, none⟩ = some (.string ⟨t.toArray⟩) := ((hm2.trans hm3).trans hm4).cell ht (by show ¬ (w.heap.size = k.P ∨ w.heap.size = k.Q); omega)
        obtain ⟨n0, n1, n2, n3, n4, n5, n6, nf⟩ := cells7 hbc
        go_wp2_with fail
        have m5 : Mv (fun j => w.heap.size ≤ j) w4 (w4.setCell ⟨b, 1, none⟩ (.string ⟨t.toArray⟩)) := Mv.setCell _ _ hwb
        have h5 := h.fresh h4 m5
        have hM5 := hM4.newer m5
        have hbc5 : (w4.setCell ⟨b, 1, none⟩ (.string ⟨t.toArray⟩)).heap[b]? = some (.cells #[.string ⟨#[117, 110]⟩, .string ⟨t.toArray⟩, .string ⟨#[]⟩, .int .i64 0, .slice none 0 0, .string ⟨#[]⟩, .int .i64 0] 150 (0, 0)) := set_same hbc
        generalize w4.setCell ⟨b, 1, none⟩ (.string ⟨t.toArray⟩) = w5 at *
        refine (ih.unary (i + 1) bad3 w5 (by omega) h5 (by omega)).mono ?_
        rintro e w6 ⟨⟨b6, rfl⟩, i6, bad6, h6, hm6, l6, l6', b6', s6⟩
        have hM6 := hM5.trans hm6
        have hbc6 := (hm6.same b (heap_lt hbc5) (by show ¬ (b = k.P ∨ b = k.Q); omega)).trans hbc5
        obtain ⟨n0, n1, n2, n3, n4, n5, n6, nf⟩ := cells7 (at_alloc hbc6 (.cells #[.pointer (some ⟨b6, 0, none⟩)] 107))
        have h7 := h6.mv (Mv.alloc (X := fun _ => False) w6 (.cells #[.pointer (some ⟨b6, 0, none⟩)] 107))
        have hM7 := hM6.more (.cells #[.pointer (some ⟨b6, 0, none⟩)] 107)
        obtain ⟨h8, hM8⟩ := own5 (o := 4) (.slice (some ⟨w6.heap.size, 0, none⟩) 1 1) h hM7 h7 hwb
        go_wp2_with fail
        refine (up5 k i6 bad6 _ h8).mono ?_
        rintro e w9 ⟨rfl, h9, hm9⟩
        go_wp2_with fail
        exact bodyPost_ret (v := .pointer (some ⟨b, 0, none⟩)) (by simp [results, Tryz.results130, go_sem]) rfl ⟨⟨b, rfl⟩, i6, bad6, h9, hM8.trans hm9, by omega, l6', fun h => absurd h (by simp), fun _ => .inr (by omega)⟩
      · go_wp2_with fail
        go_roundg (5 - (j + 1))
        case measure => omega
        case rel => exact ⟨j + 1, by omega, by omega, by simp, h2, hM.trans hm2, (hm2.same _ (heap_lt hrw) (by show ¬ (w.heap.size = k.P ∨ w.heap.size = k.Q); omega)).trans hrw⟩
    · obtain rfl : j = 5 := by omega
      go_wp2_with fail
      refine (see5 k [40] i (by have := h.ok.1; omega) bad wr hR).mono ?_
      rintro e w2 ⟨b2, rfl, hm2, hb2⟩
      have h2 := hR.mv hm2
      have hM2 := hM.trans hm2.toX
      cases b2
      · go_wp2_with fail
        refine (ih.post i bad _ hi h2 (by omega)).mono ?_
        rintro e w9 ⟨⟨b9, rfl⟩, i9, bad9, h9, hm9, l9, l9', b9', s9⟩
        go_wp2_with fail
        exact bodyPost_ret (v := .pointer (some ⟨b9, 0, none⟩)) (by simp [results, Tryz.results130, go_sem]) rfl ⟨⟨b9, rfl⟩, i9, bad9, h9, hM2.trans hm9, l9, l9', b9', fun _ => by simpa using s9⟩
      · obtain ⟨rfl, hl2⟩ := hb2 rfl
        go_wp2_with fail
        refine (typed5 k 1 i (by omega) hi false w2 h2).mono ?_
        rintro e w3 ⟨b3, rfl, h3, hm3, hb3⟩
        have hM3 := hM2.trans hm3
        cases b3
        · go_wp2_with fail
          refine (ih.post i false _ hi h3 (by omega)).mono ?_
          rintro e w9 ⟨⟨b9, rfl⟩, i9, bad9, h9, hm9, l9, l9', b9', s9⟩
          go_wp2_with fail
          exact bodyPost_ret (v := .pointer (some ⟨b9, 0, none⟩)) (by simp [results, Tryz.results130, go_sem]) rfl ⟨⟨b9, rfl⟩, i9, bad9, h9, hM3.trans hm9, l9, l9', b9', fun _ => by simpa using s9⟩
        · obtain ⟨-, hl3⟩ := hb3 rfl
          have hlt2 := R5_lt (k := k) (i := i) (i1 := i + 1) (bad1 := false) (by omega) (.inr (by omega))
          obtain ⟨dp, c0, c1, c2, c3, c4, cf⟩ := h3.pcells
          have hl := h.ok.1
          have hw : wrap64 ((i : Int) + 1) = (i : Int) + 1 := by unfold wrap64; omega
          have hcc : ((i + 1 : Nat) : Int) = (i : Int) + 1 := by omega
          have h4 := h3.set1 (i + 1)
          rw [hcc] at h4
          clear hcc
          have hM4 : Mv (X5 k) w (w3.setCell ⟨k.P, 1, none⟩ (.int .i64 ((i : Int) + 1))) := hM3.trans (Mv.setCell _ _ (.inl rfl))
          go_wp2_with fail
          refine (down5 k (i + 1) false _ h4).mono ?_
          rintro e w5 ⟨rfl, hm5, bad5, h5, -⟩
          have hM5 := hM4.trans hm5
          clear c0 c1 c2 c3 c4 cf hw
          go_wp2_with fail
          refine (node5 k [99, 97, 115, 116] (i + 1) bad5 w5 h5).mono ?_
          rintro e w6 ⟨h6, hm6, b, rfl, hb, hbc⟩
          have hM6 := hM5.trans hm6
          have hwb : w.heap.size ≤ b := Nat.le_trans hM5.size hb
          go_wp2_with fail
          refine (typ5 k (i + 1) (by omega) bad5 w6 h6).mono ?_
          rintro e w7 ⟨⟨ty, rfl, hty⟩, i7, bad7, h7, hm7, l7, l7', b7, -⟩
          have hM7 := hM6.trans hm7
          have hbc7 := (hm7.same b (heap_lt hbc) (notX h hwb)).trans hbc
          obtain ⟨n0, n1, n2, n3, n4, n5, n6, nf⟩ := cells7 hbc7
          go_wp2_with fail
          obtain ⟨h8, hM8⟩ := own5 (o := 2) (.string ⟨ty.toArray⟩) h hM7 h7 hwb
          have hbc8 : (w7.setCell ⟨b, 2, none⟩ (.string ⟨ty.toArray⟩)).heap[b]? = some (.cells #[.string ⟨#[99, 97, 115, 116]⟩, .string ⟨#[]⟩, .string ⟨ty.toArray⟩, .int .i64 0, .slice none 0 0, .string ⟨#[]⟩, .int .i64 0] 150 (0, 0)) := set_same hbc7
          generalize w7.setCell ⟨b, 2, none⟩ (.string ⟨ty.toArray⟩) = w8 at *
          clear n0 n1 n2 n3 n4 n5 n6 nf
          refine (want5 k [41] i7 l7' bad7 w8 h8).mono ?_
          rintro e w9 ⟨rfl, i9, bad9, h9, hm9, l9, l9', b9, -⟩
          have hM9 := hM8.trans hm9
          have hbc9 := (hm9.same b (heap_lt hbc8) (notX h hwb)).trans hbc8
          have hR9 := R5_mono (k := k) (i := i + 1) (i1 := i9) (bad := false) (bad1 := bad9) (by omega) (by simp)
          go_wp2_with fail
          refine (ih.unary i9 bad9 w9 l9' h9 (by omega)).mono ?_
          rintro e w10 ⟨⟨b10, rfl⟩, i10, bad10, h10, hm10, l10, l10', -, -⟩
          have hM10 := hM9.trans hm10
          have hbc10 := (hm10.same b (heap_lt hbc9) (notX h hwb)).trans hbc9
          obtain ⟨n0, n1, n2, n3, n4, n5, n6, nf⟩ := cells7 (at_alloc hbc10 (.cells #[.pointer (some ⟨b10, 0, none⟩)] 107))
          have h11 := h10.mv (Mv.alloc (X := fun _ => False) w10 (.cells #[.pointer (some ⟨b10, 0, none⟩)] 107))
          have hM11 := hM10.more (.cells #[.pointer (some ⟨b10, 0, none⟩)] 107)
          obtain ⟨h12, hM12⟩ := own5 (o := 4) (.slice (some ⟨w10.heap.size, 0, none⟩) 1 1) h hM11 h11 hwb
          go_wp2_with fail
          refine (up5 k i10 bad10 _ h12).mono ?_
          rintro e w13 ⟨rfl, h13, hm13⟩
          go_wp2_with fail
          exact bodyPost_ret (v := .pointer (some ⟨b, 0, none⟩)) (by simp [results, Tryz.results130, go_sem]) rfl ⟨⟨b, rfl⟩, i10, bad10, h13, hM12.trans hm13, by omega, l10', fun h => absurd h (by simp), fun _ => .inr (by omega)⟩
end Go.Proofs.YtjgpbpmicopemaaGreatDoor

/-
  plumbobref5's parser: a node whose list of parts grows.
-/
namespace Go.Proofs.YtjgpbpmicopemaaGreatDoor
open Go.RowKit Go.Shelf
set_option maxRecDepth 20000

/-- where a call is that has made a node: at a word, its node with so many parts -/
structure Sd5 (k : K5) (w : World) (b B : Nat) (W : World) (i : Nat) (bad : Bool) (m : Nat) : Prop where
  P : P5 k W i bad
  M : Mv (X5 k) w W
  nd : ∃ kv, Nd W b B m kv
  low : B ≤ W.heap.size
section
variable {k : K5} {w W W' : World} {b B i i' i0 m : Nat} {bad bad' bad0 : Bool}
theorem Sd5.call (h : Sd5 k w b B W i bad m) (h0 : P5 k w i0 bad0) (wb : w.heap.size ≤ b) (hP : P5 k W' i' bad') (hm : Mv (X5 k) W W') : Sd5 k w b B W' i' bad' m := by
  obtain ⟨kv, hn⟩ := h.nd
  exact ⟨hP, h.M.trans hm, ⟨kv, hn.mv h0 wb hm⟩, Nat.le_trans h.low hm.size⟩
theorem Sd5.quiet (h : Sd5 k w b B W i bad m) (h0 : P5 k w i0 bad0) (wb : w.heap.size ≤ b) (hm : Mv (fun _ => False) W W') : Sd5 k w b B W' i bad m := h.call h0 wb (h.P.mv hm) hm.toX
theorem Nd.put (h : ∃ kv, Nd W b B m kv) (o : Nat) (v : Bs) (ho : o < 3) : ∃ kv, Nd (W.setCell ⟨b, o, none⟩ (.string ⟨v.toArray⟩)) b B m kv := by
  obtain ⟨kv, ⟨op, nm, ty, n, is, rf, hb⟩, ⟨xs, hr⟩, hB⟩ := h
  have hr' : (W.setCell ⟨b, o, none⟩ (.string ⟨v.toArray⟩)).ownsRow B 107 1 kv m xs := ownsRow_keep hr (Mv.setCell (X := fun j => j = b) _ _ rfl) (fun j hj hx => by
    have := (ownsRow_own hr j hj).1
    omega)
  have hc : o = 0 ∨ o = 1 ∨ o = 2 := by omega
  rcases hc with rfl | rfl | rfl
  · exact ⟨kv, ⟨v, nm, ty, n, is, rf, set_same hb⟩, ⟨xs, hr'⟩, hB⟩
  · exact ⟨kv, ⟨op, v, ty, n, is, rf, set_same hb⟩, ⟨xs, hr'⟩, hB⟩
  · exact ⟨kv, ⟨op, nm, v, n, is, rf, set_same hb⟩, ⟨xs, hr'⟩, hB⟩
theorem Nd.putN (h : ∃ kv, Nd W b B m kv) (v : Int) : ∃ kv, Nd (W.setCell ⟨b, 3, none⟩ (.int .i64 v)) b B m kv := by
  obtain ⟨kv, ⟨op, nm, ty, n, is, rf, hb⟩, ⟨xs, hr⟩, hB⟩ := h
  have hr' : (W.setCell ⟨b, 3, none⟩ (.int .i64 v)).ownsRow B 107 1 kv m xs := ownsRow_keep hr (Mv.setCell (X := fun j => j = b) _ _ rfl) (fun j hj hx => by
    have := (ownsRow_own hr j hj).1
    omega)
  exact ⟨kv, ⟨op, nm, ty, v, is, rf, set_same hb⟩, ⟨xs, hr'⟩, hB⟩
theorem Sd5.put (h : Sd5 k w b B W i bad m) (h0 : P5 k w i0 bad0) (wb : w.heap.size ≤ b) (o : Nat) (v : Bs) (ho : o < 3) : Sd5 k w b B (W.setCell ⟨b, o, none⟩ (.string ⟨v.toArray⟩)) i bad m := by
  have hm : Mv (fun j => w.heap.size ≤ j) W (W.setCell ⟨b, o, none⟩ (.string ⟨v.toArray⟩)) := Mv.setCell _ _ wb
  exact ⟨h0.fresh h.P hm, h.M.newer hm, Nd.put h.nd o v ho, Nat.le_trans h.low hm.size⟩
theorem Sd5.putN (h : Sd5 k w b B W i bad m) (h0 : P5 k w i0 bad0) (wb : w.heap.size ≤ b) (v : Int) : Sd5 k w b B (W.setCell ⟨b, 3, none⟩ (.int .i64 v)) i bad m := by
  have hm : Mv (fun j => w.heap.size ≤ j) W (W.setCell ⟨b, 3, none⟩ (.int .i64 v)) := Mv.setCell _ _ wb
  exact ⟨h0.fresh h.P hm, h.M.newer hm, Nd.putN h.nd v, Nat.le_trans h.low hm.size⟩
/-- a node that has just been made -/
theorem Sd5.made {op : Bs} (hP : P5 k W i bad) (hM : Mv (X5 k) w W) (hb : W.heap[b]? = some (.cells #[.string ⟨op.toArray⟩, .string ⟨#[]⟩, .string ⟨#[]⟩, .int .i64 0, .slice none 0 0, .string ⟨#[]⟩, .int .i64 0] 150 (0, 0))) : Sd5 k w b W.heap.size W i bad 0 :=
  ⟨hP, hM, ⟨_, ⟨op, [], [], 0, [], 0, hb⟩, ⟨[], World.ownsRow_nil W _ _ _⟩, heap_lt hb⟩, Nat.le_refl _⟩
theorem row_form2 {W : World} {b B m : Nat} {kv : Value} (h : Nd W b B m kv) : ∃ a c, kv = .slice a m c := by
  obtain ⟨-, ⟨xs, -, ⟨rfl, h3⟩ | ⟨g, cap, cur, rfl, -⟩⟩, -⟩ := h
  · exact ⟨none, 0, by rw [h3]⟩
  · exact ⟨_, cap, rfl⟩
/-- before the append -/
theorem Nd.before {kv : Value} (h : Nd W b B m kv) : W.cell? ⟨b, 4, none⟩ = some kv ∧ (∀ o, (W.alloc o).cell? ⟨b, 4, none⟩ = some kv) ∧ ∃ xs, W.ownsRow B 107 1 kv m xs := by
  obtain ⟨-, -, -, -, -, -, -, -, h4, -⟩ := h.cells
  exact ⟨h4, fun o => cell_alloc h4 o, h.row⟩
theorem Nd.room {kv : Value} {o : Obj} (h : Nd W b B m kv) (hgr : (W.alloc o).grownBy W' kv.ownBlock) : W'.cell? ⟨b, 4, none⟩ = some kv ∧ W'.frozen? ⟨b, 4, none⟩ = false ∧ W'.heap[b]? = W.heap[b]? := by
  obtain ⟨⟨op, nm, ty, n, is, rf, hb⟩, ⟨xs, hr⟩, hB⟩ := h
  have hb9 := (hgr.block b (Nat.lt_of_lt_of_le (heap_lt hb) (by simp)) (fun e => by have := (ownsRow_own hr b e.symm).1; omega)).trans (at_alloc hb o)
  refine ⟨?_, ?_, hb9.trans hb.symm⟩
  · unfold World.cell?; rw [hb9]; rfl
  · unfold World.frozen?; rw [hb9]; rfl
/-- behind it -/
theorem Sd5.push {kv : Value} {o : Obj} {g cap : Nat} {ys : List Value} (h0 : P5 k w i0 bad0) (wb : w.heap.size ≤ b) (h : Nd W b B m kv) (hB : B ≤ W.heap.size) (hP : P5 k W i bad) (hM : Mv (X5 k) w W) (own' : W'.ownsRow B 107 1 (.slice (some ⟨g, 0, none⟩) (m + 1) cap) (m + 1) ys) (hgr : (W.alloc o).grownBy W' kv.ownBlock) :
    Sd5 k w b B (W'.setCell ⟨b, 4, none⟩ (.slice (some ⟨g, 0, none⟩) (m + 1) cap)) i bad (m + 1) := by
  have hr9 := (h.room hgr).2.2
  obtain ⟨⟨op, nm, ty, n, is, rf, hb⟩, ⟨xs, hr⟩, hB'⟩ := h
  have m1 : Mv (fun j => w.heap.size ≤ j) W W' := ((Mv.alloc (X := fun j => w.heap.size ≤ j) W o)).trans (Mv.of_grown hgr (fun r e => by have := (ownsRow_own hr r e).1; omega))
  have m2 : Mv (fun j => w.heap.size ≤ j) W' (W'.setCell ⟨b, 4, none⟩ (.slice (some ⟨g, 0, none⟩) (m + 1) cap)) := Mv.setCell _ _ wb
  have hm := m1.trans m2
  rw [hb] at hr9
  refine ⟨h0.fresh hP hm, hM.newer hm, ⟨_, ⟨op, nm, ty, n, is, rf, set_same hr9⟩, ⟨ys, ownsRow_keep own' (Mv.setCell (X := fun j => j = b) _ _ rfl) (fun j hj hx => ?_)⟩, hB'⟩, Nat.le_trans hB hm.size⟩
  have := (ownsRow_own own' j hj).1
  omega
end
/-- further on, or gone wrong, still -/
theorem adv5 {i i1 i2 : Nat} {b1 b2 : Bool} (h : b1 = true ∨ i < i1) (hb : b1 = true → b2 = true) (hi : i1 ≤ i2) : b2 = true ∨ i < i2 := by
  rcases h with h | h
  · exact .inl (hb h)
  · exact .inr (by omega)
theorem P5.wcells {k : K5} {W : World} {i : Nat} {bad : Bool} (h : P5 k W i bad) (hi : i < k.ws.length) : ∃ g x, k.a = some ⟨g, 0, none⟩ ∧ (W.cell? ⟨g, i * 5, none⟩ = some (.int .i64 x.d.k) ∧ W.cell? ⟨g, i * 5 + 1, none⟩ = some (.string ⟨x.d.t.toArray⟩) ∧ W.cell? ⟨g, i * 5 + 2, none⟩ = some (.int .i64 x.d.n) ∧ W.cell? ⟨g, i * 5 + 3, none⟩ = some (.int .i64 x.p.1) ∧ W.cell? ⟨g, i * 5 + 4, none⟩ = some (.int .i64 x.p.2)) ∧ OkW x := h.word2 hi
end Go.Proofs.YtjgpbpmicopemaaGreatDoor

/-
  plumbobref5's parser: what stands behind a primary.
-/
namespace Go.Proofs.YtjgpbpmicopemaaGreatDoor
open Go.RowKit Go.Shelf
set_option maxRecDepth 20000

theorem wrap64_small (d : Nat) (h : d ≤ 1000000) : wrap64 ((d : Int) + 1) = (d : Int) + 1 := by unfold wrap64; omega
set_option maxHeartbeats 16000000 in
theorem post5 {k : K5} {f : Nat} (ih : All5 k f) (i : Nat) (bad : Bool) (w : World) (hi : i ≤ k.ws.length) (h : P5 k w i bad) (hf : 20 * R5 k i bad + 3 ≤ f + 1) : Calls Tryz.prog 151 #[.pointer (some ⟨k.P, 0, none⟩)] w (Nx5 k w i bad) := by
  obtain ⟨hPl, hQl⟩ := h.low
  have hlen := h.ok.1
  go_enter Tryz.func151, Tryz.ntmps151
  go_wp2_with fail
  refine (ih.prim i bad w hi h (by omega)).mono ?_
  rintro e w1 ⟨⟨b0, rfl⟩, i1, bad1, h1, hm1, l1, l1', b1, s1⟩
  go_wp2_with fail
  go_loopg [3, 4] (R5 k i1 bad1) (fun g s3 s4 wr => ∃ (i' : Nat) (bad' : Bool) (b d : Nat), s3 = .pointer (some ⟨b, 0, none⟩) ∧ s4 = .int .i64 d ∧ d ≤ i' ∧ P5 k wr i' bad' ∧ Mv (X5 k) w wr ∧ i ≤ i' ∧ i' ≤ k.ws.length ∧ (bad' = true ∨ i < i') ∧ (bad = true → bad' = true) ∧ R5 k i' bad' ≤ g)
  case atStart => exact ⟨i1, bad1, b0, 0, rfl, rfl, by omega, h1, hm1, l1, l1', by simpa using s1, b1, Nat.le_refl _⟩
  case round =>
    clear s1 b1 h1 hm1 l1 l1'
    obtain ⟨i', bad', b, d, rfl, rfl, hdi, hR, hM, l1, l1', s1, b1, hg⟩ := hrel
    obtain ⟨dp, c0, c1, c2, c3, c4, cf⟩ := hR.pcells
    cases bad'
    · have hbad : bad = false := by
        cases bad
        · rfl
        · exact absurd (b1 rfl) (by simp)
      subst hbad
      have hii : i < i' := by
        rcases s1 with h | h
        · cases h
        · exact h
      have hRi := R5_mono (k := k) (i := i) (i1 := i') (bad := false) (bad1 := false) l1 (fun h => h)
      clear s1 b1
      go_wp2_with fail
      refine (node5 k [105, 110, 100, 101, 120] i' false wr hR).mono ?_
      rintro e w2 ⟨h2, hm2, b5, rfl, hb5, hbc⟩
      have hM2 := hM.trans hm2
      have hwb : w.heap.size ≤ b5 := Nat.le_trans hM.size hb5
      clear c0 c1 c2 c3 c4 cf hR hm2 hb5 hM
      go_wp2_with fail
      refine (take5 k [91] i' l1' false w2 h2).mono ?_
      rintro e w3 (⟨rfl, ⟨-, hl3⟩, h3, hm3⟩ | ⟨rfl, h3, hm3⟩)
      · have hM3 := hM2.trans hm3
        have hlt2 := R5_lt (k := k) (i := i') (i1 := i' + 1) (bad1 := false) (by omega) (.inr (by omega))
        go_wp2_with fail
        refine (ih.expr (i' + 1) false w3 (by omega) h3 (by omega)).mono ?_
        rintro e w4 ⟨⟨b4, rfl⟩, i4, bad4, h4, hm4, l4, l4', -, -⟩
        have hM4 := hM3.trans hm4
        have hbc4 := ((hm3.trans hm4).same b5 (heap_lt hbc) (notX h hwb)).trans hbc
        obtain ⟨n0, n1, n2, n3, n4, n5, n6, nf⟩ := cells7 (at_alloc hbc4 (.cells #[.pointer (some ⟨b, 0, none⟩), .pointer (some ⟨b4, 0, none⟩)] 107))
        have h5 := h4.mv (Mv.alloc (X := fun _ => False) w4 (.cells #[.pointer (some ⟨b, 0, none⟩), .pointer (some ⟨b4, 0, none⟩)] 107))
        have hM5 := hM4.more (.cells #[.pointer (some ⟨b, 0, none⟩), .pointer (some ⟨b4, 0, none⟩)] 107)
        obtain ⟨h6, hM6⟩ := own5 (o := 4) (.slice (some ⟨w4.heap.size, 0, none⟩) 2 2) h hM5 h5 hwb
        go_wp2_with fail
        clear n0 n1 n2 n3 n4 n5 n6 nf hbc4 hM5 h5 hM4 hm4 h4 hM3 hm3 h3 hM2 h2
        generalize (w4.alloc (.cells #[.pointer (some ⟨b, 0, none⟩), .pointer (some ⟨b4, 0, none⟩)] 107)).setCell ⟨b5, 4, none⟩ (.slice (some ⟨w4.heap.size, 0, none⟩) 2 2) = w6 at *
        refine (want5 k [93] i4 l4' bad4 w6 h6).mono ?_
        rintro e w7 ⟨rfl, i7, bad7, h7, hm7, l7, l7', -, -⟩
        have hM7 := hM6.trans hm7
        go_wp2_with fail
        refine (down5 k i7 bad7 w7 h7).mono ?_
        rintro e wd ⟨rfl, hmd, badd, hd, hbd⟩
        have hMd := hM7.trans hmd
        have hRd := R5_mono (k := k) (i := i' + 1) (i1 := i7) (bad := false) (bad1 := badd) (by omega) (by simp)
        go_wp2_with fail
        go_roundg (R5 k i7 badd)
        case measure => omega
        case rel => exact ⟨i7, badd, b5, d + 1, rfl, by simp, by omega, hd, hMd, by omega, by omega, .inr (by omega), by simp, Nat.le_refl _⟩
      · have hM3 := hM2.trans hm3
        go_wp2_with fail
        refine (take5 k [46] i' l1' false w3 h3).mono ?_
        rintro e w4 (⟨rfl, ⟨-, hl4⟩, h4, hm4⟩ | ⟨rfl, h4, hm4⟩)
        · have hm34 := hm3.trans hm4
          clear hM3 hm3 h3 hm4 h2
          have hM3 := hM2.trans hm34
          have hlt2 := R5_lt (k := k) (i := i') (i1 := i' + 1) (bad1 := false) (by omega) (.inr (by omega))
          have hbc3 := (hm34.same b5 (heap_lt hbc) (notX h hwb)).trans hbc
          obtain ⟨n0, n1, n2, n3, n4, n5, n6, nf⟩ := cells7 hbc3
          have q4 := own5 (o := 0) (.string ⟨#[100, 111, 116]⟩) h hM3 h4 hwb
          have hbc4 : (w4.setCell ⟨b5, 0, none⟩ (.string ⟨#[100, 111, 116]⟩)).heap[b5]? = some (.cells #[.string ⟨#[100, 111, 116]⟩, .string ⟨#[]⟩, .string ⟨#[]⟩, .int .i64 0, .slice none 0 0, .string ⟨#[]⟩, .int .i64 0] 150 (0, 0)) := set_same hbc3
          obtain ⟨p0, p1, p2, p3, p4, p5, p6, pf⟩ := cells7 (at_alloc hbc4 (.cells #[.pointer (some ⟨b, 0, none⟩)] 107))
          have h5 := q4.1.mv (Mv.alloc (X := fun _ => False) _ (.cells #[.pointer (some ⟨b, 0, none⟩)] 107))
          have hM5 := q4.2.more (.cells #[.pointer (some ⟨b, 0, none⟩)] 107)
          have hsz : (w4.setCell ⟨b5, 0, none⟩ (.string ⟨#[100, 111, 116]⟩)).heap.size = w4.heap.size := by simp
          obtain ⟨h6, hM6⟩ := own5 (o := 4) (.slice (some ⟨w4.heap.size, 0, none⟩) 1 1) h hM5 h5 hwb
          have hbc6 : (((w4.setCell ⟨b5, 0, none⟩ (.string ⟨#[100, 111, 116]⟩)).alloc (.cells #[.pointer (some ⟨b, 0, none⟩)] 107)).setCell ⟨b5, 4, none⟩ (.slice (some ⟨w4.heap.size, 0, none⟩) 1 1)).heap[b5]? = some (.cells #[.string ⟨#[100, 111, 116]⟩, .string ⟨#[]⟩, .string ⟨#[]⟩, .int .i64 0, .slice (some ⟨w4.heap.size, 0, none⟩) 1 1, .string ⟨#[]⟩, .int .i64 0] 150 (0, 0)) := set_same (at_alloc hbc4 _)
          go_wp2_with fail
          generalize ((w4.setCell ⟨b5, 0, none⟩ (.string ⟨#[100, 111, 116]⟩)).alloc (.cells #[.pointer (some ⟨b, 0, none⟩)] 107)).setCell ⟨b5, 4, none⟩ (.slice (some ⟨w4.heap.size, 0, none⟩) 1 1) = w6 at *
          clear n0 n1 n2 n3 n4 n5 n6 nf p0 p1 p2 p3 p4 p5 p6 pf hsz hM5 h5 hbc4 q4 hbc3 hM3
          refine (name5 k (i' + 1) (by omega) false w6 h6).mono ?_
          rintro e w7 ⟨⟨nm, rfl, -⟩, i7, bad7, h7, hm7, l7, l7', -, -⟩
          have hM7 := hM6.trans hm7
          have hbc7 := (hm7.same b5 (heap_lt hbc6) (notX h hwb)).trans hbc6
          obtain ⟨n0, n1, n2, n3, n4, n5, n6, nf⟩ := cells7 hbc7
          obtain ⟨h8, hM8⟩ := own5 (o := 1) (.string ⟨nm.toArray⟩) h hM7 h7 hwb
          go_wp2_with fail
          refine (down5 k i7 bad7 _ h8).mono ?_
          rintro e wd ⟨rfl, hmd, badd, hd, hbd⟩
          have hMd := hM8.trans hmd
          have hRd := R5_mono (k := k) (i := i' + 1) (i1 := i7) (bad := false) (bad1 := badd) (by omega) (by simp)
          go_wp2_with fail
          go_roundg (R5 k i7 badd)
          case measure => omega
          case rel => exact ⟨i7, badd, b5, d + 1, rfl, by simp, by omega, hd, hMd, by omega, by omega, .inr (by omega), by simp, Nat.le_refl _⟩
        · have hm34 := hm3.trans hm4
          clear hM3 hm3 h3 hm4 h2
          go_wp2_with fail
          refine (take5 k [45, 62] i' l1' false w4 h4).mono ?_
          rintro e w9 (⟨rfl, ⟨-, hl9⟩, h9, hm9⟩ | ⟨rfl, h9, hm9⟩)
          · have hm39 := hm34.trans hm9
            clear hm34 hm9 h4
            have hM3 := hM2.trans hm39
            have hlt2 := R5_lt (k := k) (i := i') (i1 := i' + 1) (bad1 := false) (by omega) (.inr (by omega))
            have hbc3 := (hm39.same b5 (heap_lt hbc) (notX h hwb)).trans hbc
            obtain ⟨n0, n1, n2, n3, n4, n5, n6, nf⟩ := cells7 hbc3
            have q4 := own5 (o := 0) (.string ⟨#[97, 114, 114, 111, 119]⟩) h hM3 h9 hwb
            have hbc4 : (w9.setCell ⟨b5, 0, none⟩ (.string ⟨#[97, 114, 114, 111, 119]⟩)).heap[b5]? = some (.cells #[.string ⟨#[97, 114, 114, 111, 119]⟩, .string ⟨#[]⟩, .string ⟨#[]⟩, .int .i64 0, .slice none 0 0, .string ⟨#[]⟩, .int .i64 0] 150 (0, 0)) := set_same hbc3
            obtain ⟨p0, p1, p2, p3, p4, p5, p6, pf⟩ := cells7 (at_alloc hbc4 (.cells #[.pointer (some ⟨b, 0, none⟩)] 107))
            have h5 := q4.1.mv (Mv.alloc (X := fun _ => False) _ (.cells #[.pointer (some ⟨b, 0, none⟩)] 107))
            have hM5 := q4.2.more (.cells #[.pointer (some ⟨b, 0, none⟩)] 107)
            have hsz : (w9.setCell ⟨b5, 0, none⟩ (.string ⟨#[97, 114, 114, 111, 119]⟩)).heap.size = w9.heap.size := by simp
            obtain ⟨h6, hM6⟩ := own5 (o := 4) (.slice (some ⟨w9.heap.size, 0, none⟩) 1 1) h hM5 h5 hwb
            have hbc6 : (((w9.setCell ⟨b5, 0, none⟩ (.string ⟨#[97, 114, 114, 111, 119]⟩)).alloc (.cells #[.pointer (some ⟨b, 0, none⟩)] 107)).setCell ⟨b5, 4, none⟩ (.slice (some ⟨w9.heap.size, 0, none⟩) 1 1)).heap[b5]? = some (.cells #[.string ⟨#[97, 114, 114, 111, 119]⟩, .string ⟨#[]⟩, .string ⟨#[]⟩, .int .i64 0, .slice (some ⟨w9.heap.size, 0, none⟩) 1 1, .string ⟨#[]⟩, .int .i64 0] 150 (0, 0)) := set_same (at_alloc hbc4 _)
            go_wp2_with fail
            generalize ((w9.setCell ⟨b5, 0, none⟩ (.string ⟨#[97, 114, 114, 111, 119]⟩)).alloc (.cells #[.pointer (some ⟨b, 0, none⟩)] 107)).setCell ⟨b5, 4, none⟩ (.slice (some ⟨w9.heap.size, 0, none⟩) 1 1) = w6 at *
            clear n0 n1 n2 n3 n4 n5 n6 nf p0 p1 p2 p3 p4 p5 p6 pf hsz hM5 h5 hbc4 q4 hbc3 hM3
            refine (name5 k (i' + 1) (by omega) false w6 h6).mono ?_
            rintro e w7 ⟨⟨nm, rfl, -⟩, i7, bad7, h7, hm7, l7, l7', -, -⟩
            have hM7 := hM6.trans hm7
            have hbc7 := (hm7.same b5 (heap_lt hbc6) (notX h hwb)).trans hbc6
            obtain ⟨n0, n1, n2, n3, n4, n5, n6, nf⟩ := cells7 hbc7
            obtain ⟨h8, hM8⟩ := own5 (o := 1) (.string ⟨nm.toArray⟩) h hM7 h7 hwb
            go_wp2_with fail
            refine (down5 k i7 bad7 _ h8).mono ?_
            rintro e wd ⟨rfl, hmd, badd, hd, hbd⟩
            have hMd := hM8.trans hmd
            have hRd := R5_mono (k := k) (i := i' + 1) (i1 := i7) (bad := false) (bad1 := badd) (by omega) (by simp)
            go_wp2_with fail
            go_roundg (R5 k i7 badd)
            case measure => omega
            case rel => exact ⟨i7, badd, b5, d + 1, rfl, by simp, by omega, hd, hMd, by omega, by omega, .inr (by omega), by simp, Nat.le_refl _⟩
          · have hM9 := (hM2.trans hm34).trans hm9
            clear hm34 hm9 h4
            obtain ⟨dp, c0, c1, c2, c3, c4, cf⟩ := h9.pcells
            obtain ⟨n, dd, q4, q5, qf⟩ := h9.qcells
            go_wp2_with fail
            have h10 := h9.setN (wrap64 (n - 1))
            have hM10 : Mv (X5 k) w (w9.setCell ⟨k.Q, 4, none⟩ (.int .i64 (wrap64 (n - 1)))) := hM9.trans (Mv.setCell _ _ (.inr rfl))
            generalize w9.setCell ⟨k.Q, 4, none⟩ (.int .i64 (wrap64 (n - 1))) = w10 at *
            clear c0 c1 c2 c3 c4 cf q4 q5 qf hM9 h9
            go_loopg [6] d (fun g s6 wr => ∃ j : Nat, j ≤ d ∧ d - j ≤ g ∧ s6 = .int .i64 j ∧ P5 k wr i' false ∧ Mv (X5 k) w wr)
            case atStart => exact ⟨0, by omega, by omega, rfl, h10, hM10⟩
            case round =>
              obtain ⟨j, hj, hgj, rfl, hRj, hMj⟩ := hrel
              by_cases hjd : j < d
              · have hjd' : (j : Int) < d := by omega
                go_wp2_with fail
                refine (up5 k i' false _ hRj).mono ?_
                rintro e w11 ⟨rfl, h11, hm11⟩
                go_wp2_with fail
                go_roundg (d - (j + 1))
                case measure => omega
                case rel => exact ⟨j + 1, by omega, by omega, by simp, h11, hMj.trans hm11⟩
              · have hjd' : ¬ (j : Int) < d := by omega
                go_wp2_with fail
                exact bodyPost_ret (v := .pointer (some ⟨b, 0, none⟩)) (by simp [results, Tryz.results151, go_sem]) rfl ⟨⟨b, rfl⟩, i', false, hRj, hMj, l1, l1', by simp, fun _ => .inr hii⟩
    · go_wp2_with fail
      exact bodyPost_ret (v := .pointer (some ⟨b, 0, none⟩)) (by simp [results, Tryz.results151, go_sem]) rfl ⟨⟨b, rfl⟩, i', true, hR, hM, l1, l1', fun _ => rfl, fun _ => .inl rfl⟩
end Go.Proofs.YtjgpbpmicopemaaGreatDoor

/-
  plumbobref5's parser: operations of a level.
-/
namespace Go.Proofs.YtjgpbpmicopemaaGreatDoor
open Go.RowKit Go.Shelf
set_option maxRecDepth 20000

set_option maxHeartbeats 16000000 in
theorem chain5 {k : K5} {f : Nat} (ih : All5 k f) (n : Nat) (i : Nat) (bad : Bool) (w : World) (hn : n ≤ 10) (hi : i ≤ k.ws.length) (h : P5 k w i bad) (hf : 20 * R5 k i bad + 15 ≤ f + 1 + n) : Calls Tryz.prog 113 #[.pointer (some ⟨k.P, 0, none⟩), .int .i64 n] w (Nx5 k w i bad) := by
  obtain ⟨hPl, hQl⟩ := h.low
  have hlen := h.ok.1
  by_cases h10 : n = 10
  · subst h10
    go_enter Tryz.func113, Tryz.ntmps113
    go_wp2_with fail
    refine (ih.unary i bad w hi h (by omega)).mono ?_
    rintro e w1 ⟨⟨b0, rfl⟩, i1, bad1, h1, hm1, l1, l1', b1, s1⟩
    go_wp2_with fail
    exact bodyPost_ret (v := .pointer (some ⟨b0, 0, none⟩)) (by simp [results, Tryz.results113, go_sem]) rfl ⟨⟨b0, rfl⟩, i1, bad1, h1, hm1, l1, l1', b1, fun _ => by simpa using s1⟩
  · have h10' : ¬ (n : Int) = 10 := by omega
    have hnb : ((n : Int) == 10) = false := by simpa using h10'
    have C1 : ∀ i' bad' w', i' ≤ k.ws.length → P5 k w' i' bad' → 20 * R5 k i' bad' + 15 ≤ f + 1 + n → Calls Tryz.prog 113 #[.pointer (some ⟨k.P, 0, none⟩), .int .i64 ((n : Int) + 1)] w' (Nx5 k w' i' bad') := fun i' bad' w' a1 a2 a3 => by
      have := ih.chain (n + 1) i' bad' w' (by omega) a1 a2 (by omega)
      have hcc : ((n + 1 : Nat) : Int) = (n : Int) + 1 := by omega
      rw [hcc] at this
      exact this
    go_enter Tryz.func113, Tryz.ntmps113
    go_wp2_with fail
    refine (C1 i bad w hi h hf).mono ?_
    rintro e w1 ⟨⟨b0, rfl⟩, i1, bad1, h1, hm1, l1, l1', b1, s1⟩
    go_wp2_with fail
    go_loopg [5, 6] (R5 k i1 bad1) (fun g s5 s6 wr => ∃ (i' : Nat) (bad' : Bool) (b d : Nat), s5 = .pointer (some ⟨b, 0, none⟩) ∧ s6 = .int .i64 d ∧ d ≤ i' ∧ P5 k wr i' bad' ∧ Mv (X5 k) w wr ∧ i ≤ i' ∧ i' ≤ k.ws.length ∧ (bad' = true ∨ i < i') ∧ (bad = true → bad' = true) ∧ R5 k i' bad' ≤ g)
    case atStart => exact ⟨i1, bad1, b0, 0, rfl, rfl, by omega, h1, hm1, l1, l1', by simpa using s1, b1, Nat.le_refl _⟩
    case round =>
      clear s1 b1 h1 hm1 l1 l1'
      obtain ⟨i', bad', b, d, rfl, rfl, hdi, hR, hM, l1, l1', s1, b1, hg⟩ := hrel
      obtain ⟨dp, c0, c1, c2, c3, c4, cf⟩ := hR.pcells
      cases bad'
      · have hbad : bad = false := by
          cases bad
          · rfl
          · exact absurd (b1 rfl) (by simp)
        subst hbad
        have hii : i < i' := by
          rcases s1 with h | h
          · cases h
          · exact h
        have hRi := R5_mono (k := k) (i := i) (i1 := i') (bad := false) (bad1 := false) l1 (fun h => h)
        clear s1 b1
        go_wp2_with fail
        refine (level5 n (by omega) wr).mono ?_
        rintro e w2 ⟨hm2, gl, m, c, xs, rfl, rfl, hm4, hmc, hc4, hgl, hrow⟩
        have h2 := hR.mv hm2
        have hM2 := hM.trans hm2.toX
        clear c0 c1 c2 c3 c4 cf hR hM hm2
        go_wp2_with fail
        go_loopg [7, 9] xs.length (fun g s7 s9 wr => ∃ (j : Nat) (op : Bs), s7 = .string ⟨op.toArray⟩ ∧ s9 = .int .i64 j ∧ j ≤ xs.length ∧ xs.length - j ≤ g ∧ (op = [] ∨ i' < k.ws.length) ∧ P5 k wr i' false ∧ Mv (X5 k) w wr ∧ wr.heap[gl]? = some (.cells ((xs.map str).toArray) 9 (0, 0)))
        case atStart => exact ⟨0, [], rfl, rfl, by omega, by omega, .inl rfl, h2, hM2, hrow⟩
        case round =>
          clear h2 hM2 hrow
          obtain ⟨j, op, rfl, rfl, hj, hgj, hop, hQ, hMq, hrow⟩ := hrel
          by_cases hlt : j < xs.length
          · have hlt' : (j : Int) < xs.length := by omega
            have hcell : ∀ W : World, W.heap[gl]? = some (.cells ((xs.map str).toArray) 9 (0, 0)) → W.cell? ⟨gl, j, none⟩ = some (.string ⟨(xs[j]).toArray⟩) := fun W hW => by
              simp [World.cell?, hW, hlt, str]
            have ht := hcell _ hrow
            generalize xs[j] = t at *
            go_wp2_with fail
            refine (see5 k t i' (by omega) false wr hQ).mono ?_
            rintro e w3 ⟨b', rfl, hm3, hb'⟩
            have hrow3 := (hm3.same _ (heap_lt hrow) (fun h => h)).trans hrow
            have ht3 := hcell _ hrow3
            cases b'
            · go_wp2_with fail
              go_roundg (xs.length - (j + 1))
              case measure => omega
              case rel => exact ⟨j + 1, op, rfl, by simp, by omega, by omega, hop, hQ.mv hm3, hMq.trans hm3.toX, hrow3⟩
            · go_wp2_with fail
              go_roundg (xs.length - (j + 1))
              case measure => omega
              case rel => exact ⟨j + 1, t, rfl, by simp, by omega, by omega, .inr (hb' (by simp)).2, hQ.mv hm3, hMq.trans hm3.toX, hrow3⟩
          · obtain rfl : j = xs.length := by omega
            by_cases hoe : op = []
            · subst hoe
              go_wp2_with fail
              go_loopg [11] d (fun g s11 wr' => ∃ j : Nat, j ≤ d ∧ d - j ≤ g ∧ s11 = .int .i64 j ∧ P5 k wr' i' false ∧ Mv (X5 k) w wr')
              case atStart => exact ⟨0, by omega, by omega, rfl, hQ, hMq⟩
              case round =>
                obtain ⟨j, hj, hgj, rfl, hRj, hMj⟩ := hrel
                by_cases hjd : j < d
                · have hjd' : (j : Int) < d := by omega
                  go_wp2_with fail
                  refine (up5 k i' false _ hRj).mono ?_
                  rintro e wu ⟨rfl, hu, hmu⟩
                  go_wp2_with fail
                  go_roundg (d - (j + 1))
                  case measure => omega
                  case rel => exact ⟨j + 1, by omega, by omega, by simp, hu, hMj.trans hmu⟩
                · have hjd' : ¬ (j : Int) < d := by omega
                  go_wp2_with fail
                  exact bodyPost_ret (v := .pointer (some ⟨b, 0, none⟩)) (by simp [results, Tryz.results113, go_sem]) rfl ⟨⟨b, rfl⟩, i', false, hRj, hMj, l1, l1', by simp, fun _ => .inr hii⟩
            · have hob : (op == []) = false := by simpa using hoe
              have hil : i' < k.ws.length := hop.resolve_left hoe
              have hlt2 := R5_lt (k := k) (i := i') (i1 := i' + 1) (bad1 := false) (by omega) (.inr (by omega))
              obtain ⟨dp, c0, c1, c2, c3, c4, cf⟩ := hQ.pcells
              have hcc : ((i' + 1 : Nat) : Int) = (i' : Int) + 1 := by omega
              have h3 := hQ.set1 (i' + 1)
              rw [hcc] at h3
              have hM3 : Mv (X5 k) w (wr.setCell ⟨k.P, 1, none⟩ (.int .i64 ((i' : Int) + 1))) := hMq.trans (Mv.setCell _ _ (.inl rfl))
              go_wp2_with fail
              generalize wr.setCell ⟨k.P, 1, none⟩ (.int .i64 ((i' : Int) + 1)) = w3 at *
              clear c0 c1 c2 c3 c4 cf hcc hrow hQ hMq
              refine (node5 k [98, 105, 110] (i' + 1) false w3 h3).mono ?_
              rintro e w4 ⟨h4, hm4', b5, rfl, hb5, hbc⟩
              have hM4 := hM3.trans hm4'
              have hwb : w.heap.size ≤ b5 := Nat.le_trans hM3.size hb5
              obtain ⟨n0, n1, n2, n3, n4, n5, n6, nf⟩ := cells7 hbc
              go_wp2_with fail
              obtain ⟨h5, hM5⟩ := own5 (o := 1) (.string ⟨op.toArray⟩) h hM4 h4 hwb
              have hbc5 : (w4.setCell ⟨b5, 1, none⟩ (.string ⟨op.toArray⟩)).heap[b5]? = some (.cells #[.string ⟨#[98, 105, 110]⟩, .string ⟨op.toArray⟩, .string ⟨#[]⟩, .int .i64 0, .slice none 0 0, .string ⟨#[]⟩, .int .i64 0] 150 (0, 0)) := set_same hbc
              generalize w4.setCell ⟨b5, 1, none⟩ (.string ⟨op.toArray⟩) = w5 at *
              clear n0 n1 n2 n3 n4 n5 n6 nf hbc hm4' hb5 hM4 h4 hM3 h3
              refine (C1 (i' + 1) false w5 (by omega) h5 (by omega)).mono ?_
              rintro e w6 ⟨⟨b6, rfl⟩, i6, bad6, h6, hm6, l6, l6', -, -⟩
              have hM6 := hM5.trans hm6
              have hbc6 := (hm6.same b5 (heap_lt hbc5) (notX h hwb)).trans hbc5
              obtain ⟨n0, n1, n2, n3, n4, n5, n6, nf⟩ := cells7 (at_alloc hbc6 (.cells #[.pointer (some ⟨b, 0, none⟩), .pointer (some ⟨b6, 0, none⟩)] 107))
              have h7 := h6.mv (Mv.alloc (X := fun _ => False) w6 (.cells #[.pointer (some ⟨b, 0, none⟩), .pointer (some ⟨b6, 0, none⟩)] 107))
              have hM7 := hM6.more (.cells #[.pointer (some ⟨b, 0, none⟩), .pointer (some ⟨b6, 0, none⟩)] 107)
              obtain ⟨h8, hM8⟩ := own5 (o := 4) (.slice (some ⟨w6.heap.size, 0, none⟩) 2 2) h hM7 h7 hwb
              go_wp2_with fail
              clear n0 n1 n2 n3 n4 n5 n6 nf hbc6 hbc5 hM5 h5 hM6 h6 hM7 h7 hm6
              generalize (w6.alloc (.cells #[.pointer (some ⟨b, 0, none⟩), .pointer (some ⟨b6, 0, none⟩)] 107)).setCell ⟨b5, 4, none⟩ (.slice (some ⟨w6.heap.size, 0, none⟩) 2 2) = w8 at *
              refine (down5 k i6 bad6 w8 h8).mono ?_
              rintro e wd ⟨rfl, hmd, badd, hd, hbd⟩
              have hMd := hM8.trans hmd
              have hRd := R5_mono (k := k) (i := i' + 1) (i1 := i6) (bad := false) (bad1 := badd) (by omega) (by simp)
              go_wp2_with fail
              go_roundg (R5 k i6 badd)
              case measure => omega
              case rel => exact ⟨i6, badd, b5, d + 1, rfl, by simp, by omega, hd, hMd, by omega, by omega, .inr (by omega), by simp, Nat.le_refl _⟩
      · go_wp2_with fail
        go_loopg [11] d (fun g s11 wr' => ∃ j : Nat, j ≤ d ∧ d - j ≤ g ∧ s11 = .int .i64 j ∧ P5 k wr' i' true ∧ Mv (X5 k) w wr')
        case atStart => exact ⟨0, by omega, by omega, rfl, hR, hM⟩
        case round =>
          obtain ⟨j, hj, hgj, rfl, hRj, hMj⟩ := hrel
          by_cases hjd : j < d
          · have hjd' : (j : Int) < d := by omega
            go_wp2_with fail
            refine (up5 k i' true _ hRj).mono ?_
            rintro e wu ⟨rfl, hu, hmu⟩
            go_wp2_with fail
            go_roundg (d - (j + 1))
            case measure => omega
            case rel => exact ⟨j + 1, by omega, by omega, by simp, hu, hMj.trans hmu⟩
          · have hjd' : ¬ (j : Int) < d := by omega
            go_wp2_with fail
            exact bodyPost_ret (v := .pointer (some ⟨b, 0, none⟩)) (by simp [results, Tryz.results113, go_sem]) rfl ⟨⟨b, rfl⟩, i', true, hRj, hMj, l1, l1', fun _ => rfl, fun _ => .inl rfl⟩
end Go.Proofs.YtjgpbpmicopemaaGreatDoor
