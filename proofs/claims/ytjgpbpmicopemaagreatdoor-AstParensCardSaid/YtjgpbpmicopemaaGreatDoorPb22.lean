import Derived.Test.YtjgpbpmicopemaaGreatDoorPb21
import Derived.StillTail
import Derived.Deep.AppendLies

/-
  plumbobref5's parser: the lists of its program.
-/
namespace Go.Proofs.YtjgpbpmicopemaaGreatDoor
open Go.RowKit Go.Shelf
set_option maxRecDepth 20000

/-- the program's lists, owned since B -/
structure Ls5 (k : K5) (B c : Nat) (W : World) : Prop where
  r1 : ∃ n xs, W.ownsRow B 101 2 k.v1 n xs ∧ n ≤ c
  r2 : ∃ n xs, W.ownsRow B 103 3 k.v2 n xs ∧ n ≤ c
  r3 : ∃ n xs, W.ownsRow B 109 5 k.v3 n xs ∧ n ≤ c
  r4 : ∃ n xs, W.ownsRow B 106 2 k.v4 n xs ∧ n ≤ c
  low : B ≤ k.P ∧ B ≤ k.Q ∧ B ≤ W.heap.size
  g : ∀ g, k.a = some ⟨g, 0, none⟩ → g < B
theorem row_form {W : World} {B T size n : Nat} {v : Value} {xs : List Value} (h : W.ownsRow B T size v n xs) : ∃ a c, v = .slice a n c := by
  obtain ⟨-, ⟨rfl, h3⟩ | ⟨g, cap, cur, rfl, -⟩⟩ := h
  · exact ⟨none, 0, by rw [h3]⟩
  · exact ⟨_, cap, rfl⟩
/-- a row stays where blocks of other types are written -/
theorem row_other {X : Nat → Prop} {W W' : World} {B T size n : Nat} {v : Value} {xs : List Value} (h : W.ownsRow B T size v n xs) (m : Mv X W W') (hX : ∀ j cur, X j → j < W.heap.size → W.heap[j]? = some (.cells cur T (0, 0)) → False) : W'.ownsRow B T size v n xs :=
  ownsRow_keep h m (fun j hj hx => by
    obtain ⟨h1, h2, cur, h3⟩ := ownsRow_own h j hj
    exact hX j cur hx h2 h3)
section
variable {k : K5} {B c : Nat} {W W' : World} {i : Nat} {bad : Bool}
theorem X5_type (h : P5 k W i bad) {T : Nat} (h1 : T ≠ 77) (h2 : T ≠ 48) : ∀ j cur, X5 k j → j < W.heap.size → W.heap[j]? = some (.cells cur T (0, 0)) → False := by
  intro j cur hj _ hc
  obtain ⟨dp, hp⟩ := h.par
  obtain ⟨n, d, hq⟩ := h.prg
  rcases hj with rfl | rfl
  · rw [hp] at hc; cases hc; exact h1 rfl
  · rw [hq] at hc; cases hc; exact h2 rfl
theorem Ls5.mv (h : Ls5 k B c W) (hP : P5 k W i bad) (m : Mv (X5 k) W W') : Ls5 k B c W' := by
  obtain ⟨⟨n1, x1, a1, b1⟩, ⟨n2, x2, a2, b2⟩, ⟨n3, x3, a3, b3⟩, ⟨n4, x4, a4, b4⟩, low, g⟩ := h
  exact ⟨⟨n1, x1, row_other a1 m (X5_type hP (by decide) (by decide)), b1⟩, ⟨n2, x2, row_other a2 m (X5_type hP (by decide) (by decide)), b2⟩, ⟨n3, x3, row_other a3 m (X5_type hP (by decide) (by decide)), b3⟩, ⟨n4, x4, row_other a4 m (X5_type hP (by decide) (by decide)), b4⟩, ⟨low.1, low.2.1, Nat.le_trans low.2.2 m.size⟩, g⟩
theorem P5.keep {X : Nat → Prop} (h : P5 k W i bad) (m : Mv X W W') (hP : ¬ X k.P) (hQ : ¬ X k.Q) (hg : ∀ g, k.a = some ⟨g, 0, none⟩ → ¬ X g) : P5 k W' i bad := by
  obtain ⟨⟨dp, h1⟩, ⟨n, d, h2⟩, h3, h4, h5⟩ := h
  refine ⟨⟨dp, (m.same _ (heap_lt h1) hP).trans h1⟩, ⟨n, d, (m.same _ (heap_lt h2) hQ).trans h2⟩, h3, fun hn => ?_, h5⟩
  obtain ⟨g, e1, e2, e3, e4, e5⟩ := h4 hn
  exact ⟨g, e1, e2, e3, Nat.lt_of_lt_of_le e4 m.size, fun j x hx => (e5 j x hx).mv m (hg g e1)⟩
/-- all the cells of the program's block -/
theorem P5.qall (h : P5 k W i bad) : ∃ n d : Int, W.cell? ⟨k.Q, 0, none⟩ = some k.v1 ∧ W.cell? ⟨k.Q, 1, none⟩ = some k.v2 ∧ W.cell? ⟨k.Q, 2, none⟩ = some k.v3 ∧ W.cell? ⟨k.Q, 3, none⟩ = some k.v4 ∧ W.cell? ⟨k.Q, 4, none⟩ = some (.int .i64 n) ∧ W.cell? ⟨k.Q, 5, none⟩ = some (.int .i64 d) ∧ ∀ i, W.frozen? ⟨k.Q, i, none⟩ = false := by
  obtain ⟨n, d, h⟩ := h.prg
  refine ⟨n, d, ?_, ?_, ?_, ?_, ?_, ?_, ?_⟩ <;> simp [World.cell?, World.frozen?, h]
/-- behind an append to list 1 -/
theorem Ls5.near1 {o : Obj} {n : Nat} {xs : List Value} (h : Ls5 k B c W) (hP : P5 k W i bad) (hr : W.ownsRow B 101 2 k.v1 n xs) (hgr : (W.alloc o).grownBy W' k.v1.ownBlock) : P5 k W' i bad ∧ Mv (fun j => k.v1.ownBlock = some j) W W' := by
  have m : Mv (fun j => k.v1.ownBlock = some j) W W' := (Mv.alloc _ o).trans (Mv.of_grown hgr (fun r e => e))
  obtain ⟨dp, hp⟩ := hP.par
  obtain ⟨nn, d, hq⟩ := hP.prg
  refine ⟨hP.keep m (fun e => ?_) (fun e => ?_) (fun g hg e => ?_), m⟩
  · obtain ⟨-, -, cur, h3⟩ := ownsRow_own hr _ e
    rw [hp] at h3; cases h3
  · obtain ⟨-, -, cur, h3⟩ := ownsRow_own hr _ e
    rw [hq] at h3; cases h3
  · have h1 := (ownsRow_own hr _ e).1
    have h2 := h.g g hg
    omega
theorem Ls5.lt1 (h : Ls5 k B c W) : ∀ j, k.v1.ownBlock = some j → j < W.heap.size := fun j hj => by
  obtain ⟨n, xs, hr, -⟩ := h.r1
  exact (ownsRow_own hr j hj).2.1
theorem Ls5.push1 {o : Obj} {n : Nat} {xs ys : List Value} {v : Value} (h : Ls5 k B c W) (hP : P5 k W i bad) (hr : W.ownsRow B 101 2 k.v1 n xs) (hn : n ≤ c) (hgr : (W.alloc o).grownBy W' k.v1.ownBlock) (own' : W'.ownsRow B 101 2 v (n + 1) ys) :
    P5 { k with v1 := v } (W'.setCell ⟨k.Q, 0, none⟩ v) i bad ∧ Ls5 { k with v1 := v } B (c + 1) (W'.setCell ⟨k.Q, 0, none⟩ v) ∧ Mv (fun j => B ≤ j) W (W'.setCell ⟨k.Q, 0, none⟩ v) := by
  obtain ⟨hP', m⟩ := h.near1 hP hr hgr
  have m2 : Mv (fun j => j = k.Q) W' (W'.setCell ⟨k.Q, 0, none⟩ v) := Mv.setCell _ _ rfl
  have hown : ∀ j, k.v1.ownBlock = some j → B ≤ j ∧ ∃ cur, W.heap[j]? = some (.cells cur 101 (0, 0)) := fun j e => by
    obtain ⟨h1, h2, h3⟩ := ownsRow_own hr j e
    exact ⟨h1, h3⟩
  obtain ⟨⟨dp, hp⟩, ⟨nn, d, hq⟩, hne, hrow, hok⟩ := hP'
  obtain ⟨⟨n1, x1, a1, b1⟩, ⟨n2, x2, a2, b2⟩, ⟨n3, x3, a3, b3⟩, ⟨n4, x4, a4, b4⟩, low, hg⟩ := h
  have hd : ∀ {T' : Nat}, T' ≠ 101 → ∀ j cur, k.v1.ownBlock = some j → j < W.heap.size → W.heap[j]? = some (.cells cur T' (0, 0)) → False := fun hT j cur e _ hc => by
    obtain ⟨-, cur', h3⟩ := hown j e
    rw [hc] at h3; cases h3; exact hT rfl
  have hdq : ∀ {T' : Nat}, T' ≠ 48 → ∀ j cur, j = k.Q → j < W'.heap.size → W'.heap[j]? = some (.cells cur T' (0, 0)) → False := fun hT j cur e _ hc => by
    subst e
    rw [hq] at hc; cases hc; exact hT rfl
  refine ⟨⟨⟨dp, (set_other (by first | exact hne | exact fun e => hne e.symm)).trans hp⟩, ⟨nn, d, set_same hq⟩, hne, fun hn => ?_, hok⟩, ⟨?_, ?_, ?_, ?_, ⟨low.1, low.2.1, Nat.le_trans low.2.2 (Nat.le_trans m.size m2.size)⟩, hg⟩, (m.mono (fun _ j e => (hown _ e).1)).trans (m2.mono (fun _ j e => by subst e; exact low.2.1))⟩
  · obtain ⟨g, e1, e2, e3, e4, e5⟩ := hrow hn
    exact ⟨g, e1, e2, e3, Nat.lt_of_lt_of_le e4 m2.size, fun j x hx => (e5 j x hx).mv m2 e3⟩
  · exact ⟨n + 1, ys, row_other own' m2 (hdq (by decide)), by omega⟩
  · exact ⟨n2, x2, row_other (row_other a2 m (hd (by decide))) m2 (hdq (by decide)), by omega⟩
  · exact ⟨n3, x3, row_other (row_other a3 m (hd (by decide))) m2 (hdq (by decide)), by omega⟩
  · exact ⟨n4, x4, row_other (row_other a4 m (hd (by decide))) m2 (hdq (by decide)), by omega⟩
/-- behind an append to list 2 -/
theorem Ls5.near2 {o : Obj} {n : Nat} {xs : List Value} (h : Ls5 k B c W) (hP : P5 k W i bad) (hr : W.ownsRow B 103 3 k.v2 n xs) (hgr : (W.alloc o).grownBy W' k.v2.ownBlock) : P5 k W' i bad ∧ Mv (fun j => k.v2.ownBlock = some j) W W' := by
  have m : Mv (fun j => k.v2.ownBlock = some j) W W' := (Mv.alloc _ o).trans (Mv.of_grown hgr (fun r e => e))
  obtain ⟨dp, hp⟩ := hP.par
  obtain ⟨nn, d, hq⟩ := hP.prg
  refine ⟨hP.keep m (fun e => ?_) (fun e => ?_) (fun g hg e => ?_), m⟩
  · obtain ⟨-, -, cur, h3⟩ := ownsRow_own hr _ e
    rw [hp] at h3; cases h3
  · obtain ⟨-, -, cur, h3⟩ := ownsRow_own hr _ e
    rw [hq] at h3; cases h3
  · have h1 := (ownsRow_own hr _ e).1
    have h2 := h.g g hg
    omega
theorem Ls5.lt2 (h : Ls5 k B c W) : ∀ j, k.v2.ownBlock = some j → j < W.heap.size := fun j hj => by
  obtain ⟨n, xs, hr, -⟩ := h.r2
  exact (ownsRow_own hr j hj).2.1
theorem Ls5.push2 {o : Obj} {n : Nat} {xs ys : List Value} {v : Value} (h : Ls5 k B c W) (hP : P5 k W i bad) (hr : W.ownsRow B 103 3 k.v2 n xs) (hn : n ≤ c) (hgr : (W.alloc o).grownBy W' k.v2.ownBlock) (own' : W'.ownsRow B 103 3 v (n + 1) ys) :
    P5 { k with v2 := v } (W'.setCell ⟨k.Q, 1, none⟩ v) i bad ∧ Ls5 { k with v2 := v } B (c + 1) (W'.setCell ⟨k.Q, 1, none⟩ v) ∧ Mv (fun j => B ≤ j) W (W'.setCell ⟨k.Q, 1, none⟩ v) := by
  obtain ⟨hP', m⟩ := h.near2 hP hr hgr
  have m2 : Mv (fun j => j = k.Q) W' (W'.setCell ⟨k.Q, 1, none⟩ v) := Mv.setCell _ _ rfl
  have hown : ∀ j, k.v2.ownBlock = some j → B ≤ j ∧ ∃ cur, W.heap[j]? = some (.cells cur 103 (0, 0)) := fun j e => by
    obtain ⟨h1, h2, h3⟩ := ownsRow_own hr j e
    exact ⟨h1, h3⟩
  obtain ⟨⟨dp, hp⟩, ⟨nn, d, hq⟩, hne, hrow, hok⟩ := hP'
  obtain ⟨⟨n1, x1, a1, b1⟩, ⟨n2, x2, a2, b2⟩, ⟨n3, x3, a3, b3⟩, ⟨n4, x4, a4, b4⟩, low, hg⟩ := h
  have hd : ∀ {T' : Nat}, T' ≠ 103 → ∀ j cur, k.v2.ownBlock = some j → j < W.heap.size → W.heap[j]? = some (.cells cur T' (0, 0)) → False := fun hT j cur e _ hc => by
    obtain ⟨-, cur', h3⟩ := hown j e
    rw [hc] at h3; cases h3; exact hT rfl
  have hdq : ∀ {T' : Nat}, T' ≠ 48 → ∀ j cur, j = k.Q → j < W'.heap.size → W'.heap[j]? = some (.cells cur T' (0, 0)) → False := fun hT j cur e _ hc => by
    subst e
    rw [hq] at hc; cases hc; exact hT rfl
  refine ⟨⟨⟨dp, (set_other (by first | exact hne | exact fun e => hne e.symm)).trans hp⟩, ⟨nn, d, set_same hq⟩, hne, fun hn => ?_, hok⟩, ⟨?_, ?_, ?_, ?_, ⟨low.1, low.2.1, Nat.le_trans low.2.2 (Nat.le_trans m.size m2.size)⟩, hg⟩, (m.mono (fun _ j e => (hown _ e).1)).trans (m2.mono (fun _ j e => by subst e; exact low.2.1))⟩
  · obtain ⟨g, e1, e2, e3, e4, e5⟩ := hrow hn
    exact ⟨g, e1, e2, e3, Nat.lt_of_lt_of_le e4 m2.size, fun j x hx => (e5 j x hx).mv m2 e3⟩
  · exact ⟨n1, x1, row_other (row_other a1 m (hd (by decide))) m2 (hdq (by decide)), by omega⟩
  · exact ⟨n + 1, ys, row_other own' m2 (hdq (by decide)), by omega⟩
  · exact ⟨n3, x3, row_other (row_other a3 m (hd (by decide))) m2 (hdq (by decide)), by omega⟩
  · exact ⟨n4, x4, row_other (row_other a4 m (hd (by decide))) m2 (hdq (by decide)), by omega⟩
/-- behind an append to list 3 -/
theorem Ls5.near3 {o : Obj} {n : Nat} {xs : List Value} (h : Ls5 k B c W) (hP : P5 k W i bad) (hr : W.ownsRow B 109 5 k.v3 n xs) (hgr : (W.alloc o).grownBy W' k.v3.ownBlock) : P5 k W' i bad ∧ Mv (fun j => k.v3.ownBlock = some j) W W' := by
  have m : Mv (fun j => k.v3.ownBlock = some j) W W' := (Mv.alloc _ o).trans (Mv.of_grown hgr (fun r e => e))
  obtain ⟨dp, hp⟩ := hP.par
  obtain ⟨nn, d, hq⟩ := hP.prg
  refine ⟨hP.keep m (fun e => ?_) (fun e => ?_) (fun g hg e => ?_), m⟩
  · obtain ⟨-, -, cur, h3⟩ := ownsRow_own hr _ e
    rw [hp] at h3; cases h3
  · obtain ⟨-, -, cur, h3⟩ := ownsRow_own hr _ e
    rw [hq] at h3; cases h3
  · have h1 := (ownsRow_own hr _ e).1
    have h2 := h.g g hg
    omega
theorem Ls5.lt3 (h : Ls5 k B c W) : ∀ j, k.v3.ownBlock = some j → j < W.heap.size := fun j hj => by
  obtain ⟨n, xs, hr, -⟩ := h.r3
  exact (ownsRow_own hr j hj).2.1
theorem Ls5.push3 {o : Obj} {n : Nat} {xs ys : List Value} {v : Value} (h : Ls5 k B c W) (hP : P5 k W i bad) (hr : W.ownsRow B 109 5 k.v3 n xs) (hn : n ≤ c) (hgr : (W.alloc o).grownBy W' k.v3.ownBlock) (own' : W'.ownsRow B 109 5 v (n + 1) ys) :
    P5 { k with v3 := v } (W'.setCell ⟨k.Q, 2, none⟩ v) i bad ∧ Ls5 { k with v3 := v } B (c + 1) (W'.setCell ⟨k.Q, 2, none⟩ v) ∧ Mv (fun j => B ≤ j) W (W'.setCell ⟨k.Q, 2, none⟩ v) := by
  obtain ⟨hP', m⟩ := h.near3 hP hr hgr
  have m2 : Mv (fun j => j = k.Q) W' (W'.setCell ⟨k.Q, 2, none⟩ v) := Mv.setCell _ _ rfl
  have hown : ∀ j, k.v3.ownBlock = some j → B ≤ j ∧ ∃ cur, W.heap[j]? = some (.cells cur 109 (0, 0)) := fun j e => by
    obtain ⟨h1, h2, h3⟩ := ownsRow_own hr j e
    exact ⟨h1, h3⟩
  obtain ⟨⟨dp, hp⟩, ⟨nn, d, hq⟩, hne, hrow, hok⟩ := hP'
  obtain ⟨⟨n1, x1, a1, b1⟩, ⟨n2, x2, a2, b2⟩, ⟨n3, x3, a3, b3⟩, ⟨n4, x4, a4, b4⟩, low, hg⟩ := h
  have hd : ∀ {T' : Nat}, T' ≠ 109 → ∀ j cur, k.v3.ownBlock = some j → j < W.heap.size → W.heap[j]? = some (.cells cur T' (0, 0)) → False := fun hT j cur e _ hc => by
    obtain ⟨-, cur', h3⟩ := hown j e
    rw [hc] at h3; cases h3; exact hT rfl
  have hdq : ∀ {T' : Nat}, T' ≠ 48 → ∀ j cur, j = k.Q → j < W'.heap.size → W'.heap[j]? = some (.cells cur T' (0, 0)) → False := fun hT j cur e _ hc => by
    subst e
    rw [hq] at hc; cases hc; exact hT rfl
  refine ⟨⟨⟨dp, (set_other (by first | exact hne | exact fun e => hne e.symm)).trans hp⟩, ⟨nn, d, set_same hq⟩, hne, fun hn => ?_, hok⟩, ⟨?_, ?_, ?_, ?_, ⟨low.1, low.2.1, Nat.le_trans low.2.2 (Nat.le_trans m.size m2.size)⟩, hg⟩, (m.mono (fun _ j e => (hown _ e).1)).trans (m2.mono (fun _ j e => by subst e; exact low.2.1))⟩
  · obtain ⟨g, e1, e2, e3, e4, e5⟩ := hrow hn
    exact ⟨g, e1, e2, e3, Nat.lt_of_lt_of_le e4 m2.size, fun j x hx => (e5 j x hx).mv m2 e3⟩
  · exact ⟨n1, x1, row_other (row_other a1 m (hd (by decide))) m2 (hdq (by decide)), by omega⟩
  · exact ⟨n2, x2, row_other (row_other a2 m (hd (by decide))) m2 (hdq (by decide)), by omega⟩
  · exact ⟨n + 1, ys, row_other own' m2 (hdq (by decide)), by omega⟩
  · exact ⟨n4, x4, row_other (row_other a4 m (hd (by decide))) m2 (hdq (by decide)), by omega⟩
/-- behind an append to list 4 -/
theorem Ls5.near4 {o : Obj} {n : Nat} {xs : List Value} (h : Ls5 k B c W) (hP : P5 k W i bad) (hr : W.ownsRow B 106 2 k.v4 n xs) (hgr : (W.alloc o).grownBy W' k.v4.ownBlock) : P5 k W' i bad ∧ Mv (fun j => k.v4.ownBlock = some j) W W' := by
  have m : Mv (fun j => k.v4.ownBlock = some j) W W' := (Mv.alloc _ o).trans (Mv.of_grown hgr (fun r e => e))
  obtain ⟨dp, hp⟩ := hP.par
  obtain ⟨nn, d, hq⟩ := hP.prg
  refine ⟨hP.keep m (fun e => ?_) (fun e => ?_) (fun g hg e => ?_), m⟩
  · obtain ⟨-, -, cur, h3⟩ := ownsRow_own hr _ e
    rw [hp] at h3; cases h3
  · obtain ⟨-, -, cur, h3⟩ := ownsRow_own hr _ e
    rw [hq] at h3; cases h3
  · have h1 := (ownsRow_own hr _ e).1
    have h2 := h.g g hg
    omega
theorem Ls5.lt4 (h : Ls5 k B c W) : ∀ j, k.v4.ownBlock = some j → j < W.heap.size := fun j hj => by
  obtain ⟨n, xs, hr, -⟩ := h.r4
  exact (ownsRow_own hr j hj).2.1
theorem Ls5.push4 {o : Obj} {n : Nat} {xs ys : List Value} {v : Value} (h : Ls5 k B c W) (hP : P5 k W i bad) (hr : W.ownsRow B 106 2 k.v4 n xs) (hn : n ≤ c) (hgr : (W.alloc o).grownBy W' k.v4.ownBlock) (own' : W'.ownsRow B 106 2 v (n + 1) ys) :
    P5 { k with v4 := v } (W'.setCell ⟨k.Q, 3, none⟩ v) i bad ∧ Ls5 { k with v4 := v } B (c + 1) (W'.setCell ⟨k.Q, 3, none⟩ v) ∧ Mv (fun j => B ≤ j) W (W'.setCell ⟨k.Q, 3, none⟩ v) := by
  obtain ⟨hP', m⟩ := h.near4 hP hr hgr
  have m2 : Mv (fun j => j = k.Q) W' (W'.setCell ⟨k.Q, 3, none⟩ v) := Mv.setCell _ _ rfl
  have hown : ∀ j, k.v4.ownBlock = some j → B ≤ j ∧ ∃ cur, W.heap[j]? = some (.cells cur 106 (0, 0)) := fun j e => by
    obtain ⟨h1, h2, h3⟩ := ownsRow_own hr j e
    exact ⟨h1, h3⟩
  obtain ⟨⟨dp, hp⟩, ⟨nn, d, hq⟩, hne, hrow, hok⟩ := hP'
  obtain ⟨⟨n1, x1, a1, b1⟩, ⟨n2, x2, a2, b2⟩, ⟨n3, x3, a3, b3⟩, ⟨n4, x4, a4, b4⟩, low, hg⟩ := h
  have hd : ∀ {T' : Nat}, T' ≠ 106 → ∀ j cur, k.v4.ownBlock = some j → j < W.heap.size → W.heap[j]? = some (.cells cur T' (0, 0)) → False := fun hT j cur e _ hc => by
    obtain ⟨-, cur', h3⟩ := hown j e
    rw [hc] at h3; cases h3; exact hT rfl
  have hdq : ∀ {T' : Nat}, T' ≠ 48 → ∀ j cur, j = k.Q → j < W'.heap.size → W'.heap[j]? = some (.cells cur T' (0, 0)) → False := fun hT j cur e _ hc => by
    subst e
    rw [hq] at hc; cases hc; exact hT rfl
  refine ⟨⟨⟨dp, (set_other (by first | exact hne | exact fun e => hne e.symm)).trans hp⟩, ⟨nn, d, set_same hq⟩, hne, fun hn => ?_, hok⟩, ⟨?_, ?_, ?_, ?_, ⟨low.1, low.2.1, Nat.le_trans low.2.2 (Nat.le_trans m.size m2.size)⟩, hg⟩, (m.mono (fun _ j e => (hown _ e).1)).trans (m2.mono (fun _ j e => by subst e; exact low.2.1))⟩
  · obtain ⟨g, e1, e2, e3, e4, e5⟩ := hrow hn
    exact ⟨g, e1, e2, e3, Nat.lt_of_lt_of_le e4 m2.size, fun j x hx => (e5 j x hx).mv m2 e3⟩
  · exact ⟨n1, x1, row_other (row_other a1 m (hd (by decide))) m2 (hdq (by decide)), by omega⟩
  · exact ⟨n2, x2, row_other (row_other a2 m (hd (by decide))) m2 (hdq (by decide)), by omega⟩
  · exact ⟨n3, x3, row_other (row_other a3 m (hd (by decide))) m2 (hdq (by decide)), by omega⟩
  · exact ⟨n + 1, ys, row_other own' m2 (hdq (by decide)), by omega⟩
end
end Go.Proofs.YtjgpbpmicopemaaGreatDoor

/-
  A region that draws its order: what only reads cells that stay is taken first.
-/
namespace Go.Proofs.YtjgpbpmicopemaaGreatDoor

section
variable {P : Program} {ops : Array Oper} {md : Region.Mode} {Q : Exit → Act → World → Prop} {C : World → Prop} {n : Nat}
/-- it yields this value in whatever world of the class -/
def YieldsC (P : Program) (ops : Array Oper) (C : World → Prop) (o : Oper) (v : Value) (a : Act) : Prop :=
  (Region.wanted o (yielded ops a.tmps) = true ∧ ∀ w, C w → (execOp a.eval o).run P w = .ok (.value v) w) ∨
  (Region.wanted o (yielded ops a.tmps) = false ∧ v = undef)
theorem YieldsC.of_same {o : Oper} {v : Value} {a a' : Act} (hy : YieldsC P ops C o v a) (he : execOp a'.eval o = execOp a.eval o)
    (hw : Region.wanted o (yielded ops a'.tmps) = Region.wanted o (yielded ops a.tmps)) : YieldsC P ops C o v a' := by
  unfold YieldsC at *
  rw [he, hw]
  exact hy
theorem YieldsC.wpOp {i : Nat} {o : Oper} {v : Value} {a : Act} (hi : ops[i]? = some o) (hy : YieldsC P ops C o v a) {K : Act → World → Prop} {w : World} (hC : C w) (h : K (a.put o.dst v) w) : wpOp P ops Q i K a w := by
  unfold Go.wpOp
  simp only [hi]
  rcases hy with ⟨hw, hv⟩ | ⟨hw, rfl⟩
  · simp only [hw, if_true, Oper.wp, hv w hC, Oper.upon]; exact .inl h
  · simp only [hw, Bool.false_eq_true, if_false]; exact h
theorem wpOp_putC {j : Nat} {oi oj : Oper} {v : Value} (hj : ops[j]? = some oj) (hap : oi.apart ops oj = true)
    (hsi : ∀ cs b, oi.op ≠ .select cs b) (hsj : ∀ cs b, oj.op ≠ .select cs b)
    (hQ : ∀ c a w, Q (.panic c) (a.put oi.dst v) w → Q (.panic c) a w) {K : Act → World → Prop} {a : Act} {w : World}
    (hy : YieldsC P ops C oi v a) (h : wpOp P ops Q j K (a.put oi.dst v) w) :
    wpOp P ops Q j (fun a' w' => YieldsC P ops C oi v a' ∧ K (a'.put oi.dst v) w') a w := by
  obtain ⟨h1, h2, h3⟩ := Oper.apart_spec hap
  have keep : ∀ (a : Act), YieldsC P ops C oi v a → ∀ u, YieldsC P ops C oi v (a.put oj.dst u) := fun a hy u =>
    hy.of_same (execOp_put oi hsi a oj.dst u h3) (wanted_put oi a oj.dst u h3)
  have keepD : ∀ d, YieldsC P ops C oi v { a with defers := d :: a.defers } := fun d => hy.of_same rfl rfl
  unfold Go.wpOp at *
  simp only [hj] at *
  rw [wanted_put oj a oi.dst v h1] at h
  split
  · rename_i hw
    simp only [hw, if_true] at h
    rcases h with h | ⟨hasks, hlets⟩
    case inr => exact .inr ⟨by unfold Oper.asks at *; rw [execOp_put oj hsj a oi.dst v h1] at hasks; exact hasks, hlets⟩
    refine .inl ?_
    unfold Oper.wp at *
    rw [execOp_put oj hsj a oi.dst v h1] at h
    generalize (execOp a.eval oj).run P w = r at *
    cases r with
    | ok n w' =>
      cases n <;> simp only [Oper.upon] at h ⊢
      case value u => exact ⟨keep a hy u, by rw [← Act.put_comm a v u h2]; exact h⟩
      case skip => exact ⟨keep a hy _, by rw [← Act.put_comm a v undef h2]; exact h⟩
      case defer d =>
        refine ⟨keep _ (keepD d) _, ?_⟩
        rw [← Act.put_comm _ v undef h2, ← Act.put_defers]
        exact h
      case enter f args =>
        refine Calls.mono h fun e w'' he => ?_
        cases e with
        | returned u => exact ⟨keep a hy u, by rw [← Act.put_comm a v u h2]; exact he⟩
        | panicked c => exact hQ _ _ _ he
        | outgrown => exact he
      case row row args => exact Rows.mono h fun u w'' he => ⟨keep a hy u, by rw [← Act.put_comm a v u h2]; exact he⟩
    | halt x w' =>
      cases x <;> simp only [Oper.upon] at h ⊢
      case panic u => exact hQ _ _ _ h
  · rename_i hw
    simp only [hw] at h
    exact ⟨keep a hy _, by rw [← Act.put_comm a v undef h2]; exact h⟩
/-- the region, all ahead of its last operation staying in the class -/
def wpC (P : Program) (md : Region.Mode) (ops : Array Oper) (Q : Exit → Act → World → Prop) (C : World → Prop) (n : Nat) : Nat → Array Bool → Act → World → Prop
  | 0, listed, a, w => Region.ready md ops listed = [] ∧ Q .normal a w
  | f + 1, listed, a, w => (Region.ready md ops listed = [] → Q .normal a w) ∧
    ∀ i ∈ Region.ready md ops listed, wpOp P ops Q i (fun a' w' => (i < n → C w') ∧ wpC P md ops Q C n f (listed.setIfInBounds i true) a' w') a w
theorem wpC.any : ∀ (f : Nat) (listed : Array Bool) (a : Act) (w : World), wpC P md ops Q C n f listed a w → wpAny P md ops Q f listed a w
  | 0, _, _, _, h => h
  | f + 1, _, _, _, h => ⟨h.1, fun i hi => wpOp_mono (fun a' w' h' => wpC.any f _ a' w' h'.2) (h.2 i hi)⟩
theorem wpC_first {i : Nat} {oi : Oper} {v : Value} (hi : ops[i]? = some oi) (hsel : ∀ (j : Nat) (o : Oper) cs b, ops[j]? = some o → o.op ≠ .select cs b)
    (hQ : ∀ c a w, Q (.panic c) (a.put oi.dst v) w → Q (.panic c) a w)
    (hs : Region.sinkB md ops n = true) (hc : Region.chainB md ops n = true) (hn : n < ops.size) (hin : i < n) :
    ∀ (f : Nat) (listed : Array Bool) (a : Act) (w : World), HeadInv md ops n listed →
      (∀ j oj, ops[j]? = some oj → j ≠ i → listed.getD j true = false → (∀ e ∈ oj.after, Region.binds md e = true → e.on ≠ i) → oi.apart ops oj = true) →
      i ∈ Region.ready md ops listed → C w → YieldsC P ops C oi v a →
      wpC P md ops Q C n f (listed.setIfInBounds i true) (a.put oi.dst v) w → wpC P md ops Q C n (f + 1) listed a w := by
  intro f
  induction f with
  | zero =>
    intro listed a w _ _ hr hC hy H
    refine ⟨fun h => (by rw [h] at hr; cases hr), fun j hj => ?_⟩
    by_cases hji : j = i
    · subst hji; exact hy.wpOp hi hC ⟨fun _ => hC, H⟩
    · have := ready_mono hj hji
      rw [H.1] at this
      cases this
  | succ f ih =>
    intro listed a w inv hfree hr hC hy H
    have hun := (mem_ready.1 hr).1
    refine ⟨fun h => (by rw [h] at hr; cases hr), fun j hj => ?_⟩
    have hjn : j < n := by
      rcases Nat.lt_or_ge j n with h | h
      · exact h
      · exact absurd hj (tail_waits hs hc hn inv _ i rfl hin hun j h)
    by_cases hji : j = i
    · subst hji; exact hy.wpOp hi hC ⟨fun _ => hC, H⟩
    · have h1 := H.2 j (ready_mono hj hji)
      obtain ⟨hjun, oj, hoj, hall⟩ := mem_ready.1 hj
      have hnot : ∀ e ∈ oj.after, Region.binds md e = true → e.on ≠ i := fun e he hb heq => by
        have h1 := hall e he hb
        rw [heq, getD_both hun] at h1
        cases h1
      have h2 := wpOp_putC hoj (hfree j oj hoj hji hjun hnot) (fun cs b => hsel i oi cs b hi) (fun cs b => hsel j oj cs b hoj) hQ hy h1
      have hfree' : ∀ k ok, ops[k]? = some ok → k ≠ i → (listed.setIfInBounds j true).getD k true = false →
          (∀ e ∈ ok.after, Region.binds md e = true → e.on ≠ i) → oi.apart ops ok = true := fun k ok hk hki hun hno => by
        refine hfree k ok hk hki ?_ hno
        by_cases hjk : j = k
        · subst hjk; exact hjun
        · rw [getD_set_ne true hjk] at hun; exact hun
      refine wpOp_mono (fun a' w' h3 => ⟨h3.2.1, ih (listed.setIfInBounds j true) a' w' (inv.set hj hjn) hfree' (ready_mono hr (Ne.symm hji)) (h3.2.1 hjn) h3.1 ?_⟩) h2
      rw [Array.setIfInBounds_comm _ _ hji]
      exact h3.2.2
/-- what is listed is closed -/
def headB (md : Region.Mode) (ops : Array Oper) (n : Nat) (listed : Array Bool) : Bool :=
  decide (listed.size = ops.size) && ((List.range ops.size).all (fun j => !listed.getD j false || match ops[j]? with
    | none => true
    | some o => o.after.all (fun e => !Region.binds md e || listed.getD e.on false)) && (List.range ops.size).all (fun t => decide (t < n) || !listed.getD t true))
theorem headB_spec {listed : Array Bool} (h : headB md ops n listed = true) : HeadInv md ops n listed := by
  unfold headB at h
  simp only [Bool.and_eq_true, decide_eq_true_eq, List.all_eq_true, List.mem_range, Bool.or_eq_true, Bool.not_eq_true'] at h
  obtain ⟨h1, h2, h3⟩ := h
  refine ⟨h1, fun j oj hj hl e he hb => ?_, fun t ht hlt => ?_⟩
  · have hjl : j < ops.size := (Array.getElem?_eq_some_iff.1 hj).1
    have h4 := (h2 j hjl).resolve_left (by rw [hl]; simp)
    rw [hj] at h4
    simp only [Array.all_eq_true_iff_forall_mem, Bool.or_eq_true, Bool.not_eq_true'] at h4
    exact (h4 e he).resolve_left (by rw [hb]; simp)
  · exact (h3 t hlt).resolve_left (by omega)
/-- may this one be taken first? -/
def takeB (md : Region.Mode) (ops : Array Oper) (n : Nat) (listed : Array Bool) (i : Nat) : Bool :=
  Region.noSelect ops && (Region.sinkB md ops n && (Region.chainB md ops n && (decide (n < ops.size) && (decide (i < n) && (headB md ops n listed && (Region.free md ops listed i && (Region.ready md ops listed).contains i))))))
theorem wpC_take {i : Nat} {oi : Oper} {v : Value} {f : Nat} {listed : Array Bool} {a : Act} {w : World} (hi : ops[i]? = some oi) (hB : takeB md ops n listed i = true)
    (hQ : ∀ c a w, Q (.panic c) (a.put oi.dst v) w → Q (.panic c) a w) (hC : C w) (hy : YieldsC P ops C oi v a)
    (h : wpC P md ops Q C n f (listed.setIfInBounds i true) (a.put oi.dst v) w) : wpC P md ops Q C n (f + 1) listed a w := by
  unfold takeB at hB
  simp only [Bool.and_eq_true, decide_eq_true_eq] at hB
  obtain ⟨h1, h2, h3, h4, h5, h6, h7, h8⟩ := hB
  exact wpC_first hi (Region.noSelect_spec h1) hQ h2 h3 h4 h5 f listed a w (headB_spec h6) (Region.free_spec hi h7) (by simpa using h8) hC hy h
/-- the one that comes -/
theorem wpC_one {i : Nat} {o : Oper} {f : Nat} {listed : Array Bool} {a : Act} {w : World} (hr : Region.ready md ops listed = [i]) (hi : ops[i]? = some o)
    (h : ∀ K : Act → World → Prop, (∀ a' w', (i < n → C w') → wpC P md ops Q C n f (listed.setIfInBounds i true) a' w' → K a' w') → if Region.wanted o (yielded ops a.tmps) = true then Oper.wp P o a w K Q else K (a.put o.dst undef) w) : wpC P md ops Q C n (f + 1) listed a w := by
  refine ⟨fun h0 => (by rw [hr] at h0; cases h0), fun j hj => ?_⟩
  rw [hr] at hj
  obtain rfl : j = i := by simpa using hj
  have h1 := h (fun a' w' => (j < n → C w') ∧ wpC P md ops Q C n f (listed.setIfInBounds j true) a' w') (fun a' w' x y => ⟨x, y⟩)
  unfold Go.wpOp
  simp only [hi]
  split
  · rename_i hw; rw [if_pos hw] at h1; exact .inl h1
  · rename_i hw; rw [if_neg hw] at h1; exact h1
theorem wpC_done {f : Nat} {listed : Array Bool} {a : Act} {w : World} (hr : Region.ready md ops listed = []) (h : Q .normal a w) : wpC P md ops Q C n f listed a w := by
  cases f with
  | zero => exact ⟨hr, h⟩
  | succ f => exact ⟨fun _ => h, fun i hi => by rw [hr] at hi; cases hi⟩
end
end Go.Proofs.YtjgpbpmicopemaaGreatDoor
