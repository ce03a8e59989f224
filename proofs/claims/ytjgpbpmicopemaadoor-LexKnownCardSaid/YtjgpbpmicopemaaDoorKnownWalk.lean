/-
  LexKnown answers true.
-/
import Derived.Test.YtjgpbpmicopemaaDoorAwake
namespace Go.Proofs.YtjgpbpmicopemaaDoor
open Go.RowKit

set_option maxRecDepth 20000 in
set_option maxHeartbeats 4000000 in
theorem known_any (w : World) (hE : Env w) : Calls Tryd.prog 3 #[] w (BL true w) := by
  have C1 : ∀ W, Env W → Calls Tryd.prog 9 #[.string ⟨#[49, 97]⟩] W (RWs [49, 97] W) := fun W hW => words_any [49, 97] (by decide) W hW
  have C2 : ∀ W, Env W → Calls Tryd.prog 9 #[.string ⟨#[10, 32, 64]⟩] W (RWs [10, 32, 64] W) := fun W hW => words_any [10, 32, 64] (by decide) W hW
  have C3 : ∀ W, Env W → Calls Tryd.prog 9 #[.string ⟨#[47, 42, 32, 120]⟩] W (RWs [47, 42, 32, 120] W) := fun W hW => words_any [47, 42, 32, 120] (by decide) W hW
  have C4 : ∀ W, Env W → Calls Tryd.prog 9 #[.string ⟨#[105, 110, 116, 32, 105, 110, 32, 47, 47, 32, 120, 10, 47, 42, 32, 10, 32, 42, 47, 111, 117, 116]⟩] W (RWs text4 W) := fun W hW => words_any text4 (by decide) W hW
  go_enter Tryd.func3, Tryd.ntmps3
  go_wp2_with fail
  refine (awake_any _ hE).mono ?_
  rintro e w1 ⟨rfl, b1⟩
  go_wp2_with fail
  refine (C1 _ (hE.below b1)).mono ?_
  rintro e w2 ⟨v1, rfl, hrow1, hb2⟩
  rw [known1.1, known1.2] at *
  obtain ⟨va, vb, vc, rfl⟩ := slice_of_row hrow1
  have b2 := b1.trans (hb2.mono b1.size)
  go_wp2_with fail
  have p1 : PlcAt (w2.alloc (.cells #[.int .i64 1, .int .i64 1] 25)) w2.heap.size (1, 1) := heap_alloc_new w2 _
  have b2' : Below w.heap.size w (w2.alloc (.cells #[.int .i64 1, .int .i64 1] 25)) := b2.alloc b2.size _
  refine (C2 _ (hE.below b2')).mono ?_
  rintro e w3 ⟨v2, rfl, hrow2, hb3⟩
  rw [known2.1, known2.2] at *
  obtain ⟨va2, vb2, vc2, rfl⟩ := slice_of_row hrow2
  have b3 := b2'.trans (hb3.mono b2'.size)
  have p1' : PlcAt w3 w2.heap.size (1, 1) := (hb3.block _ (heap_lt p1)).trans p1
  go_wp2_with fail
  have p2 : PlcAt (w3.alloc (.cells #[.int .i64 2, .int .i64 2] 25)) w3.heap.size (2, 2) := heap_alloc_new w3 _
  have q1 : PlcAt (w3.alloc (.cells #[.int .i64 2, .int .i64 2] 25)) w2.heap.size (1, 1) := (Below.heap_alloc _ _ _ (heap_lt p1')).trans p1'
  have b3' : Below w.heap.size w (w3.alloc (.cells #[.int .i64 2, .int .i64 2] 25)) := b3.alloc b3.size _
  refine (C3 _ (hE.below b3')).mono ?_
  rintro e w4 ⟨v3, rfl, hrow3, hb4⟩
  rw [known3] at *
  obtain ⟨va3, vb3, vc3, rfl⟩ := slice_of_row hrow3
  have b4 := b3'.trans (hb4.mono b3'.size)
  have p2' : PlcAt w4 w3.heap.size (2, 2) := (hb4.block _ (heap_lt p2)).trans p2
  have q1' : PlcAt w4 w2.heap.size (1, 1) := (hb4.block _ (heap_lt q1)).trans q1
  go_wp2_with fail
  generalize (wordsP [47, 42, 32, 120]).1 = pa at *
  generalize (wordsP [47, 42, 32, 120]).2 = pb at *
  have p3 : PlcAt (w4.alloc (.cells #[.int .i64 pa, .int .i64 pb] 25)) w3.heap.size (2, 2) := (Below.heap_alloc _ _ _ (heap_lt p2')).trans p2'
  have q3 : PlcAt (w4.alloc (.cells #[.int .i64 pa, .int .i64 pb] 25)) w2.heap.size (1, 1) := (Below.heap_alloc _ _ _ (heap_lt q1')).trans q1'
  have b4' : Below w.heap.size w (w4.alloc (.cells #[.int .i64 pa, .int .i64 pb] 25)) := b4.alloc b4.size _
  refine (C4 _ (hE.below b4')).mono ?_
  rintro e w5 ⟨v4, rfl, hrow4, hb5⟩
  rw [known4.1, known4.2] at *
  obtain ⟨g, c, rfl, hc, hg1, hg2, hcs⟩ := row_cells (n := 3) hrow4 rfl (by decide)
  have b5 := b4'.trans (hb5.mono b4'.size)
  have p4 : PlcAt w5 w3.heap.size (2, 2) := (hb5.block _ (heap_lt p3)).trans p3
  have q4 : PlcAt w5 w2.heap.size (1, 1) := (hb5.block _ (heap_lt q3)).trans q3
  have hal : ∀ o, Below w5.heap.size w5 (w5.alloc o) := fun o => (Below.refl _ _).alloc (Nat.le_refl _) o
  have x0 := fun o => ((hal o).cell (cell_lt p4.cells.1)).trans p4.cells.1
  have x1 := fun o => ((hal o).cell (cell_lt p4.cells.2.1)).trans p4.cells.2.1
  have y0 := fun o => ((hal o).cell (cell_lt q4.cells.1)).trans q4.cells.1
  have y1 := fun o => ((hal o).cell (cell_lt q4.cells.2.1)).trans q4.cells.2.1
  have cel : ∀ (i r : Nat) (v : Value), w5.cell? ⟨g, i * 5 + r, none⟩ = some v → ∀ o, (w5.alloc o).cell? ⟨g, i * 5 + r, none⟩ = some v := fun i r v h o => ((hal o).cell (cell_lt h)).trans h
  have k0 := cel 2 0 _ (hcs 2 (by decide) 0 (by decide))
  have k3 := cel 2 3 _ (hcs 2 (by decide) 3 (by decide))
  have k4 := cel 2 4 _ (hcs 2 (by decide) 4 (by decide))
  simp only [Nat.reduceAdd, Nat.reduceMul, Nat.add_zero, List.getElem_cons_zero, List.getElem_cons_succ] at k0 k3 k4 x0 x1 y0 y1
  go_wp2_with fail
  go_ret
  exact ⟨by simp, b5.alloc b5.size _⟩
end Go.Proofs.YtjgpbpmicopemaaDoor
