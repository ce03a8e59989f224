/-
  A bag of values' blocks, no two the same, whose values may be stored anew.
-/
import Derived.Test.YtipeehmbloneoaaDoorBag
namespace Go.Proofs.YtipeehmbloneoaaDoor
open Go.RowKit Go.Sort

structure Sack (w0 W : World) (l : List (Nat × Vl)) : Prop where
  bag : Bag w0 W l
  high : ∀ p ∈ l, w0.heap.size ≤ p.1
  apart : (l.map (·.1)).Nodup
theorem drew_size (w : World) : w.drew.heap.size = w.heap.size := rfl
theorem Sack.nil (w : World) : Sack w w [] := ⟨Bag.nil w, fun _ h => absurd h (by simp), by simp⟩
theorem Sack.low {w0 W : World} {l : List (Nat × Vl)} (h : Sack w0 W l) : Below w0.heap.size w0 W := h.bag.low
theorem Sack.step {w0 W W' : World} {l : List (Nat × Vl)} (hb : Below W.heap.size W W') (h : Sack w0 W l) : Sack w0 W' l := ⟨h.1.step hb, h.2, h.3⟩
theorem Sack.drew {w0 W : World} {l : List (Nat × Vl)} (h : Sack w0 W l) : Sack w0 W.drew l := ⟨⟨h.1.1, below_drewN h.1.2 1⟩, h.2, h.3⟩
theorem Sack.bare {w0 W : World} {l : List (Nat × Vl)} (h : Sack w0 W l) (o : Obj) : Sack w0 (W.alloc o) l := ⟨h.1.bare o, h.2, h.3⟩
theorem Sack.put {w0 W : World} {l : List (Nat × Vl)} (h : Sack w0 W l) (k n b : Int) : Sack w0 (W.alloc (.cells #[.int .i64 k, .int .i64 n, .int .i64 b] 24)) ((W.heap.size, ⟨k, n, b⟩) :: l) := by
  refine ⟨h.1.put k n b, ?_, ?_⟩
  · intro p hp
    rcases List.mem_cons.1 hp with rfl | hp
    · exact h.1.low.size
    · exact h.2 p hp
  · rw [List.map_cons, List.nodup_cons]
    refine ⟨?_, h.3⟩
    intro hm
    obtain ⟨p, hp, e⟩ := List.mem_map.1 hm
    have := heap_lt (h.1.1 p hp)
    have e' : p.1 = W.heap.size := e
    omega
theorem Sack.cells {w0 W : World} {l : List (Nat × Vl)} (h : Sack w0 W l) (g : Nat) (k n b : Int) (hm : (g, (⟨k, n, b⟩ : Vl)) ∈ l) :
    W.cell? ⟨g, 0, none⟩ = some (.int .i64 k) ∧ W.cell? ⟨g, 1, none⟩ = some (.int .i64 n) ∧ W.cell? ⟨g, 2, none⟩ = some (.int .i64 b) := h.1.cells g k n b hm
theorem Sack.frozen {w0 W : World} {l : List (Nat × Vl)} (h : Sack w0 W l) (g : Nat) (k n b : Int) (hm : (g, (⟨k, n, b⟩ : Vl)) ∈ l) :
    W.frozen? ⟨g, 0, none⟩ = false ∧ W.frozen? ⟨g, 1, none⟩ = false ∧ W.frozen? ⟨g, 2, none⟩ = false := h.1.frozen g k n b hm
/-- the three cells of a block stored anew -/
def put3 (W : World) (g : Nat) (k n b : Int) : World := ((W.setCell ⟨g, 0, none⟩ (.int .i64 k)).setCell ⟨g, 1, none⟩ (.int .i64 n)).setCell ⟨g, 2, none⟩ (.int .i64 b)
theorem set_same {W : World} {g i : Nat} {v : Value} {c : Array Value} {e : TypeId} {f : Nat × Nat} (h : W.heap[g]? = some (.cells c e f)) : (W.setCell ⟨g, i, none⟩ v).heap[g]? = some (.cells (c.setIfInBounds i v) e f) := by
  simp [World.setCell, Array.getElem?_modify, h]
theorem set_other {W : World} {g h i : Nat} {v : Value} (hne : h ≠ g) : (W.setCell ⟨g, i, none⟩ v).heap[h]? = W.heap[h]? := by
  simp [World.setCell, Array.getElem?_modify, Ne.symm hne]
theorem heap_put3_same {W : World} {g : Nat} {k n b k' n' b' : Int} (h : Box W g (.int .i64 k) (.int .i64 n) (.int .i64 b)) : Box (put3 W g k' n' b') g (.int .i64 k') (.int .i64 n') (.int .i64 b') :=
  set_same (set_same (set_same h))
theorem heap_put3_other {W : World} {g h : Nat} {k n b : Int} (hne : h ≠ g) : (put3 W g k n b).heap[h]? = W.heap[h]? := by
  unfold put3
  rw [set_other hne, set_other hne, set_other hne]
theorem put3_size (W : World) (g : Nat) (k n b : Int) : (put3 W g k n b).heap.size = W.heap.size := by
  have s : ∀ (W : World) (a : Addr) (v : Value), (W.setCell a v).heap.size = W.heap.size := by intro W a v; simp
  unfold put3
  rw [s, s, s]
theorem below_put3 {w0 W : World} (h : Below w0.heap.size w0 W) {g : Nat} (hg : w0.heap.size ≤ g) (k n b : Int) : Below w0.heap.size w0 (put3 W g k n b) :=
  ((h.setCell (p := ⟨g, 0, none⟩) hg _).setCell (p := ⟨g, 1, none⟩) hg _).setCell (p := ⟨g, 2, none⟩) hg _
theorem Sack.set {w0 W : World} {l r : List (Nat × Vl)} {g : Nat} {v : Vl} (h : Sack w0 W (l ++ (g, v) :: r)) (k n b : Int) : Sack w0 (put3 W g k n b) (l ++ (g, ⟨k, n, b⟩) :: r) := by
  have hg : w0.heap.size ≤ g := h.2 (g, v) (by simp)
  have ha : ∀ p, p ∈ l ∨ p ∈ r → p.1 ≠ g := by
    have hn := h.3
    rw [List.map_append, List.map_cons, List.nodup_append] at hn
    obtain ⟨h1, h2, h3⟩ := hn
    rw [List.nodup_cons] at h2
    rintro p (hp | hp) e
    · exact h3 p.1 (List.mem_map.2 ⟨p, hp, rfl⟩) g (by simp) e
    · exact h2.1 (List.mem_map.2 ⟨p, hp, e⟩)
  refine ⟨⟨?_, below_put3 h.low hg k n b⟩, ?_, ?_⟩
  · intro p hp
    rw [List.mem_append, List.mem_cons] at hp
    rcases hp with hp | rfl | hp
    · have := h.1.1 p (by simp [hp])
      unfold Box at *
      rw [heap_put3_other (ha p (.inl hp))]; exact this
    · exact heap_put3_same (h.1.1 (g, v) (by simp))
    · have := h.1.1 p (by simp [hp])
      unfold Box at *
      rw [heap_put3_other (ha p (.inr hp))]; exact this
  · intro p hp
    rw [List.mem_append, List.mem_cons] at hp
    rcases hp with hp | rfl | hp
    · exact h.2 p (by simp [hp])
    · exact hg
    · exact h.2 p (by simp [hp])
  · have := h.3
    simpa using this
theorem Sack.set0 {w0 W : World} {r : List (Nat × Vl)} {g : Nat} {v : Vl} (h : Sack w0 W ((g, v) :: r)) (k n b : Int) : Sack w0 (put3 W g k n b) ((g, ⟨k, n, b⟩) :: r) := Sack.set (l := []) h k n b
end Go.Proofs.YtipeehmbloneoaaDoor
