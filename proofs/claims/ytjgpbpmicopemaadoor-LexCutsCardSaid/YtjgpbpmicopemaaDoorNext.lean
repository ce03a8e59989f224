/-
  lex.next: where one is behind some bytes, for every place and text.
-/
import Derived.Test.YtjgpbpmicopemaaDoorSmall
import Derived.Test.YtjgpbpmicopemaaDoorShelf
import Derived.Lib.AtoiErrMem
namespace Go.Proofs.YtjgpbpmicopemaaDoor
open Go.RowKit

theorem heap_lt {w : World} {b : Nat} {o : Obj} (h : w.heap[b]? = some o) : b < w.heap.size := by
  rcases Nat.lt_or_ge b w.heap.size with h' | h'
  · exact h'
  · simp [Array.getElem?_eq_none h'] at h
theorem set_same {W : World} {g i : Nat} {v : Value} {c : Array Value} {e : TypeId} {f : Nat × Nat} (h : W.heap[g]? = some (.cells c e f)) : (W.setCell ⟨g, i, none⟩ v).heap[g]? = some (.cells (c.setIfInBounds i v) e f) := by
  simp [World.setCell, Array.getElem?_modify, h]
theorem set_other {W : World} {g h i : Nat} {v : Value} (hne : h ≠ g) : (W.setCell ⟨g, i, none⟩ v).heap[h]? = W.heap[h]? := by
  simp [World.setCell, Array.getElem?_modify, Ne.symm hne]
/-- a place's box, the result's, the row of the text's bytes -/
structure NX (w wr : World) (p q : Int) (l : List UInt8) : Prop where
  low : Below w.heap.size w wr
  here : wr.heap[w.heap.size]? = some (.cells #[.int .i64 p, .int .i64 q] 25 (0, 0))
  res : wr.heap[w.heap.size + 1]? = some (.cells #[.int .i64 0, .int .i64 0] 25 (0, 0))
  row : ∀ j, j < l.length → wr.cell? ⟨w.heap.size + 1 + 1, j, none⟩ = some (.int .u8 ((l.getD j 0).toNat : Int))
section
variable {w wr : World} {p q : Int} {l : List UInt8}
theorem NX.cells (h : NX w wr p q l) : wr.cell? ⟨w.heap.size, 0, none⟩ = some (.int .i64 p) ∧ wr.cell? ⟨w.heap.size, 1, none⟩ = some (.int .i64 q) ∧ wr.frozen? ⟨w.heap.size, 0, none⟩ = false ∧ wr.frozen? ⟨w.heap.size, 1, none⟩ = false ∧
    wr.cell? ⟨w.heap.size + 1, 0, none⟩ = some (.int .i64 0) ∧ wr.cell? ⟨w.heap.size + 1, 1, none⟩ = some (.int .i64 0) ∧ wr.frozen? ⟨w.heap.size + 1, 0, none⟩ = false ∧ wr.frozen? ⟨w.heap.size + 1, 1, none⟩ = false := by
  refine ⟨?_, ?_, ?_, ?_, ?_, ?_, ?_, ?_⟩ <;> simp [World.cell?, World.frozen?, h.here, h.res]
theorem cell_set_other {W : World} {g h i j : Nat} {v : Value} (hne : h ≠ g) : (W.setCell ⟨g, i, none⟩ v).cell? ⟨h, j, none⟩ = W.cell? ⟨h, j, none⟩ := by
  simp [World.cell?, World.setCell, Array.getElem?_modify, Ne.symm hne]
theorem NX.col (h : NX w wr p q l) (q' : Int) : NX w (wr.setCell ⟨w.heap.size, 1, none⟩ (.int .i64 q')) p q' l :=
  ⟨h.low.setCell (p := ⟨w.heap.size, 1, none⟩) (Nat.le_refl _) _, set_same h.here, (set_other (by omega)).trans h.res, fun j hj => (cell_set_other (by omega)).trans (h.row j hj)⟩
theorem NX.line (h : NX w wr p q l) (p' : Int) : NX w (wr.setCell ⟨w.heap.size, 0, none⟩ (.int .i64 p')) p' q l :=
  ⟨h.low.setCell (p := ⟨w.heap.size, 0, none⟩) (Nat.le_refl _) _, set_same h.here, (set_other (by omega)).trans h.res, fun j hj => (cell_set_other (by omega)).trans (h.row j hj)⟩
theorem NX.start (w : World) (p q : Int) (l : List UInt8) : NX w (Lib.bytesWorld ((w.alloc (.cells #[.int .i64 p, .int .i64 q] 25)).alloc (.cells #[.int .i64 0, .int .i64 0] 25)) 5 ⟨l.toArray⟩) p q l := by
  have e1 : ((w.alloc (.cells #[.int .i64 p, .int .i64 q] 25)).alloc (.cells #[.int .i64 0, .int .i64 0] 25)).heap.size = w.heap.size + 1 + 1 := by simp
  refine ⟨?_, ?_, ?_, ?_⟩
  · exact (((Below.refl w.heap.size w).alloc (Nat.le_refl _) _).alloc (by simp) _).trans ((Lib.bytesWorld_below _ _ _).mono (by simp; omega))
  · rw [Lib.bytesWorld_at_old _ _ _ _ (by rw [e1]; omega)]
    rw [Below.heap_alloc _ _ _ (by simp)]
    exact heap_alloc_new w _
  · rw [Lib.bytesWorld_at_old _ _ _ _ (by rw [e1]; omega)]
    have := heap_alloc_new (w.alloc (.cells #[.int .i64 p, .int .i64 q] 25)) (.cells #[.int .i64 0, .int .i64 0] 25)
    simpa using this
  · intro j hj
    have := Lib.bytesWorld_cell ((w.alloc (.cells #[.int .i64 p, .int .i64 q] 25)).alloc (.cells #[.int .i64 0, .int .i64 0] 25)) 5 ⟨l.toArray⟩ j (by show j < l.toArray.size; simpa using hj)
    rw [e1] at this
    exact this
end
def RP (p : Int × Int) (w : World) (e : Ending) (w' : World) : Prop := e = .returned (.agg #[.int .i64 p.1, .int .i64 p.2]) ∧ Below w.heap.size w w'

set_option maxRecDepth 100000 in
set_option maxHeartbeats 4000000 in
theorem next_any (p q : Int) (l : List UInt8) (hl : l.length ≤ 65536) (hp : 0 ≤ p) (hp' : p ≤ 4611686018427387904) (hq : 0 ≤ q) (hq' : q ≤ 4611686018427387904) (w : World) : Calls Tryd.prog 23 #[.agg #[.int .i64 p, .int .i64 q], str l] w (RP (nextP (p, q) l) w) := by
  unfold str
  have hcv := Lib.run_convert_string_bytes (P := Tryd.prog) ((w.alloc (.cells #[.int .i64 p, .int .i64 q] 25)).alloc (.cells #[.int .i64 0, .int .i64 0] 25)) 9 62 5 ⟨l.toArray⟩ Tryd.underlying9 Tryd.underlying62 Tryd.underlying5
  have N0 := NX.start w p q l
  obtain ⟨W1, hW1⟩ : ∃ W1, Lib.bytesWorld ((w.alloc (.cells #[.int .i64 p, .int .i64 q] 25)).alloc (.cells #[.int .i64 0, .int .i64 0] 25)) 5 ⟨l.toArray⟩ = W1 := ⟨_, rfl⟩
  rw [hW1] at hcv N0
  generalize grownCap _ _ _ _ = cp at hcv
  have N := Lib.hid N0
  clear N0
  go_enter Tryd.func23, Tryd.ntmps23
  go_wp2_with fail
  clear hcv hW1
  go_loopg [10] l.length (fun g s10 wr => ∃ k : Nat, k ≤ l.length ∧ l.length - k ≤ g ∧ s10 = .int .i64 k ∧ Hid (NX w wr (nextP (p, q) (l.take k)).1 (nextP (p, q) (l.take k)).2 l))
  case atStart => exact ⟨0, Nat.zero_le _, by omega, rfl, N⟩
  case round =>
    obtain ⟨k, hk, hg, rfl, M⟩ := hrel
    have hb := nextP_low (l.take k) (p, q) hp hq
    have hlen : (l.take k).length = k := by simp; omega
    rw [hlen] at hb
    have hb1 : 0 ≤ (nextP (p, q) (l.take k)).1 := Int.le_trans hp hb.1
    have hb2 : (nextP (p, q) (l.take k)).1 ≤ 4611686018427453440 := Int.le_trans hb.2.1 (by show p + k ≤ _; omega)
    have hb3 := hb.2.2.1
    have hb4 : (nextP (p, q) (l.take k)).2 ≤ 4611686018427453441 := Int.le_trans hb.2.2.2 (by show q + k + 1 ≤ _; omega)
    obtain ⟨c0, c1, f0, f1, r0, r1, g0, g1⟩ := M.out.cells
    by_cases hlt : k < l.length
    · have hs := nextP_snoc l[k] (l.take k) (p, q)
      rw [List.take_append_getElem hlt] at hs
      have hrow := M.out.row k hlt
      rw [show l.getD k 0 = l[k] from by simp [List.getD, List.getElem?_eq_getElem hlt]] at hrow
      generalize hcc : l[k] = c at hs hrow
      generalize (nextP (p, q) (l.take k)).1 = P1 at *
      generalize (nextP (p, q) (l.take k)).2 = Q1 at *
      clear hb
      by_cases hc : c = 10
      · subst hc
        rw [if_pos rfl] at hs
        go_wp2_with fail
        go_roundg (l.length - (k + 1))
        case measure => omega
        case rel => exact ⟨k + 1, hlt, by omega, by simp, by rw [hs]; exact Lib.hid (((M.out.col _).line _).col _)⟩
      · rw [if_neg hc] at hs
        have hc' : (c.toNat : Int) ≠ 10 := fun h => hc (UInt8.toNat.inj (by show c.toNat = 10; omega))
        go_wp2_with fail
        go_roundg (l.length - (k + 1))
        case measure => omega
        case rel => exact ⟨k + 1, hlt, by omega, by simp, by rw [hs]; exact Lib.hid (M.out.col _)⟩
    · have hke : k = l.length := by omega
      subst hke
      rw [List.take_length] at *
      go_wp2_with fail
      have hr := set_same (i := 1) (v := .int .i64 (nextP (p, q) l).2) (set_same (i := 0) (v := .int .i64 (nextP (p, q) l).1) M.out.res)
      have q0 : ((wr.setCell ⟨w.heap.size + 1, 0, none⟩ (.int .i64 (nextP (p, q) l).1)).setCell ⟨w.heap.size + 1, 1, none⟩ (.int .i64 (nextP (p, q) l).2)).cell? ⟨w.heap.size + 1, 0, none⟩ = some (.int .i64 (nextP (p, q) l).1) := by simp only [World.cell?, hr]; rfl
      have q1 : ((wr.setCell ⟨w.heap.size + 1, 0, none⟩ (.int .i64 (nextP (p, q) l).1)).setCell ⟨w.heap.size + 1, 1, none⟩ (.int .i64 (nextP (p, q) l).2)).cell? ⟨w.heap.size + 1, 1, none⟩ = some (.int .i64 (nextP (p, q) l).2) := by simp only [World.cell?, hr]; rfl
      exact bodyPost_ret (v := .agg #[.int .i64 (nextP (p, q) l).1, .int .i64 (nextP (p, q) l).2]) (by simp [results, Tryd.results23, go_sem, q0, q1]) rfl ⟨rfl, (M.out.low.setCell (p := ⟨w.heap.size + 1, 0, none⟩) (by simp) _).setCell (p := ⟨w.heap.size + 1, 1, none⟩) (by simp) _⟩
end Go.Proofs.YtjgpbpmicopemaaDoor
