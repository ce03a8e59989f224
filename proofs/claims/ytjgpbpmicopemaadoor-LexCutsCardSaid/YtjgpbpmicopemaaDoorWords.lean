/-
  lex.Words: what it answers, for every text.
-/
import Derived.Test.YtjgpbpmicopemaaDoorRead
namespace Go.Proofs.YtjgpbpmicopemaaDoor
open Go.RowKit

/-- what a text's words are, where a fault is, the error -/
def wordsL (l : List UInt8) : List It := if 65536 < l.length then [] else if (faultO l).isSome then [] else goods l
def wordsP (l : List UInt8) : Int × Int := if 65536 < l.length then (0, 0) else if (faultO l).isSome then faultP l else (0, 0)
def wordsE (l : List UInt8) : Int := if 65536 < l.length then 2 else if (faultO l).isSome then 3 else 0
def RWs (l : List UInt8) (w : World) (e : Ending) (w' : World) : Prop := ∃ v, e = .returned (.tuple #[v, .agg #[.int .i64 (wordsP l).1, .int .i64 (wordsP l).2], .int .i64 (wordsE l)]) ∧
  w'.ownsRow w.heap.size 30 5 v (wordsL l).length ((wordsL l).flatMap It.cells) ∧ Below w.heap.size w w'
theorem nil_row (w : World) (B : Nat) : w.ownsRow B 30 5 (.slice none 0 0) 0 [] := ⟨rfl, .inl ⟨rfl, rfl⟩⟩
set_option maxRecDepth 20000 in
set_option maxHeartbeats 4000000 in
theorem words_any (l : List UInt8) (hl : l.length ≤ 9223372036854775807) (w : World) (hE : Env w) : Calls Tryd.prog 9 #[str l] w (RWs l w) := by
  by_cases h : 65536 < l.length
  · unfold RWs wordsP wordsE wordsL
    simp only [if_pos h]
    unfold str
    go_enter Tryd.func9, Tryd.ntmps9
    go_wp2_with fail
    exact bodyPost_ret (v := .tuple #[.slice none 0 0, .agg #[.int .i64 0, .int .i64 0], .int .i64 2]) (by simp [results, Tryd.results9, go_sem]) rfl ⟨.slice none 0 0, rfl, nil_row _ _, (Below.refl _ _).alloc (Nat.le_refl _) _⟩
  · have hl2 : l.length ≤ 65536 := by omega
    have C := fun W (hW : Env W) => read_any l hl2 W hW
    unfold RWs wordsP wordsE wordsL
    simp only [if_neg h]
    unfold RRd str at *
    go_enter Tryd.func9, Tryd.ntmps9
    go_wp2_with fail
    have hal : Below w.heap.size w (w.alloc (.cells #[.int .i64 0, .int .i64 0] 25)) := (Below.refl _ _).alloc (Nat.le_refl _) _
    refine (C _ (hE.below hal)).mono ?_
    rintro e w1 ⟨v, rfl, hrow, hb⟩
    have hbx : PlcAt w1 w.heap.size (0, 0) := (hb.block _ (by simp)).trans (heap_alloc_new w _)
    have hq : ∀ o, PlcAt (w1.alloc o) w.heap.size (0, 0) := fun o => (Below.heap_alloc w1 o _ (heap_lt hbx)).trans hbx
    have q0 := fun o => (hq o).cells.1
    have q1 := fun o => (hq o).cells.2.1
    have q2 := fun o => (hq o).cells.2.2.1
    have q3 := fun o => (hq o).cells.2.2.2
    simp only at q0 q1
    have fin : ∀ (p q : Int) (o : Obj), PlcAt (((w1.alloc o).setCell ⟨w.heap.size, 0, none⟩ (.int .i64 p)).setCell ⟨w.heap.size, 1, none⟩ (.int .i64 q)) w.heap.size (p, q) ∧
        (∀ (v : Value) (n : Nat) (xs : List Value), w1.ownsRow (w.heap.size + 1) 30 5 v n xs → (((w1.alloc o).setCell ⟨w.heap.size, 0, none⟩ (.int .i64 p)).setCell ⟨w.heap.size, 1, none⟩ (.int .i64 q)).ownsRow w.heap.size 30 5 v n xs) ∧
        Below w.heap.size w (((w1.alloc o).setCell ⟨w.heap.size, 0, none⟩ (.int .i64 p)).setCell ⟨w.heap.size, 1, none⟩ (.int .i64 q)) := fun p q o =>
      ⟨set_same (set_same (hq o)), fun v n xs h => ownsRow_base (ownsRow_same h (fun g o' hg ho => (set_other (by omega)).trans ((set_other (by omega)).trans ((Below.heap_alloc w1 o g (heap_lt ho)).trans ho)))) (by omega),
        (((hal.trans (hb.mono hal.size)).alloc (by have := (hal.trans (hb.mono hal.size)).size; exact this) o).setCell (p := ⟨w.heap.size, 0, none⟩) (Nat.le_refl _) _).setCell (p := ⟨w.heap.size, 1, none⟩) (Nat.le_refl _) _⟩
    rw [World.size_alloc] at hrow
    obtain ⟨vb, vm, vc, rfl⟩ := slice_of_row hrow
    cases hf : (faultO l).isSome
    · go_wp2_with fail
      all_goals
        obtain ⟨hP, hrw, hlow⟩ := fin 0 0 (.cells #[.int .i64 (faultP l).1, .int .i64 (faultP l).2] 25)
        obtain ⟨u0, u1, -⟩ := hP.cells
        exact bodyPost_ret (v := .tuple #[.slice vb vm vc, .agg #[.int .i64 0, .int .i64 0], .int .i64 0]) (by simp [results, Tryd.results9, go_sem, u0, u1]) rfl ⟨.slice vb vm vc, rfl, hrw _ _ _ hrow, hlow⟩
    · go_wp2_with fail
      go_region
      all_goals go_wp2_with fail
      all_goals
        obtain ⟨hP, hrw, hlow⟩ := fin (faultP l).1 (faultP l).2 (.cells #[.int .i64 (faultP l).1, .int .i64 (faultP l).2] 25)
        have hP' : PlcAt _ w.heap.size ((faultP l).1, (faultP l).2) := hP.mv (Mv.drew (X := fun _ => False) _) (fun h => h)
        obtain ⟨u0, u1, -⟩ := hP'.cells
        exact bodyPost_ret (v := .tuple #[.slice none 0 0, .agg #[.int .i64 (faultP l).1, .int .i64 (faultP l).2], .int .i64 3]) (by simp [results, Tryd.results9, go_sem, u0, u1]) rfl ⟨.slice none 0 0, rfl, nil_row _ _, below_drewN hlow 1⟩
end Go.Proofs.YtjgpbpmicopemaaDoor
