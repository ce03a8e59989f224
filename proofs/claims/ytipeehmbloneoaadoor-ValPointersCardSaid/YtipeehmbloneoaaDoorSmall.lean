/-
  val.Of, At, Good, isInt, isPtr, truth, and the references' Of, At, Good, bit: what they answer, for every value.
-/
import Derived.Test.YtipeehmbloneoaaDoorProg
import Derived.Test.YtipeehmbloneoaaDoorBase
import Derived.WalkSpells
import Derived.WalkLawsBesides
import Derived.Deep.LoopGhost
import Derived.Deep.QuietTactic
import Derived.BigQuiet
import Derived.Laws.StructEq
import Derived.Outline
import Derived.KernelRfl
namespace Go.Proofs.YtipeehmbloneoaaDoor
open Go.RowKit

theorem of_any (n : Int) (w : World) : Calls Tryd.prog 13 #[.int .i64 n] w (R3 1 n 0 w) := by
  go_enter Tryd.func13, Tryd.ntmps13
  go_wp2
  exact bodyPost_ret (v := .agg #[.int .i64 1, .int .i64 n, .int .i64 0]) (by simp [results, Tryd.results13, go_sem]) rfl ⟨rfl, (Below.refl _ _).alloc (Nat.le_refl _) _⟩
theorem rof_any (n : Int) (w : World) : Calls Tryd.prog 28 #[.int .i64 n] w (R3 1 n 0 w) := by
  go_enter Tryd.func28, Tryd.ntmps28
  go_wp2
  exact bodyPost_ret (v := .agg #[.int .i64 1, .int .i64 n, .int .i64 0]) (by simp [results, Tryd.results28, go_sem]) rfl ⟨rfl, (Below.refl _ _).alloc (Nat.le_refl _) _⟩
theorem at_any (b n : Int) (w : World) : Calls Tryd.prog 14 #[.int .i64 b, .int .i64 n] w (R3 (atK b) (atN b n) (atB b) w) := by
  by_cases h : b < 1
  · rw [show atK b = 0 from if_pos h, show atN b n = 0 from if_pos h, show atB b = 0 from if_pos h]
    go_enter Tryd.func14, Tryd.ntmps14
    go_wp2
    exact bodyPost_ret (v := .agg #[.int .i64 0, .int .i64 0, .int .i64 0]) (by simp [results, Tryd.results14, go_sem]) rfl ⟨rfl, (Below.refl _ _).alloc (Nat.le_refl _) _⟩
  · rw [show atK b = 2 from if_neg h, show atN b n = n from if_neg h, show atB b = b from if_neg h]
    go_enter Tryd.func14, Tryd.ntmps14
    go_wp2
    exact bodyPost_ret (v := .agg #[.int .i64 2, .int .i64 n, .int .i64 b]) (by simp [results, Tryd.results14, go_sem]) rfl ⟨rfl, (Below.refl _ _).alloc (Nat.le_refl _) _⟩
theorem rat_any (b n : Int) (w : World) : Calls Tryd.prog 29 #[.int .i64 b, .int .i64 n] w (R3 (atK b) (atN b n) (atB b) w) := by
  by_cases h : b < 1
  · rw [show atK b = 0 from if_pos h, show atN b n = 0 from if_pos h, show atB b = 0 from if_pos h]
    go_enter Tryd.func29, Tryd.ntmps29
    go_wp2
    exact bodyPost_ret (v := .agg #[.int .i64 0, .int .i64 0, .int .i64 0]) (by simp [results, Tryd.results29, go_sem]) rfl ⟨rfl, (Below.refl _ _).alloc (Nat.le_refl _) _⟩
  · rw [show atK b = 2 from if_neg h, show atN b n = n from if_neg h, show atB b = b from if_neg h]
    go_enter Tryd.func29, Tryd.ntmps29
    go_wp2
    exact bodyPost_ret (v := .agg #[.int .i64 2, .int .i64 n, .int .i64 b]) (by simp [results, Tryd.results29, go_sem]) rfl ⟨rfl, (Below.refl _ _).alloc (Nat.le_refl _) _⟩
theorem truth_any (t : Bool) (w : World) : Calls Tryd.prog 40 #[.bool t] w (R3 1 (t2i t) 0 w) := by
  cases t
  · show Calls Tryd.prog 40 #[.bool false] w (R3 1 0 0 w)
    go_enter Tryd.func40, Tryd.ntmps40
    go_wp2_with fail
    refine (of_any 0 _).mono ?_
    rintro e w' ⟨rfl, hb⟩
    have hB := (Box.new w (.int .i64 0) (.int .i64 0) (.int .i64 0) rfl).below hb
    have hl : Below w.heap.size w w' := ((Below.refl _ _).alloc (Nat.le_refl _) _).trans (hb.mono (by simp))
    obtain ⟨c0, c1, c2⟩ := hB.cells
    obtain ⟨f0, f1, f2⟩ := hB.frozen
    clear hb hB
    go_wp2_with fail
    exact bodyPost_ret (v := .agg #[.int .i64 1, .int .i64 0, .int .i64 0]) (by simp [results, Tryd.results40, go_sem, c0, c1, c2]) rfl ⟨rfl, ((hl.setCell (p := ⟨w.heap.size, 0, none⟩) (Nat.le_refl _) _).setCell (p := ⟨w.heap.size, 1, none⟩) (Nat.le_refl _) _).setCell (p := ⟨w.heap.size, 2, none⟩) (Nat.le_refl _) _⟩
  · show Calls Tryd.prog 40 #[.bool true] w (R3 1 1 0 w)
    go_enter Tryd.func40, Tryd.ntmps40
    go_wp2_with fail
    refine (of_any 1 _).mono ?_
    rintro e w' ⟨rfl, hb⟩
    have hB := (Box.new w (.int .i64 0) (.int .i64 0) (.int .i64 0) rfl).below hb
    have hl : Below w.heap.size w w' := ((Below.refl _ _).alloc (Nat.le_refl _) _).trans (hb.mono (by simp))
    obtain ⟨c0, c1, c2⟩ := hB.cells
    obtain ⟨f0, f1, f2⟩ := hB.frozen
    clear hb hB
    go_wp2_with fail
    exact bodyPost_ret (v := .agg #[.int .i64 1, .int .i64 1, .int .i64 0]) (by simp [results, Tryd.results40, go_sem, c0, c1, c2]) rfl ⟨rfl, ((hl.setCell (p := ⟨w.heap.size, 0, none⟩) (Nat.le_refl _) _).setCell (p := ⟨w.heap.size, 1, none⟩) (Nat.le_refl _) _).setCell (p := ⟨w.heap.size, 2, none⟩) (Nat.le_refl _) _⟩
theorem bit_any (t : Bool) (w : World) : Calls Tryd.prog 38 #[.bool t] w (R3 1 (t2i t) 0 w) := by
  cases t
  · show Calls Tryd.prog 38 #[.bool false] w (R3 1 0 0 w)
    go_enter Tryd.func38, Tryd.ntmps38
    go_wp2_with fail
    refine (rof_any 0 _).mono ?_
    rintro e w' ⟨rfl, hb⟩
    have hB := (Box.new w (.int .i64 0) (.int .i64 0) (.int .i64 0) rfl).below hb
    have hl : Below w.heap.size w w' := ((Below.refl _ _).alloc (Nat.le_refl _) _).trans (hb.mono (by simp))
    obtain ⟨c0, c1, c2⟩ := hB.cells
    obtain ⟨f0, f1, f2⟩ := hB.frozen
    clear hb hB
    go_wp2_with fail
    exact bodyPost_ret (v := .agg #[.int .i64 1, .int .i64 0, .int .i64 0]) (by simp [results, Tryd.results38, go_sem, c0, c1, c2]) rfl ⟨rfl, ((hl.setCell (p := ⟨w.heap.size, 0, none⟩) (Nat.le_refl _) _).setCell (p := ⟨w.heap.size, 1, none⟩) (Nat.le_refl _) _).setCell (p := ⟨w.heap.size, 2, none⟩) (Nat.le_refl _) _⟩
  · show Calls Tryd.prog 38 #[.bool true] w (R3 1 1 0 w)
    go_enter Tryd.func38, Tryd.ntmps38
    go_wp2_with fail
    refine (rof_any 1 _).mono ?_
    rintro e w' ⟨rfl, hb⟩
    have hB := (Box.new w (.int .i64 0) (.int .i64 0) (.int .i64 0) rfl).below hb
    have hl : Below w.heap.size w w' := ((Below.refl _ _).alloc (Nat.le_refl _) _).trans (hb.mono (by simp))
    obtain ⟨c0, c1, c2⟩ := hB.cells
    obtain ⟨f0, f1, f2⟩ := hB.frozen
    clear hb hB
    go_wp2_with fail
    exact bodyPost_ret (v := .agg #[.int .i64 1, .int .i64 1, .int .i64 0]) (by simp [results, Tryd.results38, go_sem, c0, c1, c2]) rfl ⟨rfl, ((hl.setCell (p := ⟨w.heap.size, 0, none⟩) (Nat.le_refl _) _).setCell (p := ⟨w.heap.size, 1, none⟩) (Nat.le_refl _) _).setCell (p := ⟨w.heap.size, 2, none⟩) (Nat.le_refl _) _⟩
theorem good_any (k n b : Int) (w : World) : Calls Tryd.prog 15 #[.agg #[.int .i64 k, .int .i64 n, .int .i64 b]] w (BB (goodB ⟨k, n, b⟩) w) := by
  by_cases h0 : k = 0
  · subst h0
    have e : goodB ⟨0, n, b⟩ = (n == 0 && b == 0) := by
      simp only [goodB, if_true]
      by_cases h1 : n = 0 <;> by_cases h2 : b = 0 <;> simp [h1, h2]
    rw [e]
    clear e
    cases hn : (n == 0) <;> cases hb : (b == 0)
    all_goals
      go_enter Tryd.func15, Tryd.ntmps15
      go_wp2
      go_ret
      exact ⟨by first | rfl | simp, (Below.refl _ _).alloc (Nat.le_refl _) _⟩
  · have t0 : (k == 0) = false := by simpa using h0
    by_cases h1 : k = 1
    · subst h1
      have e : goodB ⟨1, n, b⟩ = (b == 0) := by simp [goodB]; rfl
      rw [e]
      clear e
      go_enter Tryd.func15, Tryd.ntmps15
      go_wp2
      go_ret
      exact ⟨by simp, (Below.refl _ _).alloc (Nat.le_refl _) _⟩
    · have t1 : (k == 1) = false := by simpa using h1
      have e : goodB ⟨k, n, b⟩ = (k == 2 && decide (1 ≤ b)) := by simp [goodB, h0, h1]; rfl
      rw [e]
      clear e h0 h1
      cases hk : (k == 2)
      · go_enter Tryd.func15, Tryd.ntmps15
        go_wp2
        go_ret
        exact ⟨by simp, (Below.refl _ _).alloc (Nat.le_refl _) _⟩
      · go_enter Tryd.func15, Tryd.ntmps15
        go_wp2
        go_ret
        exact ⟨by simp, (Below.refl _ _).alloc (Nat.le_refl _) _⟩
theorem rgood_any (k n b : Int) (w : World) : Calls Tryd.prog 26 #[.agg #[.int .i64 k, .int .i64 n, .int .i64 b]] w (BB (goodB ⟨k, n, b⟩) w) := by
  by_cases h0 : k = 0
  · subst h0
    have e : goodB ⟨0, n, b⟩ = (n == 0 && b == 0) := by
      simp only [goodB, if_true]
      by_cases h1 : n = 0 <;> by_cases h2 : b = 0 <;> simp [h1, h2]
    rw [e]
    clear e
    cases hn : (n == 0) <;> cases hb : (b == 0)
    all_goals
      go_enter Tryd.func26, Tryd.ntmps26
      go_wp2
      go_ret
      exact ⟨by first | rfl | simp, (Below.refl _ _).alloc (Nat.le_refl _) _⟩
  · have t0 : (k == 0) = false := by simpa using h0
    by_cases h1 : k = 1
    · subst h1
      have e : goodB ⟨1, n, b⟩ = (b == 0) := by simp [goodB]; rfl
      rw [e]
      clear e
      go_enter Tryd.func26, Tryd.ntmps26
      go_wp2
      go_ret
      exact ⟨by simp, (Below.refl _ _).alloc (Nat.le_refl _) _⟩
    · have t1 : (k == 1) = false := by simpa using h1
      have e : goodB ⟨k, n, b⟩ = (k == 2 && decide (1 ≤ b)) := by simp [goodB, h0, h1]; rfl
      rw [e]
      clear e h0 h1
      cases hk : (k == 2)
      · go_enter Tryd.func26, Tryd.ntmps26
        go_wp2
        go_ret
        exact ⟨by simp, (Below.refl _ _).alloc (Nat.le_refl _) _⟩
      · go_enter Tryd.func26, Tryd.ntmps26
        go_wp2
        go_ret
        exact ⟨by simp, (Below.refl _ _).alloc (Nat.le_refl _) _⟩
theorem isInt_any (k n b : Int) (w : World) : Calls Tryd.prog 30 #[.agg #[.int .i64 k, .int .i64 n, .int .i64 b]] w (BB (intB ⟨k, n, b⟩) w) := by
  by_cases h : k = 1
  · subst h
    have e : intB ⟨1, n, b⟩ = goodB ⟨1, n, b⟩ := by simp [intB, goodB]
    rw [e]
    have hg := Lib.hid (fun W => good_any 1 n b W)
    generalize goodB ⟨1, n, b⟩ = g at hg
    clear e
    go_enter Tryd.func30, Tryd.ntmps30
    go_wp2_with fail
    refine (hg.out _).mono ?_
    rintro e w' ⟨rfl, hb⟩
    go_wp2_with fail
    go_ret
    exact ⟨rfl, ((Below.refl _ _).alloc (Nat.le_refl _) _).trans (hb.mono (by simp))⟩
  · have t : (k == 1) = false := by simpa using h
    have e : intB ⟨k, n, b⟩ = false := by simp [intB, h]
    rw [e]
    clear e h
    go_enter Tryd.func30, Tryd.ntmps30
    go_wp2_with fail
    go_ret
    exact ⟨rfl, (Below.refl _ _).alloc (Nat.le_refl _) _⟩
theorem isPtr_any (k n b : Int) (w : World) : Calls Tryd.prog 32 #[.agg #[.int .i64 k, .int .i64 n, .int .i64 b]] w (BB (ptrB ⟨k, n, b⟩) w) := by
  by_cases h : k = 2
  · subst h
    have e : ptrB ⟨2, n, b⟩ = goodB ⟨2, n, b⟩ := by simp [ptrB, goodB]
    rw [e]
    have hg := Lib.hid (fun W => good_any 2 n b W)
    generalize goodB ⟨2, n, b⟩ = g at hg
    clear e
    go_enter Tryd.func32, Tryd.ntmps32
    go_wp2_with fail
    refine (hg.out _).mono ?_
    rintro e w' ⟨rfl, hb⟩
    go_wp2_with fail
    go_ret
    exact ⟨rfl, ((Below.refl _ _).alloc (Nat.le_refl _) _).trans (hb.mono (by simp))⟩
  · have t : (k == 2) = false := by simpa using h
    have e : ptrB ⟨k, n, b⟩ = false := by simp [ptrB, h]
    rw [e]
    clear e h
    go_enter Tryd.func32, Tryd.ntmps32
    go_wp2_with fail
    go_ret
    exact ⟨rfl, (Below.refl _ _).alloc (Nat.le_refl _) _⟩
end Go.Proofs.YtipeehmbloneoaaDoor
