import Derived.Test.YtjgpbpmicopemaaGreatDoorPb06
import Derived.LoopTactic
import Derived.Deep.LoopGhost
import Derived.Test.YtjgpbpmicopemaaGreatDoorPb04

/-
  The parser's any, typed, level.
-/
namespace Go.Proofs.YtjgpbpmicopemaaGreatDoor
open Go.RowKit Go.Shelf
set_option maxRecDepth 20000

/-- blocks laid one behind the other -/
def allocs : World → List Obj → World
  | w, [] => w
  | w, o :: os => allocs (w.alloc o) os
theorem allocs_below : ∀ (os : List Obj) (w : World), Below w.heap.size w (allocs w os)
  | [], w => Below.refl _ _
  | o :: os, w => ((Below.refl _ _).alloc (Nat.le_refl _) o).trans ((allocs_below os (w.alloc o)).mono (by simp))
theorem allocs_get : ∀ (os : List Obj) (w : World) (k : Nat) (o : Obj), os[k]? = some o → (allocs w os).heap[w.heap.size + k]? = some o
  | [], _, _, _, h => by simp at h
  | o :: os, w, 0, o', h => by
    simp at h
    subst h
    exact ((allocs_below os (w.alloc o)).block _ (by simp)).trans (heap_alloc_new w o)
  | o :: os, w, k + 1, o', h => by
    have := allocs_get os (w.alloc o) k o' (by simpa using h)
    have e : (w.alloc o).heap.size + k = w.heap.size + (k + 1) := by simp; omega
    rw [e] at this
    exact this
/-- a list of texts as a block -/
def rowOf (l : List Bs) : Obj := .cells (l.map str).toArray 9 (0, 0)
theorem row_cells {W : World} {g : Nat} {l : List Bs} (h : W.heap[g]? = some (rowOf l)) : ∀ i (hi : i < l.length), W.cell? ⟨g, i, none⟩ = some (str l[i]) := fun i hi => by
  simp [World.cell?, h, rowOf, hi]
theorem anyB_step (ws : List It) (l : List Bs) (k : Nat) (hk : k < l.length) : anyB ws (l.drop k) = (isB ws l[k] || anyB ws (l.drop (k + 1))) := by
  unfold anyB
  rw [List.drop_eq_getElem_cons hk, List.any_cons]
theorem anyZ (p : Nat) (E : Int × Int) (s : Sx) (l : List Bs) (g : Nat) (w : World) (h : PrAt w p E s) (hl : l.length ≤ 1000) (hc : ∀ i (h : i < l.length), w.cell? ⟨g, i, none⟩ = some (str l[i])) : Calls Tryz.prog 102 #[.pointer (some ⟨p, 0, none⟩), .slice (some ⟨g, 0, none⟩) l.length l.length] w (BB (anyB s.ws l) w) := by
  have C1 := fun t => isZ p E s t w h
  unfold BB str at *
  go_enter Tryz.func102, Tryz.ntmps102
  go_wp2_with fail
  go_loopg [6, 9] l.length (fun g s6 s9 wr => ∃ k : Nat, k ≤ l.length ∧ l.length - k ≤ g ∧ s9 = .int .i64 k ∧ anyB s.ws l = anyB s.ws (l.drop k) ∧ wr = w)
  case atStart => exact ⟨0, by omega, by omega, rfl, by simp, rfl⟩
  case round =>
    obtain ⟨k, hk, hg, rfl, he, rfl⟩ := hrel
    by_cases hlt : k < l.length
    · have hck := hc k hlt
      have hk2 : wrap64 ((k : Int) + 1) = ((k + 1 : Nat) : Int) := by unfold wrap64; omega
      cases hb : isB s.ws l[k]
      · have C2 := C1 l[k]
        rw [hb] at C2
        have he2 : anyB s.ws l = anyB s.ws (l.drop (k + 1)) := by rw [he, anyB_step _ _ _ hlt, hb]; rfl
        clear he
        go_wp2_with fail
        refine C2.mono ?_
        rintro e w' ⟨rfl, rfl⟩
        go_wp2_with fail
        go_roundg (l.length - (k + 1))
        case measure => omega
        case rel => exact ⟨k + 1, by omega, by omega, by simp, he2, rfl⟩
      · have C2 := C1 l[k]
        rw [hb] at C2
        have he2 : anyB s.ws l = true := by rw [he, anyB_step _ _ _ hlt, hb]; rfl
        clear he
        go_wp2_with fail
        refine C2.mono ?_
        rintro e w' ⟨rfl, rfl⟩
        go_wp2_with fail
        exact bodyPost_ret (v := .bool true) (by simp [results, Tryz.results102, go_sem]) rfl ⟨by rw [he2], rfl⟩
    · have hkl : k = l.length := by omega
      subst hkl
      have he2 : anyB s.ws l = false := by rw [he]; simp [anyB]
      clear he
      go_wp2_with fail
      exact bodyPost_ret (v := .bool false) (by simp [results, Tryz.results102, go_sem]) rfl ⟨by rw [he2], rfl⟩
theorem typedZ (p : Nat) (E : Int × Int) (s : Sx) (w : World) (h : PrAt w p E s) : Calls Tryz.prog 77 #[.pointer (some ⟨p, 0, none⟩)] w (fun e w' => e = .returned (.bool (typedB s.ws)) ∧ Below w.heap.size w w') := by
  have C1 := anyZ p E s typeWs w.heap.size _ (h.below (belowAlloc w (rowOf typeWs))) (by decide) (row_cells (heap_alloc_new w _))
  unfold BB rowOf str at C1
  simp only [typeWs, List.length_cons, List.length_nil, List.map_cons, List.map_nil] at C1
  go_enter Tryz.func77, Tryz.ntmps77
  go_wp2_with fail
  refine C1.mono ?_
  rintro e w' ⟨rfl, rfl⟩
  go_wp2_with fail
  exact bodyPost_ret (v := .bool (typedB s.ws)) (by simp [results, Tryz.results77, go_sem, typedB, typeWs]) rfl ⟨rfl, belowAlloc _ _⟩
theorem idx184_0 (v0 v1 v2 v3 v4 v5 v6 v7 v8 v9 : Value) (w : World) : Sem.run Tryz.prog (Instr.index 184 (.agg #[v0, v1, v2, v3, v4, v5, v6, v7, v8, v9]) (.int .i64 0)) w = .ok v0 w := by kernel_rfl
theorem idx184_1 (v0 v1 v2 v3 v4 v5 v6 v7 v8 v9 : Value) (w : World) : Sem.run Tryz.prog (Instr.index 184 (.agg #[v0, v1, v2, v3, v4, v5, v6, v7, v8, v9]) (.int .i64 1)) w = .ok v1 w := by kernel_rfl
theorem idx184_2 (v0 v1 v2 v3 v4 v5 v6 v7 v8 v9 : Value) (w : World) : Sem.run Tryz.prog (Instr.index 184 (.agg #[v0, v1, v2, v3, v4, v5, v6, v7, v8, v9]) (.int .i64 2)) w = .ok v2 w := by kernel_rfl
theorem idx184_3 (v0 v1 v2 v3 v4 v5 v6 v7 v8 v9 : Value) (w : World) : Sem.run Tryz.prog (Instr.index 184 (.agg #[v0, v1, v2, v3, v4, v5, v6, v7, v8, v9]) (.int .i64 3)) w = .ok v3 w := by kernel_rfl
theorem idx184_4 (v0 v1 v2 v3 v4 v5 v6 v7 v8 v9 : Value) (w : World) : Sem.run Tryz.prog (Instr.index 184 (.agg #[v0, v1, v2, v3, v4, v5, v6, v7, v8, v9]) (.int .i64 4)) w = .ok v4 w := by kernel_rfl
theorem idx184_5 (v0 v1 v2 v3 v4 v5 v6 v7 v8 v9 : Value) (w : World) : Sem.run Tryz.prog (Instr.index 184 (.agg #[v0, v1, v2, v3, v4, v5, v6, v7, v8, v9]) (.int .i64 5)) w = .ok v5 w := by kernel_rfl
theorem idx184_6 (v0 v1 v2 v3 v4 v5 v6 v7 v8 v9 : Value) (w : World) : Sem.run Tryz.prog (Instr.index 184 (.agg #[v0, v1, v2, v3, v4, v5, v6, v7, v8, v9]) (.int .i64 6)) w = .ok v6 w := by kernel_rfl
theorem idx184_7 (v0 v1 v2 v3 v4 v5 v6 v7 v8 v9 : Value) (w : World) : Sem.run Tryz.prog (Instr.index 184 (.agg #[v0, v1, v2, v3, v4, v5, v6, v7, v8, v9]) (.int .i64 7)) w = .ok v7 w := by kernel_rfl
theorem idx184_8 (v0 v1 v2 v3 v4 v5 v6 v7 v8 v9 : Value) (w : World) : Sem.run Tryz.prog (Instr.index 184 (.agg #[v0, v1, v2, v3, v4, v5, v6, v7, v8, v9]) (.int .i64 8)) w = .ok v8 w := by kernel_rfl
theorem idx184_9 (v0 v1 v2 v3 v4 v5 v6 v7 v8 v9 : Value) (w : World) : Sem.run Tryz.prog (Instr.index 184 (.agg #[v0, v1, v2, v3, v4, v5, v6, v7, v8, v9]) (.int .i64 9)) w = .ok v9 w := by kernel_rfl
theorem levelZ (p : Nat) (E : Int × Int) (s : Sx) (w : World) (h : PrAt w p E s) : Calls Tryz.prog 124 #[.pointer (some ⟨p, 0, none⟩)] w (fun e w' => e = .returned (.int .i64 (levelI s.ws)) ∧ Below w.heap.size w w') := by
  go_enter Tryz.func124, Tryz.ntmps124
  go_wp2_with fail
  change Code.wp Tryz.prog _ _ _ (allocs w [rowOf [[124, 124]], rowOf [[38, 38]], rowOf [[124]], rowOf [[94]], rowOf [[38]], rowOf [[61, 61], [33, 61]], rowOf [[60], [60, 61], [62], [62, 61]], rowOf [[60, 60], [62, 62]], rowOf [[43], [45]], rowOf [[42], [47], [37]]])
  have hW : ∀ k l, levels[k]? = some l → (allocs w [rowOf [[124, 124]], rowOf [[38, 38]], rowOf [[124]], rowOf [[94]], rowOf [[38]], rowOf [[61, 61], [33, 61]], rowOf [[60], [60, 61], [62], [62, 61]], rowOf [[60, 60], [62, 62]], rowOf [[43], [45]], rowOf [[42], [47], [37]]]).heap[w.heap.size + k]? = some (rowOf l) := fun k l hk => allocs_get _ _ _ _ (by
    have : [rowOf [[124, 124]], rowOf [[38, 38]], rowOf [[124]], rowOf [[94]], rowOf [[38]], rowOf [[61, 61], [33, 61]], rowOf [[60], [60, 61], [62], [62, 61]], rowOf [[60, 60], [62, 62]], rowOf [[43], [45]], rowOf [[42], [47], [37]]] = levels.map rowOf := rfl
    rw [this, List.getElem?_map, hk]; rfl)
  have hb : Below w.heap.size w (allocs w [rowOf [[124, 124]], rowOf [[38, 38]], rowOf [[124]], rowOf [[94]], rowOf [[38]], rowOf [[61, 61], [33, 61]], rowOf [[60], [60, 61], [62], [62, 61]], rowOf [[60, 60], [62, 62]], rowOf [[43], [45]], rowOf [[42], [47], [37]]]) := allocs_below _ _
  generalize allocs w [rowOf [[124, 124]], rowOf [[38, 38]], rowOf [[124]], rowOf [[94]], rowOf [[38]], rowOf [[61, 61], [33, 61]], rowOf [[60], [60, 61], [62], [62, 61]], rowOf [[60, 60], [62, 62]], rowOf [[43], [45]], rowOf [[42], [47], [37]]] = W at *
  have D0 := anyZ p E s _ (w.heap.size) W (h.below hb) (by decide) (row_cells (hW 0 _ rfl))
  have D1 := anyZ p E s _ (w.heap.size + 1) W (h.below hb) (by decide) (row_cells (hW 1 _ rfl))
  have D2 := anyZ p E s _ (w.heap.size + 1 + 1) W (h.below hb) (by decide) (row_cells (hW 2 _ rfl))
  have D3 := anyZ p E s _ (w.heap.size + 1 + 1 + 1) W (h.below hb) (by decide) (row_cells (hW 3 _ rfl))
  have D4 := anyZ p E s _ (w.heap.size + 1 + 1 + 1 + 1) W (h.below hb) (by decide) (row_cells (hW 4 _ rfl))
  have D5 := anyZ p E s _ (w.heap.size + 1 + 1 + 1 + 1 + 1) W (h.below hb) (by decide) (row_cells (hW 5 _ rfl))
  have D6 := anyZ p E s _ (w.heap.size + 1 + 1 + 1 + 1 + 1 + 1) W (h.below hb) (by decide) (row_cells (hW 6 _ rfl))
  have D7 := anyZ p E s _ (w.heap.size + 1 + 1 + 1 + 1 + 1 + 1 + 1) W (h.below hb) (by decide) (row_cells (hW 7 _ rfl))
  have D8 := anyZ p E s _ (w.heap.size + 1 + 1 + 1 + 1 + 1 + 1 + 1 + 1) W (h.below hb) (by decide) (row_cells (hW 8 _ rfl))
  have D9 := anyZ p E s _ (w.heap.size + 1 + 1 + 1 + 1 + 1 + 1 + 1 + 1 + 1) W (h.below hb) (by decide) (row_cells (hW 9 _ rfl))
  simp only [List.length_cons, List.length_nil, Nat.zero_add, Nat.reduceAdd] at D0 D1 D2 D3 D4 D5 D6 D7 D8 D9
  have x0 := idx184_0
  have x1 := idx184_1
  have x2 := idx184_2
  have x3 := idx184_3
  have x4 := idx184_4
  have x5 := idx184_5
  have x6 := idx184_6
  have x7 := idx184_7
  have x8 := idx184_8
  have x9 := idx184_9
  clear hW
  go_loopg [3, 4, 16] 10 (fun g s3 s4 s16 wr => ∃ k : Nat, k ≤ 10 ∧ 10 - k ≤ g ∧ s16 = .int .i64 k ∧ Hid (levelI s.ws = levI s.ws k (levels.drop k)) ∧ wr = W)
  case atStart => exact ⟨0, by omega, by omega, rfl, Lib.hid rfl, rfl⟩
  case round =>
    obtain ⟨k, hk, hg, rfl, he, rfl⟩ := hrel
    have hb0 := hb
    clear hb
    have hcases : k = 0 ∨ k = 1 ∨ k = 2 ∨ k = 3 ∨ k = 4 ∨ k = 5 ∨ k = 6 ∨ k = 7 ∨ k = 8 ∨ k = 9 ∨ k = 10 := by omega
    rcases hcases with rfl | rfl | rfl | rfl | rfl | rfl | rfl | rfl | rfl | rfl | rfl
    · have hs : levI s.ws 0 (levels.drop 0) = if anyB s.ws [[124, 124]] then (0 : Int) else levI s.ws 1 (levels.drop 1) := rfl
      clear D1 D2 D3 D4 D5 D6 D7 D8 D9 x1 x2 x3 x4 x5 x6 x7 x8 x9
      rw [hs] at he
      cases hb : anyB s.ws [[124, 124]]
      · rw [hb] at D0 he
        simp only [Bool.false_eq_true, if_false] at he
        replace he := Lib.hid he.out
        go_wp2_with fail
        refine D0.mono ?_
        rintro e w' ⟨rfl, rfl⟩
        go_wp2_with fail
        go_roundg (10 - 1)
        case measure => omega
        case rel => exact ⟨1, by omega, by omega, rfl, he, rfl⟩
      · rw [hb] at D0 he
        simp only [if_true] at he
        have he2 : levelI s.ws = 0 := he.out
        clear he
        go_wp2_with fail
        refine D0.mono ?_
        rintro e w' ⟨rfl, rfl⟩
        go_wp2_with fail
        exact bodyPost_ret (v := .int .i64 0) (by simp [results, Tryz.results124, go_sem]) rfl ⟨by rw [he2], hb0⟩
    · have hs : levI s.ws 1 (levels.drop 1) = if anyB s.ws [[38, 38]] then (1 : Int) else levI s.ws 2 (levels.drop 2) := rfl
      clear D0 D2 D3 D4 D5 D6 D7 D8 D9 x0 x2 x3 x4 x5 x6 x7 x8 x9
      rw [hs] at he
      cases hb : anyB s.ws [[38, 38]]
      · rw [hb] at D1 he
        simp only [Bool.false_eq_true, if_false] at he
        replace he := Lib.hid he.out
        go_wp2_with fail
        refine D1.mono ?_
        rintro e w' ⟨rfl, rfl⟩
        go_wp2_with fail
        go_roundg (10 - 2)
        case measure => omega
        case rel => exact ⟨2, by omega, by omega, rfl, he, rfl⟩
      · rw [hb] at D1 he
        simp only [if_true] at he
        have he2 : levelI s.ws = 1 := he.out
        clear he
        go_wp2_with fail
        refine D1.mono ?_
        rintro e w' ⟨rfl, rfl⟩
        go_wp2_with fail
        exact bodyPost_ret (v := .int .i64 1) (by simp [results, Tryz.results124, go_sem]) rfl ⟨by rw [he2], hb0⟩
    · have hs : levI s.ws 2 (levels.drop 2) = if anyB s.ws [[124]] then (2 : Int) else levI s.ws 3 (levels.drop 3) := rfl
      clear D0 D1 D3 D4 D5 D6 D7 D8 D9 x0 x1 x3 x4 x5 x6 x7 x8 x9
      rw [hs] at he
      cases hb : anyB s.ws [[124]]
      · rw [hb] at D2 he
        simp only [Bool.false_eq_true, if_false] at he
        replace he := Lib.hid he.out
        go_wp2_with fail
        refine D2.mono ?_
        rintro e w' ⟨rfl, rfl⟩
        go_wp2_with fail
        go_roundg (10 - 3)
        case measure => omega
        case rel => exact ⟨3, by omega, by omega, rfl, he, rfl⟩
      · rw [hb] at D2 he
        simp only [if_true] at he
        have he2 : levelI s.ws = 2 := he.out
        clear he
        go_wp2_with fail
        refine D2.mono ?_
        rintro e w' ⟨rfl, rfl⟩
        go_wp2_with fail
        exact bodyPost_ret (v := .int .i64 2) (by simp [results, Tryz.results124, go_sem]) rfl ⟨by rw [he2], hb0⟩
    · have hs : levI s.ws 3 (levels.drop 3) = if anyB s.ws [[94]] then (3 : Int) else levI s.ws 4 (levels.drop 4) := rfl
      clear D0 D1 D2 D4 D5 D6 D7 D8 D9 x0 x1 x2 x4 x5 x6 x7 x8 x9
      rw [hs] at he
      cases hb : anyB s.ws [[94]]
      · rw [hb] at D3 he
        simp only [Bool.false_eq_true, if_false] at he
        replace he := Lib.hid he.out
        go_wp2_with fail
        refine D3.mono ?_
        rintro e w' ⟨rfl, rfl⟩
        go_wp2_with fail
        go_roundg (10 - 4)
        case measure => omega
        case rel => exact ⟨4, by omega, by omega, rfl, he, rfl⟩
      · rw [hb] at D3 he
        simp only [if_true] at he
        have he2 : levelI s.ws = 3 := he.out
        clear he
        go_wp2_with fail
        refine D3.mono ?_
        rintro e w' ⟨rfl, rfl⟩
        go_wp2_with fail
        exact bodyPost_ret (v := .int .i64 3) (by simp [results, Tryz.results124, go_sem]) rfl ⟨by rw [he2], hb0⟩
    · have hs : levI s.ws 4 (levels.drop 4) = if anyB s.ws [[38]] then (4 : Int) else levI s.ws 5 (levels.drop 5) := rfl
      clear D0 D1 D2 D3 D5 D6 D7 D8 D9 x0 x1 x2 x3 x5 x6 x7 x8 x9
      rw [hs] at he
      cases hb : anyB s.ws [[38]]
      · rw [hb] at D4 he
        simp only [Bool.false_eq_true, if_false] at he
        replace he := Lib.hid he.out
        go_wp2_with fail
        refine D4.mono ?_
        rintro e w' ⟨rfl, rfl⟩
        go_wp2_with fail
        go_roundg (10 - 5)
        case measure => omega
        case rel => exact ⟨5, by omega, by omega, rfl, he, rfl⟩
      · rw [hb] at D4 he
        simp only [if_true] at he
        have he2 : levelI s.ws = 4 := he.out
        clear he
        go_wp2_with fail
        refine D4.mono ?_
        rintro e w' ⟨rfl, rfl⟩
        go_wp2_with fail
        exact bodyPost_ret (v := .int .i64 4) (by simp [results, Tryz.results124, go_sem]) rfl ⟨by rw [he2], hb0⟩
    · have hs : levI s.ws 5 (levels.drop 5) = if anyB s.ws [[61, 61], [33, 61]] then (5 : Int) else levI s.ws 6 (levels.drop 6) := rfl
      clear D0 D1 D2 D3 D4 D6 D7 D8 D9 x0 x1 x2 x3 x4 x6 x7 x8 x9
      rw [hs] at he
      cases hb : anyB s.ws [[61, 61], [33, 61]]
      · rw [hb] at D5 he
        simp only [Bool.false_eq_true, if_false] at he
        replace he := Lib.hid he.out
        go_wp2_with fail
        refine D5.mono ?_
        rintro e w' ⟨rfl, rfl⟩
        go_wp2_with fail
        go_roundg (10 - 6)
        case measure => omega
        case rel => exact ⟨6, by omega, by omega, rfl, he, rfl⟩
      · rw [hb] at D5 he
        simp only [if_true] at he
        have he2 : levelI s.ws = 5 := he.out
        clear he
        go_wp2_with fail
        refine D5.mono ?_
        rintro e w' ⟨rfl, rfl⟩
        go_wp2_with fail
        exact bodyPost_ret (v := .int .i64 5) (by simp [results, Tryz.results124, go_sem]) rfl ⟨by rw [he2], hb0⟩
    · have hs : levI s.ws 6 (levels.drop 6) = if anyB s.ws [[60], [60, 61], [62], [62, 61]] then (6 : Int) else levI s.ws 7 (levels.drop 7) := rfl
      clear D0 D1 D2 D3 D4 D5 D7 D8 D9 x0 x1 x2 x3 x4 x5 x7 x8 x9
      rw [hs] at he
      cases hb : anyB s.ws [[60], [60, 61], [62], [62, 61]]
      · rw [hb] at D6 he
        simp only [Bool.false_eq_true, if_false] at he
        replace he := Lib.hid he.out
        go_wp2_with fail
        refine D6.mono ?_
        rintro e w' ⟨rfl, rfl⟩
        go_wp2_with fail
        go_roundg (10 - 7)
        case measure => omega
        case rel => exact ⟨7, by omega, by omega, rfl, he, rfl⟩
      · rw [hb] at D6 he
        simp only [if_true] at he
        have he2 : levelI s.ws = 6 := he.out
        clear he
        go_wp2_with fail
        refine D6.mono ?_
        rintro e w' ⟨rfl, rfl⟩
        go_wp2_with fail
        exact bodyPost_ret (v := .int .i64 6) (by simp [results, Tryz.results124, go_sem]) rfl ⟨by rw [he2], hb0⟩
    · have hs : levI s.ws 7 (levels.drop 7) = if anyB s.ws [[60, 60], [62, 62]] then (7 : Int) else levI s.ws 8 (levels.drop 8) := rfl
      clear D0 D1 D2 D3 D4 D5 D6 D8 D9 x0 x1 x2 x3 x4 x5 x6 x8 x9
      rw [hs] at he
      cases hb : anyB s.ws [[60, 60], [62, 62]]
      · rw [hb] at D7 he
        simp only [Bool.false_eq_true, if_false] at he
        replace he := Lib.hid he.out
        go_wp2_with fail
        refine D7.mono ?_
        rintro e w' ⟨rfl, rfl⟩
        go_wp2_with fail
        go_roundg (10 - 8)
        case measure => omega
        case rel => exact ⟨8, by omega, by omega, rfl, he, rfl⟩
      · rw [hb] at D7 he
        simp only [if_true] at he
        have he2 : levelI s.ws = 7 := he.out
        clear he
        go_wp2_with fail
        refine D7.mono ?_
        rintro e w' ⟨rfl, rfl⟩
        go_wp2_with fail
        exact bodyPost_ret (v := .int .i64 7) (by simp [results, Tryz.results124, go_sem]) rfl ⟨by rw [he2], hb0⟩
    · have hs : levI s.ws 8 (levels.drop 8) = if anyB s.ws [[43], [45]] then (8 : Int) else levI s.ws 9 (levels.drop 9) := rfl
      clear D0 D1 D2 D3 D4 D5 D6 D7 D9 x0 x1 x2 x3 x4 x5 x6 x7 x9
      rw [hs] at he
      cases hb : anyB s.ws [[43], [45]]
      · rw [hb] at D8 he
        simp only [Bool.false_eq_true, if_false] at he
        replace he := Lib.hid he.out
        go_wp2_with fail
        refine D8.mono ?_
        rintro e w' ⟨rfl, rfl⟩
        go_wp2_with fail
        go_roundg (10 - 9)
        case measure => omega
        case rel => exact ⟨9, by omega, by omega, rfl, he, rfl⟩
      · rw [hb] at D8 he
        simp only [if_true] at he
        have he2 : levelI s.ws = 8 := he.out
        clear he
        go_wp2_with fail
        refine D8.mono ?_
        rintro e w' ⟨rfl, rfl⟩
        go_wp2_with fail
        exact bodyPost_ret (v := .int .i64 8) (by simp [results, Tryz.results124, go_sem]) rfl ⟨by rw [he2], hb0⟩
    · have hs : levI s.ws 9 (levels.drop 9) = if anyB s.ws [[42], [47], [37]] then (9 : Int) else levI s.ws 10 (levels.drop 10) := rfl
      clear D0 D1 D2 D3 D4 D5 D6 D7 D8 x0 x1 x2 x3 x4 x5 x6 x7 x8
      rw [hs] at he
      cases hb : anyB s.ws [[42], [47], [37]]
      · rw [hb] at D9 he
        simp only [Bool.false_eq_true, if_false] at he
        replace he := Lib.hid he.out
        go_wp2_with fail
        refine D9.mono ?_
        rintro e w' ⟨rfl, rfl⟩
        go_wp2_with fail
        go_roundg (10 - 10)
        case measure => omega
        case rel => exact ⟨10, by omega, by omega, rfl, he, rfl⟩
      · rw [hb] at D9 he
        simp only [if_true] at he
        have he2 : levelI s.ws = 9 := he.out
        clear he
        go_wp2_with fail
        refine D9.mono ?_
        rintro e w' ⟨rfl, rfl⟩
        go_wp2_with fail
        exact bodyPost_ret (v := .int .i64 9) (by simp [results, Tryz.results124, go_sem]) rfl ⟨by rw [he2], hb0⟩
    · have he2 : levelI s.ws = -1 := he.out
      clear he
      go_wp2_with fail
      exact bodyPost_ret (v := .int .i64 (-1)) (by simp [results, Tryz.results124, go_sem]) rfl ⟨by rw [he2], hb0⟩
end Go.Proofs.YtjgpbpmicopemaaGreatDoor

/-
  The parser has fuel enough. No program in sight.
-/
namespace Go.Proofs.YtjgpbpmicopemaaGreatDoor
open Go.RowKit

/-- it has fuel enough, and takes at least m words -/
def Sf {α : Type} (m : Nat) (g : Pr α) (s : Sx) : Prop := g s ≠ .out ∧ ∀ a s', g s = .ok a s' → s'.ws.length + m ≤ s.ws.length
section
variable {α β : Type} {m m' : Nat} {g : Pr α} {h : α → Pr β} {s : Sx}
theorem Sf.bind (hg : Sf m g s) (hh : ∀ a s', g s = .ok a s' → s'.ws.length + m ≤ s.ws.length → Sf m' (h a) s') : Sf (m + m') (g >>= h) s := by
  obtain ⟨h1, h2⟩ := hg
  cases hx : g s with
  | out => exact absurd hx h1
  | bad s' => exact ⟨by rw [bind_bad hx]; simp, fun a s'' e => by rw [bind_bad hx] at e; cases e⟩
  | ok a s' =>
    obtain ⟨h3, h4⟩ := hh a s' hx (h2 a s' hx)
    refine ⟨by rw [bind_ok hx]; exact h3, fun b s'' e => ?_⟩
    rw [bind_ok hx] at e
    have := h2 a s' hx
    have := h4 b s'' e
    omega
theorem Sf.mono (hg : Sf m g s) (hm : m' ≤ m) : Sf m' g s := ⟨hg.1, fun a s' e => by have := hg.2 a s' e; omega⟩
theorem Sf.pure (a : α) : Sf 0 (Pure.pure a) s := ⟨(by intro e; cases e), fun b s' e => by cases e; simp⟩
theorem Sf.fail : Sf m (failP : Pr α) s := ⟨(by intro e; cases e), fun b s' e => by cases e⟩
theorem isB_len {ws : List It} {t : Bs} (h : isB ws t = true) : ws.tail.length + 1 = ws.length := by
  cases ws with
  | nil => simp [isB] at h
  | cons x xs => simp
theorem Sf.may {t : Bs} {h : Bool → Pr β} (h1 : isB s.ws t = true → s.ws.tail.length + 1 = s.ws.length → Sf m (h true) { s with ws := s.ws.tail }) (h0 : isB s.ws t = false → Sf m (h false) s) : Sf m (mayP t >>= h) s := by
  cases hb : isB s.ws t
  · have e : mayP t s = .ok false s := by unfold mayP; simp [hb]
    have h0 := h0 hb
    exact ⟨by rw [bind_ok e]; exact h0.1, fun a s' e' => by rw [bind_ok e] at e'; exact h0.2 a s' e'⟩
  · have e : mayP t s = .ok true { s with ws := s.ws.tail } := by unfold mayP; simp [hb]
    have h1 := h1 hb (isB_len hb)
    refine ⟨by rw [bind_ok e]; exact h1.1, fun a s' e' => ?_⟩
    rw [bind_ok e] at e'
    have := h1.2 a s' e'
    have := isB_len hb
    simp only at *
    omega
theorem Sf.may1 {t : Bs} {h : Bool → Pr β} (h1 : isB s.ws t = true → s.ws.tail.length + 1 = s.ws.length → Sf 0 (h true) { s with ws := s.ws.tail }) (h0 : isB s.ws t = false → Sf 1 (h false) s) : Sf 1 (mayP t >>= h) s := by
  cases hb : isB s.ws t
  · have e : mayP t s = .ok false s := by unfold mayP; simp [hb]
    have h0 := h0 hb
    exact ⟨by rw [bind_ok e]; exact h0.1, fun a s' e' => by rw [bind_ok e] at e'; exact h0.2 a s' e'⟩
  · have e : mayP t s = .ok true { s with ws := s.ws.tail } := by unfold mayP; simp [hb]
    have h1 := h1 hb (isB_len hb)
    refine ⟨by rw [bind_ok e]; exact h1.1, fun a s' e' => ?_⟩
    rw [bind_ok e] at e'
    have := h1.2 a s' e'
    have := isB_len hb
    simp only at *
    omega
/-- a question that takes nothing -/
theorem Sf.ask {α : Type} {q : Pr α} {a : α} {h : α → Pr β} (e : q s = .ok a s) (h1 : Sf m (h a) s) : Sf m (q >>= h) s :=
  ⟨by rw [bind_ok e]; exact h1.1, fun a s' e' => by rw [bind_ok e] at e'; exact h1.2 a s' e'⟩
theorem Sf.take (h : s.ws ≠ []) : Sf 1 takeP s := by
  cases hw : s.ws with
  | nil => exact absurd hw h
  | cons x xs => exact ⟨by unfold takeP; rw [hw]; simp, fun a s' e => by unfold takeP at e; rw [hw] at e; cases e; simp [hw]⟩
theorem Sf.must {t : Bs} : Sf 1 (mustP t) s := by
  constructor
  · simp only [mustP]
    split <;> simp
  · intro a s' e
    simp only [mustP] at e
    split at e
    · rename_i hb
      have := isB_len hb
      cases e
      simp only
      omega
    · cases e
theorem Sf.name : Sf 1 nameP s := by
  constructor
  · simp only [nameP]
    split
    · simp
    · split <;> simp
  · intro a s' e
    simp only [nameP] at e
    cases hw : s.ws with
    | nil => rw [hw] at e; cases e
    | cons x xs =>
      rw [hw] at e
      simp only at e
      split at e
      · cases e; simp
      · cases e
theorem Sf.num : Sf 1 numP s := by
  constructor
  · simp only [numP]
    split
    · simp
    · split <;> simp
  · intro a s' e
    simp only [numP] at e
    cases hw : s.ws with
    | nil => rw [hw] at e; cases e
    | cons x xs =>
      rw [hw] at e
      simp only at e
      split at e
      · cases e; simp
      · cases e
theorem Sf.stars {b : Bs} : Sf 0 (starsP b) s := ⟨by unfold starsP; simp, fun a s' e => by unfold starsP at e; cases e; simp⟩
theorem Sf.expr {k n : Int} {op nm ty : Bs} {args : List Ex} : Sf 0 (exprP k op nm n ty args) s := ⟨by unfold exprP; simp, fun a s' e => by unfold exprP at e; cases e; simp [Sx.node]⟩
theorem Sf.stmt {k : Int} {nm ty : Bs} {e pl : Option Ex} {l : List St} : Sf 0 (stmtP k nm ty e pl l) s := ⟨by unfold stmtP; simp, fun a s' e => by unfold stmtP at e; cases e; simp [Sx.node]⟩
theorem Sf.func : Sf 0 funcP s := ⟨by unfold funcP; simp, fun a s' e => by unfold funcP at e; cases e; simp⟩
theorem Sf.deep (h : Sf m g s.down) : Sf m (deepP g) s := by
  obtain ⟨h1, h2⟩ := h
  constructor
  · simp only [deepP]
    cases hx : g s.down with
    | out => exact absurd hx h1
    | bad s' => simp
    | ok a s' => simp
  · intro a s' e
    simp only [deepP] at e
    cases hx : g s.down with
    | out => rw [hx] at e; cases e
    | bad s' => rw [hx] at e; cases e
    | ok a s'' =>
      rw [hx] at e
      cases e
      have := h2 _ _ hx
      simpa [Sx.down, Sx.up] using this
end
theorem down_ws (s : Sx) : s.down.ws = s.ws := rfl
theorem typedB_ne {ws : List It} (h : typedB ws = true) : ws ≠ [] := by
  rintro rfl
  simp [typedB, anyB, typeWs, isB] at h
theorem anyB_ne {ws : List It} {l : List Bs} (h : anyB ws l = true) : ws ≠ [] := by
  rintro rfl
  unfold anyB at h
  rw [List.any_eq_true] at h
  obtain ⟨x, _, hx⟩ := h
  simp [isB] at hx
theorem kindB_ne {ws : List It} {k : Int} (h : kindB ws k = true) : ws ≠ [] := by
  rintro rfl
  simp [kindB] at h
theorem levI_nil : ∀ (l : List (List Bs)) (i : Nat), levI [] i l = -1
  | [], _ => rfl
  | x :: l, i => by
    have : anyB [] x = false := by
      cases hb : anyB [] x with
      | false => rfl
      | true => exact absurd rfl (anyB_ne hb)
    unfold levI
    rw [this]
    exact levI_nil l _
theorem levI_ge (ws : List It) : ∀ (l : List (List Bs)) (i : Nat), -1 ≤ levI ws i l
  | [], _ => by unfold levI; omega
  | x :: l, i => by
    unfold levI
    split
    · omega
    · exact levI_ge ws l _
theorem castB_ne {ws : List It} (h : castB ws = true) : ws ≠ [] := by
  unfold castB at h
  simp only [Bool.and_eq_true] at h
  intro h0
  rw [h0] at h
  simp [isB] at h
theorem typ_fine {s : Sx} : Sf 1 typP s := by
  unfold typP
  refine Sf.ask rfl ?_
  cases hb : typedB s.ws
  · simp only [Bool.false_eq_true, if_false]
    exact Sf.fail
  · simp only [if_true]
    refine Sf.bind (m := 1) (m' := 0) (Sf.take (typedB_ne hb)) (fun a s' _ _ => ?_)
    split
    · exact (Sf.bind (m' := 0) Sf.name (fun _ _ _ _ => Sf.stars)).mono (Nat.zero_le _)
    · exact Sf.stars
theorem array_fine {s : Sx} {t : Bs} : Sf 0 (arrayP t) s := by
  unfold arrayP
  refine Sf.may (fun _ _ => ?_) (fun _ => ?_)
  · exact ((Sf.bind (m' := 1) Sf.num (fun _ _ _ _ => Sf.bind (m' := 0) Sf.must (fun _ _ _ _ => Sf.pure _))).mono (Nat.zero_le _))
  · exact Sf.pure _
/-- the expression parser's parts with this fuel -/
structure FineE (f : Nat) : Prop where
  binary : ∀ lev s, 0 ≤ lev → 10 * s.ws.length + 6 ≤ f → Sf 1 (binaryP f lev) s
  bloop : ∀ lev e s, 0 ≤ lev → 10 * s.ws.length + 1 ≤ f → Sf 0 (binLoop f lev e) s
  unary : ∀ s, 10 * s.ws.length + 5 ≤ f → Sf 1 (unaryP f) s
  post : ∀ s, 10 * s.ws.length + 4 ≤ f → Sf 1 (postfixP f) s
  ploop : ∀ e s, 10 * s.ws.length + 1 ≤ f → Sf 0 (postLoop f e) s
  primary : ∀ s, 10 * s.ws.length + 3 ≤ f → Sf 1 (primaryP f) s
  within : ∀ s, 10 * s.ws.length + 2 ≤ f → Sf 1 (withinP f) s
  args : ∀ more l s, 10 * s.ws.length + 7 ≤ f → Sf 0 (argsP f more l) s
theorem fineE : ∀ f, FineE f
  | 0 => by constructor <;> intros <;> omega
  | f + 1 => by
    have ih := fineE f
    constructor
    · intro lev s hl hf
      unfold binaryP
      exact Sf.bind (m' := 0) (ih.unary s (by omega)) (fun e s' _ hs => ih.bloop lev e s' hl (by omega))
    · intro lev e s hl hf
      unfold binLoop
      refine Sf.ask rfl ?_
      by_cases hc : levelI s.ws < lev
      · rw [if_pos hc]; exact Sf.pure _
      · rw [if_neg hc]
        have hne : s.ws ≠ [] := by
          intro h0
          apply hc
          unfold levelI
          rw [h0, levI_nil]
          omega
        refine (Sf.bind (m' := 0) (Sf.take hne) (fun w s1 _ hs1 => ?_)).mono (Nat.zero_le 1)
        refine (Sf.bind (m' := 0) (ih.binary _ s1 (by omega) (by omega)) (fun r s2 _ hs2 => ?_)).mono (Nat.zero_le _)
        refine Sf.bind (m := 0) (m' := 0) Sf.expr (fun e' s3 _ hs3 => ?_)
        exact ih.bloop lev e' s3 hl (by omega)
    · intro s hf
      unfold unaryP
      refine Sf.deep ?_
      refine Sf.ask rfl ?_
      split
      · rename_i hb
        refine Sf.bind (m' := 0) (Sf.take (anyB_ne hb)) (fun w s1 _ hs1 => ?_)
        refine (Sf.bind (m' := 0) (ih.unary s1 (by simp [down_ws] at hs1; omega)) (fun _ _ _ _ => Sf.expr)).mono (Nat.zero_le _)
      · refine Sf.ask rfl ?_
        split
        · rename_i hb
          refine Sf.bind (m' := 0) (Sf.take (castB_ne hb)) (fun w s1 _ hs1 => ?_)
          refine (Sf.bind (m' := 0) typ_fine (fun t s2 _ hs2 => ?_)).mono (Nat.zero_le _)
          refine (Sf.bind (m' := 0) Sf.must (fun _ s3 _ hs3 => ?_)).mono (Nat.zero_le _)
          refine (Sf.bind (m' := 0) (ih.unary s3 (by simp [down_ws] at hs1; omega)) (fun _ _ _ _ => Sf.expr)).mono (Nat.zero_le _)
        · exact ih.post _ (by simp [down_ws]; omega)
    · intro s hf
      unfold postfixP
      exact Sf.bind (m' := 0) (ih.primary s (by omega)) (fun e s' _ hs => ih.ploop e s' (by omega))
    · intro e s hf
      unfold postLoop
      refine Sf.may (fun _ hl => ?_) (fun _ => ?_)
      · simp only [if_true]
        refine (Sf.bind (m' := 0) (ih.binary 0 _ (by omega) (by simp only; omega)) (fun i s1 _ hs1 => ?_)).mono (Nat.zero_le _)
        refine (Sf.bind (m' := 0) Sf.must (fun _ s2 _ hs2 => ?_)).mono (Nat.zero_le _)
        refine Sf.bind (m := 0) (m' := 0) Sf.expr (fun e' s3 _ hs3 => ?_)
        exact ih.ploop e' s3 (by simp only at hs1; omega)
      · simp only [Bool.false_eq_true, if_false]
        refine Sf.may (fun _ hl => ?_) (fun _ => ?_)
        · simp only [if_true]
          refine (Sf.bind (m' := 0) Sf.name (fun i s1 _ hs1 => ?_)).mono (Nat.zero_le _)
          refine Sf.bind (m := 0) (m' := 0) Sf.expr (fun e' s3 _ hs3 => ?_)
          exact ih.ploop e' s3 (by simp only at hs1; omega)
        · simp only [Bool.false_eq_true, if_false]
          refine Sf.may (fun _ hl => ?_) (fun _ => ?_)
          · simp only [if_true]
            refine (Sf.bind (m' := 0) Sf.name (fun i s1 _ hs1 => ?_)).mono (Nat.zero_le _)
            refine Sf.bind (m := 0) (m' := 0) Sf.expr (fun e' s3 _ hs3 => ?_)
            exact ih.ploop e' s3 (by simp only at hs1; omega)
          · simp only [Bool.false_eq_true, if_false]
            exact Sf.pure _
    · intro s hf
      unfold primaryP
      refine Sf.ask rfl ?_
      split
      · exact ih.within s (by omega)
      · refine Sf.may (fun _ hl => ?_) (fun _ => ?_)
        · simp only [if_true]
          refine Sf.bind (m' := 0) Sf.must (fun _ s1 _ hs1 => ?_)
          exact (Sf.bind (m' := 0) Sf.must (fun _ _ _ _ => Sf.expr)).mono (Nat.zero_le _)
        · simp only [Bool.false_eq_true, if_false]
          refine Sf.may (fun _ hl => ?_) (fun _ => ?_)
          · simp only [if_true]
            refine Sf.bind (m' := 0) Sf.must (fun _ s1 _ hs1 => ?_)
            refine (Sf.bind (m' := 0) typ_fine (fun _ _ _ _ => ?_)).mono (Nat.zero_le _)
            refine Sf.bind (m := 0) (m' := 0) array_fine (fun _ _ _ _ => ?_)
            exact (Sf.bind (m' := 0) Sf.must (fun _ _ _ _ => Sf.expr)).mono (Nat.zero_le _)
          · simp only [Bool.false_eq_true, if_false]
            refine Sf.ask rfl ?_
            split
            · rename_i hb
              exact Sf.bind (m' := 0) (Sf.take (kindB_ne hb)) (fun _ _ _ _ => Sf.expr)
            · refine Sf.bind (m' := 0) Sf.name (fun nm s1 _ hs1 => ?_)
              refine Sf.may (fun _ hl => ?_) (fun _ => ?_)
              · simp only [if_true]
                refine Sf.may (fun _ hl2 => ?_) (fun _ => ?_)
                · exact Sf.bind (m := 0) (m' := 0) (ih.args _ _ _ (by simp only at hl2 ⊢; omega)) (fun _ _ _ _ => Sf.expr)
                · exact Sf.bind (m := 0) (m' := 0) (ih.args _ _ _ (by simp only; omega)) (fun _ _ _ _ => Sf.expr)
              · simp only [Bool.false_eq_true, if_false]
                exact Sf.expr
    · intro s hf
      unfold withinP
      refine Sf.bind (m' := 0) Sf.must (fun _ s1 _ hs1 => ?_)
      refine (Sf.bind (m' := 0) (ih.binary 0 s1 (by omega) (by omega)) (fun i s2 _ hs2 => ?_)).mono (Nat.zero_le _)
      refine (Sf.bind (m' := 0) Sf.must (fun _ s3 _ hs3 => Sf.pure _)).mono (Nat.zero_le _)
    · intro more l s hf
      unfold argsP
      cases more
      · simp only [Bool.false_eq_true, if_false]
        exact Sf.pure _
      · simp only [if_true]
        refine (Sf.bind (m' := 0) (ih.binary 0 s (by omega) (by omega)) (fun e s1 _ hs1 => ?_)).mono (Nat.zero_le _)
        refine Sf.may (fun _ hl => ?_) (fun _ => ?_)
        · simp only [if_true]
          exact ih.args _ _ _ (by simp only; omega)
        · simp only [Bool.false_eq_true, if_false]
          refine (Sf.bind (m' := 0) Sf.must (fun _ s2 _ hs2 => ?_)).mono (Nat.zero_le _)
          exact ih.args _ _ _ (by omega)
theorem decl_fine {f : Nat} {s : Sx} (hf : 10 * s.ws.length + 6 ≤ f) : Sf 1 (declP f) s := by
  have ih := fineE f
  unfold declP
  refine Sf.bind (m' := 0) typ_fine (fun t s1 _ hs1 => ?_)
  refine (Sf.bind (m' := 0) Sf.name (fun n s2 _ hs2 => ?_)).mono (Nat.zero_le _)
  refine Sf.may (fun _ hl => ?_) (fun _ => ?_)
  · simp only [if_true]
    refine (Sf.bind (m' := 0) (ih.binary 0 _ (by omega) (by simp only; omega)) (fun e s3 _ hs3 => ?_)).mono (Nat.zero_le _)
    exact (Sf.bind (m' := 0) Sf.must (fun _ _ _ _ => Sf.stmt)).mono (Nat.zero_le _)
  · simp only [Bool.false_eq_true, if_false]
    refine Sf.bind (m := 0) (m' := 0) array_fine (fun _ _ _ _ => ?_)
    exact (Sf.bind (m' := 0) Sf.must (fun _ _ _ _ => Sf.stmt)).mono (Nat.zero_le _)
/-- the statement parser's parts with this fuel -/
structure FineS (f : Nat) : Prop where
  block : ∀ s, 10 * s.ws.length + 7 ≤ f → Sf 1 (blockP f) s
  list : ∀ l s, 10 * s.ws.length + 9 ≤ f → Sf 0 (listP f l) s
  stat : ∀ s, 10 * s.ws.length + 8 ≤ f → Sf 1 (statementP f) s
theorem fineS : ∀ f, FineS f
  | 0 => by constructor <;> intros <;> omega
  | f + 1 => by
    have ih := fineS f
    have ie := fineE f
    constructor
    · intro s hf
      unfold blockP
      refine Sf.deep ?_
      refine Sf.bind (m' := 0) Sf.must (fun _ s1 _ hs1 => ?_)
      exact Sf.bind (m := 0) (m' := 0) (ih.list [] s1 (by simp [down_ws] at hs1; omega)) (fun _ _ _ _ => Sf.stmt)
    · intro l s hf
      unfold listP
      refine Sf.may (fun _ hl => ?_) (fun _ => ?_)
      · simp only [if_true]
        exact Sf.pure _
      · simp only [Bool.false_eq_true, if_false]
        refine Sf.ask rfl ?_
        split
        · refine (Sf.bind (m' := 0) (decl_fine (by omega)) (fun x s1 _ hs1 => ?_)).mono (Nat.zero_le 1)
          exact ih.list _ _ (by omega)
        · refine (Sf.bind (m' := 0) (ih.stat s (by omega)) (fun x s1 _ hs1 => ?_)).mono (Nat.zero_le 1)
          exact ih.list _ _ (by omega)
    · intro s hf
      unfold statementP
      refine Sf.deep ?_
      have hd : s.down.ws.length = s.ws.length := rfl
      refine Sf.ask rfl ?_
      split
      · exact ih.block _ (by omega)
      · refine Sf.may1 (fun _ hl => by simp only [if_true]; exact Sf.stmt) (fun _ => ?_)
        simp only [Bool.false_eq_true, if_false]
        refine Sf.may1 (fun _ hl => ?_) (fun _ => ?_)
        · simp only [if_true]
          refine (Sf.bind (m' := 0) (ie.within _ (by simp only; omega)) (fun e s1 _ hs1 => ?_)).mono (Nat.zero_le _)
          simp only at hs1
          refine (Sf.bind (m' := 0) (ih.stat _ (by omega)) (fun x s2 _ hs2 => ?_)).mono (Nat.zero_le _)
          refine Sf.may (fun _ hl2 => ?_) (fun _ => ?_)
          · simp only [if_true]
            exact (Sf.bind (m' := 0) (ih.stat _ (by simp only; omega)) (fun _ _ _ _ => Sf.stmt)).mono (Nat.zero_le _)
          · simp only [Bool.false_eq_true, if_false]
            exact Sf.stmt
        simp only [Bool.false_eq_true, if_false]
        refine Sf.may1 (fun _ hl => ?_) (fun _ => ?_)
        · simp only [if_true]
          refine (Sf.bind (m' := 0) (ie.within _ (by simp only; omega)) (fun e s1 _ hs1 => ?_)).mono (Nat.zero_le _)
          simp only at hs1
          exact (Sf.bind (m' := 0) (ih.stat _ (by omega)) (fun x s2 _ hs2 => Sf.stmt)).mono (Nat.zero_le _)
        simp only [Bool.false_eq_true, if_false]
        refine Sf.ask rfl ?_
        split
        · rename_i hb
          refine Sf.bind (m' := 0) (Sf.take (anyB_ne hb)) (fun w s1 _ hs1 => ?_)
          exact (Sf.bind (m' := 0) Sf.must (fun _ _ _ _ => Sf.stmt)).mono (Nat.zero_le _)
        · refine Sf.may1 (fun _ hl => ?_) (fun _ => ?_)
          · simp only [if_true]
            refine Sf.ask rfl ?_
            split
            · exact (Sf.bind (m' := 0) Sf.must (fun _ _ _ _ => Sf.stmt)).mono (Nat.zero_le _)
            · refine (Sf.bind (m' := 0) (ie.binary 0 _ (by omega) (by simp only; omega)) (fun e s1 _ hs1 => ?_)).mono (Nat.zero_le _)
              exact (Sf.bind (m' := 0) Sf.must (fun _ _ _ _ => Sf.stmt)).mono (Nat.zero_le _)
          simp only [Bool.false_eq_true, if_false]
          refine Sf.may1 (fun _ hl => ?_) (fun _ => ?_)
          · simp only [if_true]
            refine (Sf.bind (m' := 0) (ie.within _ (by simp only; omega)) (fun e s1 _ hs1 => ?_)).mono (Nat.zero_le _)
            exact (Sf.bind (m' := 0) Sf.must (fun _ _ _ _ => Sf.stmt)).mono (Nat.zero_le _)
          simp only [Bool.false_eq_true, if_false]
          refine Sf.bind (m' := 0) (ie.binary 0 _ (by omega) (by omega)) (fun e s1 _ hs1 => ?_)
          refine Sf.may (fun _ hl2 => ?_) (fun _ => ?_)
          · simp only [if_true]
            refine (Sf.bind (m' := 0) (ie.binary 0 _ (by omega) (by simp only; omega)) (fun r s2 _ hs2 => ?_)).mono (Nat.zero_le _)
            exact (Sf.bind (m' := 0) Sf.must (fun _ _ _ _ => Sf.stmt)).mono (Nat.zero_le _)
          · simp only [Bool.false_eq_true, if_false]
            exact (Sf.bind (m' := 0) Sf.must (fun _ _ _ _ => Sf.stmt)).mono (Nat.zero_le _)
theorem fields_fine : ∀ (f : Nat) (l : List Fd) (s : Sx), s.ws.length + 1 ≤ f → Sf 0 (fieldsP f l) s
  | 0, _, _, h => by omega
  | f + 1, l, s, hf => by
    unfold fieldsP
    refine Sf.may (fun _ hl => ?_) (fun _ => ?_)
    · simp only [if_true]
      exact Sf.pure _
    · simp only [Bool.false_eq_true, if_false]
      refine (Sf.bind (m' := 0) typ_fine (fun t s1 _ hs1 => ?_)).mono (Nat.zero_le _)
      refine (Sf.bind (m' := 0) Sf.name (fun n s2 _ hs2 => ?_)).mono (Nat.zero_le _)
      refine Sf.bind (m := 0) (m' := 0) array_fine (fun t s3 _ hs3 => ?_)
      refine (Sf.bind (m' := 0) Sf.must (fun _ s4 _ hs4 => ?_)).mono (Nat.zero_le _)
      exact fields_fine f _ s4 (by omega)
theorem params_fine : ∀ (f : Nat) (more : Bool) (l : List Pm) (s : Sx), s.ws.length + 1 ≤ f → Sf 0 (paramsP f more l) s
  | 0, _, _, _, h => by omega
  | f + 1, more, l, s, hf => by
    unfold paramsP
    cases more
    · simp only [Bool.false_eq_true, if_false]
      exact Sf.pure _
    · simp only [if_true]
      have key : ∀ b s0, s0.ws.length ≤ s.ws.length → Sf 0 (do
          let t ← typP
          let n ← nameP
          if ← mayP [44] then paramsP f true (l ++ [⟨b, t, n⟩])
          else
            mustP [41]
            paramsP f false (l ++ [⟨b, t, n⟩])) s0 := by
        intro b s0 h0
        refine (Sf.bind (m' := 0) typ_fine (fun t s1 _ hs1 => ?_)).mono (Nat.zero_le _)
        refine (Sf.bind (m' := 0) Sf.name (fun n s2 _ hs2 => ?_)).mono (Nat.zero_le _)
        refine Sf.may (fun _ hl => ?_) (fun _ => ?_)
        · simp only [if_true]
          exact params_fine f _ _ _ (by simp only; omega)
        · simp only [Bool.false_eq_true, if_false]
          refine (Sf.bind (m' := 0) Sf.must (fun _ s4 _ hs4 => ?_)).mono (Nat.zero_le _)
          exact params_fine f _ _ _ (by omega)
      exact Sf.may (fun _ hl => key _ _ (by simp only; omega)) (fun _ => key _ _ (Nat.le_refl _))
theorem rest_fine {f : Nat} {t : Bs} {s : Sx} (hf : 10 * s.ws.length + 8 ≤ f) : Sf 1 (restP f t) s := by
  unfold restP
  refine Sf.bind (m' := 0) Sf.name (fun n s1 _ hs1 => ?_)
  refine Sf.ask rfl ?_
  split
  · rename_i hb
    refine Sf.bind (m := 0) (m' := 0) Sf.func (fun _ s2 e2 hs2 => ?_)
    have hw : s2.ws = s1.ws := by unfold funcP at e2; cases e2; rfl
    refine (Sf.bind (m' := 0) (Sf.take (by rw [hw]; exact isB_ne hb)) (fun _ s3 _ hs3 => ?_)).mono (Nat.zero_le _)
    have key : ∀ m s0, s0.ws.length ≤ s3.ws.length → Sf 0 (do
        let ps ← paramsP f m []
        let b ← blockP f
        pure (⟨3, t, n, [], ps, some b⟩ : Im)) s0 := by
      intro m s0 h0
      refine Sf.bind (m := 0) (m' := 0) (params_fine f _ _ _ (by omega)) (fun ps s4 _ hs4 => ?_)
      exact (Sf.bind (m' := 0) ((fineS f).block s4 (by omega)) (fun _ _ _ _ => Sf.pure _)).mono (Nat.zero_le _)
    exact Sf.may (fun _ hl => key _ _ (by simp only; omega)) (fun _ => key _ _ (Nat.le_refl _))
  · refine Sf.bind (m := 0) (m' := 0) array_fine (fun _ _ _ _ => ?_)
    exact (Sf.bind (m' := 0) Sf.must (fun _ _ _ _ => Sf.pure _)).mono (Nat.zero_le _)
theorem item_fine {f : Nat} {s : Sx} (hf : 10 * s.ws.length + 8 ≤ f) : Sf 1 (itemP f) s := by
  unfold itemP
  refine Sf.may1 (fun _ hl => ?_) (fun _ => ?_)
  · simp only [if_true]
    refine (Sf.bind (m' := 0) Sf.name (fun n s1 _ hs1 => ?_)).mono (Nat.zero_le _)
    simp only at hs1
    refine Sf.may (fun _ hl2 => ?_) (fun _ => ?_)
    · simp only [if_true]
      refine Sf.bind (m := 0) (m' := 0) (fields_fine f _ _ (by simp only; omega)) (fun _ _ _ _ => ?_)
      exact (Sf.bind (m' := 0) Sf.must (fun _ _ _ _ => Sf.pure _)).mono (Nat.zero_le _)
    · simp only [Bool.false_eq_true, if_false]
      refine (Sf.bind (m := 0) (m' := 1) Sf.stars (fun _ s2 _ hs2 => ?_)).mono (Nat.zero_le _)
      exact rest_fine (by omega)
  · simp only [Bool.false_eq_true, if_false]
    exact Sf.bind (m' := 0) typ_fine (fun t s1 _ hs1 => (rest_fine (by omega)).mono (Nat.zero_le _))
theorem items_fine : ∀ (f : Nat) (l : List Im) (s : Sx), 10 * s.ws.length + 9 ≤ f → Sf 0 (itemsP f l) s
  | 0, _, _, h => by omega
  | f + 1, l, s, hf => by
    unfold itemsP
    by_cases he : s.ws.isEmpty = true
    · exact ⟨by simp [he], fun a s' e => by simp only [he, if_true] at e; cases e; simp⟩
    · have h := (Sf.bind (m' := 0) (item_fine (f := f) (s := s) (by omega)) (fun x s1 _ hs1 => items_fine f (l ++ [x]) s1 (by omega))).mono (Nat.zero_le _)
      exact ⟨by simp only [he]; exact h.1, fun a s' e => by simp only [he] at e; exact h.2 a s' e⟩
theorem program_fine {f : Nat} {s : Sx} (hf : 10 * s.ws.length + 9 ≤ f) : programP f s ≠ .out := by
  have h := (items_fine f [] s hf).1
  unfold programP
  cases hx : itemsP f [] s with
  | out => exact absurd hx h
  | bad s' => simp
  | ok a s' => simp
end Go.Proofs.YtjgpbpmicopemaaGreatDoor
