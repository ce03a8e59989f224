/-
  slices.Equal at events and at leaks: it answers whether the lists are the same, for every two slices, nil ones too.
-/
import Derived.Test.YtifknchhcbeekaaDoorProg
import Derived.Test.YtifknchhcbeekaaDoorBase
import Derived.WalkKit
import Derived.WalkSpells
import Derived.WalkLawsBesides
import Derived.Deep.LoopGhost
import Derived.Deep.QuietTactic
import Derived.BigQuiet
import Derived.Laws.StructEq
import Derived.Shelf.SlicesE.Kit
import Derived.Outline
import Derived.KernelRfl
namespace Go.Proofs.YtifknchhcbeekaaDoor
open Go.RowKit Go.Lib

theorem eqEv (a b c d : Int) (w : World) : (binOp .eql 39 (.agg #[.int .i64 a, .int .i64 b]) (.agg #[.int .i64 c, .int .i64 d])).run Tryd.prog w = .ok (.bool (a == c && b == d)) w := by
  have u3 := Tryd.underlying3
  have a3 := Tryd.isAgg3
  have z3 := Tryd.sizeOf3
  have u2 := Tryd.underlying2
  have a2 := Tryd.isAgg2
  have z2 := Tryd.sizeOf2
  have hS : Tryd.prog.underlying 39 = some (.struct (Tryd.prog.fieldsOf 39)) := by kernel_rfl
  have hp : Tryd.prog.stoodInHeld 39 = false := by kernel_rfl
  rw [run_eql_struct, show (10000 : Nat) = 9999 + 1 from rfl, run_equalIn_agg w 9999 39 _ _ hS hp]
  simp only [Program.fieldsOf, Tryd.underlying39]
  go_simp
  by_cases h1 : a = c <;> by_cases h2 : b = d <;> simp [h1, h2]

theorem eqGuardEv (op : BinOp) (x y : Operand) (a b c d : Int) (w : World) : (eqGuard op 39 x y (.agg #[.int .i64 a, .int .i64 b]) (.agg #[.int .i64 c, .int .i64 d])).run Tryd.prog w = .ok () w :=
  run_eqGuard_agg w op 39 x y _ _ (by kernel_rfl)
theorem neqEv (a b c d : Int) (w : World) : (binOp .neq 39 (.agg #[.int .i64 a, .int .i64 b]) (.agg #[.int .i64 c, .int .i64 d])).run Tryd.prog w = .ok (.bool (!(a == c && b == d))) w := by
  have u3 := Tryd.underlying3
  have a3 := Tryd.isAgg3
  have z3 := Tryd.sizeOf3
  have u2 := Tryd.underlying2
  have a2 := Tryd.isAgg2
  have z2 := Tryd.sizeOf2
  have hS : Tryd.prog.underlying 39 = some (.struct (Tryd.prog.fieldsOf 39)) := by kernel_rfl
  have hp : Tryd.prog.stoodInHeld 39 = false := by kernel_rfl
  rw [run_neq_struct, show (10000 : Nat) = 9999 + 1 from rfl, run_equalIn_agg w 9999 39 _ _ hS hp]
  simp only [Program.fieldsOf, Tryd.underlying39]
  go_simp
  by_cases h1 : a = c <;> by_cases h2 : b = d <;> simp [h1, h2]

theorem take_succ_ {α : Type} (l : List α) (k : Nat) (x : α) (h : l[k]? = some x) : l.take (k + 1) = l.take k ++ [x] := by
  rw [List.take_add_one, h]; rfl

set_option maxHeartbeats 1000000 in
set_option maxRecDepth 100000 in
theorem eqEvents (A1 A2 : Option Addr) (n m c d B : Nat) (xs ys : List Ev) (w : World) (h1 : Evs w B A1 n xs) (h2 : Evs w B A2 m ys) (hn : n ≤ 9223372036854775807) (hm : m ≤ 9223372036854775807) :
    Calls Tryd.prog 23 #[.slice A1 n c, .slice A2 m d] w fun e w' => e = .returned (.bool (decide (xs = ys))) ∧ ∃ q, w' = w.drewN q := by
  by_cases hnm : n = m
  · subst hnm
    have hl1 := h1.1
    have hl2 := h2.1
    have HL := Lib.hid (And.intro hl1 hl2)
    clear hl1 hl2
    have H1 := Lib.hid h1
    have H2 := Lib.hid h2
    clear h1 h2
    have hgd := eqGuardEv
    have hne := neqEv
    go_enter Tryd.func23, Tryd.ntmps23
    go_wp2
    go_loopg [13] n (fun g s13 wr => ∃ kk q : Nat, kk ≤ n ∧ n - kk ≤ g ∧ s13 = .int .i64 kk ∧ wr = w.drewN q ∧ Hid (xs.take kk = ys.take kk))
    case atStart => exact ⟨0, 0, Nat.zero_le _, by omega, rfl, rfl, Lib.hid rfl⟩
    case round =>
      obtain ⟨kk, q, hkk, hg, rfl, rfl, A⟩ := hrel
      by_cases hlt : kk < n
      · obtain ⟨x, hx⟩ : ∃ x, xs[kk]? = some x := ⟨_, List.getElem?_eq_getElem (by have := HL.out.1; omega)⟩
        obtain ⟨y, hy⟩ : ∃ y, ys[kk]? = some y := ⟨_, List.getElem?_eq_getElem (by have := HL.out.2; omega)⟩
        obtain ⟨b1, o1, rfl, _, hc0, hc1⟩ := H1.out.at_ hx
        obtain ⟨b2, o2, rfl, _, hd0, hd1⟩ := H2.out.at_ hy
        have X := Lib.hid (And.intro hx hy)
        clear hx hy
        obtain ⟨x0, x1⟩ := x
        obtain ⟨y0, y1⟩ := y
        simp only at hc0 hc1 hd0 hd1
        cases hxy : (x0 == y0 && x1 == y1)
        · go_wp2_with fail
          go_quiet (fail)
          go_wp2
          go_ret
          refine ⟨?_, q + nq, World.drewN_drewN _ _ _⟩
          have hne : ¬ xs = ys := fun e => by
            have h1 := X.out.1
            rw [e, X.out.2] at h1
            simp at h1
            simp [h1.1, h1.2] at hxy
          simp [hne]
        · have ex : x0 = y0 ∧ x1 = y1 := by simpa using hxy
          have EX := Lib.hid ex
          clear ex
          go_wp2_with fail
          go_quiet (fail)
          go_wp2
          go_roundg (n - (kk + 1))
          case measure => omega
          case rel =>
            refine ⟨kk + 1, q + nq, by omega, by omega, by go_num, rfl, Lib.hid ?_⟩
            rw [take_succ_ _ _ _ X.out.1, take_succ_ _ _ _ X.out.2, A.out, EX.out.1, EX.out.2]
      · obtain rfl : kk = n := by omega
        go_wp2
        go_ret
        refine ⟨?_, q, rfl⟩
        have he : xs = ys := by
          have h := A.out
          rw [List.take_of_length_le (by have := HL.out.1; omega), List.take_of_length_le (by have := HL.out.2; omega)] at h
          exact h
        simp [he]
  · have hnm' : ¬ (n : Int) = (m : Int) := by omega
    have hne : ¬ xs = ys := fun e => by
      have a := h1.1
      have b := h2.1
      rw [e] at a
      omega
    clear h1 h2
    go_enter Tryd.func23, Tryd.ntmps23
    go_wp2
    go_ret
    exact ⟨by simp [hne], 0, rfl⟩

theorem eqLk (a b e c d f : Int) (w : World) : (binOp .eql 53 (.agg #[.int .i64 a, .int .i64 b, .int .i64 e]) (.agg #[.int .i64 c, .int .i64 d, .int .i64 f])).run Tryd.prog w = .ok (.bool (a == c && (b == d && e == f))) w := by
  have u3 := Tryd.underlying3
  have a3 := Tryd.isAgg3
  have z3 := Tryd.sizeOf3
  have u2 := Tryd.underlying2
  have a2 := Tryd.isAgg2
  have z2 := Tryd.sizeOf2
  have hS : Tryd.prog.underlying 53 = some (.struct (Tryd.prog.fieldsOf 53)) := by kernel_rfl
  have hp : Tryd.prog.stoodInHeld 53 = false := by kernel_rfl
  rw [run_eql_struct, show (10000 : Nat) = 9999 + 1 from rfl, run_equalIn_agg w 9999 53 _ _ hS hp]
  simp only [Program.fieldsOf, Tryd.underlying53]
  go_simp
  by_cases h1 : a = c <;> by_cases h2 : b = d <;> by_cases h3 : e = f <;> simp [h1, h2, h3]

theorem eqGuardLk (op : BinOp) (x y : Operand) (a b e c d f : Int) (w : World) : (eqGuard op 53 x y (.agg #[.int .i64 a, .int .i64 b, .int .i64 e]) (.agg #[.int .i64 c, .int .i64 d, .int .i64 f])).run Tryd.prog w = .ok () w :=
  run_eqGuard_agg w op 53 x y _ _ (by kernel_rfl)
theorem neqLk (a b e c d f : Int) (w : World) : (binOp .neq 53 (.agg #[.int .i64 a, .int .i64 b, .int .i64 e]) (.agg #[.int .i64 c, .int .i64 d, .int .i64 f])).run Tryd.prog w = .ok (.bool (!(a == c && (b == d && e == f)))) w := by
  have u3 := Tryd.underlying3
  have a3 := Tryd.isAgg3
  have z3 := Tryd.sizeOf3
  have u2 := Tryd.underlying2
  have a2 := Tryd.isAgg2
  have z2 := Tryd.sizeOf2
  have hS : Tryd.prog.underlying 53 = some (.struct (Tryd.prog.fieldsOf 53)) := by kernel_rfl
  have hp : Tryd.prog.stoodInHeld 53 = false := by kernel_rfl
  rw [run_neq_struct, show (10000 : Nat) = 9999 + 1 from rfl, run_equalIn_agg w 9999 53 _ _ hS hp]
  simp only [Program.fieldsOf, Tryd.underlying53]
  go_simp
  by_cases h1 : a = c <;> by_cases h2 : b = d <;> by_cases h3 : e = f <;> simp [h1, h2, h3]

set_option maxHeartbeats 1000000 in
set_option maxRecDepth 100000 in
theorem eqLeaks (A1 A2 : Option Addr) (n m c d B : Nat) (xs ys : List Lk) (w : World) (h1 : Lks w B A1 n xs) (h2 : Lks w B A2 m ys) (hn : n ≤ 9223372036854775807) (hm : m ≤ 9223372036854775807) :
    Calls Tryd.prog 25 #[.slice A1 n c, .slice A2 m d] w fun e w' => e = .returned (.bool (decide (xs = ys))) ∧ ∃ q, w' = w.drewN q := by
  by_cases hnm : n = m
  · subst hnm
    have hl1 := h1.1
    have hl2 := h2.1
    have HL := Lib.hid (And.intro hl1 hl2)
    clear hl1 hl2
    have H1 := Lib.hid h1
    have H2 := Lib.hid h2
    clear h1 h2
    have hgd := eqGuardLk
    have hne := neqLk
    go_enter Tryd.func25, Tryd.ntmps25
    go_wp2
    go_loopg [13] n (fun g s13 wr => ∃ kk q : Nat, kk ≤ n ∧ n - kk ≤ g ∧ s13 = .int .i64 kk ∧ wr = w.drewN q ∧ Hid (xs.take kk = ys.take kk))
    case atStart => exact ⟨0, 0, Nat.zero_le _, by omega, rfl, rfl, Lib.hid rfl⟩
    case round =>
      obtain ⟨kk, q, hkk, hg, rfl, rfl, A⟩ := hrel
      by_cases hlt : kk < n
      · obtain ⟨x, hx⟩ : ∃ x, xs[kk]? = some x := ⟨_, List.getElem?_eq_getElem (by have := HL.out.1; omega)⟩
        obtain ⟨y, hy⟩ : ∃ y, ys[kk]? = some y := ⟨_, List.getElem?_eq_getElem (by have := HL.out.2; omega)⟩
        obtain ⟨b1, o1, rfl, _, hc0, hc1, hc2⟩ := H1.out.at_ hx
        obtain ⟨b2, o2, rfl, _, hd0, hd1, hd2⟩ := H2.out.at_ hy
        have X := Lib.hid (And.intro hx hy)
        clear hx hy
        obtain ⟨x0, x1, x2⟩ := x
        obtain ⟨y0, y1, y2⟩ := y
        simp only at hc0 hc1 hc2 hd0 hd1 hd2
        cases hxy : (x0 == y0 && (x1 == y1 && x2 == y2))
        · go_wp2_with fail
          go_quiet (fail)
          go_wp2
          go_ret
          refine ⟨?_, q + nq, World.drewN_drewN _ _ _⟩
          have hne : ¬ xs = ys := fun e => by
            have h1 := X.out.1
            rw [e, X.out.2] at h1
            simp at h1
            simp [h1.1, h1.2] at hxy
          simp [hne]
        · have ex : x0 = y0 ∧ x1 = y1 ∧ x2 = y2 := by simpa using hxy
          have EX := Lib.hid ex
          clear ex
          go_wp2_with fail
          go_quiet (fail)
          go_wp2
          go_roundg (n - (kk + 1))
          case measure => omega
          case rel =>
            refine ⟨kk + 1, q + nq, by omega, by omega, by go_num, rfl, Lib.hid ?_⟩
            rw [take_succ_ _ _ _ X.out.1, take_succ_ _ _ _ X.out.2, A.out, EX.out.1, EX.out.2.1, EX.out.2.2]
      · obtain rfl : kk = n := by omega
        go_wp2
        go_ret
        refine ⟨?_, q, rfl⟩
        have he : xs = ys := by
          have h := A.out
          rw [List.take_of_length_le (by have := HL.out.1; omega), List.take_of_length_le (by have := HL.out.2; omega)] at h
          exact h
        simp [he]
  · have hnm' : ¬ (n : Int) = (m : Int) := by omega
    have hne : ¬ xs = ys := fun e => by
      have a := h1.1
      have b := h2.1
      rw [e] at a
      omega
    clear h1 h2
    go_enter Tryd.func25, Tryd.ntmps25
    go_wp2
    go_ret
    exact ⟨by simp [hne], 0, rfl⟩
end Go.Proofs.YtifknchhcbeekaaDoor
