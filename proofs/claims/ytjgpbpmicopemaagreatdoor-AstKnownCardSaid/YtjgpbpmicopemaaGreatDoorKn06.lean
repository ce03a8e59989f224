import Derived.Test.YtjgpbpmicopemaaGreatDoorKn05
import Derived.WalkMore
import Derived.WalkKit
import Derived.WalkSmall
import Derived.Test.YtjgpbpmicopemaaGreatDoorKn02
import Derived.LoopTactic
import Derived.Deep.LoopGhost

/-
  The parser's small functions.
-/
namespace Go.Proofs.YtjgpbpmicopemaaGreatDoor
open Go.RowKit Go.Shelf

theorem PrAt.cells {W : World} {p : Nat} {E : Int × Int} {s : Sx} (h : PrAt W p E s) : ∃ (b : Option Addr) (c : Nat) (o : Value), s.ws.length ≤ c ∧ c ≤ maxLen ∧
    (s.ws ≠ [] → ∃ g o, b = some ⟨g, o, none⟩ ∧ g ≠ p ∧ (∃ cur, W.heap[g]? = some (.cells cur 114 (0, 0))) ∧ RowAt W g o s.ws) ∧ OverAt W p o s.over ∧
    W.heap[p]? = some (.cells #[.slice b s.ws.length c, .int .i64 E.1, .int .i64 E.2, .int .i64 s.nodes, .int .i64 s.funcs, .int .i64 s.depth, o] 56 (0, 0)) := by
  obtain ⟨h0, v, o, h1, ⟨b, c, rfl, h3, h4, h5⟩, h6⟩ := h
  exact ⟨b, c, o, h3, h4, h5, h6, h1⟩
section
variable {W : World} {p : Nat} {a b c d e f g : Value} {T : TypeId}
theorem cells7 (h : W.heap[p]? = some (.cells #[a, b, c, d, e, f, g] T (0, 0))) : W.cell? ⟨p, 0, none⟩ = some a ∧ W.cell? ⟨p, 1, none⟩ = some b ∧ W.cell? ⟨p, 2, none⟩ = some c ∧ W.cell? ⟨p, 3, none⟩ = some d ∧
    W.cell? ⟨p, 4, none⟩ = some e ∧ W.cell? ⟨p, 5, none⟩ = some f ∧ W.cell? ⟨p, 6, none⟩ = some g ∧ ∀ i, W.frozen? ⟨p, i, none⟩ = false := by
  refine ⟨?_, ?_, ?_, ?_, ?_, ?_, ?_, ?_⟩ <;> simp [World.cell?, World.frozen?, h]
end
theorem at_alloc {W : World} {p : Nat} {x : Obj} (h : W.heap[p]? = some x) (o : Obj) : (W.alloc o).heap[p]? = some x := (Below.heap_alloc W o p (heap_lt h)).trans h
section
variable {W : World} {p : Nat} {a b c d e f g : Value} {T : TypeId}
theorem cells7a (h : W.heap[p]? = some (.cells #[a, b, c, d, e, f, g] T (0, 0))) : (∀ o, (W.alloc o).cell? ⟨p, 0, none⟩ = some a) ∧ (∀ o, (W.alloc o).cell? ⟨p, 1, none⟩ = some b) ∧ (∀ o, (W.alloc o).cell? ⟨p, 2, none⟩ = some c) ∧ (∀ o, (W.alloc o).cell? ⟨p, 3, none⟩ = some d) ∧
    (∀ o, (W.alloc o).cell? ⟨p, 4, none⟩ = some e) ∧ (∀ o, (W.alloc o).cell? ⟨p, 5, none⟩ = some f) ∧ (∀ o, (W.alloc o).cell? ⟨p, 6, none⟩ = some g) ∧ ∀ o i, (W.alloc o).frozen? ⟨p, i, none⟩ = false := by
  have h' := fun o => cells7 (at_alloc h o)
  exact ⟨fun o => (h' o).1, fun o => (h' o).2.1, fun o => (h' o).2.2.1, fun o => (h' o).2.2.2.1, fun o => (h' o).2.2.2.2.1, fun o => (h' o).2.2.2.2.2.1, fun o => (h' o).2.2.2.2.2.2.1, fun o => (h' o).2.2.2.2.2.2.2⟩
end
theorem cells5 {W : World} {p : Nat} {a b c d e : Value} {T : TypeId} (h : W.heap[p]? = some (.cells #[a, b, c, d, e] T (0, 0))) : W.cell? ⟨p, 0, none⟩ = some a ∧ W.cell? ⟨p, 1, none⟩ = some b ∧ W.cell? ⟨p, 2, none⟩ = some c ∧ W.cell? ⟨p, 3, none⟩ = some d ∧ W.cell? ⟨p, 4, none⟩ = some e := by
  refine ⟨?_, ?_, ?_, ?_, ?_⟩ <;> simp [World.cell?, h]
theorem cell_alloc {W : World} {a : Addr} {v : Value} (h : W.cell? a = some v) (o : Obj) : (W.alloc o).cell? a = some v := by
  rw [← h]
  exact World.cell?_of_block (Below.heap_alloc W o a.block (cell_lt h))
/-- the next word's place -/
theorem atZ (p : Nat) (E : Int × Int) (s : Sx) (w : World) (h : PrAt w p E s) : Calls Tryz.prog 48 #[.pointer (some ⟨p, 0, none⟩)] w (fun e w' => e = .returned (.agg #[.int .i64 (posOf E s.ws).1, .int .i64 (posOf E s.ws).2]) ∧ Below w.heap.size w w') := by
  obtain ⟨b, c, o, h1, h2, h3, h4, h5⟩ := h.cells
  obtain ⟨c0, c1, c2, c3, c4, c5, c6, cf⟩ := cells7a h5
  have hml : s.ws.length ≤ 9223372036854775807 := by unfold maxLen at h2; omega
  cases hw : s.ws with
  | nil =>
    rw [hw] at c0
    simp only [List.length_nil] at c0
    simp only [posOf]
    go_enter Tryz.func48, Tryz.ntmps48
    go_wp2_with fail
    have hP : PlcAt (w.alloc (.cells #[.int .i64 E.1, .int .i64 E.2] 26)) w.heap.size E := heap_alloc_new w _
    obtain ⟨u0, u1, -⟩ := hP.cells
    exact bodyPost_ret (v := .agg #[.int .i64 E.1, .int .i64 E.2]) (by simp [results, Tryz.results48, go_sem, u0, u1]) rfl ⟨rfl, belowAlloc _ _⟩
  | cons x xs =>
    obtain ⟨g, oo, rfl, hg, hgl, r0, r1, r2, r3, r4, -⟩ := (hw ▸ h3) (by simp)
    have r3a := cell_alloc r3
    have r4a := cell_alloc r4
    rw [hw] at c0 hml
    simp only [List.length_cons] at hml
    simp only [posOf]
    go_enter Tryz.func48, Tryz.ntmps48
    go_wp2_with fail
    have hP : PlcAt (w.alloc (.cells #[.int .i64 x.p.1, .int .i64 x.p.2] 26)) w.heap.size x.p := heap_alloc_new w _
    obtain ⟨u0, u1, -⟩ := hP.cells
    exact bodyPost_ret (v := .agg #[.int .i64 x.p.1, .int .i64 x.p.2]) (by simp [results, Tryz.results48, go_sem, u0, u1]) rfl ⟨rfl, belowAlloc _ _⟩
theorem isZ (p : Nat) (E : Int × Int) (s : Sx) (t : Bs) (w : World) (h : PrAt w p E s) : Calls Tryz.prog 55 #[.pointer (some ⟨p, 0, none⟩), str t] w (BB (isB s.ws t) w) := by
  obtain ⟨b, c, o, h1, h2, h3, h4, h5⟩ := h.cells
  obtain ⟨c0, c1, c2, c3, c4, c5, c6, cf⟩ := cells7 h5
  have hml : s.ws.length ≤ 9223372036854775807 := by unfold maxLen at h2; omega
  unfold BB str
  cases hw : s.ws with
  | nil =>
    rw [hw] at c0
    simp only [List.length_nil] at c0
    simp only [isB]
    go_enter Tryz.func55, Tryz.ntmps55
    go_wp2_with fail
    exact bodyPost_ret (v := .bool false) (by simp [results, Tryz.results55, go_sem]) rfl ⟨rfl, rfl⟩
  | cons x xs =>
    obtain ⟨g, oo, rfl, hg, hgl, r0, r1, r2, r3, r4, -⟩ := (hw ▸ h3) (by simp)
    rw [hw] at c0 hml
    simp only [List.length_cons] at hml
    simp only [isB]
    go_enter Tryz.func55, Tryz.ntmps55
    go_wp2_with fail
    all_goals refine bodyPost_ret (v := .bool (x.d.t == t && decide (3 ≤ x.d.k))) (by simp [results, Tryz.results55, go_sem, *]) rfl ⟨rfl, rfl⟩
/-- the rest of the words -/
theorem takeZ (p : Nat) (E : Int × Int) (s : Sx) (w : World) (h : PrAt w p E s) (hne : s.ws ≠ []) : Calls Tryz.prog 57 #[.pointer (some ⟨p, 0, none⟩)] w
    (Post p E w (fun _ _ v (x : It) => v = .agg #[.int .i64 x.d.k, str x.d.t, .int .i64 x.d.n, .int .i64 x.p.1, .int .i64 x.p.2]) (takeP s)) := by
  obtain ⟨b, c, o, h1, h2, h3, h4, h5⟩ := h.cells
  obtain ⟨c0, c1, c2, c3, c4, c5, c6, cf⟩ := cells7a h5
  unfold takeP str
  cases hw : s.ws with
  | nil => exact absurd hw hne
  | cons x xs =>
    obtain ⟨g, oo, rfl, hg, ⟨cur, hgl⟩, r0, r1, r2, r3, r4, r5⟩ := (hw ▸ h3) (by simp)
    have hml : s.ws.length ≤ 9223372036854775807 := by unfold maxLen at h2; omega
    have hc : xs.length + 1 ≤ c := by simpa [hw] using h1
    have hc2 : c ≤ 9223372036854775807 := by unfold maxLen at h2; omega
    have r0a := cell_alloc r0
    have r1a := cell_alloc r1
    have r2a := cell_alloc r2
    have r3a := cell_alloc r3
    have r4a := cell_alloc r4
    rw [hw] at c0 hml
    simp only [List.length_cons] at hml c0
    have d0 := fun o o' => (cells7 (at_alloc (at_alloc h5 o) o')).1
    have df := fun o o' => (cells7 (at_alloc (at_alloc h5 o) o')).2.2.2.2.2.2.2
    rw [hw] at d0
    simp only [List.length_cons] at d0
    clear c1 c2 c3 c4 c5 c6
    have hbx : ∀ o a b c d e v, (((w.alloc o).alloc (.cells #[a, b, c, d, e] 114)).setCell ⟨p, 0, none⟩ v).heap[w.heap.size + 1]? = some (.cells #[a, b, c, d, e] 114 (0, 0)) := fun o a b c d e v =>
      (set_other (by have := heap_lt h5; omega)).trans (by have := heap_alloc_new (w.alloc o) (.cells #[a, b, c, d, e] 114); simpa using this)
    have e0 := fun o a b c d e v => (cells5 (hbx o a b c d e v)).1
    have e1 := fun o a b c d e v => (cells5 (hbx o a b c d e v)).2.1
    have e2 := fun o a b c d e v => (cells5 (hbx o a b c d e v)).2.2.1
    have e3 := fun o a b c d e v => (cells5 (hbx o a b c d e v)).2.2.2.1
    have e4 := fun o a b c d e v => (cells5 (hbx o a b c d e v)).2.2.2.2
    clear hbx
    have hbz : ∀ a b c d e o v, (((w.alloc (.cells #[a, b, c, d, e] 114)).alloc o).setCell ⟨p, 0, none⟩ v).heap[w.heap.size]? = some (.cells #[a, b, c, d, e] 114 (0, 0)) := fun a b c d e o v =>
      (set_other (by have := heap_lt h5; omega)).trans (at_alloc (heap_alloc_new w (.cells #[a, b, c, d, e] 114)) o)
    have z0 := fun a b c d e o v => (cells5 (hbz a b c d e o v)).1
    have z1 := fun a b c d e o v => (cells5 (hbz a b c d e o v)).2.1
    have z2 := fun a b c d e o v => (cells5 (hbz a b c d e o v)).2.2.1
    have z3 := fun a b c d e o v => (cells5 (hbz a b c d e o v)).2.2.2.1
    have z4 := fun a b c d e o v => (cells5 (hbz a b c d e o v)).2.2.2.2
    have zf : ∀ a b c d e o v i, (((w.alloc (.cells #[a, b, c, d, e] 114)).alloc o).setCell ⟨p, 0, none⟩ v).frozen? ⟨w.heap.size, i, none⟩ = false := fun a b c d e o v i => by simp [World.frozen?, hbz a b c d e o v]
    clear hbz
    have fin : ∀ (b' : Option Addr) (c' : Nat) (o1 : Obj) (a b c d e a' b' c' d' e' : Value) (bb : Option Addr) (cc : Nat), xs.length ≤ cc → cc ≤ maxLen → (xs ≠ [] → bb = some ⟨g, oo + 5, none⟩) →
        PrAt ((((((((w.alloc (.cells #[a', b', c', d', e'] 114)).alloc o1).setCell ⟨p, 0, none⟩ (.slice bb xs.length cc)).setCell ⟨w.heap.size, 0, none⟩ a).setCell ⟨w.heap.size, 1, none⟩ b).setCell ⟨w.heap.size, 2, none⟩ c).setCell ⟨w.heap.size, 3, none⟩ d).setCell ⟨w.heap.size, 4, none⟩ e) p E { s with ws := xs } ∧
        Mv (fun k => k = p) w ((((((((w.alloc (.cells #[a', b', c', d', e'] 114)).alloc o1).setCell ⟨p, 0, none⟩ (.slice bb xs.length cc)).setCell ⟨w.heap.size, 0, none⟩ a).setCell ⟨w.heap.size, 1, none⟩ b).setCell ⟨w.heap.size, 2, none⟩ c).setCell ⟨w.heap.size, 3, none⟩ d).setCell ⟨w.heap.size, 4, none⟩ e) ∧
        ((((((((w.alloc (.cells #[a', b', c', d', e'] 114)).alloc o1).setCell ⟨p, 0, none⟩ (.slice bb xs.length cc)).setCell ⟨w.heap.size, 0, none⟩ a).setCell ⟨w.heap.size, 1, none⟩ b).setCell ⟨w.heap.size, 2, none⟩ c).setCell ⟨w.heap.size, 3, none⟩ d).setCell ⟨w.heap.size, 4, none⟩ e).heap[w.heap.size]? = some (.cells #[a, b, c, d, e] 114 (0, 0)) := by
      intro b' c' o1 a b c d e a' b' c' d' e' bb cc g1 g2 g3
      have hpl := heap_lt h5
      have m : Mv (fun k => k = p) w ((((((((w.alloc (.cells #[a', b', c', d', e'] 114)).alloc o1).setCell ⟨p, 0, none⟩ (.slice bb xs.length cc)).setCell ⟨w.heap.size, 0, none⟩ a).setCell ⟨w.heap.size, 1, none⟩ b).setCell ⟨w.heap.size, 2, none⟩ c).setCell ⟨w.heap.size, 3, none⟩ d).setCell ⟨w.heap.size, 4, none⟩ e) :=
        (((((((Mv.alloc (X := fun k => k = p) _ _).more _).setIn (X := fun k => k = p) rfl).setNew (Nat.le_refl _)).setNew (Nat.le_refl _)).setNew (Nat.le_refl _)).setNew (Nat.le_refl _)).setNew (Nat.le_refl _)
      have hne' : p ≠ w.heap.size := by omega
      refine ⟨⟨⟨h.1.1, h.1.2.1.mv m (fun k hk e => by have := h.1.1; omega), (hw ▸ h.1.2.2).tail⟩, _, o, (set_other hne').trans ((set_other hne').trans ((set_other hne').trans ((set_other hne').trans ((set_other hne').trans (set_same (at_alloc (at_alloc h5 _) o1)))))), ⟨bb, cc, rfl, g1, g2, fun hx => ⟨g, oo + 5, g3 hx, hg, ⟨cur, (m.same g (heap_lt hgl) hg).trans hgl⟩, r5.same (m.same g (heap_lt hgl) hg)⟩⟩, h4.mv m⟩, m, ?_⟩
      exact set_same (set_same (set_same (set_same (set_same ((set_other (by omega)).trans (at_alloc (heap_alloc_new w _) o1))))))
    go_enter Tryz.func57, Tryz.ntmps57
    go_wp2_with fail
    all_goals
      obtain ⟨hP, hm, hz⟩ := fin none 0 (.cells #[.int .i64 x.d.k, .string ⟨x.d.t.toArray⟩, .int .i64 x.d.n, .int .i64 x.p.1, .int .i64 x.p.2] 114) (.int .i64 x.d.k) (.string ⟨x.d.t.toArray⟩) (.int .i64 x.d.n) (.int .i64 x.p.1) (.int .i64 x.p.2) (.int .i64 0) (.string ⟨#[]⟩) (.int .i64 0) (.int .i64 0) (.int .i64 0) (if c = 1 then some ⟨g, oo, none⟩ else some ⟨g, oo + 5, none⟩) (c - 1) (by omega) (by omega) (fun hx => by
        have := List.length_pos_iff.2 hx
        rw [if_neg (by omega)])
      simp only [*, if_true, if_false, Nat.sub_self] at hP hm hz
      obtain ⟨u0, u1, u2, u3, u4⟩ := cells5 hz
      exact bodyPost_ret (v := .agg #[.int .i64 x.d.k, .string ⟨x.d.t.toArray⟩, .int .i64 x.d.n, .int .i64 x.p.1, .int .i64 x.p.2]) (by simp [results, Tryz.results57, go_sem, u0, u1, u2, u3, u4]) rfl ⟨hm, hP, _, rfl, rfl⟩
theorem mayZ (p : Nat) (E : Int × Int) (s : Sx) (t : Bs) (w : World) (h : PrAt w p E s) : Calls Tryz.prog 49 #[.pointer (some ⟨p, 0, none⟩), str t] w (Post p E w (fun _ _ v b => v = .bool b) (mayP t s)) := by
  have C1 := isZ p E s t w h
  have C2 := takeZ p E s w h
  unfold mayP str BB at *
  cases hb : isB s.ws t
  · rw [hb] at C1
    simp only [Bool.false_eq_true, if_false]
    go_enter Tryz.func49, Tryz.ntmps49
    go_wp2_with fail
    refine C1.mono ?_
    rintro e w' ⟨rfl, rfl⟩
    go_wp2_with fail
    exact bodyPost_ret (v := .bool false) (by simp [results, Tryz.results49, go_sem]) rfl ⟨Mv.refl _ _, h, _, rfl, rfl⟩
  · have hne : s.ws ≠ [] := by intro h0; rw [h0] at hb; simp [isB] at hb
    replace C2 := C2 hne
    obtain ⟨x, xs, hw⟩ : ∃ x xs, s.ws = x :: xs := List.exists_cons_of_ne_nil hne
    unfold takeP at C2
    simp only [hw] at C2
    rw [hb] at C1
    simp only [if_true]
    go_enter Tryz.func49, Tryz.ntmps49
    go_wp2_with fail
    refine C1.mono ?_
    rintro e w' ⟨rfl, rfl⟩
    go_wp2_with fail
    refine C2.mono ?_
    rintro e w1 ⟨hm, hP, v, rfl, -⟩
    go_wp2_with fail
    refine bodyPost_ret (v := .bool true) (by simp [results, Tryz.results49, go_sem]) rfl ⟨hm, ?_, _, rfl, rfl⟩
    rw [hw]
    exact hP
theorem failZ (p : Nat) (E : Int × Int) (s : Sx) (w : World) (h : PrAt w p E s) : Calls Tryz.prog 76 #[.pointer (some ⟨p, 0, none⟩), .int .i64 4] w (Post p E w (fun _ _ _ (_ : Unit) => False) (failP s)) := by
  have C1 := atZ p E s w h
  go_enter Tryz.func76, Tryz.ntmps76
  go_wp2_with fail
  refine C1.mono ?_
  rintro e w1 ⟨rfl, hb⟩
  go_wp2_with fail
  exact ⟨rfl, Mv.below hb, rfl, _, h.below hb⟩
end Go.Proofs.YtjgpbpmicopemaaGreatDoor

/-
  More of the parser's small functions.
-/
namespace Go.Proofs.YtjgpbpmicopemaaGreatDoor
open Go.RowKit Go.Shelf

set_option maxRecDepth 20000
theorem field114_0 (a b c d e : Value) (w : World) : Sem.run Tryz.prog (Instr.field 114 (.agg #[a, b, c, d, e]) 0) w = .ok a w := by kernel_rfl
theorem field114_1 (a b c d e : Value) (w : World) : Sem.run Tryz.prog (Instr.field 114 (.agg #[a, b, c, d, e]) 1) w = .ok b w := by kernel_rfl
theorem field114_2 (a b c d e : Value) (w : World) : Sem.run Tryz.prog (Instr.field 114 (.agg #[a, b, c, d, e]) 2) w = .ok c w := by kernel_rfl
theorem PrAt.kind {W : World} {p : Nat} {E : Int × Int} {s : Sx} (h : PrAt W p E s) : OkWs s.ws := h.1.2.2
theorem mustZ (p : Nat) (E : Int × Int) (s : Sx) (t : Bs) (w : World) (h : PrAt w p E s) : Calls Tryz.prog 53 #[.pointer (some ⟨p, 0, none⟩), str t] w (Post p E w (fun _ _ _ (_ : Unit) => True) (mustP t s)) := by
  have C1 := mayZ p E s t w h
  unfold mustP mayP str at *
  cases hb : isB s.ws t
  · simp only [hb, Bool.false_eq_true, if_false] at C1 ⊢
    have C2 := fun w' h' => failZ p E s w' h'
    go_enter Tryz.func53, Tryz.ntmps53
    go_wp2_with fail
    refine C1.mono ?_
    rintro e w1 ⟨hm, hP, v, rfl, rfl⟩
    go_wp2_with fail
    refine (C2 _ hP).mono ?_
    rintro e w2 ⟨hm2, rfl, hP2⟩
    go_wp2_with fail
    exact ⟨rfl, hm.trans hm2, rfl, hP2⟩
  · simp only [hb, if_true] at C1 ⊢
    go_enter Tryz.func53, Tryz.ntmps53
    go_wp2_with fail
    refine C1.mono ?_
    rintro e w1 ⟨hm, hP, v, rfl, rfl⟩
    go_wp2_with fail
    go_end0
    exact ⟨hm, hP, _, rfl, trivial⟩
theorem limitZ (p : Nat) (E : Int × Int) (s : Sx) (b : Bool) (w : World) (h : PrAt w p E s) : Calls Tryz.prog 56 #[.pointer (some ⟨p, 0, none⟩), .bool b] w (Post p E w (fun _ _ _ (_ : Unit) => True) (limitP b s)) := by
  have C1 := fun w' h' => atZ p E s w' h'
  obtain ⟨bb, c, o, h1, h2, h3, h4, h5⟩ := h.cells
  obtain ⟨c0, c1, c2, c3, c4, c5, c6, cf⟩ := cells7 h5
  unfold limitP
  cases b
  · cases ho : s.over
    · rw [ho] at h4
      unfold OverAt at h4
      subst h4
      simp only [Bool.not_false, Bool.or_true]
      go_enter Tryz.func56, Tryz.ntmps56
      go_wp2_with fail
      refine (C1 _ h).mono ?_
      rintro e w1 ⟨rfl, hb⟩
      have hP := h.below hb
      obtain ⟨bb', c', o', h1', h2', h3', h4', h5'⟩ := hP.cells
      have d6 := fun o => (cells7 (at_alloc h5' o)).2.2.2.2.2.2.1
      have df := fun o => (cells7 (at_alloc h5' o)).2.2.2.2.2.2.2
      go_wp2_with fail
      go_end0
      have hP1 : PrAt (w1.alloc (.cells #[.int .i64 (posOf E s.ws).1, .int .i64 (posOf E s.ws).2] 26)) p E s := hP.below (belowAlloc _ _)
      have := hP1.lt
      exact ⟨((Mv.below hb).more _).setIn rfl, hP1.putOver (by have := hP.lt; omega) (heap_alloc_new w1 _), _, rfl, trivial⟩
    · rw [ho] at h4
      obtain ⟨q, pos, rfl, hq, hq2⟩ := id h4
      simp only [Bool.not_false, Bool.or_true]
      go_enter Tryz.func56, Tryz.ntmps56
      go_wp2_with fail
      go_end0
      refine ⟨Mv.refl _ _, ?_, _, rfl, trivial⟩
      rw [← ho]
      exact h
  · simp only [Bool.not_true, Bool.or_false]
    go_enter Tryz.func56, Tryz.ntmps56
    go_wp2_with fail
    go_end0
    exact ⟨Mv.refl _ _, h, _, rfl, trivial⟩
theorem nodeZ (p : Nat) (E : Int × Int) (s : Sx) (t : Int) (w : World) (h : PrAt w p E s) : Calls Tryz.prog 108 #[.pointer (some ⟨p, 0, none⟩), .int .i64 t] w (Post p E w (fun _ _ v (_ : Unit) => v = .int .i64 t) (.ok () (s.node t))) := by
  obtain ⟨bb, c, o, h1, h2, h3, h4, h5⟩ := h.cells
  obtain ⟨c0, c1, c2, c3, c4, c5, c6, cf⟩ := cells7 h5
  have hm : Mv (fun k => k = p) w (w.setCell ⟨p, 3, none⟩ (.int .i64 (wrap64 (s.nodes + 1)))) := Mv.setCell _ _ rfl
  have C1 := fun b => limitZ p E _ b _ (h.putNodes (wrap64 (s.nodes + 1)))
  by_cases hc : wrap64 (s.nodes + 1) ≤ 20000
  · go_enter Tryz.func108, Tryz.ntmps108
    go_wp2_with fail
    refine (C1 _).mono ?_
    rintro e w1 ⟨hm1, hP, v, rfl, -⟩
    go_wp2_with fail
    refine bodyPost_ret (v := .int .i64 t) (by simp [results, Tryz.results108, go_sem]) rfl ⟨hm.trans hm1, ?_, _, rfl, rfl⟩
    simpa only [Sx.node, inc, hc, decide_true, Bool.true_and] using hP
  · go_enter Tryz.func108, Tryz.ntmps108
    go_wp2_with fail
    refine (C1 _).mono ?_
    rintro e w1 ⟨hm1, hP, v, rfl, -⟩
    go_wp2_with fail
    refine bodyPost_ret (v := .int .i64 t) (by simp [results, Tryz.results108, go_sem]) rfl ⟨hm.trans hm1, ?_, _, rfl, rfl⟩
    have hd : (wrap64 (s.nodes + 1) ≤ 20000) = False := eq_false (by omega)
    simpa only [Sx.node, inc, hd, decide_false, Bool.false_and] using hP
theorem nameZ (p : Nat) (E : Int × Int) (s : Sx) (w : World) (h : PrAt w p E s) : Calls Tryz.prog 50 #[.pointer (some ⟨p, 0, none⟩)] w (Post p E w (fun _ _ v t => v = str t) (nameP s)) := by
  have C1 := takeZ p E s w h
  have C2 := failZ p E s w h
  obtain ⟨bb, c, o, h1, h2, h3, h4, h5⟩ := h.cells
  obtain ⟨c0, c1, c2, c3, c4, c5, c6, cf⟩ := cells7 h5
  have hml : s.ws.length ≤ 9223372036854775807 := by unfold maxLen at h2; omega
  unfold nameP
  cases hw : s.ws with
  | nil =>
    rw [hw] at c0
    simp only [List.length_nil] at c0
    go_enter Tryz.func50, Tryz.ntmps50
    go_wp2_with fail
    refine C2.mono ?_
    rintro e w2 ⟨hm2, rfl, hP2⟩
    go_wp2_with fail
    exact ⟨rfl, hm2, by rw [hw], hP2⟩
  | cons x xs =>
    obtain ⟨g, oo, rfl, hg, hgl, r0, r1, r2, r3, r4, r5⟩ := (hw ▸ h3) (by simp)
    unfold takeP at C1
    simp only [hw] at C1
    replace C1 := C1 (by simp)
    rw [hw] at c0 hml
    simp only [List.length_cons] at c0 hml
    by_cases hk : x.d.k = 1
    · simp only [hk, if_true]
      go_enter Tryz.func50, Tryz.ntmps50
      go_wp2_with fail
      refine C1.mono ?_
      rintro e w2 ⟨hm2, hP2, v, rfl, rfl⟩
      unfold str
      have hfd := field114_1
      go_wp2_with fail
      exact bodyPost_ret (v := .string ⟨x.d.t.toArray⟩) (by simp [results, Tryz.results50, go_sem]) rfl ⟨hm2, hP2, _, rfl, rfl⟩
    · simp only [hk, if_false]
      have hk' : (x.d.k != 1) = true := by simpa using hk
      have hl' : ((xs.length : Int) + 1 == 0) = false := by simp; omega
      go_enter Tryz.func50, Tryz.ntmps50
      go_wp2_with fail
      refine C2.mono ?_
      rintro e w2 ⟨hm2, rfl, hP2⟩
      go_wp2_with fail
      exact ⟨rfl, hm2, by rw [hw], hP2⟩
theorem grow_mv (w : World) (os : Array Obj) : Mv (fun _ => False) w (Go.Sort.grow w os) := ⟨rfl, rfl, rfl, by simp [Go.Sort.grow], fun k hk _ => by simp [Go.Sort.grow, Array.getElem?_append_left hk]⟩
theorem Mv.weak {X : Nat → Prop} {w w' : World} (h : Mv (fun _ => False) w w') : Mv X w w' := h.mono (fun _ _ h => h.elim)
theorem PrAt.none {W W' : World} {p : Nat} {E : Int × Int} {s : Sx} (h : PrAt W p E s) (m : Mv (fun _ => False) W W') : PrAt W' p E s := h.mv m.weak (m.same p h.lt (fun h => h))
theorem numT (n : Int) (h0 : -9223372036854775808 ≤ n) (h1 : n ≤ 9223372036854775807) (w : World) (htab : Lib.TabIs Tryz.prog w "internal/strconv.uint64pow10" .u64 Lib.pow10Tab) :
    Calls Tryz.prog 87 #[.int .i64 n] w fun e w' => e = .returned (str (Lib.itoa n)) ∧ Mv (fun _ => False) w w' := by
  have C := Tryz.strconv_FormatInt_10 n h0 h1 w htab
  unfold str
  go_enter Tryz.func87, Tryz.ntmps87
  go_wp2_with fail
  refine C.mono ?_
  rintro e w1 ⟨rfl, k, os, rfl⟩
  go_wp2_with fail
  exact bodyPost_ret (v := .string ⟨(Lib.itoa n).toArray⟩) (by simp [results, Tryz.results87, go_sem]) rfl ⟨rfl, (Mv.below (below_drewN (Below.refl _ _) k)).trans (grow_mv _ _)⟩
theorem numberZ (p : Nat) (E : Int × Int) (s : Sx) (w : World) (h : PrAt w p E s) : Calls Tryz.prog 78 #[.pointer (some ⟨p, 0, none⟩)] w (Post p E w (fun _ _ v t => v = str t) (numP s)) := by
  have C1 := takeZ p E s w h
  have C2 := failZ p E s w h
  obtain ⟨bb, c, o, h1, h2, h3, h4, h5⟩ := h.cells
  obtain ⟨c0, c1, c2, c3, c4, c5, c6, cf⟩ := cells7 h5
  have hml : s.ws.length ≤ 9223372036854775807 := by unfold maxLen at h2; omega
  unfold numP
  cases hw : s.ws with
  | nil =>
    rw [hw] at c0
    simp only [List.length_nil] at c0
    go_enter Tryz.func78, Tryz.ntmps78
    go_wp2_with fail
    refine C2.mono ?_
    rintro e w2 ⟨hm2, rfl, hP2⟩
    go_wp2_with fail
    exact ⟨rfl, hm2, by rw [hw], hP2⟩
  | cons x xs =>
    obtain ⟨g, oo, rfl, hg, hgl, r0, r1, r2, r3, r4, r5⟩ := (hw ▸ h3) (by simp)
    have hx := h.1.2.2.2 x (by rw [hw]; simp)
    unfold takeP at C1
    simp only [hw] at C1
    replace C1 := C1 (by simp)
    rw [hw] at c0 hml
    simp only [List.length_cons] at c0 hml
    by_cases hk : x.d.k = 2
    · simp only [hk, if_true]
      go_enter Tryz.func78, Tryz.ntmps78
      go_wp2_with fail
      refine C1.mono ?_
      rintro e w2 ⟨hm2, hP2, v, rfl, rfl⟩
      unfold str
      have hfd := field114_2
      go_wp2_with fail
      refine (numT _ hx.n1 hx.n2 _ hP2.1.2.1.tab).mono ?_
      rintro e w3 ⟨rfl, hm3⟩
      unfold str
      go_wp2_with fail
      exact bodyPost_ret (v := .string ⟨(Lib.itoa x.d.n).toArray⟩) (by simp [results, Tryz.results78, go_sem]) rfl ⟨hm2.trans hm3.weak, hP2.none hm3, _, rfl, rfl⟩
    · simp only [hk, if_false]
      have hk' : (x.d.k != 2) = true := by simpa using hk
      have hl' : ((xs.length : Int) + 1 == 0) = false := by simp; omega
      go_enter Tryz.func78, Tryz.ntmps78
      go_wp2_with fail
      refine C2.mono ?_
      rintro e w2 ⟨hm2, rfl, hP2⟩
      go_wp2_with fail
      exact ⟨rfl, hm2, by rw [hw], hP2⟩
theorem deeperEndZ (p : Nat) (E : Int × Int) (s : Sx) (w : World) (q : Nat) (h : PrAt w p E s) (hb : w.cell? ⟨q, 0, none⟩ = some (.pointer (some ⟨p, 0, none⟩))) : Calls Tryz.prog 105 #[.pointer (some ⟨q, 0, none⟩)] w fun e w' => e = .returned (.tuple #[]) ∧ PrAt w' p E s.up ∧ Mv (fun k => k = p) w w' := by
  obtain ⟨bb, c, o, h1, h2, h3, h4, h5⟩ := h.cells
  obtain ⟨c0, c1, c2, c3, c4, c5, c6, cf⟩ := cells7 h5
  go_enter Tryz.func105, Tryz.ntmps105
  go_wp2_with fail
  go_end0
  exact ⟨rfl, h.putDepth _, Mv.setCell _ _ rfl⟩
theorem deeperZ (p : Nat) (E : Int × Int) (s : Sx) (w : World) (h : PrAt w p E s) : Calls Tryz.prog 80 #[.pointer (some ⟨p, 0, none⟩)] w fun e w' => (∃ q, e = .returned (.func (.func 105) #[] #[.pointer (some ⟨q, 0, none⟩)]) ∧ q ≠ p ∧ w.heap.size ≤ q ∧ w'.cell? ⟨q, 0, none⟩ = some (.pointer (some ⟨p, 0, none⟩))) ∧ PrAt w' p E s.down ∧ Mv (fun k => k = p) w w' := by
  obtain ⟨bb, c, o, h1, h2, h3, h4, h5⟩ := h.cells
  obtain ⟨c0, c1, c2, c3, c4, c5, c6, cf⟩ := cells7a h5
  have hmf : ∀ (fn : Fn) (first cap : Array Value) (w : World), (Instr.makeFunc fn first cap).run Tryz.prog w = .ok (.func fn first cap) w := fun _ _ _ _ => rfl
  have hlt := h.lt
  have hP1 : PrAt ((w.setCell ⟨p, 5, none⟩ (.int .i64 (wrap64 (s.depth + 1)))).alloc (.cells #[.pointer (some ⟨p, 0, none⟩)] 52)) p E _ := (h.putDepth (wrap64 (s.depth + 1))).below (belowAlloc _ _)
  have hbx : ((w.setCell ⟨p, 5, none⟩ (.int .i64 (wrap64 (s.depth + 1)))).alloc (.cells #[.pointer (some ⟨p, 0, none⟩)] 52)).heap[w.heap.size]? = some (.cells #[.pointer (some ⟨p, 0, none⟩)] 52 (0, 0)) := by
    have := heap_alloc_new (w.setCell ⟨p, 5, none⟩ (.int .i64 (wrap64 (s.depth + 1)))) (.cells #[.pointer (some ⟨p, 0, none⟩)] 52)
    simpa using this
  have hm0 : Mv (fun k => k = p) w ((w.setCell ⟨p, 5, none⟩ (.int .i64 (wrap64 (s.depth + 1)))).alloc (.cells #[.pointer (some ⟨p, 0, none⟩)] 52)) := (Mv.setCell (X := fun k => k = p) _ _ rfl).more _
  go_enter Tryz.func80, Tryz.ntmps80
  go_wp2_with fail
  generalize (w.setCell ⟨p, 5, none⟩ (.int .i64 (wrap64 (s.depth + 1)))).alloc (.cells #[.pointer (some ⟨p, 0, none⟩)] 52) = w0 at *
  have hP2 : PrAt w0.drew p E _ := hP1.none (Mv.drew w0)
  have C1 := fun b => limitZ p E _ b _ hP2
  have hbc : w0.cell? ⟨w.heap.size, 0, none⟩ = some (.pointer (some ⟨p, 0, none⟩)) := by unfold World.cell?; rw [hbx]; rfl
  obtain ⟨_, _, _, -, -, -, -, hh5⟩ := hP1.cells
  have d5 := (cells7 hh5).2.2.2.2.2.1
  simp only at d5
  have key : ∀ w1, Mv (fun k => k = p) w0.drew w1 → w1.cell? ⟨w.heap.size, 0, none⟩ = some (.pointer (some ⟨p, 0, none⟩)) ∧ Mv (fun k => k = p) w w1 := fun w1 m => by
    refine ⟨?_, (hm0.trans (Mv.drew w0)).trans m⟩
    rw [← hbc]
    exact World.cell?_of_block (((Mv.drew w0).trans m).same _ (heap_lt hbx) (fun e => by have e' : w.heap.size = p := e; omega))
  clear c0 c1 c2 c3 c4 c5 c6 cf hbx hm0
  go_region_with (first | (go_at_call 56; refine (C1 _).mono ?_; rintro e w1 ⟨hm1, hP, v, rfl, -⟩; (have hk := key _ hm1)))
  all_goals go_wp2_with fail
  all_goals exact bodyPost_ret (v := .func (.func 105) #[] #[.pointer (some ⟨w.heap.size, 0, none⟩)]) (by simp [results, Tryz.results80, go_sem]) rfl ⟨⟨w.heap.size, rfl, by omega, Nat.le_refl _, hk.1⟩, hP, hk.2⟩
end Go.Proofs.YtjgpbpmicopemaaGreatDoor

/-
  The parser's any, typed, level.
-/
namespace Go.Proofs.YtjgpbpmicopemaaGreatDoor
open Go.RowKit Go.Shelf
set_option maxRecDepth 20000

/-- blocks laid one behind the other -/
def allocs : World → List Obj → World
  | w, [] => w
  | w, o :: os => allocs (w.alloc o) os
theorem allocs_below : ∀ (os : List Obj) (w : World), Below w.heap.size w (allocs w os)
  | [], w => Below.refl _ _
  | o :: os, w => ((Below.refl _ _).alloc (Nat.le_refl _) o).trans ((allocs_below os (w.alloc o)).mono (by simp))
theorem allocs_get : ∀ (os : List Obj) (w : World) (k : Nat) (o : Obj), os[k]? = some o → (allocs w os).heap[w.heap.size + k]? = some o
  | [], _, _, _, h => by simp at h
  | o :: os, w, 0, o', h => by
    simp at h
    subst h
    exact ((allocs_below os (w.alloc o)).block _ (by simp)).trans (heap_alloc_new w o)
  | o :: os, w, k + 1, o', h => by
    have := allocs_get os (w.alloc o) k o' (by simpa using h)
    have e : (w.alloc o).heap.size + k = w.heap.size + (k + 1) := by simp; omega
    rw [e] at this
    exact this
/-- a list of texts as a block -/
def rowOf (l : List Bs) : Obj := .cells (l.map str).toArray 9 (0, 0)
theorem row_cells {W : World} {g : Nat} {l : List Bs} (h : W.heap[g]? = some (rowOf l)) : ∀ i (hi : i < l.length), W.cell? ⟨g, i, none⟩ = some (str l[i]) := fun i hi => by
  simp [World.cell?, h, rowOf, hi]
theorem anyB_step (ws : List It) (l : List Bs) (k : Nat) (hk : k < l.length) : anyB ws (l.drop k) = (isB ws l[k] || anyB ws (l.drop (k + 1))) := by
  unfold anyB
  rw [List.drop_eq_getElem_cons hk, List.any_cons]
theorem anyZ (p : Nat) (E : Int × Int) (s : Sx) (l : List Bs) (g : Nat) (w : World) (h : PrAt w p E s) (hl : l.length ≤ 1000) (hc : ∀ i (h : i < l.length), w.cell? ⟨g, i, none⟩ = some (str l[i])) : Calls Tryz.prog 102 #[.pointer (some ⟨p, 0, none⟩), .slice (some ⟨g, 0, none⟩) l.length l.length] w (BB (anyB s.ws l) w) := by
  have C1 := fun t => isZ p E s t w h
  unfold BB str at *
  go_enter Tryz.func102, Tryz.ntmps102
  go_wp2_with fail
  go_loopg [6, 9] l.length (fun g s6 s9 wr => ∃ k : Nat, k ≤ l.length ∧ l.length - k ≤ g ∧ s9 = .int .i64 k ∧ anyB s.ws l = anyB s.ws (l.drop k) ∧ wr = w)
  case atStart => exact ⟨0, by omega, by omega, rfl, by simp, rfl⟩
  case round =>
    obtain ⟨k, hk, hg, rfl, he, rfl⟩ := hrel
    by_cases hlt : k < l.length
    · have hck := hc k hlt
      have hk2 : wrap64 ((k : Int) + 1) = ((k + 1 : Nat) : Int) := by unfold wrap64; omega
      cases hb : isB s.ws l[k]
      · have C2 := C1 l[k]
        rw [hb] at C2
        have he2 : anyB s.ws l = anyB s.ws (l.drop (k + 1)) := by rw [he, anyB_step _ _ _ hlt, hb]; rfl
        clear he
        go_wp2_with fail
        refine C2.mono ?_
        rintro e w' ⟨rfl, rfl⟩
        go_wp2_with fail
        go_roundg (l.length - (k + 1))
        case measure => omega
        case rel => exact ⟨k + 1, by omega, by omega, by simp, he2, rfl⟩
      · have C2 := C1 l[k]
        rw [hb] at C2
        have he2 : anyB s.ws l = true := by rw [he, anyB_step _ _ _ hlt, hb]; rfl
        clear he
        go_wp2_with fail
        refine C2.mono ?_
        rintro e w' ⟨rfl, rfl⟩
        go_wp2_with fail
        exact bodyPost_ret (v := .bool true) (by simp [results, Tryz.results102, go_sem]) rfl ⟨by rw [he2], rfl⟩
    · have hkl : k = l.length := by omega
      subst hkl
      have he2 : anyB s.ws l = false := by rw [he]; simp [anyB]
      clear he
      go_wp2_with fail
      exact bodyPost_ret (v := .bool false) (by simp [results, Tryz.results102, go_sem]) rfl ⟨by rw [he2], rfl⟩
theorem typedZ (p : Nat) (E : Int × Int) (s : Sx) (w : World) (h : PrAt w p E s) : Calls Tryz.prog 77 #[.pointer (some ⟨p, 0, none⟩)] w (fun e w' => e = .returned (.bool (typedB s.ws)) ∧ Below w.heap.size w w') := by
  have C1 := anyZ p E s typeWs w.heap.size _ (h.below (belowAlloc w (rowOf typeWs))) (by decide) (row_cells (heap_alloc_new w _))
  unfold BB rowOf str at C1
  simp only [typeWs, List.length_cons, List.length_nil, List.map_cons, List.map_nil] at C1
  go_enter Tryz.func77, Tryz.ntmps77
  go_wp2_with fail
  refine C1.mono ?_
  rintro e w' ⟨rfl, rfl⟩
  go_wp2_with fail
  exact bodyPost_ret (v := .bool (typedB s.ws)) (by simp [results, Tryz.results77, go_sem, typedB, typeWs]) rfl ⟨rfl, belowAlloc _ _⟩
theorem idx184_0 (v0 v1 v2 v3 v4 v5 v6 v7 v8 v9 : Value) (w : World) : Sem.run Tryz.prog (Instr.index 184 (.agg #[v0, v1, v2, v3, v4, v5, v6, v7, v8, v9]) (.int .i64 0)) w = .ok v0 w := by kernel_rfl
theorem idx184_1 (v0 v1 v2 v3 v4 v5 v6 v7 v8 v9 : Value) (w : World) : Sem.run Tryz.prog (Instr.index 184 (.agg #[v0, v1, v2, v3, v4, v5, v6, v7, v8, v9]) (.int .i64 1)) w = .ok v1 w := by kernel_rfl
theorem idx184_2 (v0 v1 v2 v3 v4 v5 v6 v7 v8 v9 : Value) (w : World) : Sem.run Tryz.prog (Instr.index 184 (.agg #[v0, v1, v2, v3, v4, v5, v6, v7, v8, v9]) (.int .i64 2)) w = .ok v2 w := by kernel_rfl
theorem idx184_3 (v0 v1 v2 v3 v4 v5 v6 v7 v8 v9 : Value) (w : World) : Sem.run Tryz.prog (Instr.index 184 (.agg #[v0, v1, v2, v3, v4, v5, v6, v7, v8, v9]) (.int .i64 3)) w = .ok v3 w := by kernel_rfl
theorem idx184_4 (v0 v1 v2 v3 v4 v5 v6 v7 v8 v9 : Value) (w : World) : Sem.run Tryz.prog (Instr.index 184 (.agg #[v0, v1, v2, v3, v4, v5, v6, v7, v8, v9]) (.int .i64 4)) w = .ok v4 w := by kernel_rfl
theorem idx184_5 (v0 v1 v2 v3 v4 v5 v6 v7 v8 v9 : Value) (w : World) : Sem.run Tryz.prog (Instr.index 184 (.agg #[v0, v1, v2, v3, v4, v5, v6, v7, v8, v9]) (.int .i64 5)) w = .ok v5 w := by kernel_rfl
theorem idx184_6 (v0 v1 v2 v3 v4 v5 v6 v7 v8 v9 : Value) (w : World) : Sem.run Tryz.prog (Instr.index 184 (.agg #[v0, v1, v2, v3, v4, v5, v6, v7, v8, v9]) (.int .i64 6)) w = .ok v6 w := by kernel_rfl
theorem idx184_7 (v0 v1 v2 v3 v4 v5 v6 v7 v8 v9 : Value) (w : World) : Sem.run Tryz.prog (Instr.index 184 (.agg #[v0, v1, v2, v3, v4, v5, v6, v7, v8, v9]) (.int .i64 7)) w = .ok v7 w := by kernel_rfl
theorem idx184_8 (v0 v1 v2 v3 v4 v5 v6 v7 v8 v9 : Value) (w : World) : Sem.run Tryz.prog (Instr.index 184 (.agg #[v0, v1, v2, v3, v4, v5, v6, v7, v8, v9]) (.int .i64 8)) w = .ok v8 w := by kernel_rfl
theorem idx184_9 (v0 v1 v2 v3 v4 v5 v6 v7 v8 v9 : Value) (w : World) : Sem.run Tryz.prog (Instr.index 184 (.agg #[v0, v1, v2, v3, v4, v5, v6, v7, v8, v9]) (.int .i64 9)) w = .ok v9 w := by kernel_rfl
theorem levelZ (p : Nat) (E : Int × Int) (s : Sx) (w : World) (h : PrAt w p E s) : Calls Tryz.prog 124 #[.pointer (some ⟨p, 0, none⟩)] w (fun e w' => e = .returned (.int .i64 (levelI s.ws)) ∧ Below w.heap.size w w') := by
  go_enter Tryz.func124, Tryz.ntmps124
  go_wp2_with fail
  change Code.wp Tryz.prog _ _ _ (allocs w [rowOf [[124, 124]], rowOf [[38, 38]], rowOf [[124]], rowOf [[94]], rowOf [[38]], rowOf [[61, 61], [33, 61]], rowOf [[60], [60, 61], [62], [62, 61]], rowOf [[60, 60], [62, 62]], rowOf [[43], [45]], rowOf [[42], [47], [37]]])
  have hW : ∀ k l, levels[k]? = some l → (allocs w [rowOf [[124, 124]], rowOf [[38, 38]], rowOf [[124]], rowOf [[94]], rowOf [[38]], rowOf [[61, 61], [33, 61]], rowOf [[60], [60, 61], [62], [62, 61]], rowOf [[60, 60], [62, 62]], rowOf [[43], [45]], rowOf [[42], [47], [37]]]).heap[w.heap.size + k]? = some (rowOf l) := fun k l hk => allocs_get _ _ _ _ (by
    have : [rowOf [[124, 124]], rowOf [[38, 38]], rowOf [[124]], rowOf [[94]], rowOf [[38]], rowOf [[61, 61], [33, 61]], rowOf [[60], [60, 61], [62], [62, 61]], rowOf [[60, 60], [62, 62]], rowOf [[43], [45]], rowOf [[42], [47], [37]]] = levels.map rowOf := rfl
    rw [this, List.getElem?_map, hk]; rfl)
  have hb : Below w.heap.size w (allocs w [rowOf [[124, 124]], rowOf [[38, 38]], rowOf [[124]], rowOf [[94]], rowOf [[38]], rowOf [[61, 61], [33, 61]], rowOf [[60], [60, 61], [62], [62, 61]], rowOf [[60, 60], [62, 62]], rowOf [[43], [45]], rowOf [[42], [47], [37]]]) := allocs_below _ _
  generalize allocs w [rowOf [[124, 124]], rowOf [[38, 38]], rowOf [[124]], rowOf [[94]], rowOf [[38]], rowOf [[61, 61], [33, 61]], rowOf [[60], [60, 61], [62], [62, 61]], rowOf [[60, 60], [62, 62]], rowOf [[43], [45]], rowOf [[42], [47], [37]]] = W at *
  have D0 := anyZ p E s _ (w.heap.size) W (h.below hb) (by decide) (row_cells (hW 0 _ rfl))
  have D1 := anyZ p E s _ (w.heap.size + 1) W (h.below hb) (by decide) (row_cells (hW 1 _ rfl))
  have D2 := anyZ p E s _ (w.heap.size + 1 + 1) W (h.below hb) (by decide) (row_cells (hW 2 _ rfl))
  have D3 := anyZ p E s _ (w.heap.size + 1 + 1 + 1) W (h.below hb) (by decide) (row_cells (hW 3 _ rfl))
  have D4 := anyZ p E s _ (w.heap.size + 1 + 1 + 1 + 1) W (h.below hb) (by decide) (row_cells (hW 4 _ rfl))
  have D5 := anyZ p E s _ (w.heap.size + 1 + 1 + 1 + 1 + 1) W (h.below hb) (by decide) (row_cells (hW 5 _ rfl))
  have D6 := anyZ p E s _ (w.heap.size + 1 + 1 + 1 + 1 + 1 + 1) W (h.below hb) (by decide) (row_cells (hW 6 _ rfl))
  have D7 := anyZ p E s _ (w.heap.size + 1 + 1 + 1 + 1 + 1 + 1 + 1) W (h.below hb) (by decide) (row_cells (hW 7 _ rfl))
  have D8 := anyZ p E s _ (w.heap.size + 1 + 1 + 1 + 1 + 1 + 1 + 1 + 1) W (h.below hb) (by decide) (row_cells (hW 8 _ rfl))
  have D9 := anyZ p E s _ (w.heap.size + 1 + 1 + 1 + 1 + 1 + 1 + 1 + 1 + 1) W (h.below hb) (by decide) (row_cells (hW 9 _ rfl))
  simp only [List.length_cons, List.length_nil, Nat.zero_add, Nat.reduceAdd] at D0 D1 D2 D3 D4 D5 D6 D7 D8 D9
  have x0 := idx184_0
  have x1 := idx184_1
  have x2 := idx184_2
  have x3 := idx184_3
  have x4 := idx184_4
  have x5 := idx184_5
  have x6 := idx184_6
  have x7 := idx184_7
  have x8 := idx184_8
  have x9 := idx184_9
  clear hW
  go_loopg [3, 4, 16] 10 (fun g s3 s4 s16 wr => ∃ k : Nat, k ≤ 10 ∧ 10 - k ≤ g ∧ s16 = .int .i64 k ∧ Hid (levelI s.ws = levI s.ws k (levels.drop k)) ∧ wr = W)
  case atStart => exact ⟨0, by omega, by omega, rfl, Lib.hid rfl, rfl⟩
  case round =>
    obtain ⟨k, hk, hg, rfl, he, rfl⟩ := hrel
    have hb0 := hb
    clear hb
    have hcases : k = 0 ∨ k = 1 ∨ k = 2 ∨ k = 3 ∨ k = 4 ∨ k = 5 ∨ k = 6 ∨ k = 7 ∨ k = 8 ∨ k = 9 ∨ k = 10 := by omega
    rcases hcases with rfl | rfl | rfl | rfl | rfl | rfl | rfl | rfl | rfl | rfl | rfl
    · have hs : levI s.ws 0 (levels.drop 0) = if anyB s.ws [[124, 124]] then (0 : Int) else levI s.ws 1 (levels.drop 1) := rfl
      clear D1 D2 D3 D4 D5 D6 D7 D8 D9 x1 x2 x3 x4 x5 x6 x7 x8 x9
      rw [hs] at he
      cases hb : anyB s.ws [[124, 124]]
      · rw [hb] at D0 he
        simp only [Bool.false_eq_true, if_false] at he
        replace he := Lib.hid he.out
        go_wp2_with fail
        refine D0.mono ?_
        rintro e w' ⟨rfl, rfl⟩
        go_wp2_with fail
        go_roundg (10 - 1)
        case measure => omega
        case rel => exact ⟨1, by omega, by omega, rfl, he, rfl⟩
      · rw [hb] at D0 he
        simp only [if_true] at he
        have he2 : levelI s.ws = 0 := he.out
        clear he
        go_wp2_with fail
        refine D0.mono ?_
        rintro e w' ⟨rfl, rfl⟩
        go_wp2_with fail
        exact bodyPost_ret (v := .int .i64 0) (by simp [results, Tryz.results124, go_sem]) rfl ⟨by rw [he2], hb0⟩
    · have hs : levI s.ws 1 (levels.drop 1) = if anyB s.ws [[38, 38]] then (1 : Int) else levI s.ws 2 (levels.drop 2) := rfl
      clear D0 D2 D3 D4 D5 D6 D7 D8 D9 x0 x2 x3 x4 x5 x6 x7 x8 x9
      rw [hs] at he
      cases hb : anyB s.ws [[38, 38]]
      · rw [hb] at D1 he
        simp only [Bool.false_eq_true, if_false] at he
        replace he := Lib.hid he.out
        go_wp2_with fail
        refine D1.mono ?_
        rintro e w' ⟨rfl, rfl⟩
        go_wp2_with fail
        go_roundg (10 - 2)
        case measure => omega
        case rel => exact ⟨2, by omega, by omega, rfl, he, rfl⟩
      · rw [hb] at D1 he
        simp only [if_true] at he
        have he2 : levelI s.ws = 1 := he.out
        clear he
        go_wp2_with fail
        refine D1.mono ?_
        rintro e w' ⟨rfl, rfl⟩
        go_wp2_with fail
        exact bodyPost_ret (v := .int .i64 1) (by simp [results, Tryz.results124, go_sem]) rfl ⟨by rw [he2], hb0⟩
    · have hs : levI s.ws 2 (levels.drop 2) = if anyB s.ws [[124]] then (2 : Int) else levI s.ws 3 (levels.drop 3) := rfl
      clear D0 D1 D3 D4 D5 D6 D7 D8 D9 x0 x1 x3 x4 x5 x6 x7 x8 x9
      rw [hs] at he
      cases hb : anyB s.ws [[124]]
      · rw [hb] at D2 he
        simp only [Bool.false_eq_true, if_false] at he
        replace he := Lib.hid he.out
        go_wp2_with fail
        refine D2.mono ?_
        rintro e w' ⟨rfl, rfl⟩
        go_wp2_with fail
        go_roundg (10 - 3)
        case measure => omega
        case rel => exact ⟨3, by omega, by omega, rfl, he, rfl⟩
      · rw [hb] at D2 he
        simp only [if_true] at he
        have he2 : levelI s.ws = 2 := he.out
        clear he
        go_wp2_with fail
        refine D2.mono ?_
        rintro e w' ⟨rfl, rfl⟩
        go_wp2_with fail
        exact bodyPost_ret (v := .int .i64 2) (by simp [results, Tryz.results124, go_sem]) rfl ⟨by rw [he2], hb0⟩
    · have hs : levI s.ws 3 (levels.drop 3) = if anyB s.ws [[94]] then (3 : Int) else levI s.ws 4 (levels.drop 4) := rfl
      clear D0 D1 D2 D4 D5 D6 D7 D8 D9 x0 x1 x2 x4 x5 x6 x7 x8 x9
      rw [hs] at he
      cases hb : anyB s.ws [[94]]
      · rw [hb] at D3 he
        simp only [Bool.false_eq_true, if_false] at he
        replace he := Lib.hid he.out
        go_wp2_with fail
        refine D3.mono ?_
        rintro e w' ⟨rfl, rfl⟩
        go_wp2_with fail
        go_roundg (10 - 4)
        case measure => omega
        case rel => exact ⟨4, by omega, by omega, rfl, he, rfl⟩
      · rw [hb] at D3 he
        simp only [if_true] at he
        have he2 : levelI s.ws = 3 := he.out
        clear he
        go_wp2_with fail
        refine D3.mono ?_
        rintro e w' ⟨rfl, rfl⟩
        go_wp2_with fail
        exact bodyPost_ret (v := .int .i64 3) (by simp [results, Tryz.results124, go_sem]) rfl ⟨by rw [he2], hb0⟩
    · have hs : levI s.ws 4 (levels.drop 4) = if anyB s.ws [[38]] then (4 : Int) else levI s.ws 5 (levels.drop 5) := rfl
      clear D0 D1 D2 D3 D5 D6 D7 D8 D9 x0 x1 x2 x3 x5 x6 x7 x8 x9
      rw [hs] at he
      cases hb : anyB s.ws [[38]]
      · rw [hb] at D4 he
        simp only [Bool.false_eq_true, if_false] at he
        replace he := Lib.hid he.out
        go_wp2_with fail
        refine D4.mono ?_
        rintro e w' ⟨rfl, rfl⟩
        go_wp2_with fail
        go_roundg (10 - 5)
        case measure => omega
        case rel => exact ⟨5, by omega, by omega, rfl, he, rfl⟩
      · rw [hb] at D4 he
        simp only [if_true] at he
        have he2 : levelI s.ws = 4 := he.out
        clear he
        go_wp2_with fail
        refine D4.mono ?_
        rintro e w' ⟨rfl, rfl⟩
        go_wp2_with fail
        exact bodyPost_ret (v := .int .i64 4) (by simp [results, Tryz.results124, go_sem]) rfl ⟨by rw [he2], hb0⟩
    · have hs : levI s.ws 5 (levels.drop 5) = if anyB s.ws [[61, 61], [33, 61]] then (5 : Int) else levI s.ws 6 (levels.drop 6) := rfl
      clear D0 D1 D2 D3 D4 D6 D7 D8 D9 x0 x1 x2 x3 x4 x6 x7 x8 x9
      rw [hs] at he
      cases hb : anyB s.ws [[61, 61], [33, 61]]
      · rw [hb] at D5 he
        simp only [Bool.false_eq_true, if_false] at he
        replace he := Lib.hid he.out
        go_wp2_with fail
        refine D5.mono ?_
        rintro e w' ⟨rfl, rfl⟩
        go_wp2_with fail
        go_roundg (10 - 6)
        case measure => omega
        case rel => exact ⟨6, by omega, by omega, rfl, he, rfl⟩
      · rw [hb] at D5 he
        simp only [if_true] at he
        have he2 : levelI s.ws = 5 := he.out
        clear he
        go_wp2_with fail
        refine D5.mono ?_
        rintro e w' ⟨rfl, rfl⟩
        go_wp2_with fail
        exact bodyPost_ret (v := .int .i64 5) (by simp [results, Tryz.results124, go_sem]) rfl ⟨by rw [he2], hb0⟩
    · have hs : levI s.ws 6 (levels.drop 6) = if anyB s.ws [[60], [60, 61], [62], [62, 61]] then (6 : Int) else levI s.ws 7 (levels.drop 7) := rfl
      clear D0 D1 D2 D3 D4 D5 D7 D8 D9 x0 x1 x2 x3 x4 x5 x7 x8 x9
      rw [hs] at he
      cases hb : anyB s.ws [[60], [60, 61], [62], [62, 61]]
      · rw [hb] at D6 he
        simp only [Bool.false_eq_true, if_false] at he
        replace he := Lib.hid he.out
        go_wp2_with fail
        refine D6.mono ?_
        rintro e w' ⟨rfl, rfl⟩
        go_wp2_with fail
        go_roundg (10 - 7)
        case measure => omega
        case rel => exact ⟨7, by omega, by omega, rfl, he, rfl⟩
      · rw [hb] at D6 he
        simp only [if_true] at he
        have he2 : levelI s.ws = 6 := he.out
        clear he
        go_wp2_with fail
        refine D6.mono ?_
        rintro e w' ⟨rfl, rfl⟩
        go_wp2_with fail
        exact bodyPost_ret (v := .int .i64 6) (by simp [results, Tryz.results124, go_sem]) rfl ⟨by rw [he2], hb0⟩
    · have hs : levI s.ws 7 (levels.drop 7) = if anyB s.ws [[60, 60], [62, 62]] then (7 : Int) else levI s.ws 8 (levels.drop 8) := rfl
      clear D0 D1 D2 D3 D4 D5 D6 D8 D9 x0 x1 x2 x3 x4 x5 x6 x8 x9
      rw [hs] at he
      cases hb : anyB s.ws [[60, 60], [62, 62]]
      · rw [hb] at D7 he
        simp only [Bool.false_eq_true, if_false] at he
        replace he := Lib.hid he.out
        go_wp2_with fail
        refine D7.mono ?_
        rintro e w' ⟨rfl, rfl⟩
        go_wp2_with fail
        go_roundg (10 - 8)
        case measure => omega
        case rel => exact ⟨8, by omega, by omega, rfl, he, rfl⟩
      · rw [hb] at D7 he
        simp only [if_true] at he
        have he2 : levelI s.ws = 7 := he.out
        clear he
        go_wp2_with fail
        refine D7.mono ?_
        rintro e w' ⟨rfl, rfl⟩
        go_wp2_with fail
        exact bodyPost_ret (v := .int .i64 7) (by simp [results, Tryz.results124, go_sem]) rfl ⟨by rw [he2], hb0⟩
    · have hs : levI s.ws 8 (levels.drop 8) = if anyB s.ws [[43], [45]] then (8 : Int) else levI s.ws 9 (levels.drop 9) := rfl
      clear D0 D1 D2 D3 D4 D5 D6 D7 D9 x0 x1 x2 x3 x4 x5 x6 x7 x9
      rw [hs] at he
      cases hb : anyB s.ws [[43], [45]]
      · rw [hb] at D8 he
        simp only [Bool.false_eq_true, if_false] at he
        replace he := Lib.hid he.out
        go_wp2_with fail
        refine D8.mono ?_
        rintro e w' ⟨rfl, rfl⟩
        go_wp2_with fail
        go_roundg (10 - 9)
        case measure => omega
        case rel => exact ⟨9, by omega, by omega, rfl, he, rfl⟩
      · rw [hb] at D8 he
        simp only [if_true] at he
        have he2 : levelI s.ws = 8 := he.out
        clear he
        go_wp2_with fail
        refine D8.mono ?_
        rintro e w' ⟨rfl, rfl⟩
        go_wp2_with fail
        exact bodyPost_ret (v := .int .i64 8) (by simp [results, Tryz.results124, go_sem]) rfl ⟨by rw [he2], hb0⟩
    · have hs : levI s.ws 9 (levels.drop 9) = if anyB s.ws [[42], [47], [37]] then (9 : Int) else levI s.ws 10 (levels.drop 10) := rfl
      clear D0 D1 D2 D3 D4 D5 D6 D7 D8 x0 x1 x2 x3 x4 x5 x6 x7 x8
      rw [hs] at he
      cases hb : anyB s.ws [[42], [47], [37]]
      · rw [hb] at D9 he
        simp only [Bool.false_eq_true, if_false] at he
        replace he := Lib.hid he.out
        go_wp2_with fail
        refine D9.mono ?_
        rintro e w' ⟨rfl, rfl⟩
        go_wp2_with fail
        go_roundg (10 - 10)
        case measure => omega
        case rel => exact ⟨10, by omega, by omega, rfl, he, rfl⟩
      · rw [hb] at D9 he
        simp only [if_true] at he
        have he2 : levelI s.ws = 9 := he.out
        clear he
        go_wp2_with fail
        refine D9.mono ?_
        rintro e w' ⟨rfl, rfl⟩
        go_wp2_with fail
        exact bodyPost_ret (v := .int .i64 9) (by simp [results, Tryz.results124, go_sem]) rfl ⟨by rw [he2], hb0⟩
    · have he2 : levelI s.ws = -1 := he.out
      clear he
      go_wp2_with fail
      exact bodyPost_ret (v := .int .i64 (-1)) (by simp [results, Tryz.results124, go_sem]) rfl ⟨by rw [he2], hb0⟩
end Go.Proofs.YtjgpbpmicopemaaGreatDoor
