import Derived.Test.YtjgpbpmicopemaaGreatDoorKn04
import Derived.RangeFuncBox
import Derived.Maps.AppendAt
import Derived.Shelf.Abstract

/-
  lex.read: what it answers, for every text.
-/
namespace Go.Proofs.YtjgpbpmicopemaaGreatDoor
open Go.RowKit Go.Shelf
attribute [local go_sem] Oper.semAt_some

theorem scan_any (l : List UInt8) (w : World) : Calls Tryz.prog 47 #[str l] w fun e w' => e = .returned (.func (.func 72) #[] #[.pointer (some ⟨w.heap.size, 0, none⟩)]) ∧ w' = w.alloc (.cells #[str l] 9) := by
  unfold str
  go_enter Tryz.func47, Tryz.ntmps47
  go_wp2
  go_ret
  exact ⟨rfl, rfl⟩
/-- a word's cells in a slice's row -/
def It.cells (x : It) : List Value := [.int .i64 x.d.k, str x.d.t, .int .i64 x.d.n, .int .i64 x.p.1, .int .i64 x.p.2]
/-- the words ahead of a fault, and the fault's place -/
def goods (l : List UInt8) : List It := (scanL l).takeWhile (fun x => !x.bad)
def faultO (l : List UInt8) : Option It := (scanL l).find? (fun x => x.bad)
def faultP (l : List UInt8) : Int × Int := match faultO l with
  | some x => x.p
  | none => (0, 0)
def SlAt (W : World) (g : Nat) (v : Value) : Prop := W.heap[g]? = some (.cells #[v] 49 (0, 0))
def BlAt (W : World) (g : Nat) (b : Bool) : Prop := W.heap[g]? = some (.cells #[.bool b] 4 (0, 0))
def RRd (l : List UInt8) (w : World) (e : Ending) (w' : World) : Prop := ∃ v, e = .returned (.tuple #[v, .agg #[.int .i64 (faultP l).1, .int .i64 (faultP l).2], .bool (faultO l).isSome]) ∧
  w'.ownsRow w.heap.size 114 5 v (goods l).length ((goods l).flatMap It.cells) ∧ Below w.heap.size w w'
theorem goods_all (l : List UInt8) (h : ∀ x ∈ scanL l, x.bad = false) : goods l = scanL l ∧ faultO l = none := by
  unfold goods faultO
  constructor
  · generalize scanL l = xs at h
    induction xs with
    | nil => rfl
    | cons x xs ih =>
      rw [List.takeWhile_cons, h x (by simp)]
      simp only [Bool.not_false, if_true]
      rw [ih (fun y hy => h y (by simp [hy]))]
  · rw [List.find?_eq_none]
    intro x hx
    simp [h x hx]
theorem goods_some (l : List UInt8) (pre r : List It) (x : It) (e : pre ++ [x] ++ r = scanL l) (h : ∀ y ∈ pre, y.bad = false) (hx : x.bad = true) : goods l = pre ∧ faultO l = some x := by
  unfold goods faultO
  rw [← e]
  clear e
  induction pre with
  | nil => simp [hx]
  | cons y pre ih =>
    obtain ⟨h1, h2⟩ := ih (fun z hz => h z (by simp [hz]))
    have hy := h y (by simp)
    constructor
    · rw [List.cons_append, List.cons_append, List.takeWhile_cons, hy]
      simp only [Bool.not_false, if_true]
      rw [h1]
    · rw [List.cons_append, List.cons_append, List.find?_cons, hy]
      exact h2
theorem ownsRow_base {W : World} {B B' : Nat} {v : Value} {n : Nat} {xs : List Value} (h : W.ownsRow B 114 5 v n xs) (hb : B' ≤ B) : W.ownsRow B' 114 5 v n xs := by
  obtain ⟨h1, h2 | ⟨g, cap, cur, e1, e2, e3⟩⟩ := h
  · exact ⟨h1, .inl h2⟩
  · exact ⟨h1, .inr ⟨g, cap, cur, e1, Nat.le_trans hb e2, e3⟩⟩
theorem info30 : (Tryz.prog.info? 114).map (fun i => (i.zero, i.size, i.bytes)) = some (some (.agg #[.int .i64 0, .string ⟨#[]⟩, .int .i64 0, .int .i64 0, .int .i64 0]), 5, 48) := by kernel_rfl

/-- what read keeps between two rounds -/
structure Rd (w0 : World) (B : Nat) (v : Value) (pre : List It) (p : Int × Int) (b : Bool) (W : World) : Prop where
  sl : SlAt W w0.heap.size v
  plc : PlcAt W (w0.heap.size + 1) p
  bl : BlAt W (w0.heap.size + 1 + 1) b
  row : W.ownsRow B 114 5 v pre.length (pre.flatMap It.cells)
  low : Below w0.heap.size w0 W
theorem cell_five_new (W : World) (a b c d e : Value) (t : TypeId) : ∀ j u, [a, b, c, d, e][j]? = some u → (W.alloc (.cells #[a, b, c, d, e] t)).cell? ((⟨W.heap.size, 0, none⟩ : Addr).add j) = some u := by
  intro j u hj
  have h : (W.alloc (.cells #[a, b, c, d, e] t)).heap[W.heap.size]? = some (.cells #[a, b, c, d, e] t (0, 0)) := heap_alloc_new W (.cells #[a, b, c, d, e] t)
  have key : ∀ i, (W.alloc (.cells #[a, b, c, d, e] t)).cell? ⟨W.heap.size, i, none⟩ = #[a, b, c, d, e][i]? := fun i => by simp only [World.cell?, h]; rfl
  have e0 : (⟨W.heap.size, 0, none⟩ : Addr).add j = ⟨W.heap.size, j, none⟩ := by cases j <;> simp [Addr.add]
  rw [e0, key]
  simpa using hj
theorem slice_of_row {W : World} {B : Nat} {v : Value} {n : Nat} {xs : List Value} (h : W.ownsRow B 114 5 v n xs) : ∃ b m c, v = .slice b m c := by
  obtain ⟨-, ⟨rfl, -⟩ | ⟨g, cap, cur, rfl, -⟩⟩ := h
  · exact ⟨_, _, _, rfl⟩
  · exact ⟨_, _, _, rfl⟩
theorem row_in {W : World} {B : Nat} {v : Value} {n : Nat} {xs : List Value} (h : W.ownsRow B 114 5 v n xs) : ∀ g, v.ownBlock = some g → B ≤ g ∧ g < W.heap.size := by
  obtain ⟨-, ⟨rfl, -⟩ | ⟨g, cap, cur, rfl, e2, e3, -⟩⟩ := h
  · intro g hg; cases hg
  · intro g' hg
    have : g = g' := Option.some.inj hg
    subst this
    exact ⟨e2, heap_lt e3⟩
theorem not_cells_kept {A B : World} {row : Option Nat} (h : A.grownBy B row) (hr : ∀ r, row = some r → ∃ o : Obj, A.heap[r]? = some o ∧ o.isCells = true) : KeepsOthers A B :=
  ⟨h.size, fun k o hk ho => by
    rw [h.block k (Array.getElem?_eq_some_iff.1 hk).1 (fun e => by
      obtain ⟨o', ho', hc⟩ := hr k e.symm
      rw [hk] at ho'; cases ho'; rw [ho] at hc; cases hc)]
    exact hk⟩
theorem four_new (W : World) (o1 o2 o3 o4 : Obj) : ((((W.alloc o1).alloc o2).alloc o3).alloc o4).heap[W.heap.size]? = some o1 ∧ ((((W.alloc o1).alloc o2).alloc o3).alloc o4).heap[W.heap.size + 1]? = some o2 ∧
    ((((W.alloc o1).alloc o2).alloc o3).alloc o4).heap[W.heap.size + 1 + 1]? = some o3 ∧ ((((W.alloc o1).alloc o2).alloc o3).alloc o4).heap[W.heap.size + 1 + 1 + 1]? = some o4 := by
  have h1 := heap_alloc_new W o1
  have h2 := heap_alloc_new (W.alloc o1) o2
  have h3 := heap_alloc_new ((W.alloc o1).alloc o2) o3
  have h4 := heap_alloc_new (((W.alloc o1).alloc o2).alloc o3) o4
  simp only [World.size_alloc] at h2 h3 h4
  refine ⟨?_, ?_, ?_, h4⟩
  · rw [Below.heap_alloc _ _ _ (by simp only [World.size_alloc]; omega), Below.heap_alloc _ _ _ (by simp only [World.size_alloc]; omega), Below.heap_alloc _ _ _ (by simp only [World.size_alloc]; omega)]; exact h1
  · rw [Below.heap_alloc _ _ _ (by simp only [World.size_alloc]; omega), Below.heap_alloc _ _ _ (by simp only [World.size_alloc]; omega)]; exact h2
  · rw [Below.heap_alloc _ _ _ (by simp)]; exact h3
theorem Kept.below {X : Nat → Prop} {A B : World} (h : Below A.heap.size A B) : Kept X A B := ⟨h.size, fun k hk _ => h.block k hk⟩
theorem Kept.setCell {X : Nat → Prop} (W : World) {g i : Nat} (v : Value) (h : X g) : Kept X W (W.setCell ⟨g, i, none⟩ v) := ⟨by simp, fun k _ hx => set_other (fun e => hx (e ▸ h))⟩
theorem Rd.cells {w0 : World} {B : Nat} {v : Value} {pre : List It} {p : Int × Int} {b : Bool} {W : World} (h : Rd w0 B v pre p b W) :
    W.cell? ⟨w0.heap.size, 0, none⟩ = some v ∧ W.cell? ⟨w0.heap.size + 1, 0, none⟩ = some (.int .i64 p.1) ∧ W.cell? ⟨w0.heap.size + 1, 1, none⟩ = some (.int .i64 p.2) ∧ W.cell? ⟨w0.heap.size + 1 + 1, 0, none⟩ = some (.bool b) ∧
    W.frozen? ⟨w0.heap.size, 0, none⟩ = false ∧ W.frozen? ⟨w0.heap.size + 1, 0, none⟩ = false ∧ W.frozen? ⟨w0.heap.size + 1, 1, none⟩ = false ∧ W.frozen? ⟨w0.heap.size + 1 + 1, 0, none⟩ = false := by
  have h1 := h.sl
  have h2 := h.plc
  have h3 := h.bl
  unfold SlAt at h1
  unfold PlcAt at h2
  unfold BlAt at h3
  refine ⟨?_, ?_, ?_, ?_, ?_, ?_, ?_, ?_⟩ <;> simp [World.cell?, World.frozen?, h1, h2, h3]
theorem ownsRow_same {W W' : World} {B : Nat} {v : Value} {n : Nat} {xs : List Value} (h : W.ownsRow B 114 5 v n xs) (hs : ∀ g o, B ≤ g → W.heap[g]? = some o → W'.heap[g]? = some o) : W'.ownsRow B 114 5 v n xs := by
  obtain ⟨h1, h2⟩ := h
  refine ⟨h1, ?_⟩
  rcases h2 with h2 | ⟨g, cap, cur, e1, e2, e3, e4⟩
  · exact .inl h2
  · exact .inr ⟨g, cap, cur, e1, e2, hs g _ e2 e3, e4⟩
theorem Rd.mv {w0 : World} {B : Nat} {v : Value} {pre : List It} {p : Int × Int} {b : Bool} {W W' : World} {X : Nat → Prop} (h : Rd w0 B v pre p b W) (m : Mv X W W') (hX : ∀ k, X k → w0.heap.size + 3 ≤ k ∧ k < B) : Rd w0 B v pre p b W' := by
  have key : ∀ {g : Nat} {o : Obj}, W.heap[g]? = some o → ¬ X g → W'.heap[g]? = some o := fun hg hx => (m.same _ (heap_lt hg) hx).trans hg
  refine ⟨key h.sl (fun hx => by have := hX _ hx; omega), key h.plc (fun hx => by have := hX _ hx; omega), key h.bl (fun hx => by have := hX _ hx; omega), ownsRow_same h.row (fun g o hB hg => key hg (fun hx => by have := hX _ hx; omega)), ?_⟩
  exact ⟨m.os.trans h.low.os, m.tape.trans h.low.tape, m.output.trans h.low.output, Nat.le_trans h.low.size m.size, fun k hk => (m.same k (Nat.lt_of_lt_of_le hk h.low.size) (fun hx => by have := hX _ hx; omega)).trans (h.low.block k hk)⟩
theorem Rd.appended {w0 : World} {B : Nat} {v : Value} {pre : List It} {W2 : World} (R : Rd w0 B v pre (0, 0) false W2) (hB : w0.heap.size + 3 ≤ B) (x : It) {tmp : Obj} {w1 : World} {v' : Value}
    (hown : w1.ownsRow B 114 5 v' (pre.length + 1) (pre.flatMap It.cells ++ x.cells)) (hgrow : (W2.alloc tmp).grownBy w1 v.ownBlock) :
    (w1.cell? ⟨w0.heap.size, 0, none⟩ = some v ∧ w1.frozen? ⟨w0.heap.size, 0, none⟩ = false) ∧ Rd w0 B v' (pre ++ [x]) (0, 0) false (w1.setCell ⟨w0.heap.size, 0, none⟩ v') ∧ KeepsOthers W2 (w1.setCell ⟨w0.heap.size, 0, none⟩ v') ∧
    Kept (fun k => k = w0.heap.size ∨ v.ownBlock = some k) W2 (w1.setCell ⟨w0.heap.size, 0, none⟩ v') := by
  have hrow := row_in R.row
  have hm : Mv (fun k => v.ownBlock = some k) W2 w1 := (Mv.alloc W2 tmp).trans (Mv.of_grown hgrow (fun r h => h))
  have key : ∀ {g : Nat} {o : Obj}, W2.heap[g]? = some o → g < B → w1.heap[g]? = some o := fun hg hlt => (hm.same _ (heap_lt hg) (fun h => by have := hrow _ h; omega)).trans hg
  have hs : SlAt w1 w0.heap.size v := key R.sl (by omega)
  have hs' := hs
  unfold SlAt at hs'
  refine ⟨⟨by simp [World.cell?, hs'], by simp [World.frozen?, hs']⟩, ⟨set_same hs, (set_other (by omega)).trans (key R.plc (by omega)), (set_other (by omega)).trans (key R.bl (by omega)), ?_, ?_⟩, ?_, ?_⟩
  · have : (pre ++ [x]).flatMap It.cells = pre.flatMap It.cells ++ x.cells := by simp
    rw [this, List.length_append]
    exact ownsRow_same hown (fun g o hg ho => (set_other (by omega)).trans ho)
  · have h1 : Below w0.heap.size w0 w1 := ⟨hm.os.trans R.low.os, hm.tape.trans R.low.tape, hm.output.trans R.low.output, Nat.le_trans R.low.size hm.size, fun k hk => (hm.same k (Nat.lt_of_lt_of_le hk R.low.size) (fun h => by have := hrow _ h; omega)).trans (R.low.block k hk)⟩
    exact h1.setCell (p := ⟨w0.heap.size, 0, none⟩) (Nat.le_refl _) _
  · refine ((KeepsOthers.alloc W2 tmp).trans (not_cells_kept hgrow ?_)).trans (KeepsOthers.setCell _ _ _)
    intro r hr
    obtain ⟨-, ⟨rfl, -⟩ | ⟨g, cap, cur, rfl, e2, e3, -⟩⟩ := R.row
    · cases hr
    · have : g = r := Option.some.inj hr
      subst this
      exact ⟨_, (Below.heap_alloc W2 tmp g (heap_lt e3)).trans e3, rfl⟩
  · exact ⟨by simp; exact hm.size, fun k hk hx => (set_other (fun e => hx (.inl e))).trans (hm.same k hk (fun h => hx (.inr h)))⟩
theorem Rd.drew {w0 : World} {B : Nat} {v : Value} {pre : List It} {W : World} {p : Int × Int} {b : Bool} (h : Rd w0 B v pre p b W) : Rd w0 B v pre p b W.drew :=
  ⟨h.sl, h.plc, h.bl, h.row, ⟨h.low.os, h.low.tape, h.low.output, h.low.size, h.low.block⟩⟩
theorem Rd.told {w0 : World} {B : Nat} {v : Value} {pre : List It} {W2 : World} {p0 : Int × Int} {b0 : Bool} (R : Rd w0 B v pre p0 b0 W2) (hB : w0.heap.size + 3 ≤ B) (p q : Int) (b : Bool) :
    KeepsOthers W2 ((((W2.setCell ⟨w0.heap.size, 0, none⟩ v).setCell ⟨w0.heap.size + 1, 0, none⟩ (.int .i64 p)).setCell ⟨w0.heap.size + 1, 1, none⟩ (.int .i64 q)).setCell ⟨w0.heap.size + 1 + 1, 0, none⟩ (.bool b)) ∧
    Rd w0 B v pre (p, q) b ((((W2.setCell ⟨w0.heap.size, 0, none⟩ v).setCell ⟨w0.heap.size + 1, 0, none⟩ (.int .i64 p)).setCell ⟨w0.heap.size + 1, 1, none⟩ (.int .i64 q)).setCell ⟨w0.heap.size + 1 + 1, 0, none⟩ (.bool b)) := by
  have h1 := R.sl
  have h2 := R.plc
  have h3 := R.bl
  unfold SlAt at h1
  unfold PlcAt at h2
  unfold BlAt at h3
  have n1 : w0.heap.size ≠ w0.heap.size + 1 := by omega
  have n2 : w0.heap.size ≠ w0.heap.size + 1 + 1 := by omega
  have n3 : w0.heap.size + 1 ≠ w0.heap.size + 1 + 1 := by omega
  refine ⟨(((KeepsOthers.setCell _ _ _).trans (KeepsOthers.setCell _ _ _)).trans (KeepsOthers.setCell _ _ _)).trans (KeepsOthers.setCell _ _ _), ?_, ?_, ?_, ?_, ?_⟩
  · unfold SlAt
    rw [set_other n2, set_other n1, set_other n1, set_same h1]
    rfl
  · unfold PlcAt
    rw [set_other n3, set_same (set_same ((set_other n1.symm).trans h2))]
    rfl
  · unfold BlAt
    rw [set_same ((set_other n3.symm).trans ((set_other n3.symm).trans ((set_other n2.symm).trans h3)))]
    rfl
  · exact ownsRow_same R.row (fun g o hg ho => (set_other (by omega)).trans ((set_other (by omega)).trans ((set_other (by omega)).trans ((set_other (by omega)).trans ho))))
  · exact (((R.low.setCell (p := ⟨w0.heap.size, 0, none⟩) (Nat.le_refl _) v).setCell (p := ⟨w0.heap.size + 1, 0, none⟩) (by simp) (.int .i64 p)).setCell (p := ⟨w0.heap.size + 1, 1, none⟩) (by simp) (.int .i64 q)).setCell (p := ⟨w0.heap.size + 1 + 1, 0, none⟩) (by simp; omega) (.bool b)
set_option maxRecDepth 20000 in
set_option maxHeartbeats 4000000 in
theorem read_any (l : List UInt8) (hl : l.length ≤ 65536) (w : World) (hE : Env w) : Calls Tryz.prog 28 #[str l] w (RRd l w) := by
  refine (callsIn_wide (n := 5)).1 ?_
  have h3 : 3 < w.heap.size := by obtain ⟨ev, hv, -⟩ := hE.rng; exact cell_lt hv
  have C1 := fun W => callsIn_wide (n := 4).2 (scan_any l W)
  unfold str at *
  refine callsIn_of_wp_marks Tryz.func28 rfl trivial ?_ rfl
  simp only [Tryz.ntmps28, List.size_toArray, List.length_cons, List.length_nil, Nat.reduceAdd, Nat.reduceSub, Array.replicate_succ, Array.replicate_zero, List.push_toArray, List.append_toArray, List.nil_append, List.cons_append]
  gi_wp2_with fail
  refine ⟨trivial, (C1 _).mono ?_⟩
  rintro e w1 ⟨rfl, rfl⟩
  gi_wp2_with fail
  have hR0 : Rd w (w.heap.size + 8) (.slice none 0 0) [] (0, 0) false ((((w.alloc (.cells #[.slice none 0 0] 49)).alloc (.cells #[.int .i64 0, .int .i64 0] 26)).alloc (.cells #[.bool false] 4)).alloc (.cells #[.string ⟨l.toArray⟩] 9)) := by
    have hf := four_new w (.cells #[.slice none 0 0] 49) (.cells #[.int .i64 0, .int .i64 0] 26) (.cells #[.bool false] 4) (.cells #[.string ⟨l.toArray⟩] 9)
    exact ⟨hf.1, hf.2.1, hf.2.2.1, ⟨rfl, .inl ⟨rfl, rfl⟩⟩, ((((Below.refl w.heap.size w).alloc (Nat.le_refl _) _).alloc (by simp) _).alloc (by simp; omega) _).alloc (by simp; omega) _⟩
  have hT0 : TxtAt ((((w.alloc (.cells #[.slice none 0 0] 49)).alloc (.cells #[.int .i64 0, .int .i64 0] 26)).alloc (.cells #[.bool false] 4)).alloc (.cells #[.string ⟨l.toArray⟩] 9)) (w.heap.size + 1 + 1 + 1) l := (four_new w (.cells #[.slice none 0 0] 49) (.cells #[.int .i64 0, .int .i64 0] 26) (.cells #[.bool false] 4) (.cells #[.string ⟨l.toArray⟩] 9)).2.2.2
  have hs0 : ((((w.alloc (.cells #[.slice none 0 0] 49)).alloc (.cells #[.int .i64 0, .int .i64 0] 26)).alloc (.cells #[.bool false] 4)).alloc (.cells #[.string ⟨l.toArray⟩] 9)).heap.size = w.heap.size + 4 := by simp
  have hE0 := hE.below hR0.low
  generalize ((((w.alloc (.cells #[.slice none 0 0] 49)).alloc (.cells #[.int .i64 0, .int .i64 0] 26)).alloc (.cells #[.bool false] 4)).alloc (.cells #[.string ⟨l.toArray⟩] 9)) = wL at *
  refine range_aside (encs := It.encs) (X := fun k => k = w.heap.size ∨ k = w.heap.size + 1 ∨ k = w.heap.size + 1 + 1 ∨ k = wL.heap.size + 1) rfl (by omega) (gf := 72) (lb := #[.pointer (some ⟨w.heap.size + 1 + 1 + 1, 0, none⟩)]) rfl trivial (enters_of Tryz.func72 (by kernel_rfl) rfl)
    (scan_in 4 (by omega) (w.heap.size + 1 + 1 + 1) l hl _ wL hT0 hE0 ?hX ?hX3) (.inr (.inr (.inr rfl))) (fun _ => rfl)
    (fun pre W => (∃ v, Rd w (w.heap.size + 8) v pre (0, 0) false W) ∧ ∀ x ∈ pre, x.bad = false)
    (fun pre W => ∃ pre' x v, pre = pre' ++ [x] ∧ x.bad = true ∧ (∀ y ∈ pre', y.bad = false) ∧ Rd w (w.heap.size + 8) v pre' x.p true W)
    ?hI ?hIx ⟨⟨_, hR0⟩, by simp⟩ ?round ?done ?stop
  case hX => rintro k (h | h | h | h) <;> omega
  case hX3 => exact ⟨by omega, by omega, by omega⟩
  case hI =>
    rintro s A B ⟨⟨v, h⟩, hg⟩ m
    exact ⟨⟨v, h.mv m (fun k hk => by omega)⟩, hg⟩
  case hIx =>
    rintro s A B ⟨pre', x, v, h1, h2, h3, h⟩ m
    exact ⟨pre', x, v, h1, h2, h3, h.mv m (fun k hk => by omega)⟩
  case round =>
    rintro pre ⟨⟨dk, dt, dn⟩, p, bad⟩ Wp W ⟨⟨v, hRp⟩, hg⟩ hmv hlen hsz
    have hR : Rd w (w.heap.size + 8) v pre (0, 0) false W := hRp.mv hmv (fun k hk => by omega)
    have hWs : w.heap.size + 8 ≤ W.heap.size := by have := hmv.size; omega
    dsimp only [It.encs, Wd.val, str]
    simp only [show ∀ a b : Value, (#[9, 10] : Array Tmp).zip #[a, b] = #[(9, a), (10, b)] from fun _ _ => by simp only [List.zip_toArray]; rfl, List.size_toArray, List.length_cons, List.length_nil, List.foldl_toArray', List.foldl_cons, List.foldl_nil, List.setIfInBounds_toArray, List.set_cons_succ, List.set_cons_zero]
    gi_wp2
    refine ⟨KeepsOthers.alloc _ _, Kept.below ((Below.refl _ _).alloc (Nat.le_refl _) _), fun W2 hm2 => ?_⟩
    have hR2 : Rd w (w.heap.size + 8) v pre (0, 0) false W2 := (hR.mv (X := fun _ => False) (Mv.alloc _ _) (fun k h => h.elim)).mv hm2 (fun k hk => by omega)
    have hbx : W2.heap[W.heap.size]? = some (.cells #[.int .i64 dk, .string ⟨dt.toArray⟩, .int .i64 dn, .int .i64 p.1, .int .i64 p.2] 114 (0, 0)) := (hm2.same _ (by simp) (by omega)).trans (heap_alloc_new W _)
    obtain ⟨x0, x1, x2, x3, x4, y0, y1, y2, y3, y4⟩ := box5 hbx
    obtain ⟨z0, z1, z2, z3, f0, f1, f2, f3⟩ := hR2.cells
    have R2 := Lib.hid hR2
    have hrow := row_in hRp.row
    clear hR hRp hR2
    cases bad with
    | true =>
      obtain ⟨vb, vm, vc, rfl⟩ := slice_of_row R2.out.row
      gi_wp2
      gi_region
      all_goals gi_wp2
      all_goals
        obtain ⟨hko, hRn⟩ := R2.out.told (by omega) p.1 p.2 true
        exact ⟨hko.trans (KeepsOthers.drew _), pre, ⟨⟨dk, dt, dn⟩, p, true⟩, _, rfl, rfl, hg, hRn.drew⟩
    | false =>
      obtain ⟨i0, hi, hz0, hz1, hz2⟩ := info_parts info30
      have hrow2 := R2.out.row
      gi_wp2_with (gi_at_builtin; refine wpListIn_append_own _ rfl _ _ 49 rfl (w.heap.size + 8) 114 i0 _ 5 48 Tryz.underlying49 hi hz0 hz1 hz2 rfl (by decide) v pre.length _ rfl (hrow2.alloc _) ⟨W2.heap.size, 0, none⟩ 1 1 (It.cells ⟨⟨dk, dt, dn⟩, p, false⟩) rfl rfl (cell_five_new _ _ _ _ _ _ _) (by simp [It.cells, str, Value.oneCell']) (by unfold maxLen; omega) (by omega) (by simp; have := hm2.size; simp at this; omega) ?_; intro v' w1 hown' hgrow hnil; obtain ⟨⟨c0, c1⟩, hRn, hko, hkp⟩ := R2.out.appended (by omega) ⟨⟨dk, dt, dn⟩, p, false⟩ hown' hgrow; obtain ⟨g', cap', rfl⟩ := ownsRow_succ hown')
      refine ⟨hko, ⟨hkp.size, fun k hk hx => hkp.same k hk ?_⟩, ⟨_, hRn⟩, fun y hy => ?_⟩
      · rintro (h | h)
        · exact hx (.inl (.inl h))
        · have := hrow _ h; exact hx (.inr ⟨by omega, by omega⟩)
      · rcases List.mem_append.1 hy with hy | hy
        · exact hg y hy
        · rw [List.mem_singleton.1 hy]
  case done =>
    rintro xs W rfl ⟨⟨v, hR⟩, hg⟩ hD
    obtain ⟨z0, z1, z2, z3, f0, f1, f2, f3⟩ := hR.cells
    obtain ⟨vb, vm, vc, rfl⟩ := slice_of_row hR.row
    gi_wp2
    obtain ⟨hko, hRn⟩ := hR.told (by omega) 0 0 false
    have hD' := hko.same _ _ hD rfl
    rw [hs0] at hD'
    refine ⟨by simp, .inl ⟨_, _, rfl, run_takeDeferred hD', ?_⟩⟩
    have hR5 := hRn.mv (Mv.putObj _ (Obj.deferred none) (X := fun k => k = w.heap.size + 4) rfl) (fun k hk => by omega)
    obtain ⟨u0, u1, u2, u3, -⟩ := hR5.cells
    obtain ⟨g1, g2⟩ := goods_all l hg
    refine ⟨.tuple #[.slice vb vm vc, .agg #[.int .i64 0, .int .i64 0], .bool false], by simp [results, Tryz.results28, go_sem, u0, u1, u2, u3], ?_⟩
    refine ⟨.slice vb vm vc, ?_, ?_, hR5.low⟩
    · unfold faultP
      rw [g2]
      rfl
    · rw [g1]
      exact ownsRow_base hR5.row (by omega)
  case stop =>
    rintro pre W hpre ⟨pre', x, v, rfl, hx, hg, hR⟩ hD
    gi_wp2
    rw [hs0] at hD
    refine ⟨by simp, .inl ⟨_, _, rfl, run_takeDeferred (by rw [hs0]; exact hD), ?_⟩⟩
    have hR5 := hR.mv (Mv.putObj _ (Obj.deferred none) (X := fun k => k = wL.heap.size) rfl) (fun k hk => by omega)
    obtain ⟨u0, u1, u2, u3, -⟩ := hR5.cells
    obtain ⟨r, hr⟩ := hpre
    obtain ⟨g1, g2⟩ := goods_some l pre' r x hr hg hx
    refine ⟨.tuple #[v, .agg #[.int .i64 x.p.1, .int .i64 x.p.2], .bool true], by simp [results, Tryz.results28, go_sem, u0, u1, u2, u3], ?_⟩
    refine ⟨v, ?_, ?_, hR5.low⟩
    · unfold faultP
      rw [g2]
      rfl
    · rw [g1]
      exact ownsRow_base hR5.row (by omega)
end Go.Proofs.YtjgpbpmicopemaaGreatDoor

/-
  lex.Words: what it answers, for every text.
-/
namespace Go.Proofs.YtjgpbpmicopemaaGreatDoor
open Go.RowKit

/-- what a text's words are, where a fault is, the error -/
def wordsL (l : List UInt8) : List It := if 65536 < l.length then [] else if (faultO l).isSome then [] else goods l
def wordsP (l : List UInt8) : Int × Int := if 65536 < l.length then (0, 0) else if (faultO l).isSome then faultP l else (0, 0)
def wordsE (l : List UInt8) : Int := if 65536 < l.length then 2 else if (faultO l).isSome then 3 else 0
def RWs (l : List UInt8) (w : World) (e : Ending) (w' : World) : Prop := ∃ v, e = .returned (.tuple #[v, .agg #[.int .i64 (wordsP l).1, .int .i64 (wordsP l).2], .int .i64 (wordsE l)]) ∧
  w'.ownsRow w.heap.size 114 5 v (wordsL l).length ((wordsL l).flatMap It.cells) ∧ Below w.heap.size w w'
theorem nil_row (w : World) (B : Nat) : w.ownsRow B 114 5 (.slice none 0 0) 0 [] := ⟨rfl, .inl ⟨rfl, rfl⟩⟩
set_option maxRecDepth 20000 in
set_option maxHeartbeats 4000000 in
theorem words_any (l : List UInt8) (hl : l.length ≤ 9223372036854775807) (w : World) (hE : Env w) : Calls Tryz.prog 15 #[str l] w (RWs l w) := by
  by_cases h : 65536 < l.length
  · unfold RWs wordsP wordsE wordsL
    simp only [if_pos h]
    unfold str
    go_enter Tryz.func15, Tryz.ntmps15
    go_wp2_with fail
    exact bodyPost_ret (v := .tuple #[.slice none 0 0, .agg #[.int .i64 0, .int .i64 0], .int .i64 2]) (by simp [results, Tryz.results15, go_sem]) rfl ⟨.slice none 0 0, rfl, nil_row _ _, (Below.refl _ _).alloc (Nat.le_refl _) _⟩
  · have hl2 : l.length ≤ 65536 := by omega
    have C := fun W (hW : Env W) => read_any l hl2 W hW
    unfold RWs wordsP wordsE wordsL
    simp only [if_neg h]
    unfold RRd str at *
    go_enter Tryz.func15, Tryz.ntmps15
    go_wp2_with fail
    have hal : Below w.heap.size w (w.alloc (.cells #[.int .i64 0, .int .i64 0] 26)) := (Below.refl _ _).alloc (Nat.le_refl _) _
    refine (C _ (hE.below hal)).mono ?_
    rintro e w1 ⟨v, rfl, hrow, hb⟩
    have hbx : PlcAt w1 w.heap.size (0, 0) := (hb.block _ (by simp)).trans (heap_alloc_new w _)
    have hq : ∀ o, PlcAt (w1.alloc o) w.heap.size (0, 0) := fun o => (Below.heap_alloc w1 o _ (heap_lt hbx)).trans hbx
    have q0 := fun o => (hq o).cells.1
    have q1 := fun o => (hq o).cells.2.1
    have q2 := fun o => (hq o).cells.2.2.1
    have q3 := fun o => (hq o).cells.2.2.2
    simp only at q0 q1
    have fin : ∀ (p q : Int) (o : Obj), PlcAt (((w1.alloc o).setCell ⟨w.heap.size, 0, none⟩ (.int .i64 p)).setCell ⟨w.heap.size, 1, none⟩ (.int .i64 q)) w.heap.size (p, q) ∧
        (∀ (v : Value) (n : Nat) (xs : List Value), w1.ownsRow (w.heap.size + 1) 114 5 v n xs → (((w1.alloc o).setCell ⟨w.heap.size, 0, none⟩ (.int .i64 p)).setCell ⟨w.heap.size, 1, none⟩ (.int .i64 q)).ownsRow w.heap.size 114 5 v n xs) ∧
        Below w.heap.size w (((w1.alloc o).setCell ⟨w.heap.size, 0, none⟩ (.int .i64 p)).setCell ⟨w.heap.size, 1, none⟩ (.int .i64 q)) := fun p q o =>
      ⟨set_same (set_same (hq o)), fun v n xs h => ownsRow_base (ownsRow_same h (fun g o' hg ho => (set_other (by omega)).trans ((set_other (by omega)).trans ((Below.heap_alloc w1 o g (heap_lt ho)).trans ho)))) (by omega),
        (((hal.trans (hb.mono hal.size)).alloc (by have := (hal.trans (hb.mono hal.size)).size; exact this) o).setCell (p := ⟨w.heap.size, 0, none⟩) (Nat.le_refl _) _).setCell (p := ⟨w.heap.size, 1, none⟩) (Nat.le_refl _) _⟩
    rw [World.size_alloc] at hrow
    obtain ⟨vb, vm, vc, rfl⟩ := slice_of_row hrow
    cases hf : (faultO l).isSome
    · go_wp2_with fail
      all_goals
        obtain ⟨hP, hrw, hlow⟩ := fin 0 0 (.cells #[.int .i64 (faultP l).1, .int .i64 (faultP l).2] 26)
        obtain ⟨u0, u1, -⟩ := hP.cells
        exact bodyPost_ret (v := .tuple #[.slice vb vm vc, .agg #[.int .i64 0, .int .i64 0], .int .i64 0]) (by simp [results, Tryz.results15, go_sem, u0, u1]) rfl ⟨.slice vb vm vc, rfl, hrw _ _ _ hrow, hlow⟩
    · go_wp2_with fail
      go_region
      all_goals go_wp2_with fail
      all_goals
        obtain ⟨hP, hrw, hlow⟩ := fin (faultP l).1 (faultP l).2 (.cells #[.int .i64 (faultP l).1, .int .i64 (faultP l).2] 26)
        have hP' : PlcAt _ w.heap.size ((faultP l).1, (faultP l).2) := hP.mv (Mv.drew (X := fun _ => False) _) (fun h => h)
        obtain ⟨u0, u1, -⟩ := hP'.cells
        exact bodyPost_ret (v := .tuple #[.slice none 0 0, .agg #[.int .i64 (faultP l).1, .int .i64 (faultP l).2], .int .i64 3]) (by simp [results, Tryz.results15, go_sem, u0, u1]) rfl ⟨.slice none 0 0, rfl, nil_row _ _, below_drewN hlow 1⟩
end Go.Proofs.YtjgpbpmicopemaaGreatDoor

/-
  Slices of words in memory, their cells at hand.
-/
namespace Go.Proofs.YtjgpbpmicopemaaGreatDoor
open Go.RowKit Go.Shelf

theorem flat_len (xs : List It) : (xs.flatMap It.cells).length = 5 * xs.length := by
  induction xs with
  | nil => rfl
  | cons x xs ih => rw [List.flatMap_cons, List.length_append, ih]; show 5 + _ = _; simp; omega
theorem flat_get : ∀ (xs : List It) (i r : Nat) (h : i < xs.length), r < 5 → (xs.flatMap It.cells)[5 * i + r]? = (xs[i]).cells[r]?
  | [], i, _, h, _ => absurd h (by simp)
  | x :: xs, 0, r, _, hr => by
    rw [List.flatMap_cons, List.getElem?_append_left (by show _ < 5; omega)]
    simp
  | x :: xs, i + 1, r, h, hr => by
    rw [List.flatMap_cons, List.getElem?_append_right (by show 5 ≤ _; omega)]
    have e : 5 * (i + 1) + r - x.cells.length = 5 * i + r := by show 5 * (i + 1) + r - 5 = _; omega
    rw [e, flat_get xs i r (by simpa using h) hr]
    rfl
theorem ownsRow_at {W W' : World} {B : Nat} {v : Value} {n : Nat} {xs : List Value} (h : W.ownsRow B 114 5 v n xs) (hs : ∀ g, v.ownBlock = some g → W'.heap[g]? = W.heap[g]?) : W'.ownsRow B 114 5 v n xs := by
  obtain ⟨h1, h2 | ⟨g, cap, cur, rfl, e2, e3, e4⟩⟩ := h
  · exact ⟨h1, .inl h2⟩
  · exact ⟨h1, .inr ⟨g, cap, cur, rfl, e2, (hs g rfl).trans e3, e4⟩⟩
/-- a slice of words in memory -/
theorem row_slice {W : World} {B : Nat} {v : Value} {xs : List It} (h : W.ownsRow B 114 5 v xs.length (xs.flatMap It.cells)) :
    ∃ b c, v = .slice b xs.length c ∧ xs.length ≤ c ∧ c ≤ maxLen ∧ (0 < xs.length → ∃ g, b = some ⟨g, 0, none⟩ ∧ B ≤ g ∧ g < W.heap.size ∧
      ∀ (i : Nat) (hi : i < xs.length) (r : Nat), r < 5 → W.cell? ⟨g, i * 5 + r, none⟩ = (xs[i]).cells[r]?) := by
  obtain ⟨h1, ⟨rfl, h2⟩ | ⟨g, cap, cur, rfl, e2, e3, e4, e5, e6, e7⟩⟩ := h
  · refine ⟨none, 0, by rw [h2], by omega, by decide, fun h => by omega⟩
  · refine ⟨_, _, rfl, e4, e5, fun _ => ⟨g, rfl, e2, heap_lt e3, fun i hi r hr => ?_⟩⟩
    rw [← flat_get xs i r hi hr, ← e7, List.getElem?_take, if_pos (by omega), Nat.mul_comm 5 i]
    simp only [World.cell?, e3]
    simp
theorem str_join (a b : List UInt8) : (⟨a.toArray⟩ : ByteArray) ++ ⟨#[10]⟩ ++ ⟨b.toArray⟩ = ⟨(a ++ 10 :: b).toArray⟩ := by
  apply ByteArray.ext
  simp [ByteArray.data_append]
/-- a slice of words in memory, its cells at hand -/
def SlRow (W : World) (v : Value) (xs : List It) : Prop := ∃ b c, v = .slice b xs.length c ∧ xs.length ≤ c ∧ c ≤ maxLen ∧ (0 < xs.length → ∃ g, b = some ⟨g, 0, none⟩ ∧ g < W.heap.size ∧
  ∀ (i : Nat) (hi : i < xs.length) (r : Nat), r < 5 → W.cell? ⟨g, i * 5 + r, none⟩ = (xs[i]).cells[r]?)
theorem row_sl {W : World} {B : Nat} {v : Value} {xs : List It} (h : W.ownsRow B 114 5 v xs.length (xs.flatMap It.cells)) : SlRow W v xs := by
  obtain ⟨b, c, rfl, h1, h2, h3⟩ := row_slice h
  refine ⟨b, c, rfl, h1, h2, fun h0 => ?_⟩
  obtain ⟨g, e1, -, e3, e4⟩ := h3 h0
  exact ⟨g, e1, e3, e4⟩
theorem SlRow.below {W W' : World} {v : Value} {xs : List It} (h : SlRow W v xs) (hb : Below W.heap.size W W') : SlRow W' v xs := by
  obtain ⟨b, c, rfl, h1, h2, h3⟩ := h
  refine ⟨b, c, rfl, h1, h2, fun h0 => ?_⟩
  obtain ⟨g, e1, e3, e4⟩ := h3 h0
  exact ⟨g, e1, Nat.lt_of_lt_of_le e3 hb.size, fun i hi r hr => (hb.cell e3).trans (e4 i hi r hr)⟩
/-- one word's cells -/
theorem SlRow.at {W : World} {vb : Option Addr} {n vc : Nat} {xs : List It} (h : SlRow W (.slice vb n vc) xs) (k : Nat) (hk : k < xs.length) : ∃ g, vb = some ⟨g, 0, none⟩ ∧ g < W.heap.size ∧
    ∀ x, xs[k] = x → W.cell? ⟨g, k * 5, none⟩ = some (.int .i64 x.d.k) ∧ W.cell? ⟨g, k * 5 + 1, none⟩ = some (.string ⟨x.d.t.toArray⟩) ∧ W.cell? ⟨g, k * 5 + 2, none⟩ = some (.int .i64 x.d.n) ∧ W.cell? ⟨g, k * 5 + 3, none⟩ = some (.int .i64 x.p.1) ∧ W.cell? ⟨g, k * 5 + 4, none⟩ = some (.int .i64 x.p.2) := by
  obtain ⟨b, c, e, h1, h2, h3⟩ := h
  obtain ⟨g, e1, e3, e4⟩ := h3 (by omega)
  injection e with a1 a2 a3
  refine ⟨g, a1.trans e1, e3, ?_⟩
  rintro x rfl
  exact ⟨e4 k hk 0 (by omega), e4 k hk 1 (by omega), e4 k hk 2 (by omega), e4 k hk 3 (by omega), e4 k hk 4 (by omega)⟩
theorem PlcAt.below {W W' : World} {g : Nat} {p : Int × Int} (h : PlcAt W g p) (hb : Below W.heap.size W W') : PlcAt W' g p := (hb.block g (heap_lt h)).trans h
theorem belowAlloc (W : World) (o : Obj) : Below W.heap.size W (W.alloc o) := (Below.refl _ _).alloc (Nat.le_refl _) o
theorem below_sym {w a b : World} (h : Below w.heap.size w a) (g : Below a.heap.size a b) : Below w.heap.size w b := h.trans (g.mono h.size)
end Go.Proofs.YtjgpbpmicopemaaGreatDoor

/-
  The parser and its trees in memory.
-/
namespace Go.Proofs.YtjgpbpmicopemaaGreatDoor
open Go.RowKit Go.Shelf

section
variable {X : Nat → Prop} {W W' : World} {g i : Nat} {v : Value}
theorem Mv.setNew (h : Mv X W W') (hg : W.heap.size ≤ g) : Mv X W (W'.setCell ⟨g, i, none⟩ v) :=
  ⟨h.os, h.tape, h.output, by simpa using h.size, fun k hk hx => (set_other (by omega)).trans (h.same k hk hx)⟩
theorem Mv.setIn (h : Mv X W W') (hg : X g) : Mv X W (W'.setCell ⟨g, i, none⟩ v) := h.trans (Mv.setCell _ _ hg)
theorem Mv.more (h : Mv X W W') (o : Obj) : Mv X W (W'.alloc o) := h.trans (Mv.alloc _ _)
theorem Mv.drawn (h : Mv X W W') : Mv X W W'.drew := h.trans (Mv.drew _)
end
/-- a word's cells from o on, and so on -/
def RowAt (W : World) (g : Nat) : Nat → List It → Prop
  | _, [] => True
  | o, x :: xs => W.cell? ⟨g, o, none⟩ = some (.int .i64 x.d.k) ∧ W.cell? ⟨g, o + 1, none⟩ = some (.string ⟨x.d.t.toArray⟩) ∧ W.cell? ⟨g, o + 2, none⟩ = some (.int .i64 x.d.n) ∧
      W.cell? ⟨g, o + 3, none⟩ = some (.int .i64 x.p.1) ∧ W.cell? ⟨g, o + 4, none⟩ = some (.int .i64 x.p.2) ∧ RowAt W g (o + 5) xs
theorem RowAt.same {W W' : World} {g : Nat} (h : W'.heap[g]? = W.heap[g]?) : ∀ {xs : List It} {o : Nat}, RowAt W g o xs → RowAt W' g o xs
  | [], _, _ => trivial
  | x :: xs, o, ⟨h0, h1, h2, h3, h4, h5⟩ => by
    have e : ∀ i, W'.cell? ⟨g, i, none⟩ = W.cell? ⟨g, i, none⟩ := fun i => by unfold World.cell?; rw [h]
    exact ⟨(e _).trans h0, (e _).trans h1, (e _).trans h2, (e _).trans h3, (e _).trans h4, RowAt.same h h5⟩
/-- a slice of words, none of its cells in block p -/
def WsAt (W : World) (p : Nat) (v : Value) (l : List It) : Prop := ∃ b c, v = .slice b l.length c ∧ l.length ≤ c ∧ c ≤ maxLen ∧ (l ≠ [] → ∃ g o, b = some ⟨g, o, none⟩ ∧ g ≠ p ∧ (∃ cur, W.heap[g]? = some (.cells cur 114 (0, 0))) ∧ RowAt W g o l)
/-- words as the parser may meet them -/
structure OkW (x : It) : Prop where
  n1 : -9223372036854775808 ≤ x.d.n
  n2 : x.d.n ≤ 9223372036854775807
  t : x.d.t.length ≤ 65536
  a : ∀ c ∈ x.d.t, c.toNat < 128
def OkWs (l : List It) : Prop := l.length ≤ 65536 ∧ ∀ x ∈ l, OkW x
theorem OkWs.tail {x : It} {l : List It} (h : OkWs (x :: l)) : OkWs l := ⟨by have := h.1; simp at this; omega, fun y hy => h.2 y (List.mem_cons_of_mem _ hy)⟩
/-- what every call's world has -/
structure EnvA (w : World) : Prop where
  env : Env w
  tab : Lib.TabIs Tryz.prog w "internal/strconv.uint64pow10" .u64 Lib.pow10Tab
theorem EnvA.mv {X : Nat → Prop} {w w' : World} (h : EnvA w) (m : Mv X w w') (hx : ∀ k, k < 8 → ¬ X k) : EnvA w' := by
  have key : ∀ {a : Addr} {v : Value}, a.block < 8 → w.cell? a = some v → w'.cell? a = some v := fun {a v} ha hc => by
    rw [← hc]
    exact World.cell?_of_block (m.same a.block (cell_lt hc) (hx _ ha))
  obtain ⟨⟨⟨n, h1⟩, ⟨s, h2, s2⟩, ⟨r, h3, r2⟩⟩, ht⟩ := h
  refine ⟨⟨⟨n, key (by decide) h1⟩, ⟨s, key (by decide) h2, s2⟩, ⟨r, key (by decide) h3, r2⟩⟩, ?_⟩
  have hg : Tryz.prog.globalNamed "internal/strconv.uint64pow10" = some 1 := by kernel_rfl
  unfold Lib.TabIs World.var? at ht ⊢
  rw [hg] at ht ⊢
  simp only [Option.bind_some] at ht ⊢
  have hlt : 1 < w.heap.size := by
    rcases Nat.lt_or_ge 1 w.heap.size with h' | h'
    · exact h'
    · rw [Array.getElem?_eq_none h'] at ht; cases ht
  rw [m.same 1 hlt (hx 1 (by decide))]
  exact ht
theorem EnvA.below {w w' : World} (h : EnvA w) (m : Below w.heap.size w w') : EnvA w' := h.mv (X := fun _ => False) (Mv.below m) (fun _ _ h => h)
/-- the note of a passed limit -/
def OverAt (W : World) (p : Nat) (v : Value) : Bool → Prop
  | false => v = .pointer none
  | true => ∃ q pos, v = .pointer (some ⟨q, 0, none⟩) ∧ q ≠ p ∧ PlcAt W q pos
/-- the parser at block p -/
def PrAt (W : World) (p : Nat) (E : Int × Int) (s : Sx) : Prop :=
  (8 ≤ p ∧ EnvA W ∧ OkWs s.ws) ∧ ∃ v o, W.heap[p]? = some (.cells #[v, .int .i64 E.1, .int .i64 E.2, .int .i64 s.nodes, .int .i64 s.funcs, .int .i64 s.depth, o] 56 (0, 0)) ∧ WsAt W p v s.ws ∧ OverAt W p o s.over
def ptr (b : Nat) : Value := .pointer (some ⟨b, 0, none⟩)
/-- a list of pointers in memory, within K -/
def PtrsAt (W : World) (K : Nat → Prop) (T : Nat) (v : Value) (bs : List Nat) : Prop :=
  (v = .slice none 0 0 ∧ bs = []) ∨ ∃ g cap rest, v = .slice (some ⟨g, 0, none⟩) bs.length cap ∧ K g ∧ bs.length ≤ cap ∧ cap ≤ maxLen ∧ W.heap[g]? = some (.cells (bs.map ptr ++ rest).toArray T (0, 0))
mutual
/-- an expression in memory, all its blocks within K -/
def ExAt (W : World) (K : Nat → Prop) : Nat → Ex → Prop
  | b, .mk k op nm n ty args tall => K b ∧ ∃ (ln cl : Int) (v : Value) (bs : List Nat),
      W.heap[b]? = some (.cells #[.int .i64 k, .int .i64 ln, .int .i64 cl, .string ⟨op.toArray⟩, .string ⟨nm.toArray⟩, .int .i64 n, .string ⟨ty.toArray⟩, v, .int .i64 tall] 142 (0, 0)) ∧ PtrsAt W K 122 v bs ∧ ExsAt W K bs args
def ExsAt (W : World) (K : Nat → Prop) : List Nat → Exs → Prop
  | [], .nil => True
  | b :: bs, .cons e es => ExAt W K b e ∧ ExsAt W K bs es
  | [], .cons _ _ => False
  | _ :: _, .nil => False
end
/-- a pointer to an expression, or nil -/
def ExO (W : World) (K : Nat → Prop) (v : Value) : Option Ex → Prop
  | none => v = .pointer none
  | some e => ∃ b, v = ptr b ∧ ExAt W K b e
mutual
def StAt (W : World) (K : Nat → Prop) : Nat → St → Prop
  | b, .mk k nm ty e pl l tall => K b ∧ ∃ (ln cl : Int) (ve vp v : Value) (bs : List Nat),
      W.heap[b]? = some (.cells #[.int .i64 k, .int .i64 ln, .int .i64 cl, .string ⟨nm.toArray⟩, .string ⟨ty.toArray⟩, ve, vp, v, .int .i64 tall] 125 (0, 0)) ∧ ExO W K ve e ∧ ExO W K vp pl ∧ PtrsAt W K 71 v bs ∧ StsAt W K bs l
def StsAt (W : World) (K : Nat → Prop) : List Nat → Sts → Prop
  | [], .nil => True
  | b :: bs, .cons e es => StAt W K b e ∧ StsAt W K bs es
  | [], .cons _ _ => False
  | _ :: _, .nil => False
end
section
variable {W W' : World} {K K' : Nat → Prop}
/-- what lies in K is as it was -/
def Keeps (K : Nat → Prop) (W W' : World) : Prop := ∀ k, K k → k < W.heap.size → W'.heap[k]? = W.heap[k]?
theorem Keeps.of {X : Nat → Prop} (m : Mv X W W') (h : ∀ k, K k → ¬ X k) : Keeps K W W' := fun k hk hl => m.same k hl (h k hk)
theorem PtrsAt.mv {T : Nat} {v : Value} {bs : List Nat} (h : PtrsAt W K T v bs) (m : Keeps K W W') (hK : ∀ k, K k → K' k) : PtrsAt W' K' T v bs := by
  obtain h | ⟨g, cap, rest, e1, e3, e4, e5, e6⟩ := h
  · exact .inl h
  · exact .inr ⟨g, cap, rest, e1, hK _ e3, e4, e5, (m g e3 (heap_lt e6)).trans e6⟩
mutual
theorem ExAt.mv (m : Keeps K W W') (hK : ∀ k, K k → K' k) : ∀ {b : Nat} {e : Ex}, ExAt W K b e → ExAt W' K' b e
  | b, .mk k op nm n ty args tall, h => by
    unfold ExAt at h ⊢
    obtain ⟨h1, ln, cl, v, bs, h2, h3, h4⟩ := h
    exact ⟨hK _ h1, ln, cl, v, bs, (m b h1 (heap_lt h2)).trans h2, h3.mv m hK, ExsAt.mv m hK h4⟩
theorem ExsAt.mv (m : Keeps K W W') (hK : ∀ k, K k → K' k) : ∀ {bs : List Nat} {e : Exs}, ExsAt W K bs e → ExsAt W' K' bs e
  | [], .nil, _ => by unfold ExsAt; trivial
  | b :: bs, .cons e es, h => by
    unfold ExsAt at h ⊢
    exact ⟨ExAt.mv m hK h.1, ExsAt.mv m hK h.2⟩
  | [], .cons _ _, h => by unfold ExsAt at h; exact h.elim
  | _ :: _, .nil, h => by unfold ExsAt at h; exact h.elim
end
theorem ExO.mv (m : Keeps K W W') (hK : ∀ k, K k → K' k) {v : Value} : ∀ {e : Option Ex}, ExO W K v e → ExO W' K' v e
  | none, h => h
  | some _, ⟨b, e1, e2⟩ => ⟨b, e1, e2.mv m hK⟩
mutual
theorem StAt.mv (m : Keeps K W W') (hK : ∀ k, K k → K' k) : ∀ {b : Nat} {e : St}, StAt W K b e → StAt W' K' b e
  | b, .mk k nm ty e pl l tall, h => by
    unfold StAt at h ⊢
    obtain ⟨h1, ln, cl, ve, vp, v, bs, h2, h3, h4, h5, h6⟩ := h
    exact ⟨hK _ h1, ln, cl, ve, vp, v, bs, (m b h1 (heap_lt h2)).trans h2, h3.mv m hK, h4.mv m hK, h5.mv m hK, StsAt.mv m hK h6⟩
theorem StsAt.mv (m : Keeps K W W') (hK : ∀ k, K k → K' k) : ∀ {bs : List Nat} {e : Sts}, StsAt W K bs e → StsAt W' K' bs e
  | [], .nil, _ => by unfold StsAt; trivial
  | b :: bs, .cons e es, h => by
    unfold StsAt at h ⊢
    exact ⟨StAt.mv m hK h.1, StsAt.mv m hK h.2⟩
  | [], .cons _ _, h => by unfold StsAt at h; exact h.elim
  | _ :: _, .nil, h => by unfold StsAt at h; exact h.elim
end
end
theorem WsAt.mv {W W' : World} {p : Nat} {v : Value} {l : List It} (h : WsAt W p v l) (m : Mv (fun k => k = p) W W') : WsAt W' p v l := by
  obtain ⟨b, c, e1, e2, e3, e4⟩ := h
  refine ⟨b, c, e1, e2, e3, fun hl => ?_⟩
  obtain ⟨g, o, e5, e6, ⟨cur, e7⟩, e8⟩ := e4 hl
  exact ⟨g, o, e5, e6, ⟨cur, (m.same g (heap_lt e7) e6).trans e7⟩, e8.same (m.same g (heap_lt e7) e6)⟩
theorem OverAt.mv {W W' : World} {p : Nat} {v : Value} (m : Mv (fun k => k = p) W W') : ∀ {b : Bool}, OverAt W p v b → OverAt W' p v b
  | false, h => h
  | true, ⟨q, pos, e1, e2, e3⟩ => ⟨q, pos, e1, e2, e3.mv m e2⟩
/-- the parser untouched -/
theorem PrAt.mv {W W' : World} {p : Nat} {E : Int × Int} {s : Sx} (h : PrAt W p E s) (m : Mv (fun k => k = p) W W') (hp : W'.heap[p]? = W.heap[p]?) : PrAt W' p E s := by
  obtain ⟨⟨h8, hE, h0⟩, v, o, h1, h2, h3⟩ := h
  exact ⟨⟨h8, hE.mv m (fun k hk e => by omega), h0⟩, v, o, hp.trans h1, h2.mv m, h3.mv m⟩
theorem PrAt.below {W W' : World} {p : Nat} {E : Int × Int} {s : Sx} (h : PrAt W p E s) (m : Below W.heap.size W W') : PrAt W' p E s := by
  refine h.mv (Mv.below m) (m.block p ?_)
  obtain ⟨h0, v, o, h1, h2, h3⟩ := h
  exact heap_lt h1
theorem PrAt.lt {W : World} {p : Nat} {E : Int × Int} {s : Sx} (h : PrAt W p E s) : p < W.heap.size := by
  obtain ⟨h0, v, o, h1, h2, h3⟩ := h
  exact heap_lt h1
/-- a block that is none of the parser's -/
def Tame (W : World) (p k : Nat) : Prop := 8 ≤ k ∧ k ≠ p ∧ ∀ cur T r, W.heap[k]? = some (.cells cur T r) → T ≠ 114 ∧ T ≠ 26
theorem PrAt.tame {X : Nat → Prop} {W W' : World} {p : Nat} {E : Int × Int} {s : Sx} (h : PrAt W p E s) (m0 : Mv X W W') (hX : ∀ k, X k → k < W.heap.size → Tame W p k) : PrAt W' p E s := by
  have m : Mv (Tame W p) W W' := m0.mono (fun k hk hx => hX k hx hk)
  obtain ⟨⟨h8, hE, h0⟩, v, o, h1, ⟨b, c, e1, e2, e3, e4⟩, h3⟩ := h
  have hp : W'.heap[p]? = W.heap[p]? := m.same p (heap_lt h1) (fun ht => ht.2.1 rfl)
  refine ⟨⟨h8, hE.mv m (fun k hk ht => by have := ht.1; omega), h0⟩, v, o, hp.trans h1, ⟨b, c, e1, e2, e3, fun hl => ?_⟩, ?_⟩
  · obtain ⟨g, o, e5, e6, ⟨cur, e7⟩, e8⟩ := e4 hl
    have hg := m.same g (heap_lt e7) (fun ht => (ht.2.2 _ _ _ e7).1 rfl)
    exact ⟨g, o, e5, e6, ⟨cur, hg.trans e7⟩, e8.same hg⟩
  · cases ho : s.over
    · rw [ho] at h3; exact h3
    · rw [ho] at h3
      obtain ⟨q, pos, f1, f2, f3⟩ := h3
      exact ⟨q, pos, f1, f2, (m.same q (heap_lt f3) (fun ht => (ht.2.2 _ _ _ f3).2 rfl)).trans f3⟩
section
variable {W : World} {p : Nat} {E : Int × Int} {s : Sx}
theorem PrAt.putNodes (h : PrAt W p E s) (n : Int) : PrAt (W.setCell ⟨p, 3, none⟩ (.int .i64 n)) p E { s with nodes := n } := by
  obtain ⟨⟨h8, hE, h0⟩, v, o, h1, h2, h3⟩ := h
  have m : Mv (fun k => k = p) W (W.setCell ⟨p, 3, none⟩ (.int .i64 n)) := Mv.setCell _ _ rfl
  exact ⟨⟨h8, hE.mv m (fun k hk e => by omega), h0⟩, v, o, set_same h1, h2.mv m, h3.mv m⟩
theorem PrAt.putFuncs (h : PrAt W p E s) (n : Int) : PrAt (W.setCell ⟨p, 4, none⟩ (.int .i64 n)) p E { s with funcs := n } := by
  obtain ⟨⟨h8, hE, h0⟩, v, o, h1, h2, h3⟩ := h
  have m : Mv (fun k => k = p) W (W.setCell ⟨p, 4, none⟩ (.int .i64 n)) := Mv.setCell _ _ rfl
  exact ⟨⟨h8, hE.mv m (fun k hk e => by omega), h0⟩, v, o, set_same h1, h2.mv m, h3.mv m⟩
theorem PrAt.putDepth (h : PrAt W p E s) (n : Int) : PrAt (W.setCell ⟨p, 5, none⟩ (.int .i64 n)) p E { s with depth := n } := by
  obtain ⟨⟨h8, hE, h0⟩, v, o, h1, h2, h3⟩ := h
  have m : Mv (fun k => k = p) W (W.setCell ⟨p, 5, none⟩ (.int .i64 n)) := Mv.setCell _ _ rfl
  exact ⟨⟨h8, hE.mv m (fun k hk e => by omega), h0⟩, v, o, set_same h1, h2.mv m, h3.mv m⟩
theorem PrAt.putOver (h : PrAt W p E s) {q : Nat} {pos : Int × Int} (hq : q ≠ p) (hP : PlcAt W q pos) : PrAt (W.setCell ⟨p, 6, none⟩ (ptr q)) p E { s with over := true } := by
  obtain ⟨⟨h8, hE, h0⟩, v, o, h1, h2, h3⟩ := h
  have m : Mv (fun k => k = p) W (W.setCell ⟨p, 6, none⟩ (ptr q)) := Mv.setCell _ _ rfl
  exact ⟨⟨h8, hE.mv m (fun k hk e => by omega), h0⟩, v, ptr q, set_same h1, h2.mv m, q, pos, rfl, hq, hP.mv m hq⟩
end
/-- the parser's fault as the program throws it -/
def flt (q : Int × Int) : Value := .iface 58 (.agg #[.int .i64 q.1, .int .i64 q.2, .int .i64 4])
/-- what a part of the parser answers, and how it leaves the world -/
def Post {α : Type} (p : Nat) (E : Int × Int) (w : World) (enc : World → World → Value → α → Prop) (r : Re α) (e : Ending) (w' : World) : Prop :=
  Mv (fun k => k = p) w w' ∧ match r with
  | .out => True
  | .bad s' => e = .panicked [{ v := flt (posOf E s'.ws), recovered := false }] ∧ ∃ s'', PrAt w' p E s''
  | .ok a s' => PrAt w' p E s' ∧ ∃ v, e = .returned v ∧ enc w w' v a
theorem Post.split {α β : Type} {p : Nat} {E : Int × Int} {w w' : World} {enc : World → World → Value → α → Prop} {x : Pr α} {k : α → Pr β} {R : Re β} {s : Sx} {e : Ending} (h : Post p E w enc (x s) e w') (hG : R = (x >>= k) s) (hno : R ≠ .out) :
    (∃ s', R = .bad s' ∧ e = .panicked [{ v := flt (posOf E s'.ws), recovered := false }] ∧ (∃ s'', PrAt w' p E s'') ∧ Mv (fun k => k = p) w w') ∨
    (∃ a s' v, x s = .ok a s' ∧ R = k a s' ∧ e = .returned v ∧ enc w w' v a ∧ PrAt w' p E s' ∧ Mv (fun k => k = p) w w') := by
  obtain ⟨h1, h2⟩ := h
  cases hx : x s with
  | out => exact absurd (hG.trans (bind_out hx)) hno
  | bad s' =>
    rw [hx] at h2
    exact .inl ⟨s', hG.trans (bind_bad hx), h2.1, h2.2, h1⟩
  | ok a s' =>
    rw [hx] at h2
    obtain ⟨h3, v, h4, h5⟩ := h2
    exact .inr ⟨a, s', v, rfl, hG.trans (bind_ok hx), h4, h5, h3, h1⟩
section
variable {α : Type} {p : Nat} {E : Int × Int} {w w1 w' : World} {enc enc' : World → World → Value → α → Prop} {R : Re α} {s s' : Sx} {a : α} {v : Value}
theorem Post.badly (h : R = .bad s') (hm : Mv (fun k => k = p) w w') (hP : ∃ s'', PrAt w' p E s'') : Post p E w enc R (.panicked [{ v := flt (posOf E s'.ws), recovered := false }]) w' := by
  subst h
  exact ⟨hm, rfl, hP⟩
theorem Post.well (h : R = .ok a s') (hm : Mv (fun k => k = p) w w') (hP : PrAt w' p E s') (he : enc w w' v a) : Post p E w enc R (.returned v) w' := by
  subst h
  exact ⟨hm, hP, v, rfl, he⟩
theorem Post.done {x : Re α} {e : Ending} (h : Post p E w1 enc x e w') (hG : R = x) (hm : Mv (fun k => k = p) w w1) (he : ∀ v a, enc w1 w' v a → enc' w w' v a) : Post p E w enc' R e w' := by
  subst hG
  obtain ⟨h1, h2⟩ := h
  refine ⟨hm.trans h1, ?_⟩
  cases R with
  | out => trivial
  | bad s' => exact h2
  | ok a s' =>
    obtain ⟨h3, v, h4, h5⟩ := h2
    exact ⟨h3, v, h4, he _ _ h5⟩
theorem ne_left {β : Type} {x : Pr β} {k : β → Pr α} (hG : R = (x >>= k) s) (hno : R ≠ .out) : x s ≠ .out := fun h => hno (hG.trans (bind_out h))
end
end Go.Proofs.YtjgpbpmicopemaaGreatDoor
