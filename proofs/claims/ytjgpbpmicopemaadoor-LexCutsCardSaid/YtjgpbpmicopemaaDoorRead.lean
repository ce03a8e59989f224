/-
  lex.read: what it answers, for every text.
-/
import Derived.Test.YtjgpbpmicopemaaDoorScan
import Derived.RangeFuncBox
import Derived.Maps.AppendAt
namespace Go.Proofs.YtjgpbpmicopemaaDoor
open Go.RowKit Go.Shelf
attribute [local go_sem] Oper.semAt_some

theorem scan_any (l : List UInt8) (w : World) : Calls Tryd.prog 19 #[str l] w fun e w' => e = .returned (.func (.func 21) #[] #[.pointer (some ⟨w.heap.size, 0, none⟩)]) ∧ w' = w.alloc (.cells #[str l] 9) := by
  unfold str
  go_enter Tryd.func19, Tryd.ntmps19
  go_wp2
  go_ret
  exact ⟨rfl, rfl⟩
/-- a word's cells in a slice's row -/
def It.cells (x : It) : List Value := [.int .i64 x.d.k, str x.d.t, .int .i64 x.d.n, .int .i64 x.p.1, .int .i64 x.p.2]
/-- the words ahead of a fault, and the fault's place -/
def goods (l : List UInt8) : List It := (scanL l).takeWhile (fun x => !x.bad)
def faultO (l : List UInt8) : Option It := (scanL l).find? (fun x => x.bad)
def faultP (l : List UInt8) : Int × Int := match faultO l with
  | some x => x.p
  | none => (0, 0)
def SlAt (W : World) (g : Nat) (v : Value) : Prop := W.heap[g]? = some (.cells #[v] 23 (0, 0))
def BlAt (W : World) (g : Nat) (b : Bool) : Prop := W.heap[g]? = some (.cells #[.bool b] 4 (0, 0))
def RRd (l : List UInt8) (w : World) (e : Ending) (w' : World) : Prop := ∃ v, e = .returned (.tuple #[v, .agg #[.int .i64 (faultP l).1, .int .i64 (faultP l).2], .bool (faultO l).isSome]) ∧
  w'.ownsRow w.heap.size 30 5 v (goods l).length ((goods l).flatMap It.cells) ∧ Below w.heap.size w w'
theorem goods_all (l : List UInt8) (h : ∀ x ∈ scanL l, x.bad = false) : goods l = scanL l ∧ faultO l = none := by
  unfold goods faultO
  constructor
  · generalize scanL l = xs at h
    induction xs with
    | nil => rfl
    | cons x xs ih =>
      rw [List.takeWhile_cons, h x (by simp)]
      simp only [Bool.not_false, if_true]
      rw [ih (fun y hy => h y (by simp [hy]))]
  · rw [List.find?_eq_none]
    intro x hx
    simp [h x hx]
theorem goods_some (l : List UInt8) (pre r : List It) (x : It) (e : pre ++ [x] ++ r = scanL l) (h : ∀ y ∈ pre, y.bad = false) (hx : x.bad = true) : goods l = pre ∧ faultO l = some x := by
  unfold goods faultO
  rw [← e]
  clear e
  induction pre with
  | nil => simp [hx]
  | cons y pre ih =>
    obtain ⟨h1, h2⟩ := ih (fun z hz => h z (by simp [hz]))
    have hy := h y (by simp)
    constructor
    · rw [List.cons_append, List.cons_append, List.takeWhile_cons, hy]
      simp only [Bool.not_false, if_true]
      rw [h1]
    · rw [List.cons_append, List.cons_append, List.find?_cons, hy]
      exact h2
theorem ownsRow_base {W : World} {B B' : Nat} {v : Value} {n : Nat} {xs : List Value} (h : W.ownsRow B 30 5 v n xs) (hb : B' ≤ B) : W.ownsRow B' 30 5 v n xs := by
  obtain ⟨h1, h2 | ⟨g, cap, cur, e1, e2, e3⟩⟩ := h
  · exact ⟨h1, .inl h2⟩
  · exact ⟨h1, .inr ⟨g, cap, cur, e1, Nat.le_trans hb e2, e3⟩⟩
theorem info30 : (Tryd.prog.info? 30).map (fun i => (i.zero, i.size, i.bytes)) = some (some (.agg #[.int .i64 0, .string ⟨#[]⟩, .int .i64 0, .int .i64 0, .int .i64 0]), 5, 48) := by kernel_rfl

/-- what read keeps between two rounds -/
structure Rd (w0 : World) (B : Nat) (v : Value) (pre : List It) (p : Int × Int) (b : Bool) (W : World) : Prop where
  sl : SlAt W w0.heap.size v
  plc : PlcAt W (w0.heap.size + 1) p
  bl : BlAt W (w0.heap.size + 1 + 1) b
  row : W.ownsRow B 30 5 v pre.length (pre.flatMap It.cells)
  low : Below w0.heap.size w0 W
theorem cell_five_new (W : World) (a b c d e : Value) (t : TypeId) : ∀ j u, [a, b, c, d, e][j]? = some u → (W.alloc (.cells #[a, b, c, d, e] t)).cell? ((⟨W.heap.size, 0, none⟩ : Addr).add j) = some u := by
  intro j u hj
  have h : (W.alloc (.cells #[a, b, c, d, e] t)).heap[W.heap.size]? = some (.cells #[a, b, c, d, e] t (0, 0)) := heap_alloc_new W (.cells #[a, b, c, d, e] t)
  have key : ∀ i, (W.alloc (.cells #[a, b, c, d, e] t)).cell? ⟨W.heap.size, i, none⟩ = #[a, b, c, d, e][i]? := fun i => by simp only [World.cell?, h]; rfl
  have e0 : (⟨W.heap.size, 0, none⟩ : Addr).add j = ⟨W.heap.size, j, none⟩ := by cases j <;> simp [Addr.add]
  rw [e0, key]
  simpa using hj
theorem slice_of_row {W : World} {B : Nat} {v : Value} {n : Nat} {xs : List Value} (h : W.ownsRow B 30 5 v n xs) : ∃ b m c, v = .slice b m c := by
  obtain ⟨-, ⟨rfl, -⟩ | ⟨g, cap, cur, rfl, -⟩⟩ := h
  · exact ⟨_, _, _, rfl⟩
  · exact ⟨_, _, _, rfl⟩
theorem row_in {W : World} {B : Nat} {v : Value} {n : Nat} {xs : List Value} (h : W.ownsRow B 30 5 v n xs) : ∀ g, v.ownBlock = some g → B ≤ g ∧ g < W.heap.size := by
  obtain ⟨-, ⟨rfl, -⟩ | ⟨g, cap, cur, rfl, e2, e3, -⟩⟩ := h
  · intro g hg; cases hg
  · intro g' hg
    have : g = g' := Option.some.inj hg
    subst this
    exact ⟨e2, heap_lt e3⟩
theorem not_cells_kept {A B : World} {row : Option Nat} (h : A.grownBy B row) (hr : ∀ r, row = some r → ∃ o : Obj, A.heap[r]? = some o ∧ o.isCells = true) : KeepsOthers A B :=
  ⟨h.size, fun k o hk ho => by
    rw [h.block k (Array.getElem?_eq_some_iff.1 hk).1 (fun e => by
      obtain ⟨o', ho', hc⟩ := hr k e.symm
      rw [hk] at ho'; cases ho'; rw [ho] at hc; cases hc)]
    exact hk⟩
theorem four_new (W : World) (o1 o2 o3 o4 : Obj) : ((((W.alloc o1).alloc o2).alloc o3).alloc o4).heap[W.heap.size]? = some o1 ∧ ((((W.alloc o1).alloc o2).alloc o3).alloc o4).heap[W.heap.size + 1]? = some o2 ∧
    ((((W.alloc o1).alloc o2).alloc o3).alloc o4).heap[W.heap.size + 1 + 1]? = some o3 ∧ ((((W.alloc o1).alloc o2).alloc o3).alloc o4).heap[W.heap.size + 1 + 1 + 1]? = some o4 := by
  have h1 := heap_alloc_new W o1
  have h2 := heap_alloc_new (W.alloc o1) o2
  have h3 := heap_alloc_new ((W.alloc o1).alloc o2) o3
  have h4 := heap_alloc_new (((W.alloc o1).alloc o2).alloc o3) o4
  simp only [World.size_alloc] at h2 h3 h4
  refine ⟨?_, ?_, ?_, h4⟩
  · rw [Below.heap_alloc _ _ _ (by simp only [World.size_alloc]; omega), Below.heap_alloc _ _ _ (by simp only [World.size_alloc]; omega), Below.heap_alloc _ _ _ (by simp only [World.size_alloc]; omega)]; exact h1
  · rw [Below.heap_alloc _ _ _ (by simp only [World.size_alloc]; omega), Below.heap_alloc _ _ _ (by simp only [World.size_alloc]; omega)]; exact h2
  · rw [Below.heap_alloc _ _ _ (by simp)]; exact h3
theorem Kept.below {X : Nat → Prop} {A B : World} (h : Below A.heap.size A B) : Kept X A B := ⟨h.size, fun k hk _ => h.block k hk⟩
theorem Kept.setCell {X : Nat → Prop} (W : World) {g i : Nat} (v : Value) (h : X g) : Kept X W (W.setCell ⟨g, i, none⟩ v) := ⟨by simp, fun k _ hx => set_other (fun e => hx (e ▸ h))⟩
theorem Rd.cells {w0 : World} {B : Nat} {v : Value} {pre : List It} {p : Int × Int} {b : Bool} {W : World} (h : Rd w0 B v pre p b W) :
    W.cell? ⟨w0.heap.size, 0, none⟩ = some v ∧ W.cell? ⟨w0.heap.size + 1, 0, none⟩ = some (.int .i64 p.1) ∧ W.cell? ⟨w0.heap.size + 1, 1, none⟩ = some (.int .i64 p.2) ∧ W.cell? ⟨w0.heap.size + 1 + 1, 0, none⟩ = some (.bool b) ∧
    W.frozen? ⟨w0.heap.size, 0, none⟩ = false ∧ W.frozen? ⟨w0.heap.size + 1, 0, none⟩ = false ∧ W.frozen? ⟨w0.heap.size + 1, 1, none⟩ = false ∧ W.frozen? ⟨w0.heap.size + 1 + 1, 0, none⟩ = false := by
  have h1 := h.sl
  have h2 := h.plc
  have h3 := h.bl
  unfold SlAt at h1
  unfold PlcAt at h2
  unfold BlAt at h3
  refine ⟨?_, ?_, ?_, ?_, ?_, ?_, ?_, ?_⟩ <;> simp [World.cell?, World.frozen?, h1, h2, h3]
theorem ownsRow_same {W W' : World} {B : Nat} {v : Value} {n : Nat} {xs : List Value} (h : W.ownsRow B 30 5 v n xs) (hs : ∀ g o, B ≤ g → W.heap[g]? = some o → W'.heap[g]? = some o) : W'.ownsRow B 30 5 v n xs := by
  obtain ⟨h1, h2⟩ := h
  refine ⟨h1, ?_⟩
  rcases h2 with h2 | ⟨g, cap, cur, e1, e2, e3, e4⟩
  · exact .inl h2
  · exact .inr ⟨g, cap, cur, e1, e2, hs g _ e2 e3, e4⟩
theorem Rd.mv {w0 : World} {B : Nat} {v : Value} {pre : List It} {p : Int × Int} {b : Bool} {W W' : World} {X : Nat → Prop} (h : Rd w0 B v pre p b W) (m : Mv X W W') (hX : ∀ k, X k → w0.heap.size + 3 ≤ k ∧ k < B) : Rd w0 B v pre p b W' := by
  have key : ∀ {g : Nat} {o : Obj}, W.heap[g]? = some o → ¬ X g → W'.heap[g]? = some o := fun hg hx => (m.same _ (heap_lt hg) hx).trans hg
  refine ⟨key h.sl (fun hx => by have := hX _ hx; omega), key h.plc (fun hx => by have := hX _ hx; omega), key h.bl (fun hx => by have := hX _ hx; omega), ownsRow_same h.row (fun g o hB hg => key hg (fun hx => by have := hX _ hx; omega)), ?_⟩
  exact ⟨m.os.trans h.low.os, m.tape.trans h.low.tape, m.output.trans h.low.output, Nat.le_trans h.low.size m.size, fun k hk => (m.same k (Nat.lt_of_lt_of_le hk h.low.size) (fun hx => by have := hX _ hx; omega)).trans (h.low.block k hk)⟩
theorem Rd.appended {w0 : World} {B : Nat} {v : Value} {pre : List It} {W2 : World} (R : Rd w0 B v pre (0, 0) false W2) (hB : w0.heap.size + 3 ≤ B) (x : It) {tmp : Obj} {w1 : World} {v' : Value}
    (hown : w1.ownsRow B 30 5 v' (pre.length + 1) (pre.flatMap It.cells ++ x.cells)) (hgrow : (W2.alloc tmp).grownBy w1 v.ownBlock) :
    (w1.cell? ⟨w0.heap.size, 0, none⟩ = some v ∧ w1.frozen? ⟨w0.heap.size, 0, none⟩ = false) ∧ Rd w0 B v' (pre ++ [x]) (0, 0) false (w1.setCell ⟨w0.heap.size, 0, none⟩ v') ∧ KeepsOthers W2 (w1.setCell ⟨w0.heap.size, 0, none⟩ v') ∧
    Kept (fun k => k = w0.heap.size ∨ v.ownBlock = some k) W2 (w1.setCell ⟨w0.heap.size, 0, none⟩ v') := by
  have hrow := row_in R.row
  have hm : Mv (fun k => v.ownBlock = some k) W2 w1 := (Mv.alloc W2 tmp).trans (Mv.of_grown hgrow (fun r h => h))
  have key : ∀ {g : Nat} {o : Obj}, W2.heap[g]? = some o → g < B → w1.heap[g]? = some o := fun hg hlt => (hm.same _ (heap_lt hg) (fun h => by have := hrow _ h; omega)).trans hg
  have hs : SlAt w1 w0.heap.size v := key R.sl (by omega)
  have hs' := hs
  unfold SlAt at hs'
  refine ⟨⟨by simp [World.cell?, hs'], by simp [World.frozen?, hs']⟩, ⟨set_same hs, (set_other (by omega)).trans (key R.plc (by omega)), (set_other (by omega)).trans (key R.bl (by omega)), ?_, ?_⟩, ?_, ?_⟩
  · have : (pre ++ [x]).flatMap It.cells = pre.flatMap It.cells ++ x.cells := by simp
    rw [this, List.length_append]
    exact ownsRow_same hown (fun g o hg ho => (set_other (by omega)).trans ho)
  · have h1 : Below w0.heap.size w0 w1 := ⟨hm.os.trans R.low.os, hm.tape.trans R.low.tape, hm.output.trans R.low.output, Nat.le_trans R.low.size hm.size, fun k hk => (hm.same k (Nat.lt_of_lt_of_le hk R.low.size) (fun h => by have := hrow _ h; omega)).trans (R.low.block k hk)⟩
    exact h1.setCell (p := ⟨w0.heap.size, 0, none⟩) (Nat.le_refl _) _
  · refine ((KeepsOthers.alloc W2 tmp).trans (not_cells_kept hgrow ?_)).trans (KeepsOthers.setCell _ _ _)
    intro r hr
    obtain ⟨-, ⟨rfl, -⟩ | ⟨g, cap, cur, rfl, e2, e3, -⟩⟩ := R.row
    · cases hr
    · have : g = r := Option.some.inj hr
      subst this
      exact ⟨_, (Below.heap_alloc W2 tmp g (heap_lt e3)).trans e3, rfl⟩
  · exact ⟨by simp; exact hm.size, fun k hk hx => (set_other (fun e => hx (.inl e))).trans (hm.same k hk (fun h => hx (.inr h)))⟩
theorem Rd.drew {w0 : World} {B : Nat} {v : Value} {pre : List It} {W : World} {p : Int × Int} {b : Bool} (h : Rd w0 B v pre p b W) : Rd w0 B v pre p b W.drew :=
  ⟨h.sl, h.plc, h.bl, h.row, ⟨h.low.os, h.low.tape, h.low.output, h.low.size, h.low.block⟩⟩
theorem Rd.told {w0 : World} {B : Nat} {v : Value} {pre : List It} {W2 : World} {p0 : Int × Int} {b0 : Bool} (R : Rd w0 B v pre p0 b0 W2) (hB : w0.heap.size + 3 ≤ B) (p q : Int) (b : Bool) :
    KeepsOthers W2 ((((W2.setCell ⟨w0.heap.size, 0, none⟩ v).setCell ⟨w0.heap.size + 1, 0, none⟩ (.int .i64 p)).setCell ⟨w0.heap.size + 1, 1, none⟩ (.int .i64 q)).setCell ⟨w0.heap.size + 1 + 1, 0, none⟩ (.bool b)) ∧
    Rd w0 B v pre (p, q) b ((((W2.setCell ⟨w0.heap.size, 0, none⟩ v).setCell ⟨w0.heap.size + 1, 0, none⟩ (.int .i64 p)).setCell ⟨w0.heap.size + 1, 1, none⟩ (.int .i64 q)).setCell ⟨w0.heap.size + 1 + 1, 0, none⟩ (.bool b)) := by
  have h1 := R.sl
  have h2 := R.plc
  have h3 := R.bl
  unfold SlAt at h1
  unfold PlcAt at h2
  unfold BlAt at h3
  have n1 : w0.heap.size ≠ w0.heap.size + 1 := by omega
  have n2 : w0.heap.size ≠ w0.heap.size + 1 + 1 := by omega
  have n3 : w0.heap.size + 1 ≠ w0.heap.size + 1 + 1 := by omega
  refine ⟨(((KeepsOthers.setCell _ _ _).trans (KeepsOthers.setCell _ _ _)).trans (KeepsOthers.setCell _ _ _)).trans (KeepsOthers.setCell _ _ _), ?_, ?_, ?_, ?_, ?_⟩
  · unfold SlAt
    rw [set_other n2, set_other n1, set_other n1, set_same h1]
    rfl
  · unfold PlcAt
    rw [set_other n3, set_same (set_same ((set_other n1.symm).trans h2))]
    rfl
  · unfold BlAt
    rw [set_same ((set_other n3.symm).trans ((set_other n3.symm).trans ((set_other n2.symm).trans h3)))]
    rfl
  · exact ownsRow_same R.row (fun g o hg ho => (set_other (by omega)).trans ((set_other (by omega)).trans ((set_other (by omega)).trans ((set_other (by omega)).trans ho))))
  · exact (((R.low.setCell (p := ⟨w0.heap.size, 0, none⟩) (Nat.le_refl _) v).setCell (p := ⟨w0.heap.size + 1, 0, none⟩) (by simp) (.int .i64 p)).setCell (p := ⟨w0.heap.size + 1, 1, none⟩) (by simp) (.int .i64 q)).setCell (p := ⟨w0.heap.size + 1 + 1, 0, none⟩) (by simp; omega) (.bool b)
set_option maxRecDepth 20000 in
set_option maxHeartbeats 4000000 in
theorem read_any (l : List UInt8) (hl : l.length ≤ 65536) (w : World) (hE : Env w) : Calls Tryd.prog 12 #[str l] w (RRd l w) := by
  refine (callsIn_wide (n := 5)).1 ?_
  have h3 : 2 < w.heap.size := by obtain ⟨ev, hv, -⟩ := hE.rng; exact cell_lt hv
  have C1 := fun W => callsIn_wide (n := 4).2 (scan_any l W)
  unfold str at *
  refine callsIn_of_wp_marks Tryd.func12 rfl trivial ?_ rfl
  simp only [Tryd.ntmps12, List.size_toArray, List.length_cons, List.length_nil, Nat.reduceAdd, Nat.reduceSub, Array.replicate_succ, Array.replicate_zero, List.push_toArray, List.append_toArray, List.nil_append, List.cons_append]
  gi_wp2_with fail
  refine ⟨trivial, (C1 _).mono ?_⟩
  rintro e w1 ⟨rfl, rfl⟩
  gi_wp2_with fail
  have hR0 : Rd w (w.heap.size + 8) (.slice none 0 0) [] (0, 0) false ((((w.alloc (.cells #[.slice none 0 0] 23)).alloc (.cells #[.int .i64 0, .int .i64 0] 25)).alloc (.cells #[.bool false] 4)).alloc (.cells #[.string ⟨l.toArray⟩] 9)) := by
    have hf := four_new w (.cells #[.slice none 0 0] 23) (.cells #[.int .i64 0, .int .i64 0] 25) (.cells #[.bool false] 4) (.cells #[.string ⟨l.toArray⟩] 9)
    exact ⟨hf.1, hf.2.1, hf.2.2.1, ⟨rfl, .inl ⟨rfl, rfl⟩⟩, ((((Below.refl w.heap.size w).alloc (Nat.le_refl _) _).alloc (by simp) _).alloc (by simp; omega) _).alloc (by simp; omega) _⟩
  have hT0 : TxtAt ((((w.alloc (.cells #[.slice none 0 0] 23)).alloc (.cells #[.int .i64 0, .int .i64 0] 25)).alloc (.cells #[.bool false] 4)).alloc (.cells #[.string ⟨l.toArray⟩] 9)) (w.heap.size + 1 + 1 + 1) l := (four_new w (.cells #[.slice none 0 0] 23) (.cells #[.int .i64 0, .int .i64 0] 25) (.cells #[.bool false] 4) (.cells #[.string ⟨l.toArray⟩] 9)).2.2.2
  have hs0 : ((((w.alloc (.cells #[.slice none 0 0] 23)).alloc (.cells #[.int .i64 0, .int .i64 0] 25)).alloc (.cells #[.bool false] 4)).alloc (.cells #[.string ⟨l.toArray⟩] 9)).heap.size = w.heap.size + 4 := by simp
  have hE0 := hE.below hR0.low
  generalize ((((w.alloc (.cells #[.slice none 0 0] 23)).alloc (.cells #[.int .i64 0, .int .i64 0] 25)).alloc (.cells #[.bool false] 4)).alloc (.cells #[.string ⟨l.toArray⟩] 9)) = wL at *
  refine range_aside (encs := It.encs) (X := fun k => k = w.heap.size ∨ k = w.heap.size + 1 ∨ k = w.heap.size + 1 + 1 ∨ k = wL.heap.size + 1) rfl (by omega) (gf := 21) (lb := #[.pointer (some ⟨w.heap.size + 1 + 1 + 1, 0, none⟩)]) rfl trivial (enters_of Tryd.func21 (by kernel_rfl) rfl)
    (scan_run 4 (by omega) (w.heap.size + 1 + 1 + 1) l hl _ wL hT0 hE0 ?hX ?hX3) (.inr (.inr (.inr rfl))) (fun _ => rfl)
    (fun pre W => (∃ v, Rd w (w.heap.size + 8) v pre (0, 0) false W) ∧ ∀ x ∈ pre, x.bad = false)
    (fun pre W => ∃ pre' x v, pre = pre' ++ [x] ∧ x.bad = true ∧ (∀ y ∈ pre', y.bad = false) ∧ Rd w (w.heap.size + 8) v pre' x.p true W)
    ?hI ?hIx ⟨⟨_, hR0⟩, by simp⟩ ?round ?done ?stop
  case hX => rintro k (h | h | h | h) <;> omega
  case hX3 => exact ⟨by omega, by omega, by omega⟩
  case hI =>
    rintro s A B ⟨⟨v, h⟩, hg⟩ m
    exact ⟨⟨v, h.mv m (fun k hk => by omega)⟩, hg⟩
  case hIx =>
    rintro s A B ⟨pre', x, v, h1, h2, h3, h⟩ m
    exact ⟨pre', x, v, h1, h2, h3, h.mv m (fun k hk => by omega)⟩
  case round =>
    rintro pre ⟨⟨dk, dt, dn⟩, p, bad⟩ Wp W ⟨⟨v, hRp⟩, hg⟩ hmv hlen hsz
    have hR : Rd w (w.heap.size + 8) v pre (0, 0) false W := hRp.mv hmv (fun k hk => by omega)
    have hWs : w.heap.size + 8 ≤ W.heap.size := by have := hmv.size; omega
    dsimp only [It.encs, Wd.val, str]
    simp only [show ∀ a b : Value, (#[9, 10] : Array Tmp).zip #[a, b] = #[(9, a), (10, b)] from fun _ _ => by simp only [List.zip_toArray]; rfl, List.size_toArray, List.length_cons, List.length_nil, List.foldl_toArray', List.foldl_cons, List.foldl_nil, List.setIfInBounds_toArray, List.set_cons_succ, List.set_cons_zero]
    gi_wp2
    refine ⟨KeepsOthers.alloc _ _, Kept.below ((Below.refl _ _).alloc (Nat.le_refl _) _), fun W2 hm2 => ?_⟩
    have hR2 : Rd w (w.heap.size + 8) v pre (0, 0) false W2 := (hR.mv (X := fun _ => False) (Mv.alloc _ _) (fun k h => h.elim)).mv hm2 (fun k hk => by omega)
    have hbx : W2.heap[W.heap.size]? = some (.cells #[.int .i64 dk, .string ⟨dt.toArray⟩, .int .i64 dn, .int .i64 p.1, .int .i64 p.2] 30 (0, 0)) := (hm2.same _ (by simp) (by omega)).trans (heap_alloc_new W _)
    obtain ⟨x0, x1, x2, x3, x4, y0, y1, y2, y3, y4⟩ := box5 hbx
    obtain ⟨z0, z1, z2, z3, f0, f1, f2, f3⟩ := hR2.cells
    have R2 := Lib.hid hR2
    have hrow := row_in hRp.row
    clear hR hRp hR2
    cases bad with
    | true =>
      obtain ⟨vb, vm, vc, rfl⟩ := slice_of_row R2.out.row
      gi_wp2
      gi_region
      all_goals gi_wp2
      all_goals
        obtain ⟨hko, hRn⟩ := R2.out.told (by omega) p.1 p.2 true
        exact ⟨hko.trans (KeepsOthers.drew _), pre, ⟨⟨dk, dt, dn⟩, p, true⟩, _, rfl, rfl, hg, hRn.drew⟩
    | false =>
      obtain ⟨i0, hi, hz0, hz1, hz2⟩ := info_parts info30
      have hrow2 := R2.out.row
      gi_wp2_with (gi_at_builtin; refine wpListIn_append_own _ rfl _ _ 23 rfl (w.heap.size + 8) 30 i0 _ 5 48 Tryd.underlying23 hi hz0 hz1 hz2 rfl (by decide) v pre.length _ rfl (hrow2.alloc _) ⟨W2.heap.size, 0, none⟩ 1 1 (It.cells ⟨⟨dk, dt, dn⟩, p, false⟩) rfl rfl (cell_five_new _ _ _ _ _ _ _) (by simp [It.cells, str, Value.oneCell']) (by unfold maxLen; omega) (by omega) (by simp; have := hm2.size; simp at this; omega) ?_; intro v' w1 hown' hgrow hnil; obtain ⟨⟨c0, c1⟩, hRn, hko, hkp⟩ := R2.out.appended (by omega) ⟨⟨dk, dt, dn⟩, p, false⟩ hown' hgrow; obtain ⟨g', cap', rfl⟩ := ownsRow_succ hown')
      refine ⟨hko, ⟨hkp.size, fun k hk hx => hkp.same k hk ?_⟩, ⟨_, hRn⟩, fun y hy => ?_⟩
      · rintro (h | h)
        · exact hx (.inl (.inl h))
        · have := hrow _ h; exact hx (.inr ⟨by omega, by omega⟩)
      · rcases List.mem_append.1 hy with hy | hy
        · exact hg y hy
        · rw [List.mem_singleton.1 hy]
  case done =>
    rintro xs W rfl ⟨⟨v, hR⟩, hg⟩ hD
    obtain ⟨z0, z1, z2, z3, f0, f1, f2, f3⟩ := hR.cells
    obtain ⟨vb, vm, vc, rfl⟩ := slice_of_row hR.row
    gi_wp2
    obtain ⟨hko, hRn⟩ := hR.told (by omega) 0 0 false
    have hD' := hko.same _ _ hD rfl
    rw [hs0] at hD'
    refine ⟨by simp, .inl ⟨_, _, rfl, run_takeDeferred hD', ?_⟩⟩
    have hR5 := hRn.mv (Mv.putObj _ (Obj.deferred none) (X := fun k => k = w.heap.size + 4) rfl) (fun k hk => by omega)
    obtain ⟨u0, u1, u2, u3, -⟩ := hR5.cells
    obtain ⟨g1, g2⟩ := goods_all l hg
    refine ⟨.tuple #[.slice vb vm vc, .agg #[.int .i64 0, .int .i64 0], .bool false], by simp [results, Tryd.results12, go_sem, u0, u1, u2, u3], ?_⟩
    refine ⟨.slice vb vm vc, ?_, ?_, hR5.low⟩
    · unfold faultP
      rw [g2]
      rfl
    · rw [g1]
      exact ownsRow_base hR5.row (by omega)
  case stop =>
    rintro pre W hpre ⟨pre', x, v, rfl, hx, hg, hR⟩ hD
    gi_wp2
    rw [hs0] at hD
    refine ⟨by simp, .inl ⟨_, _, rfl, run_takeDeferred (by rw [hs0]; exact hD), ?_⟩⟩
    have hR5 := hR.mv (Mv.putObj _ (Obj.deferred none) (X := fun k => k = wL.heap.size) rfl) (fun k hk => by omega)
    obtain ⟨u0, u1, u2, u3, -⟩ := hR5.cells
    obtain ⟨r, hr⟩ := hpre
    obtain ⟨g1, g2⟩ := goods_some l pre' r x hr hg hx
    refine ⟨.tuple #[v, .agg #[.int .i64 x.p.1, .int .i64 x.p.2], .bool true], by simp [results, Tryd.results12, go_sem, u0, u1, u2, u3], ?_⟩
    refine ⟨v, ?_, ?_, hR5.low⟩
    · unfold faultP
      rw [g2]
      rfl
    · rw [g1]
      exact ownsRow_base hR5.row (by omega)
end Go.Proofs.YtjgpbpmicopemaaDoor
