import Derived.Test.YtjgpbpmicopemaaGreatDoorPb04
import Derived.Test.YtjgpbpmicopemaaGreatDoorPb05
import Derived.Shelf.Abstract
import Derived.WalkMore
import Derived.WalkKit
import Derived.WalkSmall
import Derived.Test.YtjgpbpmicopemaaGreatDoorPb02

/-
  The parser and its trees in memory.
-/
namespace Go.Proofs.YtjgpbpmicopemaaGreatDoor
open Go.RowKit Go.Shelf

section
variable {X : Nat → Prop} {W W' : World} {g i : Nat} {v : Value}
theorem Mv.setNew (h : Mv X W W') (hg : W.heap.size ≤ g) : Mv X W (W'.setCell ⟨g, i, none⟩ v) :=
  ⟨h.os, h.tape, h.output, by simpa using h.size, fun k hk hx => (set_other (by omega)).trans (h.same k hk hx)⟩
theorem Mv.setIn (h : Mv X W W') (hg : X g) : Mv X W (W'.setCell ⟨g, i, none⟩ v) := h.trans (Mv.setCell _ _ hg)
theorem Mv.more (h : Mv X W W') (o : Obj) : Mv X W (W'.alloc o) := h.trans (Mv.alloc _ _)
theorem Mv.drawn (h : Mv X W W') : Mv X W W'.drew := h.trans (Mv.drew _)
end
/-- a word's cells from o on, and so on -/
def RowAt (W : World) (g : Nat) : Nat → List It → Prop
  | _, [] => True
  | o, x :: xs => W.cell? ⟨g, o, none⟩ = some (.int .i64 x.d.k) ∧ W.cell? ⟨g, o + 1, none⟩ = some (.string ⟨x.d.t.toArray⟩) ∧ W.cell? ⟨g, o + 2, none⟩ = some (.int .i64 x.d.n) ∧
      W.cell? ⟨g, o + 3, none⟩ = some (.int .i64 x.p.1) ∧ W.cell? ⟨g, o + 4, none⟩ = some (.int .i64 x.p.2) ∧ RowAt W g (o + 5) xs
theorem RowAt.same {W W' : World} {g : Nat} (h : W'.heap[g]? = W.heap[g]?) : ∀ {xs : List It} {o : Nat}, RowAt W g o xs → RowAt W' g o xs
  | [], _, _ => trivial
  | x :: xs, o, ⟨h0, h1, h2, h3, h4, h5⟩ => by
    have e : ∀ i, W'.cell? ⟨g, i, none⟩ = W.cell? ⟨g, i, none⟩ := fun i => by unfold World.cell?; rw [h]
    exact ⟨(e _).trans h0, (e _).trans h1, (e _).trans h2, (e _).trans h3, (e _).trans h4, RowAt.same h h5⟩
/-- a slice of words, none of its cells in block p -/
def WsAt (W : World) (p : Nat) (v : Value) (l : List It) : Prop := ∃ b c, v = .slice b l.length c ∧ l.length ≤ c ∧ c ≤ maxLen ∧ (l ≠ [] → ∃ g o, b = some ⟨g, o, none⟩ ∧ g ≠ p ∧ (∃ cur, W.heap[g]? = some (.cells cur 114 (0, 0))) ∧ RowAt W g o l)
/-- words as the parser may meet them -/
structure OkW (x : It) : Prop where
  n1 : -9223372036854775808 ≤ x.d.n
  n2 : x.d.n ≤ 9223372036854775807
  t : x.d.t.length ≤ 65536
  a : ∀ c ∈ x.d.t, c.toNat < 128
def OkWs (l : List It) : Prop := l.length ≤ 65536 ∧ ∀ x ∈ l, OkW x
theorem OkWs.tail {x : It} {l : List It} (h : OkWs (x :: l)) : OkWs l := ⟨by have := h.1; simp at this; omega, fun y hy => h.2 y (List.mem_cons_of_mem _ hy)⟩
/-- what every call's world has -/
structure EnvA (w : World) : Prop where
  env : Env w
  tab : Lib.TabIs Tryz.prog w "internal/strconv.uint64pow10" .u64 Lib.pow10Tab
theorem EnvA.mv {X : Nat → Prop} {w w' : World} (h : EnvA w) (m : Mv X w w') (hx : ∀ k, k < 8 → ¬ X k) : EnvA w' := by
  have key : ∀ {a : Addr} {v : Value}, a.block < 8 → w.cell? a = some v → w'.cell? a = some v := fun {a v} ha hc => by
    rw [← hc]
    exact World.cell?_of_block (m.same a.block (cell_lt hc) (hx _ ha))
  obtain ⟨⟨⟨n, h1⟩, ⟨s, h2, s2⟩, ⟨r, h3, r2⟩⟩, ht⟩ := h
  refine ⟨⟨⟨n, key (by decide) h1⟩, ⟨s, key (by decide) h2, s2⟩, ⟨r, key (by decide) h3, r2⟩⟩, ?_⟩
  have hg : Tryz.prog.globalNamed "internal/strconv.uint64pow10" = some 1 := by kernel_rfl
  unfold Lib.TabIs World.var? at ht ⊢
  rw [hg] at ht ⊢
  simp only [Option.bind_some] at ht ⊢
  have hlt : 1 < w.heap.size := by
    rcases Nat.lt_or_ge 1 w.heap.size with h' | h'
    · exact h'
    · rw [Array.getElem?_eq_none h'] at ht; cases ht
  rw [m.same 1 hlt (hx 1 (by decide))]
  exact ht
theorem EnvA.below {w w' : World} (h : EnvA w) (m : Below w.heap.size w w') : EnvA w' := h.mv (X := fun _ => False) (Mv.below m) (fun _ _ h => h)
/-- the note of a passed limit -/
def OverAt (W : World) (p : Nat) (v : Value) : Bool → Prop
  | false => v = .pointer none
  | true => ∃ q pos, v = .pointer (some ⟨q, 0, none⟩) ∧ q ≠ p ∧ PlcAt W q pos
/-- the parser at block p -/
def PrAt (W : World) (p : Nat) (E : Int × Int) (s : Sx) : Prop :=
  (8 ≤ p ∧ EnvA W ∧ OkWs s.ws) ∧ ∃ v o, W.heap[p]? = some (.cells #[v, .int .i64 E.1, .int .i64 E.2, .int .i64 s.nodes, .int .i64 s.funcs, .int .i64 s.depth, o] 56 (0, 0)) ∧ WsAt W p v s.ws ∧ OverAt W p o s.over
def ptr (b : Nat) : Value := .pointer (some ⟨b, 0, none⟩)
/-- a list of pointers in memory, within K -/
def PtrsAt (W : World) (K : Nat → Prop) (T : Nat) (v : Value) (bs : List Nat) : Prop :=
  (v = .slice none 0 0 ∧ bs = []) ∨ ∃ g cap rest, v = .slice (some ⟨g, 0, none⟩) bs.length cap ∧ K g ∧ bs.length ≤ cap ∧ cap ≤ maxLen ∧ W.heap[g]? = some (.cells (bs.map ptr ++ rest).toArray T (0, 0))
mutual
/-- an expression in memory, all its blocks within K -/
def ExAt (W : World) (K : Nat → Prop) : Nat → Ex → Prop
  | b, .mk k op nm n ty args tall => K b ∧ ∃ (ln cl : Int) (v : Value) (bs : List Nat),
      W.heap[b]? = some (.cells #[.int .i64 k, .int .i64 ln, .int .i64 cl, .string ⟨op.toArray⟩, .string ⟨nm.toArray⟩, .int .i64 n, .string ⟨ty.toArray⟩, v, .int .i64 tall] 142 (0, 0)) ∧ PtrsAt W K 122 v bs ∧ ExsAt W K bs args
def ExsAt (W : World) (K : Nat → Prop) : List Nat → Exs → Prop
  | [], .nil => True
  | b :: bs, .cons e es => ExAt W K b e ∧ ExsAt W K bs es
  | [], .cons _ _ => False
  | _ :: _, .nil => False
end
/-- a pointer to an expression, or nil -/
def ExO (W : World) (K : Nat → Prop) (v : Value) : Option Ex → Prop
  | none => v = .pointer none
  | some e => ∃ b, v = ptr b ∧ ExAt W K b e
mutual
def StAt (W : World) (K : Nat → Prop) : Nat → St → Prop
  | b, .mk k nm ty e pl l tall => K b ∧ ∃ (ln cl : Int) (ve vp v : Value) (bs : List Nat),
      W.heap[b]? = some (.cells #[.int .i64 k, .int .i64 ln, .int .i64 cl, .string ⟨nm.toArray⟩, .string ⟨ty.toArray⟩, ve, vp, v, .int .i64 tall] 125 (0, 0)) ∧ ExO W K ve e ∧ ExO W K vp pl ∧ PtrsAt W K 71 v bs ∧ StsAt W K bs l
def StsAt (W : World) (K : Nat → Prop) : List Nat → Sts → Prop
  | [], .nil => True
  | b :: bs, .cons e es => StAt W K b e ∧ StsAt W K bs es
  | [], .cons _ _ => False
  | _ :: _, .nil => False
end
section
variable {W W' : World} {K K' : Nat → Prop}
/-- what lies in K is as it was -/
def Keeps (K : Nat → Prop) (W W' : World) : Prop := ∀ k, K k → k < W.heap.size → W'.heap[k]? = W.heap[k]?
theorem Keeps.of {X : Nat → Prop} (m : Mv X W W') (h : ∀ k, K k → ¬ X k) : Keeps K W W' := fun k hk hl => m.same k hl (h k hk)
theorem PtrsAt.mv {T : Nat} {v : Value} {bs : List Nat} (h : PtrsAt W K T v bs) (m : Keeps K W W') (hK : ∀ k, K k → K' k) : PtrsAt W' K' T v bs := by
  obtain h | ⟨g, cap, rest, e1, e3, e4, e5, e6⟩ := h
  · exact .inl h
  · exact .inr ⟨g, cap, rest, e1, hK _ e3, e4, e5, (m g e3 (heap_lt e6)).trans e6⟩
mutual
theorem ExAt.mv (m : Keeps K W W') (hK : ∀ k, K k → K' k) : ∀ {b : Nat} {e : Ex}, ExAt W K b e → ExAt W' K' b e
  | b, .mk k op nm n ty args tall, h => by
    unfold ExAt at h ⊢
    obtain ⟨h1, ln, cl, v, bs, h2, h3, h4⟩ := h
    exact ⟨hK _ h1, ln, cl, v, bs, (m b h1 (heap_lt h2)).trans h2, h3.mv m hK, ExsAt.mv m hK h4⟩
theorem ExsAt.mv (m : Keeps K W W') (hK : ∀ k, K k → K' k) : ∀ {bs : List Nat} {e : Exs}, ExsAt W K bs e → ExsAt W' K' bs e
  | [], .nil, _ => by unfold ExsAt; trivial
  | b :: bs, .cons e es, h => by
    unfold ExsAt at h ⊢
    exact ⟨ExAt.mv m hK h.1, ExsAt.mv m hK h.2⟩
  | [], .cons _ _, h => by unfold ExsAt at h; exact h.elim
  | _ :: _, .nil, h => by unfold ExsAt at h; exact h.elim
end
theorem ExO.mv (m : Keeps K W W') (hK : ∀ k, K k → K' k) {v : Value} : ∀ {e : Option Ex}, ExO W K v e → ExO W' K' v e
  | none, h => h
  | some _, ⟨b, e1, e2⟩ => ⟨b, e1, e2.mv m hK⟩
mutual
theorem StAt.mv (m : Keeps K W W') (hK : ∀ k, K k → K' k) : ∀ {b : Nat} {e : St}, StAt W K b e → StAt W' K' b e
  | b, .mk k nm ty e pl l tall, h => by
    unfold StAt at h ⊢
    obtain ⟨h1, ln, cl, ve, vp, v, bs, h2, h3, h4, h5, h6⟩ := h
    exact ⟨hK _ h1, ln, cl, ve, vp, v, bs, (m b h1 (heap_lt h2)).trans h2, h3.mv m hK, h4.mv m hK, h5.mv m hK, StsAt.mv m hK h6⟩
theorem StsAt.mv (m : Keeps K W W') (hK : ∀ k, K k → K' k) : ∀ {bs : List Nat} {e : Sts}, StsAt W K bs e → StsAt W' K' bs e
  | [], .nil, _ => by unfold StsAt; trivial
  | b :: bs, .cons e es, h => by
    unfold StsAt at h ⊢
    exact ⟨StAt.mv m hK h.1, StsAt.mv m hK h.2⟩
  | [], .cons _ _, h => by unfold StsAt at h; exact h.elim
  | _ :: _, .nil, h => by unfold StsAt at h; exact h.elim
end
end
theorem WsAt.mv {W W' : World} {p : Nat} {v : Value} {l : List It} (h : WsAt W p v l) (m : Mv (fun k => k = p) W W') : WsAt W' p v l := by
  obtain ⟨b, c, e1, e2, e3, e4⟩ := h
  refine ⟨b, c, e1, e2, e3, fun hl => ?_⟩
  obtain ⟨g, o, e5, e6, ⟨cur, e7⟩, e8⟩ := e4 hl
  exact ⟨g, o, e5, e6, ⟨cur, (m.same g (heap_lt e7) e6).trans e7⟩, e8.same (m.same g (heap_lt e7) e6)⟩
theorem OverAt.mv {W W' : World} {p : Nat} {v : Value} (m : Mv (fun k => k = p) W W') : ∀ {b : Bool}, OverAt W p v b → OverAt W' p v b
  | false, h => h
  | true, ⟨q, pos, e1, e2, e3⟩ => ⟨q, pos, e1, e2, e3.mv m e2⟩
/-- the parser untouched -/
theorem PrAt.mv {W W' : World} {p : Nat} {E : Int × Int} {s : Sx} (h : PrAt W p E s) (m : Mv (fun k => k = p) W W') (hp : W'.heap[p]? = W.heap[p]?) : PrAt W' p E s := by
  obtain ⟨⟨h8, hE, h0⟩, v, o, h1, h2, h3⟩ := h
  exact ⟨⟨h8, hE.mv m (fun k hk e => by omega), h0⟩, v, o, hp.trans h1, h2.mv m, h3.mv m⟩
theorem PrAt.below {W W' : World} {p : Nat} {E : Int × Int} {s : Sx} (h : PrAt W p E s) (m : Below W.heap.size W W') : PrAt W' p E s := by
  refine h.mv (Mv.below m) (m.block p ?_)
  obtain ⟨h0, v, o, h1, h2, h3⟩ := h
  exact heap_lt h1
theorem PrAt.lt {W : World} {p : Nat} {E : Int × Int} {s : Sx} (h : PrAt W p E s) : p < W.heap.size := by
  obtain ⟨h0, v, o, h1, h2, h3⟩ := h
  exact heap_lt h1
/-- a block that is none of the parser's -/
def Tame (W : World) (p k : Nat) : Prop := 8 ≤ k ∧ k ≠ p ∧ ∀ cur T r, W.heap[k]? = some (.cells cur T r) → T ≠ 114 ∧ T ≠ 26
theorem PrAt.tame {X : Nat → Prop} {W W' : World} {p : Nat} {E : Int × Int} {s : Sx} (h : PrAt W p E s) (m0 : Mv X W W') (hX : ∀ k, X k → k < W.heap.size → Tame W p k) : PrAt W' p E s := by
  have m : Mv (Tame W p) W W' := m0.mono (fun k hk hx => hX k hx hk)
  obtain ⟨⟨h8, hE, h0⟩, v, o, h1, ⟨b, c, e1, e2, e3, e4⟩, h3⟩ := h
  have hp : W'.heap[p]? = W.heap[p]? := m.same p (heap_lt h1) (fun ht => ht.2.1 rfl)
  refine ⟨⟨h8, hE.mv m (fun k hk ht => by have := ht.1; omega), h0⟩, v, o, hp.trans h1, ⟨b, c, e1, e2, e3, fun hl => ?_⟩, ?_⟩
  · obtain ⟨g, o, e5, e6, ⟨cur, e7⟩, e8⟩ := e4 hl
    have hg := m.same g (heap_lt e7) (fun ht => (ht.2.2 _ _ _ e7).1 rfl)
    exact ⟨g, o, e5, e6, ⟨cur, hg.trans e7⟩, e8.same hg⟩
  · cases ho : s.over
    · rw [ho] at h3; exact h3
    · rw [ho] at h3
      obtain ⟨q, pos, f1, f2, f3⟩ := h3
      exact ⟨q, pos, f1, f2, (m.same q (heap_lt f3) (fun ht => (ht.2.2 _ _ _ f3).2 rfl)).trans f3⟩
section
variable {W : World} {p : Nat} {E : Int × Int} {s : Sx}
theorem PrAt.putNodes (h : PrAt W p E s) (n : Int) : PrAt (W.setCell ⟨p, 3, none⟩ (.int .i64 n)) p E { s with nodes := n } := by
  obtain ⟨⟨h8, hE, h0⟩, v, o, h1, h2, h3⟩ := h
  have m : Mv (fun k => k = p) W (W.setCell ⟨p, 3, none⟩ (.int .i64 n)) := Mv.setCell _ _ rfl
  exact ⟨⟨h8, hE.mv m (fun k hk e => by omega), h0⟩, v, o, set_same h1, h2.mv m, h3.mv m⟩
theorem PrAt.putFuncs (h : PrAt W p E s) (n : Int) : PrAt (W.setCell ⟨p, 4, none⟩ (.int .i64 n)) p E { s with funcs := n } := by
  obtain ⟨⟨h8, hE, h0⟩, v, o, h1, h2, h3⟩ := h
  have m : Mv (fun k => k = p) W (W.setCell ⟨p, 4, none⟩ (.int .i64 n)) := Mv.setCell _ _ rfl
  exact ⟨⟨h8, hE.mv m (fun k hk e => by omega), h0⟩, v, o, set_same h1, h2.mv m, h3.mv m⟩
theorem PrAt.putDepth (h : PrAt W p E s) (n : Int) : PrAt (W.setCell ⟨p, 5, none⟩ (.int .i64 n)) p E { s with depth := n } := by
  obtain ⟨⟨h8, hE, h0⟩, v, o, h1, h2, h3⟩ := h
  have m : Mv (fun k => k = p) W (W.setCell ⟨p, 5, none⟩ (.int .i64 n)) := Mv.setCell _ _ rfl
  exact ⟨⟨h8, hE.mv m (fun k hk e => by omega), h0⟩, v, o, set_same h1, h2.mv m, h3.mv m⟩
theorem PrAt.putOver (h : PrAt W p E s) {q : Nat} {pos : Int × Int} (hq : q ≠ p) (hP : PlcAt W q pos) : PrAt (W.setCell ⟨p, 6, none⟩ (ptr q)) p E { s with over := true } := by
  obtain ⟨⟨h8, hE, h0⟩, v, o, h1, h2, h3⟩ := h
  have m : Mv (fun k => k = p) W (W.setCell ⟨p, 6, none⟩ (ptr q)) := Mv.setCell _ _ rfl
  exact ⟨⟨h8, hE.mv m (fun k hk e => by omega), h0⟩, v, ptr q, set_same h1, h2.mv m, q, pos, rfl, hq, hP.mv m hq⟩
end
/-- the parser's fault as the program throws it -/
def flt (q : Int × Int) : Value := .iface 58 (.agg #[.int .i64 q.1, .int .i64 q.2, .int .i64 4])
/-- what a part of the parser answers, and how it leaves the world -/
def Post {α : Type} (p : Nat) (E : Int × Int) (w : World) (enc : World → World → Value → α → Prop) (r : Re α) (e : Ending) (w' : World) : Prop :=
  Mv (fun k => k = p) w w' ∧ match r with
  | .out => True
  | .bad s' => e = .panicked [{ v := flt (posOf E s'.ws), recovered := false }] ∧ ∃ s'', PrAt w' p E s''
  | .ok a s' => PrAt w' p E s' ∧ ∃ v, e = .returned v ∧ enc w w' v a
theorem Post.split {α β : Type} {p : Nat} {E : Int × Int} {w w' : World} {enc : World → World → Value → α → Prop} {x : Pr α} {k : α → Pr β} {R : Re β} {s : Sx} {e : Ending} (h : Post p E w enc (x s) e w') (hG : R = (x >>= k) s) (hno : R ≠ .out) :
    (∃ s', R = .bad s' ∧ e = .panicked [{ v := flt (posOf E s'.ws), recovered := false }] ∧ (∃ s'', PrAt w' p E s'') ∧ Mv (fun k => k = p) w w') ∨
    (∃ a s' v, x s = .ok a s' ∧ R = k a s' ∧ e = .returned v ∧ enc w w' v a ∧ PrAt w' p E s' ∧ Mv (fun k => k = p) w w') := by
  obtain ⟨h1, h2⟩ := h
  cases hx : x s with
  | out => exact absurd (hG.trans (bind_out hx)) hno
  | bad s' =>
    rw [hx] at h2
    exact .inl ⟨s', hG.trans (bind_bad hx), h2.1, h2.2, h1⟩
  | ok a s' =>
    rw [hx] at h2
    obtain ⟨h3, v, h4, h5⟩ := h2
    exact .inr ⟨a, s', v, rfl, hG.trans (bind_ok hx), h4, h5, h3, h1⟩
section
variable {α : Type} {p : Nat} {E : Int × Int} {w w1 w' : World} {enc enc' : World → World → Value → α → Prop} {R : Re α} {s s' : Sx} {a : α} {v : Value}
theorem Post.badly (h : R = .bad s') (hm : Mv (fun k => k = p) w w') (hP : ∃ s'', PrAt w' p E s'') : Post p E w enc R (.panicked [{ v := flt (posOf E s'.ws), recovered := false }]) w' := by
  subst h
  exact ⟨hm, rfl, hP⟩
theorem Post.well (h : R = .ok a s') (hm : Mv (fun k => k = p) w w') (hP : PrAt w' p E s') (he : enc w w' v a) : Post p E w enc R (.returned v) w' := by
  subst h
  exact ⟨hm, hP, v, rfl, he⟩
theorem Post.done {x : Re α} {e : Ending} (h : Post p E w1 enc x e w') (hG : R = x) (hm : Mv (fun k => k = p) w w1) (he : ∀ v a, enc w1 w' v a → enc' w w' v a) : Post p E w enc' R e w' := by
  subst hG
  obtain ⟨h1, h2⟩ := h
  refine ⟨hm.trans h1, ?_⟩
  cases R with
  | out => trivial
  | bad s' => exact h2
  | ok a s' =>
    obtain ⟨h3, v, h4, h5⟩ := h2
    exact ⟨h3, v, h4, he _ _ h5⟩
theorem ne_left {β : Type} {x : Pr β} {k : β → Pr α} (hG : R = (x >>= k) s) (hno : R ≠ .out) : x s ≠ .out := fun h => hno (hG.trans (bind_out h))
end
end Go.Proofs.YtjgpbpmicopemaaGreatDoor

/-
  The parser's small functions.
-/
namespace Go.Proofs.YtjgpbpmicopemaaGreatDoor
open Go.RowKit Go.Shelf

theorem PrAt.cells {W : World} {p : Nat} {E : Int × Int} {s : Sx} (h : PrAt W p E s) : ∃ (b : Option Addr) (c : Nat) (o : Value), s.ws.length ≤ c ∧ c ≤ maxLen ∧
    (s.ws ≠ [] → ∃ g o, b = some ⟨g, o, none⟩ ∧ g ≠ p ∧ (∃ cur, W.heap[g]? = some (.cells cur 114 (0, 0))) ∧ RowAt W g o s.ws) ∧ OverAt W p o s.over ∧
    W.heap[p]? = some (.cells #[.slice b s.ws.length c, .int .i64 E.1, .int .i64 E.2, .int .i64 s.nodes, .int .i64 s.funcs, .int .i64 s.depth, o] 56 (0, 0)) := by
  obtain ⟨h0, v, o, h1, ⟨b, c, rfl, h3, h4, h5⟩, h6⟩ := h
  exact ⟨b, c, o, h3, h4, h5, h6, h1⟩
section
variable {W : World} {p : Nat} {a b c d e f g : Value} {T : TypeId}
theorem cells7 (h : W.heap[p]? = some (.cells #[a, b, c, d, e, f, g] T (0, 0))) : W.cell? ⟨p, 0, none⟩ = some a ∧ W.cell? ⟨p, 1, none⟩ = some b ∧ W.cell? ⟨p, 2, none⟩ = some c ∧ W.cell? ⟨p, 3, none⟩ = some d ∧
    W.cell? ⟨p, 4, none⟩ = some e ∧ W.cell? ⟨p, 5, none⟩ = some f ∧ W.cell? ⟨p, 6, none⟩ = some g ∧ ∀ i, W.frozen? ⟨p, i, none⟩ = false := by
  refine ⟨?_, ?_, ?_, ?_, ?_, ?_, ?_, ?_⟩ <;> simp [World.cell?, World.frozen?, h]
end
theorem at_alloc {W : World} {p : Nat} {x : Obj} (h : W.heap[p]? = some x) (o : Obj) : (W.alloc o).heap[p]? = some x := (Below.heap_alloc W o p (heap_lt h)).trans h
section
variable {W : World} {p : Nat} {a b c d e f g : Value} {T : TypeId}
theorem cells7a (h : W.heap[p]? = some (.cells #[a, b, c, d, e, f, g] T (0, 0))) : (∀ o, (W.alloc o).cell? ⟨p, 0, none⟩ = some a) ∧ (∀ o, (W.alloc o).cell? ⟨p, 1, none⟩ = some b) ∧ (∀ o, (W.alloc o).cell? ⟨p, 2, none⟩ = some c) ∧ (∀ o, (W.alloc o).cell? ⟨p, 3, none⟩ = some d) ∧
    (∀ o, (W.alloc o).cell? ⟨p, 4, none⟩ = some e) ∧ (∀ o, (W.alloc o).cell? ⟨p, 5, none⟩ = some f) ∧ (∀ o, (W.alloc o).cell? ⟨p, 6, none⟩ = some g) ∧ ∀ o i, (W.alloc o).frozen? ⟨p, i, none⟩ = false := by
  have h' := fun o => cells7 (at_alloc h o)
  exact ⟨fun o => (h' o).1, fun o => (h' o).2.1, fun o => (h' o).2.2.1, fun o => (h' o).2.2.2.1, fun o => (h' o).2.2.2.2.1, fun o => (h' o).2.2.2.2.2.1, fun o => (h' o).2.2.2.2.2.2.1, fun o => (h' o).2.2.2.2.2.2.2⟩
end
theorem cells5 {W : World} {p : Nat} {a b c d e : Value} {T : TypeId} (h : W.heap[p]? = some (.cells #[a, b, c, d, e] T (0, 0))) : W.cell? ⟨p, 0, none⟩ = some a ∧ W.cell? ⟨p, 1, none⟩ = some b ∧ W.cell? ⟨p, 2, none⟩ = some c ∧ W.cell? ⟨p, 3, none⟩ = some d ∧ W.cell? ⟨p, 4, none⟩ = some e := by
  refine ⟨?_, ?_, ?_, ?_, ?_⟩ <;> simp [World.cell?, h]
theorem cell_alloc {W : World} {a : Addr} {v : Value} (h : W.cell? a = some v) (o : Obj) : (W.alloc o).cell? a = some v := by
  rw [← h]
  exact World.cell?_of_block (Below.heap_alloc W o a.block (cell_lt h))
/-- the next word's place -/
theorem atZ (p : Nat) (E : Int × Int) (s : Sx) (w : World) (h : PrAt w p E s) : Calls Tryz.prog 48 #[.pointer (some ⟨p, 0, none⟩)] w (fun e w' => e = .returned (.agg #[.int .i64 (posOf E s.ws).1, .int .i64 (posOf E s.ws).2]) ∧ Below w.heap.size w w') := by
  obtain ⟨b, c, o, h1, h2, h3, h4, h5⟩ := h.cells
  obtain ⟨c0, c1, c2, c3, c4, c5, c6, cf⟩ := cells7a h5
  have hml : s.ws.length ≤ 9223372036854775807 := by unfold maxLen at h2; omega
  cases hw : s.ws with
  | nil =>
    rw [hw] at c0
    simp only [List.length_nil] at c0
    simp only [posOf]
    go_enter Tryz.func48, Tryz.ntmps48
    go_wp2_with fail
    have hP : PlcAt (w.alloc (.cells #[.int .i64 E.1, .int .i64 E.2] 26)) w.heap.size E := heap_alloc_new w _
    obtain ⟨u0, u1, -⟩ := hP.cells
    exact bodyPost_ret (v := .agg #[.int .i64 E.1, .int .i64 E.2]) (by simp [results, Tryz.results48, go_sem, u0, u1]) rfl ⟨rfl, belowAlloc _ _⟩
  | cons x xs =>
    obtain ⟨g, oo, rfl, hg, hgl, r0, r1, r2, r3, r4, -⟩ := (hw ▸ h3) (by simp)
    have r3a := cell_alloc r3
    have r4a := cell_alloc r4
    rw [hw] at c0 hml
    simp only [List.length_cons] at hml
    simp only [posOf]
    go_enter Tryz.func48, Tryz.ntmps48
    go_wp2_with fail
    have hP : PlcAt (w.alloc (.cells #[.int .i64 x.p.1, .int .i64 x.p.2] 26)) w.heap.size x.p := heap_alloc_new w _
    obtain ⟨u0, u1, -⟩ := hP.cells
    exact bodyPost_ret (v := .agg #[.int .i64 x.p.1, .int .i64 x.p.2]) (by simp [results, Tryz.results48, go_sem, u0, u1]) rfl ⟨rfl, belowAlloc _ _⟩
theorem isZ (p : Nat) (E : Int × Int) (s : Sx) (t : Bs) (w : World) (h : PrAt w p E s) : Calls Tryz.prog 55 #[.pointer (some ⟨p, 0, none⟩), str t] w (BB (isB s.ws t) w) := by
  obtain ⟨b, c, o, h1, h2, h3, h4, h5⟩ := h.cells
  obtain ⟨c0, c1, c2, c3, c4, c5, c6, cf⟩ := cells7 h5
  have hml : s.ws.length ≤ 9223372036854775807 := by unfold maxLen at h2; omega
  unfold BB str
  cases hw : s.ws with
  | nil =>
    rw [hw] at c0
    simp only [List.length_nil] at c0
    simp only [isB]
    go_enter Tryz.func55, Tryz.ntmps55
    go_wp2_with fail
    exact bodyPost_ret (v := .bool false) (by simp [results, Tryz.results55, go_sem]) rfl ⟨rfl, rfl⟩
  | cons x xs =>
    obtain ⟨g, oo, rfl, hg, hgl, r0, r1, r2, r3, r4, -⟩ := (hw ▸ h3) (by simp)
    rw [hw] at c0 hml
    simp only [List.length_cons] at hml
    simp only [isB]
    go_enter Tryz.func55, Tryz.ntmps55
    go_wp2_with fail
    all_goals refine bodyPost_ret (v := .bool (x.d.t == t && decide (3 ≤ x.d.k))) (by simp [results, Tryz.results55, go_sem, *]) rfl ⟨rfl, rfl⟩
/-- the rest of the words -/
theorem takeZ (p : Nat) (E : Int × Int) (s : Sx) (w : World) (h : PrAt w p E s) (hne : s.ws ≠ []) : Calls Tryz.prog 57 #[.pointer (some ⟨p, 0, none⟩)] w
    (Post p E w (fun _ _ v (x : It) => v = .agg #[.int .i64 x.d.k, str x.d.t, .int .i64 x.d.n, .int .i64 x.p.1, .int .i64 x.p.2]) (takeP s)) := by
  obtain ⟨b, c, o, h1, h2, h3, h4, h5⟩ := h.cells
  obtain ⟨c0, c1, c2, c3, c4, c5, c6, cf⟩ := cells7a h5
  unfold takeP str
  cases hw : s.ws with
  | nil => exact absurd hw hne
  | cons x xs =>
    obtain ⟨g, oo, rfl, hg, ⟨cur, hgl⟩, r0, r1, r2, r3, r4, r5⟩ := (hw ▸ h3) (by simp)
    have hml : s.ws.length ≤ 9223372036854775807 := by unfold maxLen at h2; omega
    have hc : xs.length + 1 ≤ c := by simpa [hw] using h1
    have hc2 : c ≤ 9223372036854775807 := by unfold maxLen at h2; omega
    have r0a := cell_alloc r0
    have r1a := cell_alloc r1
    have r2a := cell_alloc r2
    have r3a := cell_alloc r3
    have r4a := cell_alloc r4
    rw [hw] at c0 hml
    simp only [List.length_cons] at hml c0
    have d0 := fun o o' => (cells7 (at_alloc (at_alloc h5 o) o')).1
    have df := fun o o' => (cells7 (at_alloc (at_alloc h5 o) o')).2.2.2.2.2.2.2
    rw [hw] at d0
    simp only [List.length_cons] at d0
    clear c1 c2 c3 c4 c5 c6
    have hbx : ∀ o a b c d e v, (((w.alloc o).alloc (.cells #[a, b, c, d, e] 114)).setCell ⟨p, 0, none⟩ v).heap[w.heap.size + 1]? = some (.cells #[a, b, c, d, e] 114 (0, 0)) := fun o a b c d e v =>
      (set_other (by have := heap_lt h5; omega)).trans (by have := heap_alloc_new (w.alloc o) (.cells #[a, b, c, d, e] 114); simpa using this)
    have e0 := fun o a b c d e v => (cells5 (hbx o a b c d e v)).1
    have e1 := fun o a b c d e v => (cells5 (hbx o a b c d e v)).2.1
    have e2 := fun o a b c d e v => (cells5 (hbx o a b c d e v)).2.2.1
    have e3 := fun o a b c d e v => (cells5 (hbx o a b c d e v)).2.2.2.1
    have e4 := fun o a b c d e v => (cells5 (hbx o a b c d e v)).2.2.2.2
    clear hbx
    have hbz : ∀ a b c d e o v, (((w.alloc (.cells #[a, b, c, d, e] 114)).alloc o).setCell ⟨p, 0, none⟩ v).heap[w.heap.size]? = some (.cells #[a, b, c, d, e] 114 (0, 0)) := fun a b c d e o v =>
      (set_other (by have := heap_lt h5; omega)).trans (at_alloc (heap_alloc_new w (.cells #[a, b, c, d, e] 114)) o)
    have z0 := fun a b c d e o v => (cells5 (hbz a b c d e o v)).1
    have z1 := fun a b c d e o v => (cells5 (hbz a b c d e o v)).2.1
    have z2 := fun a b c d e o v => (cells5 (hbz a b c d e o v)).2.2.1
    have z3 := fun a b c d e o v => (cells5 (hbz a b c d e o v)).2.2.2.1
    have z4 := fun a b c d e o v => (cells5 (hbz a b c d e o v)).2.2.2.2
    have zf : ∀ a b c d e o v i, (((w.alloc (.cells #[a, b, c, d, e] 114)).alloc o).setCell ⟨p, 0, none⟩ v).frozen? ⟨w.heap.size, i, none⟩ = false := fun a b c d e o v i => by simp [World.frozen?, hbz a b c d e o v]
    clear hbz
    have fin : ∀ (b' : Option Addr) (c' : Nat) (o1 : Obj) (a b c d e a' b' c' d' e' : Value) (bb : Option Addr) (cc : Nat), xs.length ≤ cc → cc ≤ maxLen → (xs ≠ [] → bb = some ⟨g, oo + 5, none⟩) →
        PrAt ((((((((w.alloc (.cells #[a', b', c', d', e'] 114)).alloc o1).setCell ⟨p, 0, none⟩ (.slice bb xs.length cc)).setCell ⟨w.heap.size, 0, none⟩ a).setCell ⟨w.heap.size, 1, none⟩ b).setCell ⟨w.heap.size, 2, none⟩ c).setCell ⟨w.heap.size, 3, none⟩ d).setCell ⟨w.heap.size, 4, none⟩ e) p E { s with ws := xs } ∧
        Mv (fun k => k = p) w ((((((((w.alloc (.cells #[a', b', c', d', e'] 114)).alloc o1).setCell ⟨p, 0, none⟩ (.slice bb xs.length cc)).setCell ⟨w.heap.size, 0, none⟩ a).setCell ⟨w.heap.size, 1, none⟩ b).setCell ⟨w.heap.size, 2, none⟩ c).setCell ⟨w.heap.size, 3, none⟩ d).setCell ⟨w.heap.size, 4, none⟩ e) ∧
        ((((((((w.alloc (.cells #[a', b', c', d', e'] 114)).alloc o1).setCell ⟨p, 0, none⟩ (.slice bb xs.length cc)).setCell ⟨w.heap.size, 0, none⟩ a).setCell ⟨w.heap.size, 1, none⟩ b).setCell ⟨w.heap.size, 2, none⟩ c).setCell ⟨w.heap.size, 3, none⟩ d).setCell ⟨w.heap.size, 4, none⟩ e).heap[w.heap.size]? = some (.cells #[a, b, c, d, e] 114 (0, 0)) := by
      intro b' c' o1 a b c d e a' b' c' d' e' bb cc g1 g2 g3
      have hpl := heap_lt h5
      have m : Mv (fun k => k = p) w ((((((((w.alloc (.cells #[a', b', c', d', e'] 114)).alloc o1).setCell ⟨p, 0, none⟩ (.slice bb xs.length cc)).setCell ⟨w.heap.size, 0, none⟩ a).setCell ⟨w.heap.size, 1, none⟩ b).setCell ⟨w.heap.size, 2, none⟩ c).setCell ⟨w.heap.size, 3, none⟩ d).setCell ⟨w.heap.size, 4, none⟩ e) :=
        (((((((Mv.alloc (X := fun k => k = p) _ _).more _).setIn (X := fun k => k = p) rfl).setNew (Nat.le_refl _)).setNew (Nat.le_refl _)).setNew (Nat.le_refl _)).setNew (Nat.le_refl _)).setNew (Nat.le_refl _)
      have hne' : p ≠ w.heap.size := by omega
      refine ⟨⟨⟨h.1.1, h.1.2.1.mv m (fun k hk e => by have := h.1.1; omega), (hw ▸ h.1.2.2).tail⟩, _, o, (set_other hne').trans ((set_other hne').trans ((set_other hne').trans ((set_other hne').trans ((set_other hne').trans (set_same (at_alloc (at_alloc h5 _) o1)))))), ⟨bb, cc, rfl, g1, g2, fun hx => ⟨g, oo + 5, g3 hx, hg, ⟨cur, (m.same g (heap_lt hgl) hg).trans hgl⟩, r5.same (m.same g (heap_lt hgl) hg)⟩⟩, h4.mv m⟩, m, ?_⟩
      exact set_same (set_same (set_same (set_same (set_same ((set_other (by omega)).trans (at_alloc (heap_alloc_new w _) o1))))))
    go_enter Tryz.func57, Tryz.ntmps57
    go_wp2_with fail
    all_goals
      obtain ⟨hP, hm, hz⟩ := fin none 0 (.cells #[.int .i64 x.d.k, .string ⟨x.d.t.toArray⟩, .int .i64 x.d.n, .int .i64 x.p.1, .int .i64 x.p.2] 114) (.int .i64 x.d.k) (.string ⟨x.d.t.toArray⟩) (.int .i64 x.d.n) (.int .i64 x.p.1) (.int .i64 x.p.2) (.int .i64 0) (.string ⟨#[]⟩) (.int .i64 0) (.int .i64 0) (.int .i64 0) (if c = 1 then some ⟨g, oo, none⟩ else some ⟨g, oo + 5, none⟩) (c - 1) (by omega) (by omega) (fun hx => by
        have := List.length_pos_iff.2 hx
        rw [if_neg (by omega)])
      simp only [*, if_true, if_false, Nat.sub_self] at hP hm hz
      obtain ⟨u0, u1, u2, u3, u4⟩ := cells5 hz
      exact bodyPost_ret (v := .agg #[.int .i64 x.d.k, .string ⟨x.d.t.toArray⟩, .int .i64 x.d.n, .int .i64 x.p.1, .int .i64 x.p.2]) (by simp [results, Tryz.results57, go_sem, u0, u1, u2, u3, u4]) rfl ⟨hm, hP, _, rfl, rfl⟩
theorem mayZ (p : Nat) (E : Int × Int) (s : Sx) (t : Bs) (w : World) (h : PrAt w p E s) : Calls Tryz.prog 49 #[.pointer (some ⟨p, 0, none⟩), str t] w (Post p E w (fun _ _ v b => v = .bool b) (mayP t s)) := by
  have C1 := isZ p E s t w h
  have C2 := takeZ p E s w h
  unfold mayP str BB at *
  cases hb : isB s.ws t
  · rw [hb] at C1
    simp only [Bool.false_eq_true, if_false]
    go_enter Tryz.func49, Tryz.ntmps49
    go_wp2_with fail
    refine C1.mono ?_
    rintro e w' ⟨rfl, rfl⟩
    go_wp2_with fail
    exact bodyPost_ret (v := .bool false) (by simp [results, Tryz.results49, go_sem]) rfl ⟨Mv.refl _ _, h, _, rfl, rfl⟩
  · have hne : s.ws ≠ [] := by intro h0; rw [h0] at hb; simp [isB] at hb
    replace C2 := C2 hne
    obtain ⟨x, xs, hw⟩ : ∃ x xs, s.ws = x :: xs := List.exists_cons_of_ne_nil hne
    unfold takeP at C2
    simp only [hw] at C2
    rw [hb] at C1
    simp only [if_true]
    go_enter Tryz.func49, Tryz.ntmps49
    go_wp2_with fail
    refine C1.mono ?_
    rintro e w' ⟨rfl, rfl⟩
    go_wp2_with fail
    refine C2.mono ?_
    rintro e w1 ⟨hm, hP, v, rfl, -⟩
    go_wp2_with fail
    refine bodyPost_ret (v := .bool true) (by simp [results, Tryz.results49, go_sem]) rfl ⟨hm, ?_, _, rfl, rfl⟩
    rw [hw]
    exact hP
theorem failZ (p : Nat) (E : Int × Int) (s : Sx) (w : World) (h : PrAt w p E s) : Calls Tryz.prog 76 #[.pointer (some ⟨p, 0, none⟩), .int .i64 4] w (Post p E w (fun _ _ _ (_ : Unit) => False) (failP s)) := by
  have C1 := atZ p E s w h
  go_enter Tryz.func76, Tryz.ntmps76
  go_wp2_with fail
  refine C1.mono ?_
  rintro e w1 ⟨rfl, hb⟩
  go_wp2_with fail
  exact ⟨rfl, Mv.below hb, rfl, _, h.below hb⟩
end Go.Proofs.YtjgpbpmicopemaaGreatDoor

/-
  More of the parser's small functions.
-/
namespace Go.Proofs.YtjgpbpmicopemaaGreatDoor
open Go.RowKit Go.Shelf

set_option maxRecDepth 20000
theorem field114_0 (a b c d e : Value) (w : World) : Sem.run Tryz.prog (Instr.field 114 (.agg #[a, b, c, d, e]) 0) w = .ok a w := by kernel_rfl
theorem field114_1 (a b c d e : Value) (w : World) : Sem.run Tryz.prog (Instr.field 114 (.agg #[a, b, c, d, e]) 1) w = .ok b w := by kernel_rfl
theorem field114_2 (a b c d e : Value) (w : World) : Sem.run Tryz.prog (Instr.field 114 (.agg #[a, b, c, d, e]) 2) w = .ok c w := by kernel_rfl
theorem PrAt.kind {W : World} {p : Nat} {E : Int × Int} {s : Sx} (h : PrAt W p E s) : OkWs s.ws := h.1.2.2
theorem mustZ (p : Nat) (E : Int × Int) (s : Sx) (t : Bs) (w : World) (h : PrAt w p E s) : Calls Tryz.prog 53 #[.pointer (some ⟨p, 0, none⟩), str t] w (Post p E w (fun _ _ _ (_ : Unit) => True) (mustP t s)) := by
  have C1 := mayZ p E s t w h
  unfold mustP mayP str at *
  cases hb : isB s.ws t
  · simp only [hb, Bool.false_eq_true, if_false] at C1 ⊢
    have C2 := fun w' h' => failZ p E s w' h'
    go_enter Tryz.func53, Tryz.ntmps53
    go_wp2_with fail
    refine C1.mono ?_
    rintro e w1 ⟨hm, hP, v, rfl, rfl⟩
    go_wp2_with fail
    refine (C2 _ hP).mono ?_
    rintro e w2 ⟨hm2, rfl, hP2⟩
    go_wp2_with fail
    exact ⟨rfl, hm.trans hm2, rfl, hP2⟩
  · simp only [hb, if_true] at C1 ⊢
    go_enter Tryz.func53, Tryz.ntmps53
    go_wp2_with fail
    refine C1.mono ?_
    rintro e w1 ⟨hm, hP, v, rfl, rfl⟩
    go_wp2_with fail
    go_end0
    exact ⟨hm, hP, _, rfl, trivial⟩
theorem limitZ (p : Nat) (E : Int × Int) (s : Sx) (b : Bool) (w : World) (h : PrAt w p E s) : Calls Tryz.prog 56 #[.pointer (some ⟨p, 0, none⟩), .bool b] w (Post p E w (fun _ _ _ (_ : Unit) => True) (limitP b s)) := by
  have C1 := fun w' h' => atZ p E s w' h'
  obtain ⟨bb, c, o, h1, h2, h3, h4, h5⟩ := h.cells
  obtain ⟨c0, c1, c2, c3, c4, c5, c6, cf⟩ := cells7 h5
  unfold limitP
  cases b
  · cases ho : s.over
    · rw [ho] at h4
      unfold OverAt at h4
      subst h4
      simp only [Bool.not_false, Bool.or_true]
      go_enter Tryz.func56, Tryz.ntmps56
      go_wp2_with fail
      refine (C1 _ h).mono ?_
      rintro e w1 ⟨rfl, hb⟩
      have hP := h.below hb
      obtain ⟨bb', c', o', h1', h2', h3', h4', h5'⟩ := hP.cells
      have d6 := fun o => (cells7 (at_alloc h5' o)).2.2.2.2.2.2.1
      have df := fun o => (cells7 (at_alloc h5' o)).2.2.2.2.2.2.2
      go_wp2_with fail
      go_end0
      have hP1 : PrAt (w1.alloc (.cells #[.int .i64 (posOf E s.ws).1, .int .i64 (posOf E s.ws).2] 26)) p E s := hP.below (belowAlloc _ _)
      have := hP1.lt
      exact ⟨((Mv.below hb).more _).setIn rfl, hP1.putOver (by have := hP.lt; omega) (heap_alloc_new w1 _), _, rfl, trivial⟩
    · rw [ho] at h4
      obtain ⟨q, pos, rfl, hq, hq2⟩ := id h4
      simp only [Bool.not_false, Bool.or_true]
      go_enter Tryz.func56, Tryz.ntmps56
      go_wp2_with fail
      go_end0
      refine ⟨Mv.refl _ _, ?_, _, rfl, trivial⟩
      rw [← ho]
      exact h
  · simp only [Bool.not_true, Bool.or_false]
    go_enter Tryz.func56, Tryz.ntmps56
    go_wp2_with fail
    go_end0
    exact ⟨Mv.refl _ _, h, _, rfl, trivial⟩
theorem nodeZ (p : Nat) (E : Int × Int) (s : Sx) (t : Int) (w : World) (h : PrAt w p E s) : Calls Tryz.prog 108 #[.pointer (some ⟨p, 0, none⟩), .int .i64 t] w (Post p E w (fun _ _ v (_ : Unit) => v = .int .i64 t) (.ok () (s.node t))) := by
  obtain ⟨bb, c, o, h1, h2, h3, h4, h5⟩ := h.cells
  obtain ⟨c0, c1, c2, c3, c4, c5, c6, cf⟩ := cells7 h5
  have hm : Mv (fun k => k = p) w (w.setCell ⟨p, 3, none⟩ (.int .i64 (wrap64 (s.nodes + 1)))) := Mv.setCell _ _ rfl
  have C1 := fun b => limitZ p E _ b _ (h.putNodes (wrap64 (s.nodes + 1)))
  by_cases hc : wrap64 (s.nodes + 1) ≤ 20000
  · go_enter Tryz.func108, Tryz.ntmps108
    go_wp2_with fail
    refine (C1 _).mono ?_
    rintro e w1 ⟨hm1, hP, v, rfl, -⟩
    go_wp2_with fail
    refine bodyPost_ret (v := .int .i64 t) (by simp [results, Tryz.results108, go_sem]) rfl ⟨hm.trans hm1, ?_, _, rfl, rfl⟩
    simpa only [Sx.node, inc, hc, decide_true, Bool.true_and] using hP
  · go_enter Tryz.func108, Tryz.ntmps108
    go_wp2_with fail
    refine (C1 _).mono ?_
    rintro e w1 ⟨hm1, hP, v, rfl, -⟩
    go_wp2_with fail
    refine bodyPost_ret (v := .int .i64 t) (by simp [results, Tryz.results108, go_sem]) rfl ⟨hm.trans hm1, ?_, _, rfl, rfl⟩
    have hd : (wrap64 (s.nodes + 1) ≤ 20000) = False := eq_false (by omega)
    simpa only [Sx.node, inc, hd, decide_false, Bool.false_and] using hP
theorem nameZ (p : Nat) (E : Int × Int) (s : Sx) (w : World) (h : PrAt w p E s) : Calls Tryz.prog 50 #[.pointer (some ⟨p, 0, none⟩)] w (Post p E w (fun _ _ v t => v = str t) (nameP s)) := by
  have C1 := takeZ p E s w h
  have C2 := failZ p E s w h
  obtain ⟨bb, c, o, h1, h2, h3, h4, h5⟩ := h.cells
  obtain ⟨c0, c1, c2, c3, c4, c5, c6, cf⟩ := cells7 h5
  have hml : s.ws.length ≤ 9223372036854775807 := by unfold maxLen at h2; omega
  unfold nameP
  cases hw : s.ws with
  | nil =>
    rw [hw] at c0
    simp only [List.length_nil] at c0
    go_enter Tryz.func50, Tryz.ntmps50
    go_wp2_with fail
    refine C2.mono ?_
    rintro e w2 ⟨hm2, rfl, hP2⟩
    go_wp2_with fail
    exact ⟨rfl, hm2, by rw [hw], hP2⟩
  | cons x xs =>
    obtain ⟨g, oo, rfl, hg, hgl, r0, r1, r2, r3, r4, r5⟩ := (hw ▸ h3) (by simp)
    unfold takeP at C1
    simp only [hw] at C1
    replace C1 := C1 (by simp)
    rw [hw] at c0 hml
    simp only [List.length_cons] at c0 hml
    by_cases hk : x.d.k = 1
    · simp only [hk, if_true]
      go_enter Tryz.func50, Tryz.ntmps50
      go_wp2_with fail
      refine C1.mono ?_
      rintro e w2 ⟨hm2, hP2, v, rfl, rfl⟩
      unfold str
      have hfd := field114_1
      go_wp2_with fail
      exact bodyPost_ret (v := .string ⟨x.d.t.toArray⟩) (by simp [results, Tryz.results50, go_sem]) rfl ⟨hm2, hP2, _, rfl, rfl⟩
    · simp only [hk, if_false]
      have hk' : (x.d.k != 1) = true := by simpa using hk
      have hl' : ((xs.length : Int) + 1 == 0) = false := by simp; omega
      go_enter Tryz.func50, Tryz.ntmps50
      go_wp2_with fail
      refine C2.mono ?_
      rintro e w2 ⟨hm2, rfl, hP2⟩
      go_wp2_with fail
      exact ⟨rfl, hm2, by rw [hw], hP2⟩
theorem grow_mv (w : World) (os : Array Obj) : Mv (fun _ => False) w (Go.Sort.grow w os) := ⟨rfl, rfl, rfl, by simp [Go.Sort.grow], fun k hk _ => by simp [Go.Sort.grow, Array.getElem?_append_left hk]⟩
theorem Mv.weak {X : Nat → Prop} {w w' : World} (h : Mv (fun _ => False) w w') : Mv X w w' := h.mono (fun _ _ h => h.elim)
theorem PrAt.none {W W' : World} {p : Nat} {E : Int × Int} {s : Sx} (h : PrAt W p E s) (m : Mv (fun _ => False) W W') : PrAt W' p E s := h.mv m.weak (m.same p h.lt (fun h => h))
theorem numT (n : Int) (h0 : -9223372036854775808 ≤ n) (h1 : n ≤ 9223372036854775807) (w : World) (htab : Lib.TabIs Tryz.prog w "internal/strconv.uint64pow10" .u64 Lib.pow10Tab) :
    Calls Tryz.prog 87 #[.int .i64 n] w fun e w' => e = .returned (str (Lib.itoa n)) ∧ Mv (fun _ => False) w w' := by
  have C := Tryz.strconv_FormatInt_10 n h0 h1 w htab
  unfold str
  go_enter Tryz.func87, Tryz.ntmps87
  go_wp2_with fail
  refine C.mono ?_
  rintro e w1 ⟨rfl, k, os, rfl⟩
  go_wp2_with fail
  exact bodyPost_ret (v := .string ⟨(Lib.itoa n).toArray⟩) (by simp [results, Tryz.results87, go_sem]) rfl ⟨rfl, (Mv.below (below_drewN (Below.refl _ _) k)).trans (grow_mv _ _)⟩
theorem numberZ (p : Nat) (E : Int × Int) (s : Sx) (w : World) (h : PrAt w p E s) : Calls Tryz.prog 78 #[.pointer (some ⟨p, 0, none⟩)] w (Post p E w (fun _ _ v t => v = str t) (numP s)) := by
  have C1 := takeZ p E s w h
  have C2 := failZ p E s w h
  obtain ⟨bb, c, o, h1, h2, h3, h4, h5⟩ := h.cells
  obtain ⟨c0, c1, c2, c3, c4, c5, c6, cf⟩ := cells7 h5
  have hml : s.ws.length ≤ 9223372036854775807 := by unfold maxLen at h2; omega
  unfold numP
  cases hw : s.ws with
  | nil =>
    rw [hw] at c0
    simp only [List.length_nil] at c0
    go_enter Tryz.func78, Tryz.ntmps78
    go_wp2_with fail
    refine C2.mono ?_
    rintro e w2 ⟨hm2, rfl, hP2⟩
    go_wp2_with fail
    exact ⟨rfl, hm2, by rw [hw], hP2⟩
  | cons x xs =>
    obtain ⟨g, oo, rfl, hg, hgl, r0, r1, r2, r3, r4, r5⟩ := (hw ▸ h3) (by simp)
    have hx := h.1.2.2.2 x (by rw [hw]; simp)
    unfold takeP at C1
    simp only [hw] at C1
    replace C1 := C1 (by simp)
    rw [hw] at c0 hml
    simp only [List.length_cons] at c0 hml
    by_cases hk : x.d.k = 2
    · simp only [hk, if_true]
      go_enter Tryz.func78, Tryz.ntmps78
      go_wp2_with fail
      refine C1.mono ?_
      rintro e w2 ⟨hm2, hP2, v, rfl, rfl⟩
      unfold str
      have hfd := field114_2
      go_wp2_with fail
      refine (numT _ hx.n1 hx.n2 _ hP2.1.2.1.tab).mono ?_
      rintro e w3 ⟨rfl, hm3⟩
      unfold str
      go_wp2_with fail
      exact bodyPost_ret (v := .string ⟨(Lib.itoa x.d.n).toArray⟩) (by simp [results, Tryz.results78, go_sem]) rfl ⟨hm2.trans hm3.weak, hP2.none hm3, _, rfl, rfl⟩
    · simp only [hk, if_false]
      have hk' : (x.d.k != 2) = true := by simpa using hk
      have hl' : ((xs.length : Int) + 1 == 0) = false := by simp; omega
      go_enter Tryz.func78, Tryz.ntmps78
      go_wp2_with fail
      refine C2.mono ?_
      rintro e w2 ⟨hm2, rfl, hP2⟩
      go_wp2_with fail
      exact ⟨rfl, hm2, by rw [hw], hP2⟩
theorem deeperEndZ (p : Nat) (E : Int × Int) (s : Sx) (w : World) (q : Nat) (h : PrAt w p E s) (hb : w.cell? ⟨q, 0, none⟩ = some (.pointer (some ⟨p, 0, none⟩))) : Calls Tryz.prog 105 #[.pointer (some ⟨q, 0, none⟩)] w fun e w' => e = .returned (.tuple #[]) ∧ PrAt w' p E s.up ∧ Mv (fun k => k = p) w w' := by
  obtain ⟨bb, c, o, h1, h2, h3, h4, h5⟩ := h.cells
  obtain ⟨c0, c1, c2, c3, c4, c5, c6, cf⟩ := cells7 h5
  go_enter Tryz.func105, Tryz.ntmps105
  go_wp2_with fail
  go_end0
  exact ⟨rfl, h.putDepth _, Mv.setCell _ _ rfl⟩
theorem deeperZ (p : Nat) (E : Int × Int) (s : Sx) (w : World) (h : PrAt w p E s) : Calls Tryz.prog 80 #[.pointer (some ⟨p, 0, none⟩)] w fun e w' => (∃ q, e = .returned (.func (.func 105) #[] #[.pointer (some ⟨q, 0, none⟩)]) ∧ q ≠ p ∧ w.heap.size ≤ q ∧ w'.cell? ⟨q, 0, none⟩ = some (.pointer (some ⟨p, 0, none⟩))) ∧ PrAt w' p E s.down ∧ Mv (fun k => k = p) w w' := by
  obtain ⟨bb, c, o, h1, h2, h3, h4, h5⟩ := h.cells
  obtain ⟨c0, c1, c2, c3, c4, c5, c6, cf⟩ := cells7a h5
  have hmf : ∀ (fn : Fn) (first cap : Array Value) (w : World), (Instr.makeFunc fn first cap).run Tryz.prog w = .ok (.func fn first cap) w := fun _ _ _ _ => rfl
  have hlt := h.lt
  have hP1 : PrAt ((w.setCell ⟨p, 5, none⟩ (.int .i64 (wrap64 (s.depth + 1)))).alloc (.cells #[.pointer (some ⟨p, 0, none⟩)] 52)) p E _ := (h.putDepth (wrap64 (s.depth + 1))).below (belowAlloc _ _)
  have hbx : ((w.setCell ⟨p, 5, none⟩ (.int .i64 (wrap64 (s.depth + 1)))).alloc (.cells #[.pointer (some ⟨p, 0, none⟩)] 52)).heap[w.heap.size]? = some (.cells #[.pointer (some ⟨p, 0, none⟩)] 52 (0, 0)) := by
    have := heap_alloc_new (w.setCell ⟨p, 5, none⟩ (.int .i64 (wrap64 (s.depth + 1)))) (.cells #[.pointer (some ⟨p, 0, none⟩)] 52)
    simpa using this
  have hm0 : Mv (fun k => k = p) w ((w.setCell ⟨p, 5, none⟩ (.int .i64 (wrap64 (s.depth + 1)))).alloc (.cells #[.pointer (some ⟨p, 0, none⟩)] 52)) := (Mv.setCell (X := fun k => k = p) _ _ rfl).more _
  go_enter Tryz.func80, Tryz.ntmps80
  go_wp2_with fail
  generalize (w.setCell ⟨p, 5, none⟩ (.int .i64 (wrap64 (s.depth + 1)))).alloc (.cells #[.pointer (some ⟨p, 0, none⟩)] 52) = w0 at *
  have hP2 : PrAt w0.drew p E _ := hP1.none (Mv.drew w0)
  have C1 := fun b => limitZ p E _ b _ hP2
  have hbc : w0.cell? ⟨w.heap.size, 0, none⟩ = some (.pointer (some ⟨p, 0, none⟩)) := by unfold World.cell?; rw [hbx]; rfl
  obtain ⟨_, _, _, -, -, -, -, hh5⟩ := hP1.cells
  have d5 := (cells7 hh5).2.2.2.2.2.1
  simp only at d5
  have key : ∀ w1, Mv (fun k => k = p) w0.drew w1 → w1.cell? ⟨w.heap.size, 0, none⟩ = some (.pointer (some ⟨p, 0, none⟩)) ∧ Mv (fun k => k = p) w w1 := fun w1 m => by
    refine ⟨?_, (hm0.trans (Mv.drew w0)).trans m⟩
    rw [← hbc]
    exact World.cell?_of_block (((Mv.drew w0).trans m).same _ (heap_lt hbx) (fun e => by have e' : w.heap.size = p := e; omega))
  clear c0 c1 c2 c3 c4 c5 c6 cf hbx hm0
  go_region_with (first | (go_at_call 56; refine (C1 _).mono ?_; rintro e w1 ⟨hm1, hP, v, rfl, -⟩; (have hk := key _ hm1)))
  all_goals go_wp2_with fail
  all_goals exact bodyPost_ret (v := .func (.func 105) #[] #[.pointer (some ⟨w.heap.size, 0, none⟩)]) (by simp [results, Tryz.results80, go_sem]) rfl ⟨⟨w.heap.size, rfl, by omega, Nat.le_refl _, hk.1⟩, hP, hk.2⟩
end Go.Proofs.YtjgpbpmicopemaaGreatDoor
