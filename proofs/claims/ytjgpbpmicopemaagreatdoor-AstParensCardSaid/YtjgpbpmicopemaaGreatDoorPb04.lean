import Derived.RangeFuncNested
import Derived.RangeFuncBound
import Derived.RangeFuncCalls
import Derived.RangeFuncLeaves
import Derived.Below
import Derived.Test.YtjgpbpmicopemaaGreatDoorPb03
import Derived.Deep.RegionWith
import Derived.Lib.IndexMore
import Derived.Lib.ItoaNum

/-
  A range over a function whose iterator keeps variables of its own in blocks that it lays ahead of its first round: the law at its caller.
-/
namespace Go.Proofs.YtjgpbpmicopemaaGreatDoor
open Go.RowKit

/-- the blocks of X may have turned, and new ones been laid -/
structure Mv (X : Nat → Prop) (W W' : World) : Prop where
  os : W'.os = W.os
  tape : W'.tape = W.tape
  output : W'.output = W.output
  size : W.heap.size ≤ W'.heap.size
  same : ∀ k, k < W.heap.size → ¬ X k → W'.heap[k]? = W.heap[k]?
theorem Mv.refl (X : Nat → Prop) (W : World) : Mv X W W := ⟨rfl, rfl, rfl, Nat.le_refl _, fun _ _ _ => rfl⟩
theorem Mv.trans {X : Nat → Prop} {A B C : World} (h : Mv X A B) (k : Mv X B C) : Mv X A C :=
  ⟨k.os.trans h.os, k.tape.trans h.tape, k.output.trans h.output, Nat.le_trans h.size k.size, fun i hi hx => (k.same i (Nat.lt_of_lt_of_le hi h.size) hx).trans (h.same i hi hx)⟩
theorem Mv.below {X : Nat → Prop} {A B : World} (h : Below A.heap.size A B) : Mv X A B := ⟨h.os, h.tape, h.output, h.size, fun k hk _ => h.block k hk⟩
theorem Mv.of_grown {X : Nat → Prop} {A B : World} {row : Option Nat} (h : A.grownBy B row) (hr : ∀ r, row = some r → X r) : Mv X A B :=
  ⟨h.os, h.tape, h.output, h.size, fun k hk hx => h.block k hk (fun e => hx (hr k e.symm))⟩
theorem Mv.alloc {X : Nat → Prop} (W : World) (o : Obj) : Mv X W (W.alloc o) := Mv.below ((Below.refl _ _).alloc (Nat.le_refl _) _)
theorem Mv.putObj {X : Nat → Prop} (W : World) {l : Nat} (o : Obj) (h : X l) : Mv X W (W.putObj l o) := Mv.of_grown (grownBy_putObj' W l o) (fun r e => by cases e; exact h)
theorem Mv.mono {X Y : Nat → Prop} {A B : World} (h : Mv X A B) (hxy : ∀ k, k < A.heap.size → X k → Y k) : Mv Y A B := ⟨h.os, h.tape, h.output, h.size, fun k hk hy => h.same k hk (fun hx => hy (hxy k hk hx))⟩
/-- J doesn't ask how the blocks from B to B + c hold, nor of new ones -/
def Aside {β : Type} (B c : Nat) (J : β → World → Prop) : Prop := ∀ s W W', J s W → Mv (fun k => B ≤ k ∧ k < B + c) W W' → J s W'
/-- as it was but for some blocks -/
structure Kept (X : Nat → Prop) (W W' : World) : Prop where
  size : W.heap.size ≤ W'.heap.size
  same : ∀ k, k < W.heap.size → ¬ X k → W'.heap[k]? = W.heap[k]?
theorem Kept.refl (X : Nat → Prop) (W : World) : Kept X W W := ⟨Nat.le_refl _, fun _ _ _ => rfl⟩
theorem Kept.trans {X : Nat → Prop} {A B C : World} (h : Kept X A B) (k : Kept X B C) : Kept X A C :=
  ⟨Nat.le_trans h.size k.size, fun i hi hx => (k.same i (Nat.lt_of_lt_of_le hi h.size) hx).trans (h.same i hi hx)⟩
theorem Kept.putObj {X : Nat → Prop} (W : World) {l : Nat} (o : Obj) (h : X l) : Kept X W (W.putObj l o) :=
  ⟨(grownBy_putObj' W l o).size, fun k hk hx => (grownBy_putObj' W l o).block k hk (fun e => by cases e; exact hx h)⟩
/-- the iterator's contract, where its caller's loop begins in w -/
def SeqAside {α : Type} (F : Fence) (n : Nat) (P : Program) (g : Nat) (lb : Array Value) (encs : α → Array Value) (X : Nat → Prop) (c : Nat) (S Sp : List α → Prop) (N : Nat) (w : World) : Prop :=
  ∀ (J Jx : List α → World → Prop) (W : World), Below w.heap.size w W → W.heap.size = w.heap.size + 2 → Aside W.heap.size c J → Aside W.heap.size c Jx →
    (∀ pre x Wp W1, J pre Wp → Mv (fun k => W.heap.size ≤ k ∧ k < W.heap.size + c) Wp W1 → pre.length < N → W.heap.size + c ≤ Wp.heap.size → YieldAt F (n - 1) P (w.heap.size + 1) (encs x) W1 fun e W' =>
      (e = .returned (.bool true) ∧ J (pre ++ [x]) W' ∧ Kept (fun k => X k ∨ (W.heap.size + c ≤ k ∧ k < Wp.heap.size)) W1 W') ∨ (e = .returned (.bool false) ∧ Jx (pre ++ [x]) W')) →
    J [] W →
    CallsIn F n P g (#[.func (.yield (w.heap.size + 1)) #[] #[]] ++ lb) W fun e W' => (∃ v, e = .returned v) ∧ ((∃ xs, S xs ∧ J xs W') ∨ (∃ pre, Sp pre ∧ Jx pre W'))
/-- how a round may be left: it goes on, or it returns -/
def asidePost {α : Type} (X : Nat → Prop) (I Ix : List α → World → Prop) (xs : List α) (W : World) : Exit → Act → World → Prop
  | .normal, _, W' => KeepsOthers W W' ∧ Kept X W W' ∧ I xs W'
  | .ret, _, W' => KeepsOthers W W' ∧ Ix xs W'
  | _, _, _ => False
variable {F : Fence} {n : Nat} {P : Program}
/-- THE LAW: what the caller keeps (I, Ix) asks nothing of the blocks from the loop's own on to the last that the iterator lays ahead of its rounds. -/
theorem range_aside {α : Type} {g : Operand} {ps : Array Tmp} {assign body : Code} {Q : Exit → Act → World → Prop} {a : Act} {w : World}
    (hro : F.round = none) (h1 : 1 ≤ n) {gf : Nat} {lb : Array Value} (hg : a.eval g = .func (.func gf) #[] lb) (hFg : F.fn gf) (eg : ∀ args w, (callFunc gf args).run P w = .ok (.enter gf args) w)
    {encs : α → Array Value} {X : Nat → Prop} {c : Nat} {S Sp : List α → Prop} {N : Nat} (hseq : SeqAside F (n - 1) P gf lb encs X c S Sp N w)
    (hX1 : X (w.heap.size + 1)) (hps : ∀ x, (encs x).size = ps.size)
    (I Ix : List α → World → Prop) (hI : Aside w.heap.size (2 + c) I) (hIx : Aside w.heap.size (2 + c) Ix) (h0 : I [] w)
    (hround : ∀ (pre : List α) (x : α) (Wp W : World), I pre Wp → Mv (fun k => w.heap.size + 2 ≤ k ∧ k < w.heap.size + 2 + c) Wp W → pre.length < N → w.heap.size + 2 + c ≤ Wp.heap.size →
      assign.wpIn (F.inRound (w.heap.size + 1)) (n - 1 - 1) P (Exit.then (fun a₁ W₁ => KeepsOthers W W₁ ∧ Kept (fun k => X k ∨ (w.heap.size + 2 + c ≤ k ∧ k < Wp.heap.size)) W W₁ ∧ ∀ W₂, Mv (fun k => k = w.heap.size + 1) W₁ W₂ →
          body.wpIn (F.inRound (w.heap.size + 1)) (n - 1 - 1) P (asidePost (fun k => X k ∨ (w.heap.size + 2 + c ≤ k ∧ k < Wp.heap.size)) I Ix (pre ++ [x]) W₂) a₁ W₂) (fun _ _ _ => False))
        { tmps := (ps.zip (encs x)).foldl (fun t (p, v) => t.setIfInBounds p v) a.tmps, defers := [] } W)
    (hdone : ∀ (xs : List α) (W : World), S xs → I xs W → W.heap[w.heap.size]? = some (.deferred (some [])) → Q .normal { a with defers := { target := .collected w.heap.size, args := #[] } :: a.defers } W)
    (hstop : ∀ (pre : List α) (W : World), Sp pre → Ix pre W → W.heap[w.heap.size]? = some (.deferred (some [])) → Code.ret.wpIn F n P Q { a with defers := { target := .collected w.heap.size, args := #[] } :: a.defers } W) :
    (Code.rangeFunc g ps assign body).wpIn F n P Q a w := by
  refine wpIn_rangeFunc ?_
  intro fn hfn
  rw [hro]
  generalize hrec : (fun (st : LoopState) (pe : Option Code) => ({ state := st, pending := pe, fn, tmps := a.tmps, params := ps, assign, body, defers := w.heap.size } : Loop)) = rec
  have hrec' : ∀ st pe, rec st pe = { state := st, pending := pe, fn, tmps := a.tmps, params := ps, assign, body, defers := w.heap.size } := fun st pe => by rw [← hrec]
  obtain ⟨W1, hW1⟩ : ∃ W1, (w.alloc (.deferred (some []))).alloc (.loop (rec .ready none)) = W1 := ⟨_, rfl⟩
  have hs1 : W1.heap.size = w.heap.size + 2 := by rw [← hW1]; simp
  have hL1 : W1.heap[w.heap.size + 1]? = some (.loop (rec .ready none)) := by
    rw [← hW1]
    have := World.alloc_heap_new (w.alloc (.deferred (some []))) (.loop (rec .ready none))
    rwa [World.size_alloc] at this
  have hD1 : W1.heap[w.heap.size]? = some (.deferred (some [])) := by
    rw [← hW1]
    exact (Below.heap_alloc _ _ _ (by simp)).trans (World.alloc_heap_new w _)
  have hI1 : I [] W1 := by
    rw [← hW1]
    exact hI _ _ _ (hI _ _ _ h0 (Mv.alloc w _)) (Mv.alloc _ _)
  have hb1 : Below w.heap.size w W1 := by
    rw [← hW1]
    exact ((Below.refl _ w).alloc (Nat.le_refl _) _).alloc (by simp) _
  have book : ∀ {A B : World} {k : Nat} {o : Obj}, Mv (fun k => W1.heap.size ≤ k ∧ k < W1.heap.size + c) A B → k < w.heap.size + 2 → A.heap[k]? = some o → B.heap[k]? = some o := by
    intro A B k o hm hk ho
    rw [hm.same k (Array.getElem?_eq_some_iff.1 ho).1 (fun e => by have := e.1; omega)]
    exact ho
  refine ⟨w.heap.size + 1, [{ target := .collected w.heap.size, args := #[] }], W1, { target := .fn (.func gf) lb, args := #[.func (.yield (w.heap.size + 1)) #[] #[]] }, W1, gf,
    #[.func (.yield (w.heap.size + 1)) #[] #[]] ++ lb, W1, ?_, ?_, ?_, ?_, fun _ => h1, ?_⟩
  · rw [← hW1, hrec']; exact run_enterLoop_outer _ _ _ _ _
  · simp only [resolve, hg]
    simp [go_sem]
  · intro f' hf'; simp [Target.leads] at hf'; subst hf'; exact hFg
  · simp [invoke, go_sem, eg]
  · refine (hseq
      (fun pre W => I pre W ∧ W.heap[w.heap.size + 1]? = some (.loop (rec .ready none)) ∧ W.heap[w.heap.size]? = some (.deferred (some [])))
      (fun pre W => Ix pre W ∧ W.heap[w.heap.size + 1]? = some (.loop (rec .done (some .ret))) ∧ W.heap[w.heap.size]? = some (.deferred (some [])))
      W1 hb1 hs1
      (fun s A B hs hm => ⟨hI s A B hs.1 (hm.mono fun k _ e => ⟨by omega, by omega⟩), book hm (by omega) hs.2.1, book hm (by omega) hs.2.2⟩)
      (fun s A B hs hm => ⟨hIx s A B hs.1 (hm.mono fun k _ e => ⟨by omega, by omega⟩), book hm (by omega) hs.2.1, book hm (by omega) hs.2.2⟩)
      ?_ ⟨hI1, hL1, hD1⟩).mono ?_
    · rintro pre x Wp W ⟨hip, hlp, hkp⟩ hmv hlen hsz
      have hl := book hmv (by omega) hlp
      have hk := book hmv (by omega) hkp
      have hrd := hround pre x Wp W hip (by rw [hs1] at hmv; exact hmv) hlen (by omega)
      rw [← hs1] at hrd
      have hy := run_yield (P := P) (args := encs x) hl (by rw [hrec']; exact hps x)
      rw [hrec'] at hy
      refine ⟨fn, _, assign, body, hy, roundIn_of_wpIn hfn (wpIn_mono hrd ?_)⟩
      rintro e a₁ Wa hp
      cases e with
      | normal =>
        obtain ⟨ho1, hk1, hbd⟩ := hp
        have hla : Wa.heap[w.heap.size + 1]? = some (.loop (rec .ready none)) := ho1.same _ _ hl rfl
        have hka : Wa.heap[w.heap.size]? = some (.deferred (some [])) := ho1.same _ _ hk rfl
        have hlta := (Array.getElem?_eq_some_iff.1 hla).1
        refine ⟨_, run_beginRound hla (by rw [hrec']), ?_⟩
        have hl2 : (Wa.putObj (w.heap.size + 1) (.loop { rec .ready none with state := .busy })).heap[w.heap.size + 1]? = some (.loop { rec .ready none with state := .busy }) := World.putObj_heap_same hlta
        have hk2 : (Wa.putObj (w.heap.size + 1) (.loop { rec .ready none with state := .busy })).heap[w.heap.size]? = some (.deferred (some [])) := (World.putObj_heap_other (by omega)).trans hka
        refine wpIn_mono (hbd _ (Mv.putObj Wa _ rfl)) ?_
        have fin : ∀ (jump : Option Code) (W3 : World), KeepsOthers (Wa.putObj (w.heap.size + 1) (.loop { rec .ready none with state := .busy })) W3 →
            (Instr.endRound (w.heap.size + 1) jump).run P W3 = .ok (.bool jump.isNone) (W3.putObj (w.heap.size + 1) (.loop (rec (if jump.isNone then .ready else .done) jump))) ∧
            (W3.putObj (w.heap.size + 1) (.loop (rec (if jump.isNone then .ready else .done) jump))).heap[w.heap.size + 1]? = some (.loop (rec (if jump.isNone then .ready else .done) jump)) ∧
            (W3.putObj (w.heap.size + 1) (.loop (rec (if jump.isNone then .ready else .done) jump))).heap[w.heap.size]? = some (.deferred (some [])) := by
          intro jump W3 hk3
          have hl3 := hk3.same _ _ hl2 rfl
          have hr := run_endRound (P := P) jump hl3
          rw [hrec'] at hr ⊢
          exact ⟨hr, World.putObj_heap_same (Array.getElem?_eq_some_iff.1 hl3).1, (World.putObj_heap_other (by omega)).trans (hk3.same _ _ hk2 rfl)⟩
        rintro e a3 W3 hp
        cases e with
        | normal =>
          obtain ⟨hk3, hkp3, hi3⟩ := hp
          obtain ⟨hr, hl4, hk4⟩ := fin none W3 hk3
          exact ⟨_, _, hr, .inl ⟨rfl, ⟨hI _ _ _ hi3 (Mv.putObj W3 _ ⟨by omega, by omega⟩), hl4, hk4⟩, ((hk1.trans (Kept.putObj Wa _ (.inl hX1))).trans hkp3).trans (Kept.putObj W3 _ (.inl hX1))⟩⟩
        | ret =>
          obtain ⟨hk3, hi3⟩ := hp
          obtain ⟨hr, hl4, hk4⟩ := fin (some .ret) W3 hk3
          exact ⟨_, _, hr, .inr ⟨rfl, hIx _ _ _ hi3 (Mv.putObj W3 _ ⟨by omega, by omega⟩), hl4, hk4⟩⟩
        | exit id => exact hp.elim
        | goto t => exact hp.elim
        | panic ch => exact hp.elim
        | outgrown => exact hp.elim
      | ret => exact hp.elim
      | exit id => exact hp.elim
      | goto t => exact hp.elim
      | panic ch => exact hp.elim
      | outgrown => exact hp.elim
    · rintro e W2 ⟨⟨v, rfl⟩, (⟨xs, hS, hi, hl, hk⟩ | ⟨pre, hSp, hi, hl, hk⟩)⟩
      · have hr := run_endLoop (P := P) hl (by rw [hrec']; simp)
        rw [hrec'] at hr
        exact ⟨none, _, hr, hdone xs _ hS (hI _ _ _ hi (Mv.putObj W2 _ ⟨by omega, by omega⟩)) ((World.putObj_heap_other (by omega)).trans hk)⟩
      · have hr := run_endLoop (P := P) hl (by rw [hrec']; simp)
        rw [hrec'] at hr
        exact ⟨some .ret, _, hr, hstop pre _ hSp (hIx _ _ _ hi (Mv.putObj W2 _ ⟨by omega, by omega⟩)) ((World.putObj_heap_other (by omega)).trans hk)⟩
end Go.Proofs.YtjgpbpmicopemaaGreatDoor

/-
  lex.scan's take: it goes behind some bytes.
-/
namespace Go.Proofs.YtjgpbpmicopemaaGreatDoor
open Go.RowKit

/-- a place's box, a text's box -/
def PlcAt (W : World) (g : Nat) (p : Int × Int) : Prop := W.heap[g]? = some (.cells #[.int .i64 p.1, .int .i64 p.2] 26 (0, 0))
def TxtAt (W : World) (g : Nat) (l : List UInt8) : Prop := W.heap[g]? = some (.cells #[str l] 9 (0, 0))
section
variable {W W' : World} {g h : Nat} {p : Int × Int} {l : List UInt8}
theorem PlcAt.cells (h : PlcAt W g p) : W.cell? ⟨g, 0, none⟩ = some (.int .i64 p.1) ∧ W.cell? ⟨g, 1, none⟩ = some (.int .i64 p.2) ∧ W.frozen? ⟨g, 0, none⟩ = false ∧ W.frozen? ⟨g, 1, none⟩ = false := by
  unfold PlcAt at h
  refine ⟨?_, ?_, ?_, ?_⟩ <;> simp [World.cell?, World.frozen?, h]
theorem TxtAt.cells (h : TxtAt W g l) : W.cell? ⟨g, 0, none⟩ = some (str l) ∧ W.frozen? ⟨g, 0, none⟩ = false := by
  unfold TxtAt at h
  refine ⟨?_, ?_⟩ <;> simp [World.cell?, World.frozen?, h]
theorem PlcAt.mv {X : Nat → Prop} (h : PlcAt W g p) (m : Mv X W W') (hx : ¬ X g) : PlcAt W' g p := (m.same g (heap_lt h) hx).trans h
theorem TxtAt.mv {X : Nat → Prop} (h : TxtAt W g l) (m : Mv X W W') (hx : ¬ X g) : TxtAt W' g l := (m.same g (heap_lt h) hx).trans h
end
theorem Mv.setCell {X : Nat → Prop} (W : World) {g i : Nat} (v : Value) (h : X g) : Mv X W (W.setCell ⟨g, i, none⟩ v) :=
  ⟨rfl, rfl, rfl, by simp, fun k _ hx => set_other (fun e => hx (e ▸ h))⟩
theorem Mv.drew {X : Nat → Prop} (W : World) : Mv X W W.drew := ⟨rfl, rfl, rfl, Nat.le_refl _, fun _ _ _ => rfl⟩
/-- what take answers -/
def RTk (A R : Nat) (p : Int × Int) (l : List UInt8) (w : World) (e : Ending) (w' : World) : Prop :=
  (∃ v, e = .returned v) ∧ PlcAt w' A p ∧ TxtAt w' R l ∧ Mv (fun k => k = A ∨ k = R) w w'
set_option maxRecDepth 20000 in
set_option maxHeartbeats 4000000 in
theorem take_any (A R : Nat) (hAR : A ≠ R) (p q : Int) (l : List UInt8) (n : Nat) (hn : n ≤ l.length) (hl : l.length ≤ 65536) (hp : 0 ≤ p) (hp' : p ≤ 4611686018427387904) (hq : 0 ≤ q) (hq' : q ≤ 4611686018427387904) (w : World)
    (hA : PlcAt w A (p, q)) (hR : TxtAt w R l) : Calls Tryz.prog 73 #[.int .i64 n, .pointer (some ⟨A, 0, none⟩), .pointer (some ⟨R, 0, none⟩)] w (RTk A R (nextP (p, q) (l.take n)) (l.drop n) w) := by
  obtain ⟨a0, a1, a2, a3⟩ := hA.cells
  obtain ⟨r0, r1⟩ := hR.cells
  have hcut : (⟨l.toArray⟩ : ByteArray).extract 0 n = ⟨(l.take n).toArray⟩ := cut_upto l n
  have hcut2 : (⟨l.toArray⟩ : ByteArray).extract n l.length = ⟨(l.drop n).toArray⟩ := cut_from l n
  have hN := fun W => next_any p q (l.take n) (by simp; omega) hp hp' hq hq' W
  unfold str at *
  simp only at a0 a1
  go_enter Tryz.func73, Tryz.ntmps73
  go_wp2_with fail
  go_region_with (first | (go_at_call 29; refine (hN _).mono ?_; rintro e w' ⟨rfl, hb⟩; (have hA1 : PlcAt w' A (p, q) := (hb.block A (heap_lt hA)).trans hA); (have hR1 : TxtAt w' R l := (hb.block R (heap_lt hR)).trans hR); (obtain ⟨b0, b1, b2, b3⟩ := hA1.cells); (obtain ⟨s0, s1⟩ := hR1.cells); (unfold str at s0); (simp only at b0 b1)))
  all_goals go_wp2_with fail
  all_goals
    go_end0
    refine ⟨⟨_, rfl⟩, (set_other hAR).trans (set_same (set_same hA1)), set_same ((set_other hAR.symm).trans ((set_other hAR.symm).trans hR1)), ?_⟩
    exact ((((Mv.drew w).trans (Mv.below hb)).trans (Mv.setCell _ _ (.inl rfl))).trans (Mv.setCell _ _ (.inl rfl))).trans (Mv.setCell _ _ (.inr rfl))
end Go.Proofs.YtjgpbpmicopemaaGreatDoor

/-
  How words come out of a text, one by one, as plain functions; bounds.
-/
namespace Go.Proofs.YtjgpbpmicopemaaGreatDoor
open Go.RowKit

/-- a word that comes, at its place; or a fault at a place -/
structure It where
  d : Wd
  p : Int × Int
  bad : Bool
def It.encs (x : It) : Array Value := #[x.d.val x.p.1 x.p.2, .bool x.bad]
def itBad (p : Int × Int) : It := ⟨⟨0, [], 0⟩, p, true⟩
/-- the words of a text, one by one, as long as there is fuel -/
def scanF : Nat → Int × Int → List UInt8 → List It
  | 0, _, _ => []
  | _ + 1, _, [] => []
  | f + 1, p, c :: l =>
    if (blankV (c :: l)).2 = false then [itBad p]
    else if (blankV (c :: l)).1 ≠ 0 then scanF f (nextP p ((c :: l).take (blankV (c :: l)).1.toNat)) ((c :: l).drop (blankV (c :: l)).1.toNat)
    else match wordO (c :: l) with
      | none => [itBad p]
      | some d => ⟨d, p, false⟩ :: scanF f (nextP p ((c :: l).take d.t.length)) ((c :: l).drop d.t.length)
def scanL (l : List UInt8) : List It := scanF (l.length + 1) (1, 1) l
theorem prefix_len : ∀ (a b : List UInt8), Lib.hasPrefix a b = true → b.length ≤ a.length := by
  intro a b h
  have : b.isPrefixOf a = true := h
  exact (List.isPrefixOf_iff_prefix.1 this).length_le
theorem blank_low (c : UInt8) (l : List UInt8) (h : (blankV (c :: l)).2 = true) : 0 ≤ (blankV (c :: l)).1 ∧ (blankV (c :: l)).1 ≤ (c :: l).length := by
  unfold blankV at h ⊢
  split
  · exact ⟨by decide, by show (1 : Int) ≤ _; simp; omega⟩
  · split
    · have h1 := indexByte_le 10 (c :: l)
      show 0 ≤ (if 0 ≤ Lib.indexByte (c :: l) 10 then _ else _) ∧ _
      split
      · exact ⟨by assumption, h1⟩
      · exact ⟨by omega, Int.le_refl _⟩
    · split
      · rename_i h3 h2 h1
        rw [if_neg h3, if_neg h2, if_pos h1] at h
        have h0 : 0 ≤ Lib.index ((c :: l).drop 2) [42, 47] := by simpa using h
        refine ⟨by show 0 ≤ _ + 4; omega, ?_⟩
        show Lib.index ((c :: l).drop 2) [42, 47] + 4 ≤ _
        rcases Lib.index_spec ((c :: l).drop 2) [42, 47] with ⟨h4, -⟩ | ⟨i, h4, h5, h6, -⟩
        · omega
        · rw [h4]
          have h7 := prefix_len (((c :: l).drop 2).drop i) [42, 47] h6
          simp at h7 ⊢
          omega
      · exact ⟨Int.le_refl _, by show (0 : Int) ≤ _; omega⟩
theorem word_low (c : UInt8) (l : List UInt8) (d : Wd) (h : wordO (c :: l) = some d) : 1 ≤ d.t.length ∧ d.t.length ≤ (c :: l).length := by
  have hn := nameN_le (c :: l)
  unfold wordO at h
  split at h
  · rename_i hs
    split at h
    · injection h with h
      subst h
      have h1 : 1 ≤ nameN (c :: l) := by
        unfold nameN
        have : goesC c = true := by
          show (startsI c.toNat || digitI c.toNat) = true
          have : startsI c.toNat = true := hs
          rw [this]; rfl
        rw [List.takeWhile_cons, this]
        simp
      show 1 ≤ ((c :: l).take _).length ∧ ((c :: l).take _).length ≤ _
      rw [List.length_take]
      omega
    · cases h
  · split at h
    · rename_i hn1
      cases hv : numV ((c :: l).take (nameN (c :: l))) with
      | none => rw [hv] at h; cases h
      | some v =>
        rw [hv] at h
        injection h with h
        subst h
        show 1 ≤ ((c :: l).take _).length ∧ ((c :: l).take _).length ≤ _
        rw [List.length_take]
        omega
    · split at h
      · rename_i hm
        injection h with h
        subst h
        show 1 ≤ ((c :: l).take _).length ∧ ((c :: l).take _).length ≤ _
        have : 1 ≤ (c :: l).length := by simp
        rw [List.length_take]
        omega
      · cases h
theorem two_new (W : World) (o1 o2 : Obj) : ((W.alloc o1).alloc o2).drew.heap[W.heap.size]? = some o1 ∧ ((W.alloc o1).alloc o2).drew.heap[W.heap.size + 1]? = some o2 := by
  have h2 := heap_alloc_new (W.alloc o1) o2
  rw [World.size_alloc] at h2
  exact ⟨(Below.heap_alloc (W.alloc o1) o2 _ (by simp)).trans (heap_alloc_new W o1), h2⟩
theorem Env.mv {X : Nat → Prop} {w w' : World} (h : Env w) (m : Mv X w w') (h0 : ¬ X 0) (h1 : ¬ X 2) (h2 : ¬ X 3) : Env w' := by
  have key : ∀ {a : Addr} {v : Value}, w.cell? a = some v → ¬ X a.block → w'.cell? a = some v := by
    intro a v hc hx
    have := m.same a.block (cell_lt hc) hx
    rw [← hc]
    unfold World.cell?
    rw [this]
  obtain ⟨⟨m1, e1⟩, ⟨s, e2, s2⟩, ⟨r, e3, r2⟩⟩ := h
  exact ⟨⟨m1, key e1 h0⟩, ⟨s, key e2 h1, s2⟩, ⟨r, key e3 h2, r2⟩⟩
end Go.Proofs.YtjgpbpmicopemaaGreatDoor

/-
  The parser as plain functions. No program in sight.
-/
namespace Go.Proofs.YtjgpbpmicopemaaGreatDoor
open Go.RowKit

abbrev Bs := List UInt8
/-- one more, one less, as the program counts -/
def inc (n : Int) : Int := wrap64 (n + 1)
def dec (n : Int) : Int := wrap64 (n - 1)
mutual
/-- an expression: kind, operation, name, number, type, parts, height -/
inductive Ex where | mk (k : Int) (op nm : Bs) (n : Int) (ty : Bs) (args : Exs) (tall : Int)
inductive Exs where | nil | cons (e : Ex) (l : Exs)
end
def Ex.tall : Ex → Int | .mk _ _ _ _ _ _ t => t
def Exs.of : List Ex → Exs | [] => .nil | e :: l => .cons e (Exs.of l)
mutual
/-- a statement: kind, name, type, value, place, parts, height -/
inductive St where | mk (k : Int) (nm ty : Bs) (e pl : Option Ex) (l : Sts) (tall : Int)
inductive Sts where | nil | cons (s : St) (l : Sts)
end
def St.tall : St → Int | .mk _ _ _ _ _ _ t => t
def Sts.of : List St → Sts | [] => .nil | e :: l => .cons e (Sts.of l)
/-- a field; a parameter; an item; a tree -/
structure Fd where
  ty : Bs
  nm : Bs
structure Pm where
  pub : Bool
  ty : Bs
  nm : Bs
structure Im where
  k : Int
  ty : Bs
  nm : Bs
  fs : List Fd
  ps : List Pm
  bd : Option St
structure Pg where
  items : List Im
  nodes : Int
/-- where the parser stands -/
structure Sx where
  ws : List It
  nodes : Int
  funcs : Int
  depth : Int
  over : Bool
/-- what a part of the parser answers: it had too little fuel; it gave up; it went on -/
inductive Re (α : Type) where
  | out
  | bad (s : Sx)
  | ok (a : α) (s : Sx)
def Pr (α : Type) := Sx → Re α
def Pr.bind {α β : Type} (g : Pr α) (h : α → Pr β) : Pr β := fun s => match g s with
  | .out => .out
  | .bad s' => .bad s'
  | .ok a s' => h a s'
instance : Monad Pr where
  pure a := fun s => .ok a s
  bind := Pr.bind
theorem bind_ok {α β : Type} {g : Pr α} {h : α → Pr β} {s s' : Sx} {a : α} (e : g s = .ok a s') : (g >>= h) s = h a s' := by
  show Pr.bind g h s = _
  simp [Pr.bind, e]
theorem bind_bad {α β : Type} {g : Pr α} {h : α → Pr β} {s s' : Sx} (e : g s = .bad s') : (g >>= h) s = .bad s' := by
  show Pr.bind g h s = _
  simp [Pr.bind, e]
theorem bind_out {α β : Type} {g : Pr α} {h : α → Pr β} {s : Sx} (e : g s = .out) : (g >>= h) s = .out := by
  show Pr.bind g h s = _
  simp [Pr.bind, e]
/-- is the next word this key or mark? one of these? -/
def isB : List It → Bs → Bool
  | [], _ => false
  | x :: _, t => x.d.t == t && decide (3 ≤ x.d.k)
def anyB (ws : List It) (l : List Bs) : Bool := l.any (isB ws)
def kindB : List It → Int → Bool
  | [], _ => false
  | x :: _, k => decide (x.d.k = k)
def typeWs : List Bs := [[99, 104, 97, 114], [105, 110, 116], [108, 111, 110, 103], [118, 111, 105, 100], [115, 116, 114, 117, 99, 116]]
def typedB (ws : List It) : Bool := anyB ws typeWs
def isP (t : Bs) : Pr Bool := fun s => .ok (isB s.ws t) s
def anyP (l : List Bs) : Pr Bool := fun s => .ok (anyB s.ws l) s
def typedP : Pr Bool := fun s => .ok (typedB s.ws) s
def failP {α : Type} : Pr α := fun s => .bad s
def takeP : Pr It := fun s => match s.ws with
  | [] => .out
  | x :: xs => .ok x { s with ws := xs }
def mayP (t : Bs) : Pr Bool := fun s => if isB s.ws t then .ok true { s with ws := s.ws.tail } else .ok false s
def mustP (t : Bs) : Pr Unit := fun s => if isB s.ws t then .ok () { s with ws := s.ws.tail } else .bad s
def nameP : Pr Bs := fun s => match s.ws with
  | [] => .bad s
  | x :: xs => if x.d.k = 1 then .ok x.d.t { s with ws := xs } else .bad s
def numP : Pr Bs := fun s => match s.ws with
  | [] => .bad s
  | x :: xs => if x.d.k = 2 then .ok (Lib.itoa x.d.n) { s with ws := xs } else .bad s
def limitP (b : Bool) : Pr Unit := fun s => .ok () { s with over := s.over || !b }
/-- one deeper in -/
def Sx.down (s : Sx) : Sx := { s with depth := inc s.depth, over := s.over || !decide (inc s.depth ≤ 800) }
def Sx.up (s : Sx) : Sx := { s with depth := dec s.depth }
def deepP {α : Type} (g : Pr α) : Pr α := fun s => match g s.down with
  | .ok a s' => .ok a s'.up
  | .bad s' => .bad s'
  | .out => .out
/-- a node more -/
def Sx.node (s : Sx) (tall : Int) : Sx := { s with nodes := inc s.nodes, over := s.over || !(decide (inc s.nodes ≤ 20000) && decide (tall ≤ 200)) }
def maxE : Int → List Ex → Int
  | t, [] => t
  | t, e :: l => maxE (max t e.tall) l
def maxS : Int → List St → Int
  | t, [] => t
  | t, e :: l => maxS (max t e.tall) l
def maxO : Int → Option Ex → Int
  | t, none => t
  | t, some e => max t e.tall
def exprP (k : Int) (op nm : Bs) (n : Int) (ty : Bs) (args : List Ex) : Pr Ex := fun s =>
  .ok (.mk k op nm n ty (.of args) (inc (maxE 0 args))) (s.node (inc (maxE 0 args)))
def stmtP (k : Int) (nm ty : Bs) (e pl : Option Ex) (l : List St) : Pr St := fun s =>
  .ok (.mk k nm ty e pl (.of l) (inc (maxS (maxO (maxO 0 e) pl) l))) (s.node (inc (maxS (maxO (maxO 0 e) pl) l)))
/-- the stars that come, and what is behind them -/
def starN : List It → Nat
  | [] => 0
  | x :: xs => if isB (x :: xs) [42] then starN xs + 1 else 0
def starsP (base : Bs) : Pr Bs := fun s => .ok (base ++ List.replicate (starN s.ws) 42) { s with ws := s.ws.drop (starN s.ws) }
def typP : Pr Bs := do
  if ← typedP then
    let w ← takeP
    if w.d.t = [115, 116, 114, 117, 99, 116] then
      let n ← nameP
      starsP ([115, 116, 114, 117, 99, 116, 32] ++ n)
    else starsP w.d.t
  else failP
def arrayP (t : Bs) : Pr Bs := do
  if ← mayP [91] then
    let n ← numP
    mustP [93]
    pure (t ++ [91] ++ n ++ [93])
  else pure t
/-- how tightly the next word binds; -1: not at all -/
def levels : List (List Bs) := [[[124, 124]], [[38, 38]], [[124]], [[94]], [[38]], [[61, 61], [33, 61]], [[60], [60, 61], [62], [62, 61]], [[60, 60], [62, 62]], [[43], [45]], [[42], [47], [37]]]
def levI (ws : List It) : Nat → List (List Bs) → Int
  | _, [] => -1
  | i, l :: ls => if anyB ws l then i else levI ws (i + 1) ls
def levelI (ws : List It) : Int := levI ws 0 levels
def levelP : Pr Int := fun s => .ok (levelI s.ws) s
def preWs : List Bs := [[45], [126], [33], [42], [38]]
/-- does a cast begin? -/
def castB (ws : List It) : Bool := isB ws [40] && typedB ws.tail
def castP : Pr Bool := fun s => .ok (castB s.ws) s
def kindP (k : Int) : Pr Bool := fun s => .ok (kindB s.ws k) s
mutual
def binaryP : Nat → Int → Pr Ex
  | 0, _ => fun _ => .out
  | f + 1, lev => do
    let e ← unaryP f
    binLoop f lev e
def binLoop : Nat → Int → Ex → Pr Ex
  | 0, _, _ => fun _ => .out
  | f + 1, lev, e => do
    let n ← levelP
    if n < lev then pure e
    else
      let w ← takeP
      let r ← binaryP f (n + 1)
      let e' ← exprP 4 w.d.t [] 0 [] [e, r]
      binLoop f lev e'
def unaryP : Nat → Pr Ex
  | 0 => fun _ => .out
  | f + 1 => deepP (do
    if ← anyP preWs then
      let w ← takeP
      let a ← unaryP f
      exprP 3 w.d.t [] 0 [] [a]
    else if ← castP then
      let _ ← takeP
      let t ← typP
      mustP [41]
      let a ← unaryP f
      exprP 5 [] [] 0 t [a]
    else postfixP f)
def postfixP : Nat → Pr Ex
  | 0 => fun _ => .out
  | f + 1 => do
    let e ← primaryP f
    postLoop f e
def postLoop : Nat → Ex → Pr Ex
  | 0, _ => fun _ => .out
  | f + 1, e => do
    if ← mayP [91] then
      let i ← binaryP f 0
      mustP [93]
      let e' ← exprP 7 [] [] 0 [] [e, i]
      postLoop f e'
    else if ← mayP [46] then
      let n ← nameP
      let e' ← exprP 8 [] n 0 [] [e]
      postLoop f e'
    else if ← mayP [45, 62] then
      let n ← nameP
      let e' ← exprP 9 [] n 0 [] [e]
      postLoop f e'
    else pure e
def withinP : Nat → Pr Ex
  | 0 => fun _ => .out
  | f + 1 => do
    mustP [40]
    let e ← binaryP f 0
    mustP [41]
    pure e
def primaryP : Nat → Pr Ex
  | 0 => fun _ => .out
  | f + 1 => do
    if ← isP [40] then withinP f
    else if ← mayP [105, 110] then
      mustP [40]
      mustP [41]
      exprP 10 [] [] 0 [] []
    else if ← mayP [115, 105, 122, 101, 111, 102] then
      mustP [40]
      let t ← typP
      let t ← arrayP t
      mustP [41]
      exprP 11 [] [] 0 t []
    else if ← kindP 2 then
      let w ← takeP
      exprP 1 [] [] w.d.n [] []
    else
      let nm ← nameP
      if ← mayP [40] then
        let m ← mayP [41]
        let args ← argsP f (!m) []
        exprP 6 [] nm 0 [] args
      else exprP 2 [] nm 0 [] []
/-- the values within a call's parentheses; more: another one comes -/
def argsP : Nat → Bool → List Ex → Pr (List Ex)
  | 0, _, _ => fun _ => .out
  | f + 1, more, l => do
    if more then
      let e ← binaryP f 0
      if ← mayP [44] then argsP f true (l ++ [e])
      else
        mustP [41]
        argsP f false (l ++ [e])
    else pure l
end
/-- a declaration -/
def declP (f : Nat) : Pr St := do
  let t ← typP
  let n ← nameP
  if ← mayP [61] then
    let e ← binaryP f 0
    mustP [59]
    stmtP 3 n t (some e) none []
  else
    let t ← arrayP t
    mustP [59]
    stmtP 3 n t none none []
mutual
def blockP : Nat → Pr St
  | 0 => fun _ => .out
  | f + 1 => deepP (do
    mustP [123]
    let l ← listP f []
    stmtP 1 [] [] none none l)
/-- what stands in a block till its brace -/
def listP : Nat → List St → Pr (List St)
  | 0, _ => fun _ => .out
  | f + 1, l => do
    if ← mayP [125] then pure l
    else if ← typedP then
      let x ← declP f
      listP f (l ++ [x])
    else
      let x ← statementP f
      listP f (l ++ [x])
def statementP : Nat → Pr St
  | 0 => fun _ => .out
  | f + 1 => deepP (do
    if ← isP [123] then blockP f
    else if ← mayP [59] then stmtP 2 [] [] none none []
    else if ← mayP [105, 102] then
      let e ← withinP f
      let x ← statementP f
      if ← mayP [101, 108, 115, 101] then
        let y ← statementP f
        stmtP 6 [] [] (some e) none [x, y]
      else stmtP 6 [] [] (some e) none [x]
    else if ← mayP [119, 104, 105, 108, 101] then
      let e ← withinP f
      let x ← statementP f
      stmtP 7 [] [] (some e) none [x]
    else if ← anyP [[98, 114, 101, 97, 107], [99, 111, 110, 116, 105, 110, 117, 101]] then
      let w ← takeP
      mustP [59]
      stmtP (if w.d.t = [98, 114, 101, 97, 107] then 8 else 9) [] [] none none []
    else if ← mayP [114, 101, 116, 117, 114, 110] then
      if ← isP [59] then
        mustP [59]
        stmtP 10 [] [] none none []
      else
        let e ← binaryP f 0
        mustP [59]
        stmtP 10 [] [] (some e) none []
    else if ← mayP [111, 117, 116] then
      let e ← withinP f
      mustP [59]
      stmtP 11 [] [] (some e) none []
    else
      let e ← binaryP f 0
      if ← mayP [61] then
        let r ← binaryP f 0
        mustP [59]
        stmtP 4 [] [] (some r) (some e) []
      else
        mustP [59]
        stmtP 5 [] [] (some e) none [])
end
/-- a struct's fields till its brace -/
def fieldsP : Nat → List Fd → Pr (List Fd)
  | 0, _ => fun _ => .out
  | f + 1, l => do
    if ← mayP [125] then pure l
    else
      let t ← typP
      let n ← nameP
      let t ← arrayP t
      mustP [59]
      fieldsP f (l ++ [⟨t, n⟩])
/-- parameters till the parenthesis -/
def paramsP : Nat → Bool → List Pm → Pr (List Pm)
  | 0, _, _ => fun _ => .out
  | f + 1, more, l => do
    if more then
      let b ← mayP [112, 117, 98, 108, 105, 99]
      let t ← typP
      let n ← nameP
      if ← mayP [44] then paramsP f true (l ++ [⟨b, t, n⟩])
      else
        mustP [41]
        paramsP f false (l ++ [⟨b, t, n⟩])
    else pure l
def funcP : Pr Unit := fun s => .ok () { s with funcs := inc s.funcs, over := s.over || !decide (inc s.funcs ≤ 100) }
/-- a global or a function, its type told -/
def restP (f : Nat) (t : Bs) : Pr Im := do
  let n ← nameP
  if ← isP [40] then
    funcP
    let _ ← takeP
    let m ← mayP [41]
    let ps ← paramsP f (!m) []
    let b ← blockP f
    pure ⟨3, t, n, [], ps, some b⟩
  else
    let t ← arrayP t
    mustP [59]
    pure ⟨2, t, n, [], [], none⟩
def itemP (f : Nat) : Pr Im := do
  if ← mayP [115, 116, 114, 117, 99, 116] then
    let n ← nameP
    if ← mayP [123] then
      let l ← fieldsP f []
      mustP [59]
      pure ⟨1, [], n, l, [], none⟩
    else
      let t ← starsP ([115, 116, 114, 117, 99, 116, 32] ++ n)
      restP f t
  else
    let t ← typP
    restP f t
def itemsP : Nat → List Im → Pr (List Im)
  | 0, _ => fun _ => .out
  | f + 1, l => fun s => if s.ws.isEmpty then .ok l s else (do
      let x ← itemP f
      itemsP f (l ++ [x])) s
def programP (f : Nat) : Pr Pg := fun s => match itemsP f [] s with
  | .ok l s' => .ok ⟨l, s'.nodes⟩ s'
  | .bad s' => .bad s'
  | .out => .out
/-- a word's place, or the end's -/
def posOf (E : Int × Int) : List It → Int × Int
  | [] => E
  | x :: _ => x.p
theorem take_ne {s : Sx} (h : takeP s ≠ .out) : s.ws ≠ [] := by
  intro h0
  unfold takeP at h
  rw [h0] at h
  exact h rfl
theorem isB_ne {ws : List It} {t : Bs} (h : isB ws t = true) : ws ≠ [] := by
  rintro rfl
  simp [isB] at h
end Go.Proofs.YtjgpbpmicopemaaGreatDoor
