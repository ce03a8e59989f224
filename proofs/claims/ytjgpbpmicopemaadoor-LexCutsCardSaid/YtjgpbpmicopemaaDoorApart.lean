/-
  A range over a function whose iterator keeps variables of its own: the law at its caller, where a round may break off, too.
-/
import Derived.Test.YtjgpbpmicopemaaDoorRange
namespace Go.Proofs.YtjgpbpmicopemaaDoor
open Go.RowKit

/-- how a round may be left: it goes on, it returns, or it breaks off -/
def asideEnd {α : Type} (X : Nat → Prop) (I : List α → World → Prop) (Ix : Code → List α → World → Prop) (xs : List α) (W : World) : Exit → Act → World → Prop
  | .normal, _, W' => KeepsOthers W W' ∧ Kept X W W' ∧ I xs W'
  | .ret, _, W' => KeepsOthers W W' ∧ Ix .ret xs W'
  | .exit id, _, W' => KeepsOthers W W' ∧ Ix (.exit id) xs W'
  | _, _, _ => False
variable {F : Fence} {n : Nat} {P : Program}
/-- THE LAW: what the caller keeps (I, Ix) asks nothing of the blocks from the loop's own on to the last that the iterator lays ahead of its rounds. -/
theorem range_apart {α : Type} {g : Operand} {ps : Array Tmp} {assign body : Code} {Q : Exit → Act → World → Prop} {a : Act} {w : World}
    (hro : F.round = none) (h1 : 1 ≤ n) {gf : Nat} {lb : Array Value} (hg : a.eval g = .func (.func gf) #[] lb) (hFg : F.fn gf) (eg : ∀ args w, (callFunc gf args).run P w = .ok (.enter gf args) w)
    {encs : α → Array Value} {X : Nat → Prop} {c : Nat} {S Sp : List α → Prop} {N : Nat} (hseq : SeqAside F (n - 1) P gf lb encs X c S Sp N w)
    (hX1 : X (w.heap.size + 1)) (hps : ∀ x, (encs x).size = ps.size)
    (I : List α → World → Prop) (Ix : Code → List α → World → Prop) (hI : Aside w.heap.size (2 + c) I) (hIx : ∀ j, Aside w.heap.size (2 + c) (Ix j)) (h0 : I [] w)
    (hround : ∀ (pre : List α) (x : α) (Wp W : World), I pre Wp → Mv (fun k => w.heap.size + 2 ≤ k ∧ k < w.heap.size + 2 + c) Wp W → pre.length < N → w.heap.size + 2 + c ≤ Wp.heap.size →
      assign.wpIn (F.inRound (w.heap.size + 1)) (n - 1 - 1) P (Exit.then (fun a₁ W₁ => KeepsOthers W W₁ ∧ Kept (fun k => X k ∨ (w.heap.size + 2 + c ≤ k ∧ k < Wp.heap.size)) W W₁ ∧ ∀ W₂, Mv (fun k => k = w.heap.size + 1) W₁ W₂ →
          body.wpIn (F.inRound (w.heap.size + 1)) (n - 1 - 1) P (asideEnd (fun k => X k ∨ (w.heap.size + 2 + c ≤ k ∧ k < Wp.heap.size)) I Ix (pre ++ [x]) W₂) a₁ W₂) (fun _ _ _ => False))
        { tmps := (ps.zip (encs x)).foldl (fun t (p, v) => t.setIfInBounds p v) a.tmps, defers := [] } W)
    (hdone : ∀ (xs : List α) (W : World), S xs → I xs W → W.heap[w.heap.size]? = some (.deferred (some [])) → Q .normal { a with defers := { target := .collected w.heap.size, args := #[] } :: a.defers } W)
    (hstop : ∀ (j : Code) (pre : List α) (W : World), Sp pre → Ix j pre W → W.heap[w.heap.size]? = some (.deferred (some [])) → j.wpIn F n P Q { a with defers := { target := .collected w.heap.size, args := #[] } :: a.defers } W) :
    (Code.rangeFunc g ps assign body).wpIn F n P Q a w := by
  refine wpIn_rangeFunc ?_
  intro fn hfn
  rw [hro]
  generalize hrec : (fun (st : LoopState) (pe : Option Code) => ({ state := st, pending := pe, fn, tmps := a.tmps, params := ps, assign, body, defers := w.heap.size } : Loop)) = rec
  have hrec' : ∀ st pe, rec st pe = { state := st, pending := pe, fn, tmps := a.tmps, params := ps, assign, body, defers := w.heap.size } := fun st pe => by rw [← hrec]
  obtain ⟨W1, hW1⟩ : ∃ W1, (w.alloc (.deferred (some []))).alloc (.loop (rec .ready none)) = W1 := ⟨_, rfl⟩
  have hs1 : W1.heap.size = w.heap.size + 2 := by rw [← hW1]; simp
  have hL1 : W1.heap[w.heap.size + 1]? = some (.loop (rec .ready none)) := by
    rw [← hW1]
    have := World.alloc_heap_new (w.alloc (.deferred (some []))) (.loop (rec .ready none))
    rwa [World.size_alloc] at this
  have hD1 : W1.heap[w.heap.size]? = some (.deferred (some [])) := by
    rw [← hW1]
    exact (Below.heap_alloc _ _ _ (by simp)).trans (World.alloc_heap_new w _)
  have hI1 : I [] W1 := by
    rw [← hW1]
    exact hI _ _ _ (hI _ _ _ h0 (Mv.alloc w _)) (Mv.alloc _ _)
  have hb1 : Below w.heap.size w W1 := by
    rw [← hW1]
    exact ((Below.refl _ w).alloc (Nat.le_refl _) _).alloc (by simp) _
  have book : ∀ {A B : World} {k : Nat} {o : Obj}, Mv (fun k => W1.heap.size ≤ k ∧ k < W1.heap.size + c) A B → k < w.heap.size + 2 → A.heap[k]? = some o → B.heap[k]? = some o := by
    intro A B k o hm hk ho
    rw [hm.same k (Array.getElem?_eq_some_iff.1 ho).1 (fun e => by have := e.1; omega)]
    exact ho
  refine ⟨w.heap.size + 1, [{ target := .collected w.heap.size, args := #[] }], W1, { target := .fn (.func gf) lb, args := #[.func (.yield (w.heap.size + 1)) #[] #[]] }, W1, gf,
    #[.func (.yield (w.heap.size + 1)) #[] #[]] ++ lb, W1, ?_, ?_, ?_, ?_, fun _ => h1, ?_⟩
  · rw [← hW1, hrec']; exact run_enterLoop_outer _ _ _ _ _
  · simp only [resolve, hg]
    simp [go_sem]
  · intro f' hf'; simp [Target.leads] at hf'; subst hf'; exact hFg
  · simp [invoke, go_sem, eg]
  · refine (hseq
      (fun pre W => I pre W ∧ W.heap[w.heap.size + 1]? = some (.loop (rec .ready none)) ∧ W.heap[w.heap.size]? = some (.deferred (some [])))
      (fun pre W => ∃ j, Ix j pre W ∧ W.heap[w.heap.size + 1]? = some (.loop (rec .done (some j))) ∧ W.heap[w.heap.size]? = some (.deferred (some [])))
      W1 hb1 hs1
      (fun s A B hs hm => ⟨hI s A B hs.1 (hm.mono fun k _ e => ⟨by omega, by omega⟩), book hm (by omega) hs.2.1, book hm (by omega) hs.2.2⟩)
      (fun s A B hs hm => hs.elim fun j hs => ⟨j, hIx j s A B hs.1 (hm.mono fun k _ e => ⟨by omega, by omega⟩), book hm (by omega) hs.2.1, book hm (by omega) hs.2.2⟩)
      ?_ ⟨hI1, hL1, hD1⟩).mono ?_
    · rintro pre x Wp W ⟨hip, hlp, hkp⟩ hmv hlen hsz
      have hl := book hmv (by omega) hlp
      have hk := book hmv (by omega) hkp
      have hrd := hround pre x Wp W hip (by rw [hs1] at hmv; exact hmv) hlen (by omega)
      rw [← hs1] at hrd
      have hy := run_yield (P := P) (args := encs x) hl (by rw [hrec']; exact hps x)
      rw [hrec'] at hy
      refine ⟨fn, _, assign, body, hy, roundIn_of_wpIn hfn (wpIn_mono hrd ?_)⟩
      rintro e a₁ Wa hp
      cases e with
      | normal =>
        obtain ⟨ho1, hk1, hbd⟩ := hp
        have hla : Wa.heap[w.heap.size + 1]? = some (.loop (rec .ready none)) := ho1.same _ _ hl rfl
        have hka : Wa.heap[w.heap.size]? = some (.deferred (some [])) := ho1.same _ _ hk rfl
        have hlta := (Array.getElem?_eq_some_iff.1 hla).1
        refine ⟨_, run_beginRound hla (by rw [hrec']), ?_⟩
        have hl2 : (Wa.putObj (w.heap.size + 1) (.loop { rec .ready none with state := .busy })).heap[w.heap.size + 1]? = some (.loop { rec .ready none with state := .busy }) := World.putObj_heap_same hlta
        have hk2 : (Wa.putObj (w.heap.size + 1) (.loop { rec .ready none with state := .busy })).heap[w.heap.size]? = some (.deferred (some [])) := (World.putObj_heap_other (by omega)).trans hka
        refine wpIn_mono (hbd _ (Mv.putObj Wa _ rfl)) ?_
        have fin : ∀ (jump : Option Code) (W3 : World), KeepsOthers (Wa.putObj (w.heap.size + 1) (.loop { rec .ready none with state := .busy })) W3 →
            (Instr.endRound (w.heap.size + 1) jump).run P W3 = .ok (.bool jump.isNone) (W3.putObj (w.heap.size + 1) (.loop (rec (if jump.isNone then .ready else .done) jump))) ∧
            (W3.putObj (w.heap.size + 1) (.loop (rec (if jump.isNone then .ready else .done) jump))).heap[w.heap.size + 1]? = some (.loop (rec (if jump.isNone then .ready else .done) jump)) ∧
            (W3.putObj (w.heap.size + 1) (.loop (rec (if jump.isNone then .ready else .done) jump))).heap[w.heap.size]? = some (.deferred (some [])) := by
          intro jump W3 hk3
          have hl3 := hk3.same _ _ hl2 rfl
          have hr := run_endRound (P := P) jump hl3
          rw [hrec'] at hr ⊢
          exact ⟨hr, World.putObj_heap_same (Array.getElem?_eq_some_iff.1 hl3).1, (World.putObj_heap_other (by omega)).trans (hk3.same _ _ hk2 rfl)⟩
        rintro e a3 W3 hp
        cases e with
        | normal =>
          obtain ⟨hk3, hkp3, hi3⟩ := hp
          obtain ⟨hr, hl4, hk4⟩ := fin none W3 hk3
          exact ⟨_, _, hr, .inl ⟨rfl, ⟨hI _ _ _ hi3 (Mv.putObj W3 _ ⟨by omega, by omega⟩), hl4, hk4⟩, ((hk1.trans (Kept.putObj Wa _ (.inl hX1))).trans hkp3).trans (Kept.putObj W3 _ (.inl hX1))⟩⟩
        | ret =>
          obtain ⟨hk3, hi3⟩ := hp
          obtain ⟨hr, hl4, hk4⟩ := fin (some .ret) W3 hk3
          exact ⟨_, _, hr, .inr ⟨rfl, _, hIx _ _ _ _ hi3 (Mv.putObj W3 _ ⟨by omega, by omega⟩), hl4, hk4⟩⟩
        | exit id =>
          obtain ⟨hk3, hi3⟩ := hp
          obtain ⟨hr, hl4, hk4⟩ := fin (some (.exit id)) W3 hk3
          exact ⟨_, _, hr, .inr ⟨rfl, _, hIx _ _ _ _ hi3 (Mv.putObj W3 _ ⟨by omega, by omega⟩), hl4, hk4⟩⟩
        | goto t => exact hp.elim
        | panic ch => exact hp.elim
        | outgrown => exact hp.elim
      | ret => exact hp.elim
      | exit id => exact hp.elim
      | goto t => exact hp.elim
      | panic ch => exact hp.elim
      | outgrown => exact hp.elim
    · rintro e W2 ⟨⟨v, rfl⟩, (⟨xs, hS, hi, hl, hk⟩ | ⟨pre, hSp, j, hi, hl, hk⟩)⟩
      · have hr := run_endLoop (P := P) hl (by rw [hrec']; simp)
        rw [hrec'] at hr
        exact ⟨none, _, hr, hdone xs _ hS (hI _ _ _ hi (Mv.putObj W2 _ ⟨by omega, by omega⟩)) ((World.putObj_heap_other (by omega)).trans hk)⟩
      · have hr := run_endLoop (P := P) hl (by rw [hrec']; simp)
        rw [hrec'] at hr
        exact ⟨some j, _, hr, hstop j pre _ hSp (hIx _ _ _ _ hi (Mv.putObj W2 _ ⟨by omega, by omega⟩)) ((World.putObj_heap_other (by omega)).trans hk)⟩
end Go.Proofs.YtjgpbpmicopemaaDoor
