/-
  A range over lex.Each's iterator within a block of its own, that may be broken off.
-/
import Derived.Test.YtjgpbpmicopemaaDoorApart
import Derived.Test.YtjgpbpmicopemaaDoorEach
namespace Go.Proofs.YtjgpbpmicopemaaDoor
open Go.RowKit Go.Shelf
attribute [local go_sem] Oper.semAt_some

set_option maxRecDepth 20000 in
set_option maxHeartbeats 4000000 in
theorem each_on (n : Nat) (hn : 3 ≤ n) (L : Nat) (v : Value) (xs : List It) (B : Nat) (X : Nat → Prop) (w : World) (hL : SlAt w L v) (hrow : w.ownsRow B 30 5 v xs.length (xs.flatMap It.cells)) (hlen : xs.length ≤ 65536)
    (hX2 : ∀ g, v.ownBlock = some g → ¬ X g) :
    SeqAside Fence.wide n Tryd.prog 18 #[.pointer (some ⟨L, 0, none⟩)] encsE X 0 (fun ys => ys = numbered xs) (fun pre => pre <+: numbered xs) (xs.length + 1) w := by
  intro J Jx W hbW hsz hJ hJx hY h0
  have hLW : SlAt W L v := (hbW.block L (heap_lt hL)).trans hL
  have h1 : 1 ≤ n := by omega
  have hrW : W.ownsRow B 30 5 v xs.length (xs.flatMap It.cells) := ownsRow_same hrow (fun g o hg ho => (hbW.block g (heap_lt ho)).trans ho)
  obtain ⟨vb, vc, rfl, hvc, hvm, -⟩ := row_slice hrow
  have hs' := hLW
  unfold SlAt at hs'
  have c0 : W.cell? ⟨L, 0, none⟩ = some (.slice vb xs.length vc) := by simp [World.cell?, hs']
  have hrg := row_in hrow
  refine callsIn_of_wp Tryd.func18 rfl trivial ?_ rfl
  simp only [Tryd.ntmps18, List.size_toArray, List.length_cons, List.length_nil, Nat.reduceAdd, Nat.reduceSub, Array.replicate_succ, Array.replicate_zero, List.push_toArray, List.append_toArray, List.nil_append, List.cons_append]
  gi_wp2_with fail
  gi_loopg [7] xs.length (fun g s7 wr => ∃ k : Nat, s7 = .int .i64 k ∧ k ≤ xs.length ∧ xs.length - k ≤ g ∧ Hid (J ((numbered xs).take k) wr ∧ W.heap.size ≤ wr.heap.size ∧ ∀ k, k < w.heap.size → ¬ X k → wr.heap[k]? = W.heap[k]?))
  case atStart => exact ⟨0, rfl, Nat.zero_le _, by omega, Lib.hid ⟨h0, Nat.le_refl _, fun _ _ _ => rfl⟩⟩
  case round =>
    obtain ⟨k, rfl, hk, hg, S⟩ := hrel
    have hnl : (numbered xs).length = xs.length := by simp [numbered]
    by_cases hlt : k < xs.length
    · have hrr : wr.ownsRow B 30 5 (.slice vb xs.length vc) xs.length (xs.flatMap It.cells) := ownsRow_at hrW (fun g hg => S.out.2.2 g (hrg g hg).2 (hX2 g hg))
      obtain ⟨b', c', e1, -, -, e3⟩ := row_slice hrr
      obtain ⟨g', rfl, e4, e5, e6⟩ := e3 (by omega)
      obtain ⟨rfl, -, rfl⟩ : some ⟨g', 0, none⟩ = vb ∧ True ∧ c' = vc := by injection e1 with a1 a2 a3; exact ⟨a1.symm, trivial, a3.symm⟩
      generalize hx : xs[k] = x
      obtain ⟨⟨dk, dt, dn⟩, p, bad⟩ := x
      have q0 : wr.cell? ⟨g', k * 5, none⟩ = some (.int .i64 dk) := by have := e6 k hlt 0 (by omega); rw [hx] at this; exact this
      have q1 : wr.cell? ⟨g', k * 5 + 1, none⟩ = some (.string ⟨dt.toArray⟩) := by rw [e6 k hlt 1 (by omega), hx]; rfl
      have q2 : wr.cell? ⟨g', k * 5 + 2, none⟩ = some (.int .i64 dn) := by rw [e6 k hlt 2 (by omega), hx]; rfl
      have q3 : wr.cell? ⟨g', k * 5 + 3, none⟩ = some (.int .i64 p.1) := by rw [e6 k hlt 3 (by omega), hx]; rfl
      have q4 : wr.cell? ⟨g', k * 5 + 4, none⟩ = some (.int .i64 p.2) := by rw [e6 k hlt 4 (by omega), hx]; rfl
      clear e6
      have hnk : (numbered xs).take (k + 1) = (numbered xs).take k ++ [(k, ⟨⟨dk, dt, dn⟩, p, bad⟩)] := by
        rw [← List.take_append_getElem (by rw [hnl]; exact hlt)]
        congr 2
        simp [numbered, hx]
      have hmy : Mv (fun k => W.heap.size ≤ k ∧ k < W.heap.size + 0) wr (wr.alloc (.cells #[.int .i64 dk, .string ⟨dt.toArray⟩, .int .i64 dn, .int .i64 p.1, .int .i64 p.2] 30)) := Mv.alloc _ _
      obtain ⟨fn, tmps, asg, bod, hy, hRd⟩ := hY ((numbered xs).take k) (k, ⟨⟨dk, dt, dn⟩, p, bad⟩) wr _ S.out.1 hmy (by rw [List.length_take]; omega) (by have := S.out.2.1; omega)
      dsimp only [encsE, Wd.val, str] at hy
      gi_wp2_with fail
      refine hRd.mono ?_
      rintro e W3 (⟨rfl, hJ', hk'⟩ | ⟨rfl, hJx'⟩)
      · gi_wp2_with fail
        gi_roundg (xs.length - (k + 1))
        case measure => omega
        case rel =>
          refine ⟨k + 1, by simp, hlt, by omega, Lib.hid ⟨by rw [hnk]; exact hJ', ?_, fun j hj hx => ?_⟩⟩
          · have := hk'.size
            simp at this
            have := S.out.2.1
            omega
          · have h2 := S.out.2.1
            rw [hk'.same j (by simp; omega) (fun h => h.elim hx (fun h => by omega)), Below.heap_alloc wr _ j (by omega)]
            exact S.out.2.2 j hj hx
      · gi_wp2_with fail
        refine bodyPost_ret (results_none rfl _ _ _) rfl ?_
        exact ⟨⟨_, rfl⟩, .inr ⟨_, ⟨(numbered xs).drop (k + 1), by rw [← hnk, List.take_append_drop]⟩, hJx'⟩⟩
    · have hke : k = xs.length := by omega
      subst hke
      gi_wp2_with fail
      go_end0
      refine ⟨⟨_, rfl⟩, .inl ⟨_, rfl, ?_⟩⟩
      have := S.out.1
      rwa [← hnl, List.take_length] at this
/-- how a round may be left -/
def twoEnds {α : Type} (b : Nat) (Ir Ib : List α → World → Prop) (j : Code) (pre : List α) (W : World) : Prop := (j = .ret ∧ Ir pre W) ∨ (j = .exit b ∧ Ib pre W)
theorem range_block {F : Fence} {n : Nat} {P : Program} {α : Type} {g : Operand} {ps : Array Tmp} {assign body : Code} {b : Nat} {K : Act → World → Prop} {Q : Exit → Act → World → Prop} {a : Act} {w : World}
    (hro : F.round = none) (h1 : 1 ≤ n) {gf : Nat} {lb : Array Value} (hg : a.eval g = .func (.func gf) #[] lb) (hFg : F.fn gf) (eg : ∀ args w, (callFunc gf args).run P w = .ok (.enter gf args) w)
    {encs : α → Array Value} {X : Nat → Prop} {c : Nat} {S Sp : List α → Prop} {N : Nat} (hseq : SeqAside F (n - 1) P gf lb encs X c S Sp N w)
    (hX1 : X (w.heap.size + 1)) (hps : ∀ x, (encs x).size = ps.size)
    (I Ir Ib : List α → World → Prop) (hI : Aside w.heap.size (2 + c) I) (hIr : Aside w.heap.size (2 + c) Ir) (hIb : Aside w.heap.size (2 + c) Ib) (h0 : I [] w)
    (hround : ∀ (pre : List α) (x : α) (Wp W : World), I pre Wp → Mv (fun k => w.heap.size + 2 ≤ k ∧ k < w.heap.size + 2 + c) Wp W → pre.length < N → w.heap.size + 2 + c ≤ Wp.heap.size →
      assign.wpIn (F.inRound (w.heap.size + 1)) (n - 1 - 1) P (Exit.then (fun a₁ W₁ => KeepsOthers W W₁ ∧ Kept (fun k => X k ∨ (w.heap.size + 2 + c ≤ k ∧ k < Wp.heap.size)) W W₁ ∧ ∀ W₂, Mv (fun k => k = w.heap.size + 1) W₁ W₂ →
          body.wpIn (F.inRound (w.heap.size + 1)) (n - 1 - 1) P (asideEnd (fun k => X k ∨ (w.heap.size + 2 + c ≤ k ∧ k < Wp.heap.size)) I (twoEnds b Ir Ib) (pre ++ [x]) W₂) a₁ W₂) (fun _ _ _ => False))
        { tmps := (ps.zip (encs x)).foldl (fun t (p, v) => t.setIfInBounds p v) a.tmps, defers := [] } W)
    (hno : ∀ pre W, Sp pre → Ir pre W → False)
    (hfin : ∀ W, ((∃ xs, S xs ∧ I xs W) ∨ (∃ pre, Sp pre ∧ Ib pre W)) → W.heap[w.heap.size]? = some (.deferred (some [])) → K { a with defers := { target := .collected w.heap.size, args := #[] } :: a.defers } W) :
    (Code.rangeFunc g ps assign body).wpIn F n P (Exit.inBlock b (Exit.then K Q)) a w := by
  refine range_apart hro h1 hg hFg eg hseq hX1 hps I (twoEnds b Ir Ib) hI ?_ h0 hround ?_ ?_
  · rintro j s A B (⟨rfl, h⟩ | ⟨rfl, h⟩) m
    · exact .inl ⟨rfl, hIr s A B h m⟩
    · exact .inr ⟨rfl, hIb s A B h m⟩
  · intro xs W hS hi hD
    exact hfin W (.inl ⟨xs, hS, hi⟩) hD
  · rintro j pre W hSp (⟨rfl, h⟩ | ⟨rfl, h⟩) hD
    · exact (hno pre W hSp h).elim
    · refine wpIn_exit ?_
      have := hfin W (.inr ⟨pre, hSp, h⟩) hD
      simpa [Exit.inBlock, Exit.then] using this
end Go.Proofs.YtjgpbpmicopemaaDoor
