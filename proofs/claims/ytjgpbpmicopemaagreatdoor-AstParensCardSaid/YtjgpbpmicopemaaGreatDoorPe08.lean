import Derived.Test.YtjgpbpmicopemaaGreatDoorPe07
import Derived.Test.YtjgpbpmicopemaaGreatDoorPb17
import Derived.Test.YtjgpbpmicopemaaGreatDoorPb22
import Derived.Test.YtjgpbpmicopemaaGreatDoorPe05
import Derived.Test.YtjgpbpmicopemaaGreatDoorPe01

namespace Go.Proofs.YtjgpbpmicopemaaGreatDoor
open Go.RowKit
set_option linter.unusedSimpArgs false
def PoS (s : Sx) (x : St) (t : Sx) : Prop := Po s t ∧ 1 ≤ x.tall ∧ x.tall + t.ws.length ≤ s.ws.length
theorem stmt_lo {s u : Sx} {k : Int} {nm ty : Bs} {e pl : Option Ex} {l : List St} (h1 : Lm 0 u) (h2 : Po s u) (h3 : Lm 0 s) (h4 : 0 ≤ maxS (maxO (maxO 0 e) pl) l) (h5 : maxS (maxO (maxO 0 e) pl) l + u.ws.length + 1 ≤ s.ws.length) (h6 : u.nodes + u.ws.length + 1 ≤ s.nodes + s.ws.length) : Lo (stmtP k nm ty e pl l) u (PoS s) :=
  lo_stmt (by ((try simp only [Lm, Po, PoE, PoS, Nx, maxE, maxS, maxO, maxE_app, maxS_app, and_true, true_and] at *) <;> omega)) (by ((try simp only [Lm, Po, PoE, PoS, Nx, maxE, maxS, maxO, maxE_app, maxS_app, and_true, true_and] at *) <;> omega)) (by ((try simp only [Lm, Po, PoE, PoS, Nx, maxE, maxS, maxO, maxE_app, maxS_app, and_true, true_and] at *) <;> omega)) (fun x v a1 a2 a3 a4 a5 a6 => by ((try simp only [Lm, Po, PoE, PoS, Nx, maxE, maxS, maxO, maxE_app, maxS_app, and_true, true_and] at *) <;> omega))
theorem decl_lo {f : Nat} {s : Sx} (hL : Lm 0 s) : Lo (declP f) s (PoS s) := by
  have ih := loE f
  unfold declP
  refine Lo.bind typ_lo (fun t s1 h1 => Lo.bind lo_name (fun n s2 h2 => Lo.may (fun s3 h3 => ?_) ?_))
  · simp only [if_true]
    refine Lo.bind (ih.binary 0 s3 (by ((try simp only [Lm, Po, PoE, PoS, Nx, maxE, maxS, maxO, maxE_app, maxS_app, and_true, true_and] at *) <;> omega))) (fun e s4 h4 => Lo.bind (lo_must _) (fun _ s5 h5 => ?_))
    exact stmt_lo (by ((try simp only [Lm, Po, PoE, PoS, Nx, maxE, maxS, maxO, maxE_app, maxS_app, and_true, true_and] at *) <;> omega)) (by ((try simp only [Lm, Po, PoE, PoS, Nx, maxE, maxS, maxO, maxE_app, maxS_app, and_true, true_and] at *) <;> omega)) (by ((try simp only [Lm, Po, PoE, PoS, Nx, maxE, maxS, maxO, maxE_app, maxS_app, and_true, true_and] at *) <;> omega)) (by ((try simp only [Lm, Po, PoE, PoS, Nx, maxE, maxS, maxO, maxE_app, maxS_app, and_true, true_and] at *) <;> omega)) (by ((try simp only [Lm, Po, PoE, PoS, Nx, maxE, maxS, maxO, maxE_app, maxS_app, and_true, true_and] at *) <;> omega)) (by ((try simp only [Lm, Po, PoE, PoS, Nx, maxE, maxS, maxO, maxE_app, maxS_app, and_true, true_and] at *) <;> omega))
  · simp only [Bool.false_eq_true, if_false]
    refine Lo.bind array_lo (fun t s4 h4 => Lo.bind (lo_must _) (fun _ s5 h5 => ?_))
    exact stmt_lo (by ((try simp only [Lm, Po, PoE, PoS, Nx, maxE, maxS, maxO, maxE_app, maxS_app, and_true, true_and] at *) <;> omega)) (by ((try simp only [Lm, Po, PoE, PoS, Nx, maxE, maxS, maxO, maxE_app, maxS_app, and_true, true_and] at *) <;> omega)) (by ((try simp only [Lm, Po, PoE, PoS, Nx, maxE, maxS, maxO, maxE_app, maxS_app, and_true, true_and] at *) <;> omega)) (by ((try simp only [Lm, Po, PoE, PoS, Nx, maxE, maxS, maxO, maxE_app, maxS_app, and_true, true_and] at *) <;> omega)) (by ((try simp only [Lm, Po, PoE, PoS, Nx, maxE, maxS, maxO, maxE_app, maxS_app, and_true, true_and] at *) <;> omega)) (by ((try simp only [Lm, Po, PoE, PoS, Nx, maxE, maxS, maxO, maxE_app, maxS_app, and_true, true_and] at *) <;> omega))
structure LoS (f : Nat) : Prop where
  block : ∀ s, Lm 1 s → Lo (blockP f) s (PoS s)
  list : ∀ l s (M : Int), Lm 2 s → 0 ≤ maxS 0 l → maxS 0 l + s.ws.length ≤ M → M ≤ 199 → Lo (listP f l) s (fun l' t => Po s t ∧ 0 ≤ maxS 0 l' ∧ maxS 0 l' + t.ws.length ≤ M)
  stat : ∀ s, Lm 2 s → Lo (statementP f) s (PoS s)
theorem loS : ∀ f, LoS f
  | 0 => by constructor <;> intros <;> exact Lo.out
  | f + 1 => by
    have ih := loS f
    have ie := loE f
    constructor
    · intro s hL
      unfold blockP
      refine Lo.deep (by ((try simp only [Lm, Po, PoE, PoS, Nx, maxE, maxS, maxO, maxE_app, maxS_app, and_true, true_and] at *) <;> omega)) (fun u a1 a2 a3 a4 a5 => ?_)
      refine Lo.bind (lo_must _) (fun _ s1 h1 => ?_)
      refine Lo.bind (ih.list [] s1 (s.ws.length - 1) (by ((try simp only [Lm, Po, PoE, PoS, Nx, maxE, maxS, maxO, maxE_app, maxS_app, and_true, true_and] at *) <;> omega)) (by ((try simp only [Lm, Po, PoE, PoS, Nx, maxE, maxS, maxO, maxE_app, maxS_app, and_true, true_and] at *) <;> omega)) (by ((try simp only [Lm, Po, PoE, PoS, Nx, maxE, maxS, maxO, maxE_app, maxS_app, and_true, true_and] at *) <;> omega)) (by ((try simp only [Lm, Po, PoE, PoS, Nx, maxE, maxS, maxO, maxE_app, maxS_app, and_true, true_and] at *) <;> omega))) (fun l s2 h2 => ?_)
      refine (stmt_lo (s := u) (by ((try simp only [Lm, Po, PoE, PoS, Nx, maxE, maxS, maxO, maxE_app, maxS_app, and_true, true_and] at *) <;> omega)) (by ((try simp only [Lm, Po, PoE, PoS, Nx, maxE, maxS, maxO, maxE_app, maxS_app, and_true, true_and] at *) <;> omega)) (by ((try simp only [Lm, Po, PoE, PoS, Nx, maxE, maxS, maxO, maxE_app, maxS_app, and_true, true_and] at *) <;> omega)) (by ((try simp only [Lm, Po, PoE, PoS, Nx, maxE, maxS, maxO, maxE_app, maxS_app, and_true, true_and] at *) <;> omega)) (by ((try simp only [Lm, Po, PoE, PoS, Nx, maxE, maxS, maxO, maxE_app, maxS_app, and_true, true_and] at *) <;> omega)) (by ((try simp only [Lm, Po, PoE, PoS, Nx, maxE, maxS, maxO, maxE_app, maxS_app, and_true, true_and] at *) <;> omega))).mono (fun x v hv => ⟨by ((try simp only [Lm, Po, PoE, PoS, Nx, maxE, maxS, maxO, maxE_app, maxS_app, and_true, true_and] at *) <;> omega), fun t' b1 b2 b3 b4 b5 => by ((try simp only [Lm, Po, PoE, PoS, Nx, maxE, maxS, maxO, maxE_app, maxS_app, and_true, true_and] at *) <;> omega)⟩)
    · intro l s M hL h1 h2 h3
      unfold listP
      refine Lo.may (fun t ht => ?_) ?_
      · simp only [if_true]
        exact Lo.pure (by ((try simp only [Lm, Po, PoE, PoS, Nx, maxE, maxS, maxO, maxE_app, maxS_app, and_true, true_and] at *) <;> omega))
      · simp only [Bool.false_eq_true, if_false]
        refine Lo.ask rfl ?_
        split
        · refine Lo.bind (decl_lo (by ((try simp only [Lm, Po, PoE, PoS, Nx, maxE, maxS, maxO, maxE_app, maxS_app, and_true, true_and] at *) <;> omega))) (fun x s1 hx => ?_)
          exact (ih.list _ s1 M (by ((try simp only [Lm, Po, PoE, PoS, Nx, maxE, maxS, maxO, maxE_app, maxS_app, and_true, true_and] at *) <;> omega)) (by ((try simp only [Lm, Po, PoE, PoS, Nx, maxE, maxS, maxO, maxE_app, maxS_app, and_true, true_and] at *) <;> omega)) (by ((try simp only [Lm, Po, PoE, PoS, Nx, maxE, maxS, maxO, maxE_app, maxS_app, and_true, true_and] at *) <;> omega)) h3).mono (fun l' v hv => by ((try simp only [Lm, Po, PoE, PoS, Nx, maxE, maxS, maxO, maxE_app, maxS_app, and_true, true_and] at *) <;> omega))
        · refine Lo.bind (ih.stat s hL) (fun x s1 hx => ?_)
          exact (ih.list _ s1 M (by ((try simp only [Lm, Po, PoE, PoS, Nx, maxE, maxS, maxO, maxE_app, maxS_app, and_true, true_and] at *) <;> omega)) (by ((try simp only [Lm, Po, PoE, PoS, Nx, maxE, maxS, maxO, maxE_app, maxS_app, and_true, true_and] at *) <;> omega)) (by ((try simp only [Lm, Po, PoE, PoS, Nx, maxE, maxS, maxO, maxE_app, maxS_app, and_true, true_and] at *) <;> omega)) h3).mono (fun l' v hv => by ((try simp only [Lm, Po, PoE, PoS, Nx, maxE, maxS, maxO, maxE_app, maxS_app, and_true, true_and] at *) <;> omega))
    · intro s hL
      unfold statementP
      refine Lo.deep (by ((try simp only [Lm, Po, PoE, PoS, Nx, maxE, maxS, maxO, maxE_app, maxS_app, and_true, true_and] at *) <;> omega)) (fun u a1 a2 a3 a4 a5 => ?_)
      refine Lo.mono (Q := PoS u) ?_ (fun x v hv => ⟨by ((try simp only [Lm, Po, PoE, PoS, Nx, maxE, maxS, maxO, maxE_app, maxS_app, and_true, true_and] at *) <;> omega), fun t' b1 b2 b3 b4 b5 => by ((try simp only [Lm, Po, PoE, PoS, Nx, maxE, maxS, maxO, maxE_app, maxS_app, and_true, true_and] at *) <;> omega)⟩)
      refine Lo.ask rfl ?_
      split
      · exact ih.block u (by ((try simp only [Lm, Po, PoE, PoS, Nx, maxE, maxS, maxO, maxE_app, maxS_app, and_true, true_and] at *) <;> omega))
      · refine Lo.may (fun t ht => ?_) ?_
        · simp only [if_true]
          exact stmt_lo (by ((try simp only [Lm, Po, PoE, PoS, Nx, maxE, maxS, maxO, maxE_app, maxS_app, and_true, true_and] at *) <;> omega)) (by ((try simp only [Lm, Po, PoE, PoS, Nx, maxE, maxS, maxO, maxE_app, maxS_app, and_true, true_and] at *) <;> omega)) (by ((try simp only [Lm, Po, PoE, PoS, Nx, maxE, maxS, maxO, maxE_app, maxS_app, and_true, true_and] at *) <;> omega)) (by ((try simp only [Lm, Po, PoE, PoS, Nx, maxE, maxS, maxO, maxE_app, maxS_app, and_true, true_and] at *) <;> omega)) (by ((try simp only [Lm, Po, PoE, PoS, Nx, maxE, maxS, maxO, maxE_app, maxS_app, and_true, true_and] at *) <;> omega)) (by ((try simp only [Lm, Po, PoE, PoS, Nx, maxE, maxS, maxO, maxE_app, maxS_app, and_true, true_and] at *) <;> omega))
        simp only [Bool.false_eq_true, if_false]
        refine Lo.may (fun t ht => ?_) ?_
        · simp only [if_true]
          refine Lo.bind (ie.within t (by ((try simp only [Lm, Po, PoE, PoS, Nx, maxE, maxS, maxO, maxE_app, maxS_app, and_true, true_and] at *) <;> omega))) (fun e s1 h1 => ?_)
          refine Lo.bind (ih.stat s1 (by ((try simp only [Lm, Po, PoE, PoS, Nx, maxE, maxS, maxO, maxE_app, maxS_app, and_true, true_and] at *) <;> omega))) (fun x s2 h2 => Lo.may (fun s3 h3 => ?_) ?_)
          · simp only [if_true]
            refine Lo.bind (ih.stat s3 (by ((try simp only [Lm, Po, PoE, PoS, Nx, maxE, maxS, maxO, maxE_app, maxS_app, and_true, true_and] at *) <;> omega))) (fun y s4 h4 => ?_)
            exact stmt_lo (by ((try simp only [Lm, Po, PoE, PoS, Nx, maxE, maxS, maxO, maxE_app, maxS_app, and_true, true_and] at *) <;> omega)) (by ((try simp only [Lm, Po, PoE, PoS, Nx, maxE, maxS, maxO, maxE_app, maxS_app, and_true, true_and] at *) <;> omega)) (by ((try simp only [Lm, Po, PoE, PoS, Nx, maxE, maxS, maxO, maxE_app, maxS_app, and_true, true_and] at *) <;> omega)) (by ((try simp only [Lm, Po, PoE, PoS, Nx, maxE, maxS, maxO, maxE_app, maxS_app, and_true, true_and] at *) <;> omega)) (by ((try simp only [Lm, Po, PoE, PoS, Nx, maxE, maxS, maxO, maxE_app, maxS_app, and_true, true_and] at *) <;> omega)) (by ((try simp only [Lm, Po, PoE, PoS, Nx, maxE, maxS, maxO, maxE_app, maxS_app, and_true, true_and] at *) <;> omega))
          · simp only [Bool.false_eq_true, if_false]
            exact stmt_lo (by ((try simp only [Lm, Po, PoE, PoS, Nx, maxE, maxS, maxO, maxE_app, maxS_app, and_true, true_and] at *) <;> omega)) (by ((try simp only [Lm, Po, PoE, PoS, Nx, maxE, maxS, maxO, maxE_app, maxS_app, and_true, true_and] at *) <;> omega)) (by ((try simp only [Lm, Po, PoE, PoS, Nx, maxE, maxS, maxO, maxE_app, maxS_app, and_true, true_and] at *) <;> omega)) (by ((try simp only [Lm, Po, PoE, PoS, Nx, maxE, maxS, maxO, maxE_app, maxS_app, and_true, true_and] at *) <;> omega)) (by ((try simp only [Lm, Po, PoE, PoS, Nx, maxE, maxS, maxO, maxE_app, maxS_app, and_true, true_and] at *) <;> omega)) (by ((try simp only [Lm, Po, PoE, PoS, Nx, maxE, maxS, maxO, maxE_app, maxS_app, and_true, true_and] at *) <;> omega))
        simp only [Bool.false_eq_true, if_false]
        refine Lo.may (fun t ht => ?_) ?_
        · simp only [if_true]
          refine Lo.bind (ie.within t (by ((try simp only [Lm, Po, PoE, PoS, Nx, maxE, maxS, maxO, maxE_app, maxS_app, and_true, true_and] at *) <;> omega))) (fun e s1 h1 => ?_)
          refine Lo.bind (ih.stat s1 (by ((try simp only [Lm, Po, PoE, PoS, Nx, maxE, maxS, maxO, maxE_app, maxS_app, and_true, true_and] at *) <;> omega))) (fun x s2 h2 => ?_)
          exact stmt_lo (by ((try simp only [Lm, Po, PoE, PoS, Nx, maxE, maxS, maxO, maxE_app, maxS_app, and_true, true_and] at *) <;> omega)) (by ((try simp only [Lm, Po, PoE, PoS, Nx, maxE, maxS, maxO, maxE_app, maxS_app, and_true, true_and] at *) <;> omega)) (by ((try simp only [Lm, Po, PoE, PoS, Nx, maxE, maxS, maxO, maxE_app, maxS_app, and_true, true_and] at *) <;> omega)) (by ((try simp only [Lm, Po, PoE, PoS, Nx, maxE, maxS, maxO, maxE_app, maxS_app, and_true, true_and] at *) <;> omega)) (by ((try simp only [Lm, Po, PoE, PoS, Nx, maxE, maxS, maxO, maxE_app, maxS_app, and_true, true_and] at *) <;> omega)) (by ((try simp only [Lm, Po, PoE, PoS, Nx, maxE, maxS, maxO, maxE_app, maxS_app, and_true, true_and] at *) <;> omega))
        simp only [Bool.false_eq_true, if_false]
        refine Lo.ask rfl ?_
        split
        · refine Lo.bind lo_take (fun w s1 h1 => Lo.bind (lo_must _) (fun _ s2 h2 => ?_))
          exact stmt_lo (by ((try simp only [Lm, Po, PoE, PoS, Nx, maxE, maxS, maxO, maxE_app, maxS_app, and_true, true_and] at *) <;> omega)) (by ((try simp only [Lm, Po, PoE, PoS, Nx, maxE, maxS, maxO, maxE_app, maxS_app, and_true, true_and] at *) <;> omega)) (by ((try simp only [Lm, Po, PoE, PoS, Nx, maxE, maxS, maxO, maxE_app, maxS_app, and_true, true_and] at *) <;> omega)) (by ((try simp only [Lm, Po, PoE, PoS, Nx, maxE, maxS, maxO, maxE_app, maxS_app, and_true, true_and] at *) <;> omega)) (by ((try simp only [Lm, Po, PoE, PoS, Nx, maxE, maxS, maxO, maxE_app, maxS_app, and_true, true_and] at *) <;> omega)) (by ((try simp only [Lm, Po, PoE, PoS, Nx, maxE, maxS, maxO, maxE_app, maxS_app, and_true, true_and] at *) <;> omega))
        · refine Lo.may (fun t ht => ?_) ?_
          · simp only [if_true]
            refine Lo.ask rfl ?_
            split
            · refine Lo.bind (lo_must _) (fun _ s1 h1 => ?_)
              exact stmt_lo (by ((try simp only [Lm, Po, PoE, PoS, Nx, maxE, maxS, maxO, maxE_app, maxS_app, and_true, true_and] at *) <;> omega)) (by ((try simp only [Lm, Po, PoE, PoS, Nx, maxE, maxS, maxO, maxE_app, maxS_app, and_true, true_and] at *) <;> omega)) (by ((try simp only [Lm, Po, PoE, PoS, Nx, maxE, maxS, maxO, maxE_app, maxS_app, and_true, true_and] at *) <;> omega)) (by ((try simp only [Lm, Po, PoE, PoS, Nx, maxE, maxS, maxO, maxE_app, maxS_app, and_true, true_and] at *) <;> omega)) (by ((try simp only [Lm, Po, PoE, PoS, Nx, maxE, maxS, maxO, maxE_app, maxS_app, and_true, true_and] at *) <;> omega)) (by ((try simp only [Lm, Po, PoE, PoS, Nx, maxE, maxS, maxO, maxE_app, maxS_app, and_true, true_and] at *) <;> omega))
            · refine Lo.bind (ie.binary 0 t (by ((try simp only [Lm, Po, PoE, PoS, Nx, maxE, maxS, maxO, maxE_app, maxS_app, and_true, true_and] at *) <;> omega))) (fun e s1 h1 => Lo.bind (lo_must _) (fun _ s2 h2 => ?_))
              exact stmt_lo (by ((try simp only [Lm, Po, PoE, PoS, Nx, maxE, maxS, maxO, maxE_app, maxS_app, and_true, true_and] at *) <;> omega)) (by ((try simp only [Lm, Po, PoE, PoS, Nx, maxE, maxS, maxO, maxE_app, maxS_app, and_true, true_and] at *) <;> omega)) (by ((try simp only [Lm, Po, PoE, PoS, Nx, maxE, maxS, maxO, maxE_app, maxS_app, and_true, true_and] at *) <;> omega)) (by ((try simp only [Lm, Po, PoE, PoS, Nx, maxE, maxS, maxO, maxE_app, maxS_app, and_true, true_and] at *) <;> omega)) (by ((try simp only [Lm, Po, PoE, PoS, Nx, maxE, maxS, maxO, maxE_app, maxS_app, and_true, true_and] at *) <;> omega)) (by ((try simp only [Lm, Po, PoE, PoS, Nx, maxE, maxS, maxO, maxE_app, maxS_app, and_true, true_and] at *) <;> omega))
          simp only [Bool.false_eq_true, if_false]
          refine Lo.may (fun t ht => ?_) ?_
          · simp only [if_true]
            refine Lo.bind (ie.within t (by ((try simp only [Lm, Po, PoE, PoS, Nx, maxE, maxS, maxO, maxE_app, maxS_app, and_true, true_and] at *) <;> omega))) (fun e s1 h1 => Lo.bind (lo_must _) (fun _ s2 h2 => ?_))
            exact stmt_lo (by ((try simp only [Lm, Po, PoE, PoS, Nx, maxE, maxS, maxO, maxE_app, maxS_app, and_true, true_and] at *) <;> omega)) (by ((try simp only [Lm, Po, PoE, PoS, Nx, maxE, maxS, maxO, maxE_app, maxS_app, and_true, true_and] at *) <;> omega)) (by ((try simp only [Lm, Po, PoE, PoS, Nx, maxE, maxS, maxO, maxE_app, maxS_app, and_true, true_and] at *) <;> omega)) (by ((try simp only [Lm, Po, PoE, PoS, Nx, maxE, maxS, maxO, maxE_app, maxS_app, and_true, true_and] at *) <;> omega)) (by ((try simp only [Lm, Po, PoE, PoS, Nx, maxE, maxS, maxO, maxE_app, maxS_app, and_true, true_and] at *) <;> omega)) (by ((try simp only [Lm, Po, PoE, PoS, Nx, maxE, maxS, maxO, maxE_app, maxS_app, and_true, true_and] at *) <;> omega))
          simp only [Bool.false_eq_true, if_false]
          refine Lo.bind (ie.binary 0 u (by ((try simp only [Lm, Po, PoE, PoS, Nx, maxE, maxS, maxO, maxE_app, maxS_app, and_true, true_and] at *) <;> omega))) (fun e s1 h1 => Lo.may (fun t ht => ?_) ?_)
          · simp only [if_true]
            refine Lo.bind (ie.binary 0 t (by ((try simp only [Lm, Po, PoE, PoS, Nx, maxE, maxS, maxO, maxE_app, maxS_app, and_true, true_and] at *) <;> omega))) (fun r s2 h2 => Lo.bind (lo_must _) (fun _ s3 h3 => ?_))
            exact stmt_lo (by ((try simp only [Lm, Po, PoE, PoS, Nx, maxE, maxS, maxO, maxE_app, maxS_app, and_true, true_and] at *) <;> omega)) (by ((try simp only [Lm, Po, PoE, PoS, Nx, maxE, maxS, maxO, maxE_app, maxS_app, and_true, true_and] at *) <;> omega)) (by ((try simp only [Lm, Po, PoE, PoS, Nx, maxE, maxS, maxO, maxE_app, maxS_app, and_true, true_and] at *) <;> omega)) (by ((try simp only [Lm, Po, PoE, PoS, Nx, maxE, maxS, maxO, maxE_app, maxS_app, and_true, true_and] at *) <;> omega)) (by ((try simp only [Lm, Po, PoE, PoS, Nx, maxE, maxS, maxO, maxE_app, maxS_app, and_true, true_and] at *) <;> omega)) (by ((try simp only [Lm, Po, PoE, PoS, Nx, maxE, maxS, maxO, maxE_app, maxS_app, and_true, true_and] at *) <;> omega))
          · simp only [Bool.false_eq_true, if_false]
            refine Lo.bind (lo_must _) (fun _ s3 h3 => ?_)
            exact stmt_lo (by ((try simp only [Lm, Po, PoE, PoS, Nx, maxE, maxS, maxO, maxE_app, maxS_app, and_true, true_and] at *) <;> omega)) (by ((try simp only [Lm, Po, PoE, PoS, Nx, maxE, maxS, maxO, maxE_app, maxS_app, and_true, true_and] at *) <;> omega)) (by ((try simp only [Lm, Po, PoE, PoS, Nx, maxE, maxS, maxO, maxE_app, maxS_app, and_true, true_and] at *) <;> omega)) (by ((try simp only [Lm, Po, PoE, PoS, Nx, maxE, maxS, maxO, maxE_app, maxS_app, and_true, true_and] at *) <;> omega)) (by ((try simp only [Lm, Po, PoE, PoS, Nx, maxE, maxS, maxO, maxE_app, maxS_app, and_true, true_and] at *) <;> omega)) (by ((try simp only [Lm, Po, PoE, PoS, Nx, maxE, maxS, maxO, maxE_app, maxS_app, and_true, true_and] at *) <;> omega))
theorem fields_lo : ∀ (f : Nat) (l : List Fd) (s : Sx), Lo (fieldsP f l) s (fun _ t => Nx 0 s t)
  | 0, _, _ => Lo.out
  | f + 1, l, s => by
    unfold fieldsP
    refine Lo.may (fun t ht => ?_) ?_
    · simp only [if_true]
      exact Lo.pure (by ((try simp only [Lm, Po, PoE, PoS, Nx, maxE, maxS, maxO, maxE_app, maxS_app, and_true, true_and] at *) <;> omega))
    · simp only [Bool.false_eq_true, if_false]
      refine Lo.bind typ_lo (fun t s1 h1 => Lo.bind lo_name (fun n s2 h2 => Lo.bind array_lo (fun t s3 h3 => Lo.bind (lo_must _) (fun _ s4 h4 => ?_))))
      exact (fields_lo f _ s4).mono (fun _ v hv => by ((try simp only [Lm, Po, PoE, PoS, Nx, maxE, maxS, maxO, maxE_app, maxS_app, and_true, true_and] at *) <;> omega))
theorem params_lo : ∀ (f : Nat) (more : Bool) (l : List Pm) (s : Sx), Lo (paramsP f more l) s (fun _ t => Nx 0 s t)
  | 0, _, _, _ => Lo.out
  | f + 1, more, l, s => by
    unfold paramsP
    cases more
    · simp only [Bool.false_eq_true, if_false]
      exact Lo.pure (by ((try simp only [Lm, Po, PoE, PoS, Nx, maxE, maxS, maxO, maxE_app, maxS_app, and_true, true_and] at *) <;> omega))
    · simp only [if_true]
      have key : ∀ b s0, Nx 0 s s0 → Lo (do
          let t ← typP
          let n ← nameP
          if ← mayP [44] then paramsP f true (l ++ [⟨b, t, n⟩])
          else
            mustP [41]
            paramsP f false (l ++ [⟨b, t, n⟩])) s0 (fun _ t => Nx 0 s t) := by
        intro b s0 h0
        refine Lo.bind typ_lo (fun t s1 h1 => Lo.bind lo_name (fun n s2 h2 => Lo.may (fun s3 h3 => ?_) ?_))
        · simp only [if_true]
          exact (params_lo f _ _ s3).mono (fun _ v hv => by ((try simp only [Lm, Po, PoE, PoS, Nx, maxE, maxS, maxO, maxE_app, maxS_app, and_true, true_and] at *) <;> omega))
        · simp only [Bool.false_eq_true, if_false]
          refine Lo.bind (lo_must _) (fun _ s4 h4 => ?_)
          exact (params_lo f _ _ s4).mono (fun _ v hv => by ((try simp only [Lm, Po, PoE, PoS, Nx, maxE, maxS, maxO, maxE_app, maxS_app, and_true, true_and] at *) <;> omega))
      exact Lo.may (fun t ht => key _ t (by ((try simp only [Lm, Po, PoE, PoS, Nx, maxE, maxS, maxO, maxE_app, maxS_app, and_true, true_and] at *) <;> omega))) (key _ s (by ((try simp only [Lm, Po, PoE, PoS, Nx, maxE, maxS, maxO, maxE_app, maxS_app, and_true, true_and] at *) <;> omega)))
def Lf (s : Sx) : Prop := 0 ≤ s.nodes ∧ s.nodes + s.ws.length ≤ 20000 ∧ 0 ≤ s.depth ∧ s.depth + 2 * s.ws.length + 1 ≤ 800 ∧ s.ws.length ≤ 201 ∧ ovN s = 0 ∧ 0 ≤ s.funcs ∧ 3 * s.funcs + s.ws.length ≤ 290
def Pf (s t : Sx) : Prop := t.ws.length ≤ s.ws.length ∧ t.nodes + t.ws.length ≤ s.nodes + s.ws.length ∧ s.nodes ≤ t.nodes ∧ t.depth = s.depth ∧ s.funcs ≤ t.funcs ∧ 3 * t.funcs + t.ws.length ≤ 3 * s.funcs + s.ws.length ∧ ovN t = 0
theorem lo_func {s : Sx} {Q : Unit → Sx → Prop} (h0 : 0 ≤ s.funcs ∧ s.funcs + 1 ≤ 100) (ho : ovN s = 0) (H : ∀ t, t.ws.length = s.ws.length → t.nodes = s.nodes → t.funcs = s.funcs + 1 → t.depth = s.depth → ovN t = 0 → Q () t) : Lo funcP s Q := by
  intro e t x
  unfold funcP at x
  cases x
  have hi : inc s.funcs = s.funcs + 1 := by unfold inc; unfold wrap64; omega
  refine H _ rfl rfl hi rfl ?_
  have := ovN_zero.1 ho
  unfold ovN
  simp only [this, hi, Bool.false_or]
  rw [decide_eq_true (by omega)]
  rfl
theorem rest_lo {f : Nat} {t : Bs} {s s0 : Sx} (hL : Lf s0) (hs : Nx 1 s0 s) : Lo (restP f t) s (fun _ u => Pf s0 u) := by
  unfold restP
  refine Lo.bind lo_name (fun n s1 h1 => Lo.ask rfl ?_)
  split
  · refine Lo.bind (Q := fun _ u => u.ws.length = s1.ws.length ∧ u.nodes = s1.nodes ∧ u.funcs = s1.funcs + 1 ∧ u.depth = s1.depth ∧ ovN u = 0) (lo_func (by ((try simp only [Lf, Pf, Lm, Po, PoE, PoS, Nx, maxE, maxS, maxO, maxE_app, maxS_app, and_true, true_and] at *) <;> omega)) (by ((try simp only [Lf, Pf, Lm, Po, PoE, PoS, Nx, maxE, maxS, maxO, maxE_app, maxS_app, and_true, true_and] at *) <;> omega)) (fun u a1 a2 a3 a4 a5 => by ((try simp only [Lf, Pf, Lm, Po, PoE, PoS, Nx, maxE, maxS, maxO, maxE_app, maxS_app, and_true, true_and] at *) <;> omega))) (fun _ s2 h2 => ?_)
    refine Lo.bind lo_take (fun _ s3 h3 => ?_)
    have key : ∀ m s4, Nx 0 s3 s4 → Lo (do
        let ps ← paramsP f m []
        let b ← blockP f
        pure (⟨3, t, n, [], ps, some b⟩ : Im)) s4 (fun _ u => Pf s0 u) := by
      intro m s4 h4
      refine Lo.bind (params_lo f _ _ s4) (fun ps s5 h5 => Lo.bind ((loS f).block s5 (by ((try simp only [Lf, Pf, Lm, Po, PoE, PoS, Nx, maxE, maxS, maxO, maxE_app, maxS_app, and_true, true_and] at *) <;> omega))) (fun b s6 h6 => Lo.pure ?_))
      ((try simp only [Lf, Pf, Lm, Po, PoE, PoS, Nx, maxE, maxS, maxO, maxE_app, maxS_app, and_true, true_and] at *) <;> omega)
    exact Lo.may (fun t ht => key _ t (by ((try simp only [Lf, Pf, Lm, Po, PoE, PoS, Nx, maxE, maxS, maxO, maxE_app, maxS_app, and_true, true_and] at *) <;> omega))) (key _ s3 (by ((try simp only [Lf, Pf, Lm, Po, PoE, PoS, Nx, maxE, maxS, maxO, maxE_app, maxS_app, and_true, true_and] at *) <;> omega)))
  · refine Lo.bind array_lo (fun t s4 h4 => Lo.bind (lo_must _) (fun _ s5 h5 => Lo.pure ?_))
    ((try simp only [Lf, Pf, Lm, Po, PoE, PoS, Nx, maxE, maxS, maxO, maxE_app, maxS_app, and_true, true_and] at *) <;> omega)
theorem item_lo {f : Nat} {s : Sx} (hL : Lf s) : Lo (itemP f) s (fun _ u => Pf s u) := by
  unfold itemP
  refine Lo.may (fun t ht => ?_) ?_
  · simp only [if_true]
    refine Lo.bind lo_name (fun n s1 h1 => Lo.may (fun s2 h2 => ?_) ?_)
    · simp only [if_true]
      refine Lo.bind (fields_lo f _ s2) (fun l s3 h3 => Lo.bind (lo_must _) (fun _ s4 h4 => Lo.pure ?_))
      ((try simp only [Lf, Pf, Lm, Po, PoE, PoS, Nx, maxE, maxS, maxO, maxE_app, maxS_app, and_true, true_and] at *) <;> omega)
    · simp only [Bool.false_eq_true, if_false]
      exact Lo.bind (lo_stars _) (fun t s2 h2 => rest_lo hL (by ((try simp only [Lf, Pf, Lm, Po, PoE, PoS, Nx, maxE, maxS, maxO, maxE_app, maxS_app, and_true, true_and] at *) <;> omega)))
  · simp only [Bool.false_eq_true, if_false]
    exact Lo.bind typ_lo (fun t s1 h1 => rest_lo hL h1)
theorem items_lo : ∀ (f : Nat) (l : List Im) (s : Sx), Lf s → Lo (itemsP f l) s (fun _ t => ovN t = 0)
  | 0, _, _, _ => Lo.out
  | f + 1, l, s, hL => by
    intro a t e
    unfold itemsP at e
    by_cases he : s.ws.isEmpty = true
    · simp only [he, if_true] at e
      cases e
      ((try simp only [Lf, Pf, Lm, Po, PoE, PoS, Nx, maxE, maxS, maxO, maxE_app, maxS_app, and_true, true_and] at *) <;> omega)
    · simp only [he] at e
      exact Lo.bind (item_lo (f := f) hL) (fun x s1 h1 => items_lo f (l ++ [x]) s1 (by ((try simp only [Lf, Pf, Lm, Po, PoE, PoS, Nx, maxE, maxS, maxO, maxE_app, maxS_app, and_true, true_and] at *) <;> omega))) a t e
theorem program_lo {f : Nat} {s : Sx} (hL : Lf s) : Lo (programP f) s (fun _ t => t.over = false) := by
  intro a t e
  unfold programP at e
  cases x : itemsP f [] s with
  | out => rw [x] at e; cases e
  | bad u => rw [x] at e; cases e
  | ok l u => rw [x] at e; cases e; exact ovN_zero.1 (items_lo f [] s hL _ _ x)
end Go.Proofs.YtjgpbpmicopemaaGreatDoor

namespace Go.Proofs.YtjgpbpmicopemaaGreatDoor
open Go.RowKit Go.Shelf
theorem begS_ds (l : Bs) : (begS l).ds = (wordsL l).map It.d := rfl
theorem begS_low (l : Bs) (h : (wordsL l).length ≤ 201) : Lf (begS l) := by
  have e1 : ovN (begS l) = 0 := rfl
  have e2 : (begS l).ws.length = (wordsL l).length := rfl
  have e3 : (begS l).nodes = 0 := rfl
  have e4 : (begS l).depth = 0 := rfl
  have e5 : (begS l).funcs = 0 := rfl
  unfold Lf
  rw [e1, e2, e3, e4, e5]
  omega
theorem begS_fine (l : Bs) (h : (wordsL l).length ≤ 60000) : programP fuelP (begS l) ≠ .out := program_fine (by show 10 * (wordsL l).length + 9 ≤ 700000; omega)
theorem parse_few {l : Bs} (hl : l.length ≤ 9223372036854775807) (he : wordsE l = 0) (hn : (wordsL l).length ≤ 200) (w : World) (hE : EnvB w) : Calls Tryz.prog 8 #[.string ⟨l.toArray⟩] w fun e w' => Mv (fun _ => False) w w' ∧
    ((∃ s', programP fuelP (begS l) = .bad s' ∧ e = .returned (.tuple #[.pointer none, .agg #[.int .i64 (posOf (nextP (1, 1) l) s'.ws).1, .int .i64 (posOf (nextP (1, 1) l) s'.ws).2], .int .i64 4])) ∨
      ∃ pg s' b, programP fuelP (begS l) = .ok pg s' ∧ e = .returned (.tuple #[.pointer (some ⟨b, 0, none⟩), .agg #[.int .i64 0, .int .i64 0], .int .i64 0]) ∧ PgAt w' (fun k => w.heap.size ≤ k) b pg) := by
  refine (parse_any l hl w hE).mono ?_
  rintro e w1 ⟨hm1, h⟩
  rw [if_neg (by simp [he])] at h
  refine ⟨hm1, ?_⟩
  cases x : programP fuelP (begS l) with
  | out => exact absurd x (begS_fine l (by omega))
  | bad s' => rw [x] at h; exact .inl ⟨s', rfl, h⟩
  | ok pg s' =>
    rw [x] at h
    have ho := program_lo (f := fuelP) (begS_low l (by omega)) pg s' x
    simp only [ho, Bool.false_eq_true, if_false] at h
    obtain ⟨b, h1, h2⟩ := h
    exact .inr ⟨pg, s', b, rfl, h1, h2⟩
end Go.Proofs.YtjgpbpmicopemaaGreatDoor

namespace Go.Proofs.YtjgpbpmicopemaaGreatDoor
open Go.RowKit Go.Shelf
set_option maxRecDepth 20000
theorem flat_get5 : ∀ (l : List It) (j i : Nat) (x : It), l[j]? = some x → i < 5 → (l.flatMap It.cells)[j * 5 + i]? = (It.cells x)[i]?
  | [], j, i, x, h, _ => by simp at h
  | y :: l, 0, i, x, h, hi => by
    simp at h
    subst h
    rw [List.flatMap_cons, List.getElem?_append_left (by simp [It.cells]; omega)]
    simp
  | y :: l, j + 1, i, x, h, hi => by
    rw [List.flatMap_cons, List.getElem?_append_right (by simp [It.cells]; omega)]
    have : (j + 1) * 5 + i - (It.cells y).length = j * 5 + i := by simp [It.cells]; omega
    rw [this]
    exact flat_get5 l j i x (by simpa using h) hi
theorem row5 {W : World} {g : Nat} {cur : Array Value} {l : List It} (hg : W.heap[g]? = some (.cells cur 34 (0, 0))) (ht : cur.toList.take (l.length * 5) = l.flatMap It.cells) (j : Nat) (x : It) (hx : l[j]? = some x) : W5 W g j x := by
  have hj : j < l.length := (List.getElem?_eq_some_iff.1 hx).1
  have key : ∀ i v, i < 5 → (It.cells x)[i]? = some v → W.cell? ⟨g, j * 5 + i, none⟩ = some v := fun i v hi hv => by
    have h1 := flat_get5 l j i x hx hi
    rw [← ht, List.getElem?_take, if_pos (by omega), hv] at h1
    unfold World.cell?
    rw [hg]
    simpa using h1
  exact ⟨key 0 _ (by omega) rfl, key 1 _ (by omega) rfl, key 2 _ (by omega) rfl, key 3 _ (by omega) rfl, key 4 _ (by omega) rfl⟩
theorem end5 (l : Bs) (hl : l.length ≤ 65536) (w : World) : Calls Tryz.prog 27 #[.string ⟨l.toArray⟩] w fun e w' => Mv (fun _ => False) w w' ∧ ∃ a b : Int, e = .returned (.agg #[.int .i64 a, .int .i64 b]) := by
  have f0 := at_alloc (heap_alloc_new w (.cells #[.int .i64 0, .int .i64 0] 26)) (.cells #[.int .i64 1, .int .i64 1] 26)
  have f1 := heap_alloc_new (w.alloc (.cells #[.int .i64 0, .int .i64 0] 26)) (.cells #[.int .i64 1, .int .i64 1] 26)
  have hm0 : Mv (fun j => w.heap.size ≤ j) w ((w.alloc (.cells #[.int .i64 0, .int .i64 0] 26)).alloc (.cells #[.int .i64 1, .int .i64 1] 26)) := (Mv.alloc _ _).more _
  have hs : (w.alloc (.cells #[.int .i64 0, .int .i64 0] 26)).heap.size = w.heap.size + 1 := by simp
  rw [hs] at f1
  clear hs
  go_enter Tryz.func27, Tryz.ntmps27
  go_wp2_with fail
  generalize (w.alloc (.cells #[.int .i64 0, .int .i64 0] 26)).alloc (.cells #[.int .i64 1, .int .i64 1] 26) = w1 at *
  go_loopg [4] l.length (fun g s4 wr => ∃ (j : Nat) (a b : Int), s4 = .int .i64 j ∧ j ≤ l.length ∧ l.length - j ≤ g ∧ wr.heap[w.heap.size]? = some (.cells #[.int .i64 0, .int .i64 0] 26 (0, 0)) ∧ wr.heap[w.heap.size + 1]? = some (.cells #[.int .i64 a, .int .i64 b] 26 (0, 0)) ∧ Mv (fun j => w.heap.size ≤ j) w wr)
  case atStart => exact ⟨0, 1, 1, rfl, by omega, by omega, f0, f1, hm0⟩
  case round =>
    clear f0 f1 hm0
    obtain ⟨j, a, b, rfl, hj, hg, f0, f1, hM⟩ := hrel
    obtain ⟨c0, c1, cf⟩ := cells2 f1
    by_cases hlt : j < l.length
    · have hlt' : (j : Int) < l.length := by omega
      have m1 : Mv (fun j => w.heap.size ≤ j) wr (wr.setCell ⟨w.heap.size + 1, 1, none⟩ (.int .i64 (wrap64 (b + 1)))) := Mv.setCell _ _ (by omega)
      have g1 : (wr.setCell ⟨w.heap.size + 1, 1, none⟩ (.int .i64 (wrap64 (b + 1)))).heap[w.heap.size + 1]? = some (.cells #[.int .i64 a, .int .i64 (wrap64 (b + 1))] 26 (0, 0)) := set_same f1
      have g0 : (wr.setCell ⟨w.heap.size + 1, 1, none⟩ (.int .i64 (wrap64 (b + 1)))).heap[w.heap.size]? = some (.cells #[.int .i64 0, .int .i64 0] 26 (0, 0)) := (set_other (by omega)).trans f0
      go_upto_region 6 with fail
      generalize wr.setCell ⟨w.heap.size + 1, 1, none⟩ (.int .i64 (wrap64 (b + 1))) = w2 at *
      clear c0 c1 cf f0 f1
      obtain ⟨c0, c1, cf⟩ := cells2 g1
      generalize wrap64 (b + 1) = b' at *
      go_wp2_with fail
      all_goals go_roundg (l.length - (j + 1))
      all_goals first | omega | exact ⟨j + 1, a, b', by simp, by omega, by omega, g0, g1, hM.trans m1⟩ | exact ⟨j + 1, _, _, by simp, by omega, by omega, (set_other (by omega)).trans ((set_other (by omega)).trans g0), set_same (set_same g1), (hM.trans m1).trans ((Mv.setCell _ _ (by omega)).trans (Mv.setCell _ _ (by omega)))⟩
    · obtain rfl : j = l.length := by omega
      obtain ⟨z0, z1, zf⟩ := cells2 f0
      have hlt' : ¬ ((l.length : Nat) : Int) < l.length := by omega
      go_wp2_with fail
      have hby : ((wr.setCell ⟨w.heap.size, 0, none⟩ (.int .i64 a)).setCell ⟨w.heap.size, 1, none⟩ (.int .i64 b)).heap[w.heap.size]? = some (.cells #[.int .i64 a, .int .i64 b] 26 (0, 0)) := set_same (set_same f0)
      obtain ⟨u0, u1, -⟩ := cells2 hby
      have hme : Mv (fun _ => False) w ((wr.setCell ⟨w.heap.size, 0, none⟩ (.int .i64 a)).setCell ⟨w.heap.size, 1, none⟩ (.int .i64 b)) := (Mv.refl _ _).fresh (hM.trans ((Mv.setCell _ _ (Nat.le_refl _)).trans (Mv.setCell _ _ (Nat.le_refl _)))) (fun _ h => h)
      generalize (wr.setCell ⟨w.heap.size, 0, none⟩ (.int .i64 a)).setCell ⟨w.heap.size, 1, none⟩ (.int .i64 b) = W at *
      exact bodyPost_ret (v := .agg #[.int .i64 a, .int .i64 b]) (by simp [results, Tryz.results27, go_sem, u0, u1]) rfl ⟨hme, a, b, rfl⟩
def RParse5 (w : World) (e : Ending) (w' : World) : Prop := Mv (fun _ => False) w w' ∧ ∃ (Q : Nat) (p q n : Int) (v1 v2 v3 v4 : Value) (nn dd : Int) (m : Nat), e = .returned (.tuple #[.pointer (some ⟨Q, 0, none⟩), .agg #[.int .i64 p, .int .i64 q], .int .i64 n]) ∧ w'.heap[Q]? = some (.cells #[v1, v2, v3, v4, .int .i64 nn, .int .i64 dd] 48 (0, 0)) ∧ ∃ a c, v3 = .slice a m c
theorem words_row {B : Nat} {W : World} {v : Value} {l : List It} (h : W.ownsRow B 34 5 v l.length (l.flatMap It.cells)) : ∃ a c, v = .slice a l.length c ∧ (l ≠ [] → ∃ g, a = some ⟨g, 0, none⟩ ∧ g < W.heap.size ∧ ∀ (j : Nat) (x : It), l[j]? = some x → W5 W g j x) ∧ (∀ g, a = some ⟨g, 0, none⟩ → g < W.heap.size) := by
  obtain ⟨hl, ⟨rfl, h3⟩ | ⟨g, cap, cur, rfl, h3, hg, h5, h6, h7, h8⟩⟩ := h
  · refine ⟨none, 0, by rw [h3], fun hn => ?_, fun g hg => by cases hg⟩
    exact absurd (List.length_eq_zero_iff.1 h3) hn
  · refine ⟨_, cap, rfl, fun _ => ⟨g, rfl, heap_lt hg, fun j x hx => row5 hg h8 j x hx⟩, fun g' hg' => ?_⟩
    cases hg'
    exact heap_lt hg
end Go.Proofs.YtjgpbpmicopemaaGreatDoor

namespace Go.Proofs.YtjgpbpmicopemaaGreatDoor
open Go.RowKit Go.Shelf
set_option maxRecDepth 20000
theorem wordsL_goods {l : Bs} (he : wordsE l = 0) : goods l = wordsL l ∧ (faultO l).isSome = false ∧ l.length ≤ 65536 := by
  obtain ⟨h1, h2, h3, -⟩ := words_ok l he
  exact ⟨by rw [h3]; exact (goods_scan l h2).1, h2, h1⟩
set_option maxHeartbeats 32000000 in
theorem parse5 (l : Bs) (he : wordsE l = 0) (w : World) : Calls Tryz.prog 14 #[.string ⟨l.toArray⟩] w (RParse5 w) := by
  obtain ⟨hgl, hfl, hlen⟩ := wordsL_goods he
  have hok := okWs_words l he
  have hwl := hok.1
  have C1 := fun w' => rwords_any l (by omega) w'
  have CE := fun w' => end5 l hlen w'
  unfold str at C1
  go_enter Tryz.func14, Tryz.ntmps14
  go_wp2_with fail
  refine (C1 _).mono ?_
  clear C1
  rintro e w1 ⟨v, p, n, rfl, pre, hrow, hb, hcase⟩
  obtain ⟨rfl, rfl⟩ : pre = wordsL l ∧ n = 0 := by
    rcases hcase with ⟨h1, -⟩ | ⟨-, h2, -, h4⟩
    · omega
    · exact ⟨by rw [h2, hgl], by rw [h4, hfl]; rfl⟩
  clear hcase
  obtain ⟨wa, wcp, rfl, hg1, hg2⟩ := words_row hrow
  have hA1 := (hb.block _ (heap_lt (heap_alloc_new w (.cells #[.int .i64 0, .int .i64 0] 26)))).trans (heap_alloc_new w (.cells #[.int .i64 0, .int .i64 0] 26))
  have hM1 : Mv (fun j => w.heap.size ≤ j) w w1 := (Mv.alloc _ _).trans (Mv.below hb)
  have hww := heap_lt hA1
  have hA3 := at_alloc (at_alloc (at_alloc hA1 (.cells #[.int .i64 p.1, .int .i64 p.2] 26)) (.cells #[.slice none 0 0, .slice none 0 0, .slice none 0 0, .slice none 0 0, .int .i64 0, .int .i64 0] 48)) (.cells #[.slice wa (wordsL l).length wcp, .int .i64 0, .bool false, .pointer (some ⟨w1.heap.size + 1, 0, none⟩), .int .i64 0] 77)
  have hQ3 := at_alloc (heap_alloc_new (w1.alloc (.cells #[.int .i64 p.1, .int .i64 p.2] 26)) (.cells #[.slice none 0 0, .slice none 0 0, .slice none 0 0, .slice none 0 0, .int .i64 0, .int .i64 0] 48)) (.cells #[.slice wa (wordsL l).length wcp, .int .i64 0, .bool false, .pointer (some ⟨w1.heap.size + 1, 0, none⟩), .int .i64 0] 77)
  have hP3 := heap_alloc_new ((w1.alloc (.cells #[.int .i64 p.1, .int .i64 p.2] 26)).alloc (.cells #[.slice none 0 0, .slice none 0 0, .slice none 0 0, .slice none 0 0, .int .i64 0, .int .i64 0] 48)) (.cells #[.slice wa (wordsL l).length wcp, .int .i64 0, .bool false, .pointer (some ⟨w1.heap.size + 1, 0, none⟩), .int .i64 0] 77)
  have hs1 : (w1.alloc (.cells #[.int .i64 p.1, .int .i64 p.2] 26)).heap.size = w1.heap.size + 1 := by simp
  have hs2 : ((w1.alloc (.cells #[.int .i64 p.1, .int .i64 p.2] 26)).alloc (.cells #[.slice none 0 0, .slice none 0 0, .slice none 0 0, .slice none 0 0, .int .i64 0, .int .i64 0] 48)).heap.size = w1.heap.size + 1 + 1 := by simp
  rw [hs1] at hQ3
  rw [hs2] at hP3
  have hm3 : Mv (fun _ => False) w1 (((w1.alloc (.cells #[.int .i64 p.1, .int .i64 p.2] 26)).alloc (.cells #[.slice none 0 0, .slice none 0 0, .slice none 0 0, .slice none 0 0, .int .i64 0, .int .i64 0] 48)).alloc (.cells #[.slice wa (wordsL l).length wcp, .int .i64 0, .bool false, .pointer (some ⟨w1.heap.size + 1, 0, none⟩), .int .i64 0] 77)) := ((Mv.alloc _ _).more _).more _
  clear hs1 hs2
  go_wp2_with fail
  generalize ((w1.alloc (.cells #[.int .i64 p.1, .int .i64 p.2] 26)).alloc (.cells #[.slice none 0 0, .slice none 0 0, .slice none 0 0, .slice none 0 0, .int .i64 0, .int .i64 0] 48)).alloc (.cells #[.slice wa (wordsL l).length wcp, .int .i64 0, .bool false, .pointer (some ⟨w1.heap.size + 1, 0, none⟩), .int .i64 0] 77) = w3 at *
  have hPQ : w1.heap.size + 1 + 1 ≠ w1.heap.size + 1 := by omega
  have hQw : w1.heap.size < w1.heap.size + 1 := by omega
  have hPs := heap_lt hP3
  have hQs := heap_lt hQ3
  have hQP : w1.heap.size + 1 ≤ w1.heap.size + 1 + 1 := by omega
  have hM3 := hM1.trans (hm3.mono (fun _ _ h => h.elim))
  have hrow3 : wordsL l ≠ [] → ∃ g, wa = some ⟨g, 0, none⟩ ∧ g < w1.heap.size ∧ ∀ (j : Nat) (x : It), (wordsL l)[j]? = some x → W5 w3 g j x := fun hn => by
    obtain ⟨g, e1, e2, e3⟩ := hg1 hn
    exact ⟨g, e1, e2, fun j x hx => (e3 j x hx).mv hm3 (fun h => h)⟩
  clear hg1
  generalize w1.heap.size + 1 + 1 = P at *
  generalize w1.heap.size + 1 = Q at *
  generalize hWL : wordsL l = L at *
  have h3 : P5 ⟨L, wa, wcp, P, Q, .slice none 0 0, .slice none 0 0, .slice none 0 0, .slice none 0 0⟩ w3 0 false := by
    refine ⟨⟨0, hP3⟩, ⟨0, 0, hQ3⟩, hPQ, fun hn => ?_, hok⟩
    obtain ⟨g, e1, e2, e3⟩ := hrow3 hn
    exact ⟨g, e1, by show g ≠ P; omega, by show g ≠ Q; omega, by omega, e3⟩
  have hL3 : Ls5 ⟨L, wa, wcp, P, Q, .slice none 0 0, .slice none 0 0, .slice none 0 0, .slice none 0 0⟩ Q 0 w3 :=
    ⟨⟨0, [], World.ownsRow_nil _ _ _ _, Nat.le_refl _⟩, ⟨0, [], World.ownsRow_nil _ _ _ _, Nat.le_refl _⟩, ⟨0, [], World.ownsRow_nil _ _ _ _, Nat.le_refl _⟩, ⟨0, [], World.ownsRow_nil _ _ _ _, Nat.le_refl _⟩, ⟨by show Q ≤ P; omega, Nat.le_refl _, by omega⟩, fun g hg => by have := hg2 g hg; show g < Q; omega⟩
  clear hP3 hQ3 hm3 hM1 hA1 hb hrow hrow3
  go_loopg [] (L.length + 1) (fun g wr => ∃ (k : K5) (i : Nat) (bad : Bool) (c : Nat), (k.ws = L ∧ k.a = wa ∧ k.c = wcp ∧ k.P = P ∧ k.Q = Q) ∧ P5 k wr i bad ∧ Ls5 k Q c wr ∧ (bad = false → c ≤ 2 * i) ∧ i ≤ L.length ∧ Mv (fun j => w.heap.size ≤ j) w wr ∧ wr.heap[w.heap.size]? = some (.cells #[.int .i64 0, .int .i64 0] 26 (0, 0)) ∧ (if bad then 0 else L.length - i + 1) ≤ g)
  case atStart => exact ⟨_, 0, false, 0, ⟨rfl, rfl, rfl, rfl, rfl⟩, h3, hL3, by simp, by omega, hM3, hA3, by simp⟩
  case round =>
    clear h3 hL3 hM3 hA3
    obtain ⟨⟨ws, a, cc, P', Q', v1, v2, v3, v4⟩, i, bad, c, ⟨e1, e2, e3, e4, e5⟩, hP, hL, hc, hi, hM, hA, hg⟩ := hrel
    simp only at e1 e2 e3 e4 e5
    subst e1 e2 e3 e4 e5
    obtain ⟨dp, c0, c1, c2, c3, c4, cf⟩ : ∃ dp : Int, wr.cell? ⟨P', 0, none⟩ = some (.slice a ws.length cc) ∧ wr.cell? ⟨P', 1, none⟩ = some (.int .i64 i) ∧ wr.cell? ⟨P', 2, none⟩ = some (.bool bad) ∧ wr.cell? ⟨P', 3, none⟩ = some (.pointer (some ⟨Q', 0, none⟩)) ∧ wr.cell? ⟨P', 4, none⟩ = some (.int .i64 dp) ∧ ∀ i, wr.frozen? ⟨P', i, none⟩ = false := hP.pcells
    cases bad
    · by_cases hlt : i < ws.length
      · have hlt' : (i : Int) < ws.length := by omega
        go_wp2_with fail
        go_quiet (fail)
        have h4 := hP.mv (Mv.quiet wr nq)
        have hL4 := hL.mv hP (Mv.quiet wr nq).toX
        have hM4 := hM.trans (Mv.quiet wr nq)
        have hA4 : (wr.drewN nq).heap[w.heap.size]? = _ := hA
        generalize wr.drewN nq = w4 at *
        go_wp2_with fail
        refine (item5 i w4 h4 hlt hL4 (by have := hc (by simp); omega)).mono ?_
        rintro e w5 ⟨rfl, k', hs, i', bad', h5, hL5, hm5, l5, l5', s5⟩
        go_wp2_with fail
        go_roundg (if bad' then 0 else ws.length - i' + 1)
        case measure =>
          simp only [Bool.false_eq_true, if_false] at hg
          cases bad'
          · simp only [Bool.false_eq_true, if_false]
            have := s5.resolve_left (by simp)
            omega
          · simp only [if_true]; omega
        case rel =>
          refine ⟨k', i', bad', c + 2, hs, h5, hL5, fun hb => ?_, l5', hM4.trans (hm5.mono (fun j _ hj => by omega)), (hm5.same _ (heap_lt hA4) (by omega)).trans hA4, Nat.le_refl _⟩
          have h1 := hc (by simp)
          have := s5.resolve_left (by simp [hb])
          omega
      · have hlt' : ¬ (i : Int) < ws.length := by omega
        go_wp2_with fail
        go_quiet (fail)
        have h4 := hP.mv (Mv.quiet wr nq)
        have hM4 := hM.trans (Mv.quiet wr nq)
        have hA4 : (wr.drewN nq).heap[w.heap.size]? = _ := hA
        generalize wr.drewN nq = w4 at *
        clear c0 c1 c2 c3 c4 cf
        obtain ⟨dp, c0, c1, c2, c3, c4, cf⟩ : ∃ dp : Int, w4.cell? ⟨P', 0, none⟩ = some (.slice a ws.length cc) ∧ w4.cell? ⟨P', 1, none⟩ = some (.int .i64 i) ∧ w4.cell? ⟨P', 2, none⟩ = some (.bool false) ∧ w4.cell? ⟨P', 3, none⟩ = some (.pointer (some ⟨Q', 0, none⟩)) ∧ w4.cell? ⟨P', 4, none⟩ = some (.int .i64 dp) ∧ ∀ i, w4.frozen? ⟨P', i, none⟩ = false := h4.pcells
        obtain ⟨z0, z1, zf⟩ := cells2 hA4
        obtain ⟨nn, dd, hq⟩ := h4.prg
        obtain ⟨n3, x3, hr3, -⟩ := hL.r3
        obtain ⟨sa, sc, hv3⟩ := row_form hr3
        have hAQ : Q' ≠ w.heap.size := by omega
        go_wp2_with fail
        have hby : ((w4.setCell ⟨w.heap.size, 0, none⟩ (.int .i64 0)).setCell ⟨w.heap.size, 1, none⟩ (.int .i64 0)).heap[w.heap.size]? = some (.cells #[.int .i64 0, .int .i64 0] 26 (0, 0)) := set_same (set_same hA4)
        obtain ⟨u0, u1, -⟩ := cells2 hby
        have hqe := (set_other (W := w4.setCell ⟨w.heap.size, 0, none⟩ (.int .i64 0)) (i := 1) (v := .int .i64 0) hAQ).trans ((set_other (W := w4) (i := 0) (v := .int .i64 0) hAQ).trans hq)
        have hme : Mv (fun _ => False) w ((w4.setCell ⟨w.heap.size, 0, none⟩ (.int .i64 0)).setCell ⟨w.heap.size, 1, none⟩ (.int .i64 0)) := (Mv.refl _ _).fresh (hM4.trans ((Mv.setCell _ _ (Nat.le_refl _)).trans (Mv.setCell _ _ (Nat.le_refl _)))) (fun _ h => h)
        generalize (w4.setCell ⟨w.heap.size, 0, none⟩ (.int .i64 0)).setCell ⟨w.heap.size, 1, none⟩ (.int .i64 0) = W at *
        exact bodyPost_ret (v := .tuple #[.pointer (some ⟨Q', 0, none⟩), .agg #[.int .i64 0, .int .i64 0], .int .i64 0]) (by simp [results, Tryz.results14, go_sem, u0, u1]) rfl ⟨hme, Q', _, _, _, _, _, _, _, _, _, n3, rfl, hqe, sa, sc, hv3⟩
    · have hx : True := trivial
      · go_wp2_with fail
        go_quiet (fail)
        have h4 := hP.mv (Mv.quiet wr nq)
        have hM4 := hM.trans (Mv.quiet wr nq)
        have hA4 : (wr.drewN nq).heap[w.heap.size]? = _ := hA
        generalize wr.drewN nq = w4 at *
        clear c0 c1 c2 c3 c4 cf
        obtain ⟨dp, c0, c1, c2, c3, c4, cf⟩ : ∃ dp : Int, w4.cell? ⟨P', 0, none⟩ = some (.slice a ws.length cc) ∧ w4.cell? ⟨P', 1, none⟩ = some (.int .i64 i) ∧ w4.cell? ⟨P', 2, none⟩ = some (.bool true) ∧ w4.cell? ⟨P', 3, none⟩ = some (.pointer (some ⟨Q', 0, none⟩)) ∧ w4.cell? ⟨P', 4, none⟩ = some (.int .i64 dp) ∧ ∀ i, w4.frozen? ⟨P', i, none⟩ = false := h4.pcells
        obtain ⟨z0, z1, zf⟩ := cells2 hA4
        obtain ⟨nn, dd, hq⟩ := h4.prg
        obtain ⟨n3, x3, hr3, -⟩ := hL.r3
        obtain ⟨sa, sc, hv3⟩ := row_form hr3
        have hAQ : Q' ≠ w.heap.size := by omega
        by_cases hlt : i < ws.length
        · have hlt' : (i : Int) < ws.length := by omega
          obtain ⟨g, x, e1, ⟨r0, r1, r2, r3, r4⟩, hx⟩ := h4.wcells hlt
          have e1 : a = some ⟨g, 0, none⟩ := e1
          subst e1
          have c3d : w4.drew.cell? ⟨P', 3, none⟩ = some (.pointer (some ⟨Q', 0, none⟩)) := c3
          have c1d : w4.drew.cell? ⟨P', 1, none⟩ = some (.int .i64 i) := c1
          have r3d : w4.drew.cell? ⟨g, i * 5 + 3, none⟩ = some (.int .i64 x.p.1) := r3
          have r4d : w4.drew.cell? ⟨g, i * 5 + 4, none⟩ = some (.int .i64 x.p.2) := r4
          have z0d : w4.drew.cell? ⟨w.heap.size, 0, none⟩ = some (.int .i64 0) := z0
          have z1d : w4.drew.cell? ⟨w.heap.size, 1, none⟩ = some (.int .i64 0) := z1
          have zfd : ∀ i, w4.drew.frozen? ⟨w.heap.size, i, none⟩ = false := zf
          go_wp2_with fail
          go_region
          go_wp2_with fail
          have hby : ((w4.setCell ⟨w.heap.size, 0, none⟩ (.int .i64 x.p.1)).setCell ⟨w.heap.size, 1, none⟩ (.int .i64 x.p.2)).drew.heap[w.heap.size]? = some (.cells #[.int .i64 x.p.1, .int .i64 x.p.2] 26 (0, 0)) := set_same (set_same hA4)
          obtain ⟨u0, u1, -⟩ := cells2 hby
          have hqe : ((w4.setCell ⟨w.heap.size, 0, none⟩ (.int .i64 x.p.1)).setCell ⟨w.heap.size, 1, none⟩ (.int .i64 x.p.2)).drew.heap[Q']? = _ := (set_other (W := w4.setCell ⟨w.heap.size, 0, none⟩ (.int .i64 x.p.1)) (i := 1) (v := .int .i64 x.p.2) hAQ).trans ((set_other (W := w4) (i := 0) (v := .int .i64 x.p.1) hAQ).trans hq)
          have hme : Mv (fun _ => False) w ((w4.setCell ⟨w.heap.size, 0, none⟩ (.int .i64 x.p.1)).setCell ⟨w.heap.size, 1, none⟩ (.int .i64 x.p.2)).drew := ((Mv.refl _ _).fresh (hM4.trans ((Mv.setCell _ _ (Nat.le_refl _)).trans (Mv.setCell _ _ (Nat.le_refl _)))) (fun _ h => h)).drawn
          generalize ((w4.setCell ⟨w.heap.size, 0, none⟩ (.int .i64 x.p.1)).setCell ⟨w.heap.size, 1, none⟩ (.int .i64 x.p.2)).drew = W at *
          exact bodyPost_ret (v := .tuple #[.pointer (some ⟨Q', 0, none⟩), .agg #[.int .i64 x.p.1, .int .i64 x.p.2], .int .i64 4]) (by simp [results, Tryz.results14, go_sem, u0, u1]) rfl ⟨hme, Q', _, _, _, _, _, _, _, _, _, n3, rfl, hqe, sa, sc, hv3⟩
        · have hlt' : ¬ (i : Int) < ws.length := by omega
          go_wp2_with fail
          have c3d : w4.drew.cell? ⟨P', 3, none⟩ = some (.pointer (some ⟨Q', 0, none⟩)) := c3
          have z0d : w4.drew.cell? ⟨w.heap.size, 0, none⟩ = some (.int .i64 0) := z0
          have z1d : w4.drew.cell? ⟨w.heap.size, 1, none⟩ = some (.int .i64 0) := z1
          have hAd : w4.drew.heap[w.heap.size]? = some (.cells #[.int .i64 0, .int .i64 0] 26 (0, 0)) := hA4
          have hqd : w4.drew.heap[Q']? = some (.cells #[v1, v2, v3, v4, .int .i64 nn, .int .i64 dd] 48 (0, 0)) := hq
          go_region_with (first | (go_at_call 27; (with_reducible refine Calls.mono (CE _) ?_); rintro e w5 ⟨hm5, ax, bx, rfl⟩; (have c3e := hm5.cell c3d (fun h => h)); (have hA5 := (hm5.same _ (heap_lt hAd) (fun h => h)).trans hAd); (have hq5 := (hm5.same _ (heap_lt hqd) (fun h => h)).trans hqd); (have hM5 := hM4.drawn.trans (hm5.mono (fun _ _ h => h.elim))); (obtain ⟨zz0, zz1, zfe⟩ := cells2 hA5)))
          all_goals go_wp2_with fail
          all_goals
            have hby : ((w5.setCell ⟨w.heap.size, 0, none⟩ (.int .i64 ax)).setCell ⟨w.heap.size, 1, none⟩ (.int .i64 bx)).heap[w.heap.size]? = some (.cells #[.int .i64 ax, .int .i64 bx] 26 (0, 0)) := set_same (set_same hA5)
            obtain ⟨u0, u1, -⟩ := cells2 hby
            have hqe : ((w5.setCell ⟨w.heap.size, 0, none⟩ (.int .i64 ax)).setCell ⟨w.heap.size, 1, none⟩ (.int .i64 bx)).heap[Q']? = _ := (set_other (W := w5.setCell ⟨w.heap.size, 0, none⟩ (.int .i64 ax)) (i := 1) (v := .int .i64 bx) hAQ).trans ((set_other (W := w5) (i := 0) (v := .int .i64 ax) hAQ).trans hq5)
            have hme : Mv (fun _ => False) w ((w5.setCell ⟨w.heap.size, 0, none⟩ (.int .i64 ax)).setCell ⟨w.heap.size, 1, none⟩ (.int .i64 bx)) := (Mv.refl _ _).fresh (hM5.trans ((Mv.setCell _ _ (Nat.le_refl _)).trans (Mv.setCell _ _ (Nat.le_refl _)))) (fun _ h => h)
            generalize ((w5.setCell ⟨w.heap.size, 0, none⟩ (.int .i64 ax)).setCell ⟨w.heap.size, 1, none⟩ (.int .i64 bx)) = W at *
            exact bodyPost_ret (v := .tuple #[.pointer (some ⟨Q', 0, none⟩), .agg #[.int .i64 ax, .int .i64 bx], .int .i64 4]) (by simp [results, Tryz.results14, go_sem, u0, u1]) rfl ⟨hme, Q', _, _, _, _, _, _, _, _, _, n3, rfl, hqe, sa, sc, hv3⟩
end Go.Proofs.YtjgpbpmicopemaaGreatDoor
