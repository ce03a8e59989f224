import Derived.Test.YtjgpbpmicopemaaGreatDoorKn04
import Derived.Test.YtjgpbpmicopemaaGreatDoorKn06
import Derived.Lib.Repeat
import Derived.Lib.ItoaLen
import Derived.Test.YtjgpbpmicopemaaGreatDoorKn05
import Derived.Laws.AppendOwn

/-
  The parser has fuel enough. No program in sight.
-/
namespace Go.Proofs.YtjgpbpmicopemaaGreatDoor
open Go.RowKit

/-- it has fuel enough, and takes at least m words -/
def Sf {α : Type} (m : Nat) (g : Pr α) (s : Sx) : Prop := g s ≠ .out ∧ ∀ a s', g s = .ok a s' → s'.ws.length + m ≤ s.ws.length
section
variable {α β : Type} {m m' : Nat} {g : Pr α} {h : α → Pr β} {s : Sx}
theorem Sf.bind (hg : Sf m g s) (hh : ∀ a s', g s = .ok a s' → s'.ws.length + m ≤ s.ws.length → Sf m' (h a) s') : Sf (m + m') (g >>= h) s := by
  obtain ⟨h1, h2⟩ := hg
  cases hx : g s with
  | out => exact absurd hx h1
  | bad s' => exact ⟨by rw [bind_bad hx]; simp, fun a s'' e => by rw [bind_bad hx] at e; cases e⟩
  | ok a s' =>
    obtain ⟨h3, h4⟩ := hh a s' hx (h2 a s' hx)
    refine ⟨by rw [bind_ok hx]; exact h3, fun b s'' e => ?_⟩
    rw [bind_ok hx] at e
    have := h2 a s' hx
    have := h4 b s'' e
    omega
theorem Sf.mono (hg : Sf m g s) (hm : m' ≤ m) : Sf m' g s := ⟨hg.1, fun a s' e => by have := hg.2 a s' e; omega⟩
theorem Sf.pure (a : α) : Sf 0 (Pure.pure a) s := ⟨(by intro e; cases e), fun b s' e => by cases e; simp⟩
theorem Sf.fail : Sf m (failP : Pr α) s := ⟨(by intro e; cases e), fun b s' e => by cases e⟩
theorem isB_len {ws : List It} {t : Bs} (h : isB ws t = true) : ws.tail.length + 1 = ws.length := by
  cases ws with
  | nil => simp [isB] at h
  | cons x xs => simp
theorem Sf.may {t : Bs} {h : Bool → Pr β} (h1 : isB s.ws t = true → s.ws.tail.length + 1 = s.ws.length → Sf m (h true) { s with ws := s.ws.tail }) (h0 : isB s.ws t = false → Sf m (h false) s) : Sf m (mayP t >>= h) s := by
  cases hb : isB s.ws t
  · have e : mayP t s = .ok false s := by unfold mayP; simp [hb]
    have h0 := h0 hb
    exact ⟨by rw [bind_ok e]; exact h0.1, fun a s' e' => by rw [bind_ok e] at e'; exact h0.2 a s' e'⟩
  · have e : mayP t s = .ok true { s with ws := s.ws.tail } := by unfold mayP; simp [hb]
    have h1 := h1 hb (isB_len hb)
    refine ⟨by rw [bind_ok e]; exact h1.1, fun a s' e' => ?_⟩
    rw [bind_ok e] at e'
    have := h1.2 a s' e'
    have := isB_len hb
    simp only at *
    omega
theorem Sf.may1 {t : Bs} {h : Bool → Pr β} (h1 : isB s.ws t = true → s.ws.tail.length + 1 = s.ws.length → Sf 0 (h true) { s with ws := s.ws.tail }) (h0 : isB s.ws t = false → Sf 1 (h false) s) : Sf 1 (mayP t >>= h) s := by
  cases hb : isB s.ws t
  · have e : mayP t s = .ok false s := by unfold mayP; simp [hb]
    have h0 := h0 hb
    exact ⟨by rw [bind_ok e]; exact h0.1, fun a s' e' => by rw [bind_ok e] at e'; exact h0.2 a s' e'⟩
  · have e : mayP t s = .ok true { s with ws := s.ws.tail } := by unfold mayP; simp [hb]
    have h1 := h1 hb (isB_len hb)
    refine ⟨by rw [bind_ok e]; exact h1.1, fun a s' e' => ?_⟩
    rw [bind_ok e] at e'
    have := h1.2 a s' e'
    have := isB_len hb
    simp only at *
    omega
/-- a question that takes nothing -/
theorem Sf.ask {α : Type} {q : Pr α} {a : α} {h : α → Pr β} (e : q s = .ok a s) (h1 : Sf m (h a) s) : Sf m (q >>= h) s :=
  ⟨by rw [bind_ok e]; exact h1.1, fun a s' e' => by rw [bind_ok e] at e'; exact h1.2 a s' e'⟩
theorem Sf.take (h : s.ws ≠ []) : Sf 1 takeP s := by
  cases hw : s.ws with
  | nil => exact absurd hw h
  | cons x xs => exact ⟨by unfold takeP; rw [hw]; simp, fun a s' e => by unfold takeP at e; rw [hw] at e; cases e; simp [hw]⟩
theorem Sf.must {t : Bs} : Sf 1 (mustP t) s := by
  constructor
  · simp only [mustP]
    split <;> simp
  · intro a s' e
    simp only [mustP] at e
    split at e
    · rename_i hb
      have := isB_len hb
      cases e
      simp only
      omega
    · cases e
theorem Sf.name : Sf 1 nameP s := by
  constructor
  · simp only [nameP]
    split
    · simp
    · split <;> simp
  · intro a s' e
    simp only [nameP] at e
    cases hw : s.ws with
    | nil => rw [hw] at e; cases e
    | cons x xs =>
      rw [hw] at e
      simp only at e
      split at e
      · cases e; simp
      · cases e
theorem Sf.num : Sf 1 numP s := by
  constructor
  · simp only [numP]
    split
    · simp
    · split <;> simp
  · intro a s' e
    simp only [numP] at e
    cases hw : s.ws with
    | nil => rw [hw] at e; cases e
    | cons x xs =>
      rw [hw] at e
      simp only at e
      split at e
      · cases e; simp
      · cases e
theorem Sf.stars {b : Bs} : Sf 0 (starsP b) s := ⟨by unfold starsP; simp, fun a s' e => by unfold starsP at e; cases e; simp⟩
theorem Sf.expr {k n : Int} {op nm ty : Bs} {args : List Ex} : Sf 0 (exprP k op nm n ty args) s := ⟨by unfold exprP; simp, fun a s' e => by unfold exprP at e; cases e; simp [Sx.node]⟩
theorem Sf.stmt {k : Int} {nm ty : Bs} {e pl : Option Ex} {l : List St} : Sf 0 (stmtP k nm ty e pl l) s := ⟨by unfold stmtP; simp, fun a s' e => by unfold stmtP at e; cases e; simp [Sx.node]⟩
theorem Sf.func : Sf 0 funcP s := ⟨by unfold funcP; simp, fun a s' e => by unfold funcP at e; cases e; simp⟩
theorem Sf.deep (h : Sf m g s.down) : Sf m (deepP g) s := by
  obtain ⟨h1, h2⟩ := h
  constructor
  · simp only [deepP]
    cases hx : g s.down with
    | out => exact absurd hx h1
    | bad s' => simp
    | ok a s' => simp
  · intro a s' e
    simp only [deepP] at e
    cases hx : g s.down with
    | out => rw [hx] at e; cases e
    | bad s' => rw [hx] at e; cases e
    | ok a s'' =>
      rw [hx] at e
      cases e
      have := h2 _ _ hx
      simpa [Sx.down, Sx.up] using this
end
theorem down_ws (s : Sx) : s.down.ws = s.ws := rfl
theorem typedB_ne {ws : List It} (h : typedB ws = true) : ws ≠ [] := by
  rintro rfl
  simp [typedB, anyB, typeWs, isB] at h
theorem anyB_ne {ws : List It} {l : List Bs} (h : anyB ws l = true) : ws ≠ [] := by
  rintro rfl
  unfold anyB at h
  rw [List.any_eq_true] at h
  obtain ⟨x, _, hx⟩ := h
  simp [isB] at hx
theorem kindB_ne {ws : List It} {k : Int} (h : kindB ws k = true) : ws ≠ [] := by
  rintro rfl
  simp [kindB] at h
theorem levI_nil : ∀ (l : List (List Bs)) (i : Nat), levI [] i l = -1
  | [], _ => rfl
  | x :: l, i => by
    have : anyB [] x = false := by
      cases hb : anyB [] x with
      | false => rfl
      | true => exact absurd rfl (anyB_ne hb)
    unfold levI
    rw [this]
    exact levI_nil l _
theorem levI_ge (ws : List It) : ∀ (l : List (List Bs)) (i : Nat), -1 ≤ levI ws i l
  | [], _ => by unfold levI; omega
  | x :: l, i => by
    unfold levI
    split
    · omega
    · exact levI_ge ws l _
theorem castB_ne {ws : List It} (h : castB ws = true) : ws ≠ [] := by
  unfold castB at h
  simp only [Bool.and_eq_true] at h
  intro h0
  rw [h0] at h
  simp [isB] at h
theorem typ_fine {s : Sx} : Sf 1 typP s := by
  unfold typP
  refine Sf.ask rfl ?_
  cases hb : typedB s.ws
  · simp only [Bool.false_eq_true, if_false]
    exact Sf.fail
  · simp only [if_true]
    refine Sf.bind (m := 1) (m' := 0) (Sf.take (typedB_ne hb)) (fun a s' _ _ => ?_)
    split
    · exact (Sf.bind (m' := 0) Sf.name (fun _ _ _ _ => Sf.stars)).mono (Nat.zero_le _)
    · exact Sf.stars
theorem array_fine {s : Sx} {t : Bs} : Sf 0 (arrayP t) s := by
  unfold arrayP
  refine Sf.may (fun _ _ => ?_) (fun _ => ?_)
  · exact ((Sf.bind (m' := 1) Sf.num (fun _ _ _ _ => Sf.bind (m' := 0) Sf.must (fun _ _ _ _ => Sf.pure _))).mono (Nat.zero_le _))
  · exact Sf.pure _
/-- the expression parser's parts with this fuel -/
structure FineE (f : Nat) : Prop where
  binary : ∀ lev s, 0 ≤ lev → 10 * s.ws.length + 6 ≤ f → Sf 1 (binaryP f lev) s
  bloop : ∀ lev e s, 0 ≤ lev → 10 * s.ws.length + 1 ≤ f → Sf 0 (binLoop f lev e) s
  unary : ∀ s, 10 * s.ws.length + 5 ≤ f → Sf 1 (unaryP f) s
  post : ∀ s, 10 * s.ws.length + 4 ≤ f → Sf 1 (postfixP f) s
  ploop : ∀ e s, 10 * s.ws.length + 1 ≤ f → Sf 0 (postLoop f e) s
  primary : ∀ s, 10 * s.ws.length + 3 ≤ f → Sf 1 (primaryP f) s
  within : ∀ s, 10 * s.ws.length + 2 ≤ f → Sf 1 (withinP f) s
  args : ∀ more l s, 10 * s.ws.length + 7 ≤ f → Sf 0 (argsP f more l) s
theorem fineE : ∀ f, FineE f
  | 0 => by constructor <;> intros <;> omega
  | f + 1 => by
    have ih := fineE f
    constructor
    · intro lev s hl hf
      unfold binaryP
      exact Sf.bind (m' := 0) (ih.unary s (by omega)) (fun e s' _ hs => ih.bloop lev e s' hl (by omega))
    · intro lev e s hl hf
      unfold binLoop
      refine Sf.ask rfl ?_
      by_cases hc : levelI s.ws < lev
      · rw [if_pos hc]; exact Sf.pure _
      · rw [if_neg hc]
        have hne : s.ws ≠ [] := by
          intro h0
          apply hc
          unfold levelI
          rw [h0, levI_nil]
          omega
        refine (Sf.bind (m' := 0) (Sf.take hne) (fun w s1 _ hs1 => ?_)).mono (Nat.zero_le 1)
        refine (Sf.bind (m' := 0) (ih.binary _ s1 (by omega) (by omega)) (fun r s2 _ hs2 => ?_)).mono (Nat.zero_le _)
        refine Sf.bind (m := 0) (m' := 0) Sf.expr (fun e' s3 _ hs3 => ?_)
        exact ih.bloop lev e' s3 hl (by omega)
    · intro s hf
      unfold unaryP
      refine Sf.deep ?_
      refine Sf.ask rfl ?_
      split
      · rename_i hb
        refine Sf.bind (m' := 0) (Sf.take (anyB_ne hb)) (fun w s1 _ hs1 => ?_)
        refine (Sf.bind (m' := 0) (ih.unary s1 (by simp [down_ws] at hs1; omega)) (fun _ _ _ _ => Sf.expr)).mono (Nat.zero_le _)
      · refine Sf.ask rfl ?_
        split
        · rename_i hb
          refine Sf.bind (m' := 0) (Sf.take (castB_ne hb)) (fun w s1 _ hs1 => ?_)
          refine (Sf.bind (m' := 0) typ_fine (fun t s2 _ hs2 => ?_)).mono (Nat.zero_le _)
          refine (Sf.bind (m' := 0) Sf.must (fun _ s3 _ hs3 => ?_)).mono (Nat.zero_le _)
          refine (Sf.bind (m' := 0) (ih.unary s3 (by simp [down_ws] at hs1; omega)) (fun _ _ _ _ => Sf.expr)).mono (Nat.zero_le _)
        · exact ih.post _ (by simp [down_ws]; omega)
    · intro s hf
      unfold postfixP
      exact Sf.bind (m' := 0) (ih.primary s (by omega)) (fun e s' _ hs => ih.ploop e s' (by omega))
    · intro e s hf
      unfold postLoop
      refine Sf.may (fun _ hl => ?_) (fun _ => ?_)
      · simp only [if_true]
        refine (Sf.bind (m' := 0) (ih.binary 0 _ (by omega) (by simp only; omega)) (fun i s1 _ hs1 => ?_)).mono (Nat.zero_le _)
        refine (Sf.bind (m' := 0) Sf.must (fun _ s2 _ hs2 => ?_)).mono (Nat.zero_le _)
        refine Sf.bind (m := 0) (m' := 0) Sf.expr (fun e' s3 _ hs3 => ?_)
        exact ih.ploop e' s3 (by simp only at hs1; omega)
      · simp only [Bool.false_eq_true, if_false]
        refine Sf.may (fun _ hl => ?_) (fun _ => ?_)
        · simp only [if_true]
          refine (Sf.bind (m' := 0) Sf.name (fun i s1 _ hs1 => ?_)).mono (Nat.zero_le _)
          refine Sf.bind (m := 0) (m' := 0) Sf.expr (fun e' s3 _ hs3 => ?_)
          exact ih.ploop e' s3 (by simp only at hs1; omega)
        · simp only [Bool.false_eq_true, if_false]
          refine Sf.may (fun _ hl => ?_) (fun _ => ?_)
          · simp only [if_true]
            refine (Sf.bind (m' := 0) Sf.name (fun i s1 _ hs1 => ?_)).mono (Nat.zero_le _)
            refine Sf.bind (m := 0) (m' := 0) Sf.expr (fun e' s3 _ hs3 => ?_)
            exact ih.ploop e' s3 (by simp only at hs1; omega)
          · simp only [Bool.false_eq_true, if_false]
            exact Sf.pure _
    · intro s hf
      unfold primaryP
      refine Sf.ask rfl ?_
      split
      · exact ih.within s (by omega)
      · refine Sf.may (fun _ hl => ?_) (fun _ => ?_)
        · simp only [if_true]
          refine Sf.bind (m' := 0) Sf.must (fun _ s1 _ hs1 => ?_)
          exact (Sf.bind (m' := 0) Sf.must (fun _ _ _ _ => Sf.expr)).mono (Nat.zero_le _)
        · simp only [Bool.false_eq_true, if_false]
          refine Sf.may (fun _ hl => ?_) (fun _ => ?_)
          · simp only [if_true]
            refine Sf.bind (m' := 0) Sf.must (fun _ s1 _ hs1 => ?_)
            refine (Sf.bind (m' := 0) typ_fine (fun _ _ _ _ => ?_)).mono (Nat.zero_le _)
            refine Sf.bind (m := 0) (m' := 0) array_fine (fun _ _ _ _ => ?_)
            exact (Sf.bind (m' := 0) Sf.must (fun _ _ _ _ => Sf.expr)).mono (Nat.zero_le _)
          · simp only [Bool.false_eq_true, if_false]
            refine Sf.ask rfl ?_
            split
            · rename_i hb
              exact Sf.bind (m' := 0) (Sf.take (kindB_ne hb)) (fun _ _ _ _ => Sf.expr)
            · refine Sf.bind (m' := 0) Sf.name (fun nm s1 _ hs1 => ?_)
              refine Sf.may (fun _ hl => ?_) (fun _ => ?_)
              · simp only [if_true]
                refine Sf.may (fun _ hl2 => ?_) (fun _ => ?_)
                · exact Sf.bind (m := 0) (m' := 0) (ih.args _ _ _ (by simp only at hl2 ⊢; omega)) (fun _ _ _ _ => Sf.expr)
                · exact Sf.bind (m := 0) (m' := 0) (ih.args _ _ _ (by simp only; omega)) (fun _ _ _ _ => Sf.expr)
              · simp only [Bool.false_eq_true, if_false]
                exact Sf.expr
    · intro s hf
      unfold withinP
      refine Sf.bind (m' := 0) Sf.must (fun _ s1 _ hs1 => ?_)
      refine (Sf.bind (m' := 0) (ih.binary 0 s1 (by omega) (by omega)) (fun i s2 _ hs2 => ?_)).mono (Nat.zero_le _)
      refine (Sf.bind (m' := 0) Sf.must (fun _ s3 _ hs3 => Sf.pure _)).mono (Nat.zero_le _)
    · intro more l s hf
      unfold argsP
      cases more
      · simp only [Bool.false_eq_true, if_false]
        exact Sf.pure _
      · simp only [if_true]
        refine (Sf.bind (m' := 0) (ih.binary 0 s (by omega) (by omega)) (fun e s1 _ hs1 => ?_)).mono (Nat.zero_le _)
        refine Sf.may (fun _ hl => ?_) (fun _ => ?_)
        · simp only [if_true]
          exact ih.args _ _ _ (by simp only; omega)
        · simp only [Bool.false_eq_true, if_false]
          refine (Sf.bind (m' := 0) Sf.must (fun _ s2 _ hs2 => ?_)).mono (Nat.zero_le _)
          exact ih.args _ _ _ (by omega)
theorem decl_fine {f : Nat} {s : Sx} (hf : 10 * s.ws.length + 6 ≤ f) : Sf 1 (declP f) s := by
  have ih := fineE f
  unfold declP
  refine Sf.bind (m' := 0) typ_fine (fun t s1 _ hs1 => ?_)
  refine (Sf.bind (m' := 0) Sf.name (fun n s2 _ hs2 => ?_)).mono (Nat.zero_le _)
  refine Sf.may (fun _ hl => ?_) (fun _ => ?_)
  · simp only [if_true]
    refine (Sf.bind (m' := 0) (ih.binary 0 _ (by omega) (by simp only; omega)) (fun e s3 _ hs3 => ?_)).mono (Nat.zero_le _)
    exact (Sf.bind (m' := 0) Sf.must (fun _ _ _ _ => Sf.stmt)).mono (Nat.zero_le _)
  · simp only [Bool.false_eq_true, if_false]
    refine Sf.bind (m := 0) (m' := 0) array_fine (fun _ _ _ _ => ?_)
    exact (Sf.bind (m' := 0) Sf.must (fun _ _ _ _ => Sf.stmt)).mono (Nat.zero_le _)
/-- the statement parser's parts with this fuel -/
structure FineS (f : Nat) : Prop where
  block : ∀ s, 10 * s.ws.length + 7 ≤ f → Sf 1 (blockP f) s
  list : ∀ l s, 10 * s.ws.length + 9 ≤ f → Sf 0 (listP f l) s
  stat : ∀ s, 10 * s.ws.length + 8 ≤ f → Sf 1 (statementP f) s
theorem fineS : ∀ f, FineS f
  | 0 => by constructor <;> intros <;> omega
  | f + 1 => by
    have ih := fineS f
    have ie := fineE f
    constructor
    · intro s hf
      unfold blockP
      refine Sf.deep ?_
      refine Sf.bind (m' := 0) Sf.must (fun _ s1 _ hs1 => ?_)
      exact Sf.bind (m := 0) (m' := 0) (ih.list [] s1 (by simp [down_ws] at hs1; omega)) (fun _ _ _ _ => Sf.stmt)
    · intro l s hf
      unfold listP
      refine Sf.may (fun _ hl => ?_) (fun _ => ?_)
      · simp only [if_true]
        exact Sf.pure _
      · simp only [Bool.false_eq_true, if_false]
        refine Sf.ask rfl ?_
        split
        · refine (Sf.bind (m' := 0) (decl_fine (by omega)) (fun x s1 _ hs1 => ?_)).mono (Nat.zero_le 1)
          exact ih.list _ _ (by omega)
        · refine (Sf.bind (m' := 0) (ih.stat s (by omega)) (fun x s1 _ hs1 => ?_)).mono (Nat.zero_le 1)
          exact ih.list _ _ (by omega)
    · intro s hf
      unfold statementP
      refine Sf.deep ?_
      have hd : s.down.ws.length = s.ws.length := rfl
      refine Sf.ask rfl ?_
      split
      · exact ih.block _ (by omega)
      · refine Sf.may1 (fun _ hl => by simp only [if_true]; exact Sf.stmt) (fun _ => ?_)
        simp only [Bool.false_eq_true, if_false]
        refine Sf.may1 (fun _ hl => ?_) (fun _ => ?_)
        · simp only [if_true]
          refine (Sf.bind (m' := 0) (ie.within _ (by simp only; omega)) (fun e s1 _ hs1 => ?_)).mono (Nat.zero_le _)
          simp only at hs1
          refine (Sf.bind (m' := 0) (ih.stat _ (by omega)) (fun x s2 _ hs2 => ?_)).mono (Nat.zero_le _)
          refine Sf.may (fun _ hl2 => ?_) (fun _ => ?_)
          · simp only [if_true]
            exact (Sf.bind (m' := 0) (ih.stat _ (by simp only; omega)) (fun _ _ _ _ => Sf.stmt)).mono (Nat.zero_le _)
          · simp only [Bool.false_eq_true, if_false]
            exact Sf.stmt
        simp only [Bool.false_eq_true, if_false]
        refine Sf.may1 (fun _ hl => ?_) (fun _ => ?_)
        · simp only [if_true]
          refine (Sf.bind (m' := 0) (ie.within _ (by simp only; omega)) (fun e s1 _ hs1 => ?_)).mono (Nat.zero_le _)
          simp only at hs1
          exact (Sf.bind (m' := 0) (ih.stat _ (by omega)) (fun x s2 _ hs2 => Sf.stmt)).mono (Nat.zero_le _)
        simp only [Bool.false_eq_true, if_false]
        refine Sf.ask rfl ?_
        split
        · rename_i hb
          refine Sf.bind (m' := 0) (Sf.take (anyB_ne hb)) (fun w s1 _ hs1 => ?_)
          exact (Sf.bind (m' := 0) Sf.must (fun _ _ _ _ => Sf.stmt)).mono (Nat.zero_le _)
        · refine Sf.may1 (fun _ hl => ?_) (fun _ => ?_)
          · simp only [if_true]
            refine Sf.ask rfl ?_
            split
            · exact (Sf.bind (m' := 0) Sf.must (fun _ _ _ _ => Sf.stmt)).mono (Nat.zero_le _)
            · refine (Sf.bind (m' := 0) (ie.binary 0 _ (by omega) (by simp only; omega)) (fun e s1 _ hs1 => ?_)).mono (Nat.zero_le _)
              exact (Sf.bind (m' := 0) Sf.must (fun _ _ _ _ => Sf.stmt)).mono (Nat.zero_le _)
          simp only [Bool.false_eq_true, if_false]
          refine Sf.may1 (fun _ hl => ?_) (fun _ => ?_)
          · simp only [if_true]
            refine (Sf.bind (m' := 0) (ie.within _ (by simp only; omega)) (fun e s1 _ hs1 => ?_)).mono (Nat.zero_le _)
            exact (Sf.bind (m' := 0) Sf.must (fun _ _ _ _ => Sf.stmt)).mono (Nat.zero_le _)
          simp only [Bool.false_eq_true, if_false]
          refine Sf.bind (m' := 0) (ie.binary 0 _ (by omega) (by omega)) (fun e s1 _ hs1 => ?_)
          refine Sf.may (fun _ hl2 => ?_) (fun _ => ?_)
          · simp only [if_true]
            refine (Sf.bind (m' := 0) (ie.binary 0 _ (by omega) (by simp only; omega)) (fun r s2 _ hs2 => ?_)).mono (Nat.zero_le _)
            exact (Sf.bind (m' := 0) Sf.must (fun _ _ _ _ => Sf.stmt)).mono (Nat.zero_le _)
          · simp only [Bool.false_eq_true, if_false]
            exact (Sf.bind (m' := 0) Sf.must (fun _ _ _ _ => Sf.stmt)).mono (Nat.zero_le _)
theorem fields_fine : ∀ (f : Nat) (l : List Fd) (s : Sx), s.ws.length + 1 ≤ f → Sf 0 (fieldsP f l) s
  | 0, _, _, h => by omega
  | f + 1, l, s, hf => by
    unfold fieldsP
    refine Sf.may (fun _ hl => ?_) (fun _ => ?_)
    · simp only [if_true]
      exact Sf.pure _
    · simp only [Bool.false_eq_true, if_false]
      refine (Sf.bind (m' := 0) typ_fine (fun t s1 _ hs1 => ?_)).mono (Nat.zero_le _)
      refine (Sf.bind (m' := 0) Sf.name (fun n s2 _ hs2 => ?_)).mono (Nat.zero_le _)
      refine Sf.bind (m := 0) (m' := 0) array_fine (fun t s3 _ hs3 => ?_)
      refine (Sf.bind (m' := 0) Sf.must (fun _ s4 _ hs4 => ?_)).mono (Nat.zero_le _)
      exact fields_fine f _ s4 (by omega)
theorem params_fine : ∀ (f : Nat) (more : Bool) (l : List Pm) (s : Sx), s.ws.length + 1 ≤ f → Sf 0 (paramsP f more l) s
  | 0, _, _, _, h => by omega
  | f + 1, more, l, s, hf => by
    unfold paramsP
    cases more
    · simp only [Bool.false_eq_true, if_false]
      exact Sf.pure _
    · simp only [if_true]
      have key : ∀ b s0, s0.ws.length ≤ s.ws.length → Sf 0 (do
          let t ← typP
          let n ← nameP
          if ← mayP [44] then paramsP f true (l ++ [⟨b, t, n⟩])
          else
            mustP [41]
            paramsP f false (l ++ [⟨b, t, n⟩])) s0 := by
        intro b s0 h0
        refine (Sf.bind (m' := 0) typ_fine (fun t s1 _ hs1 => ?_)).mono (Nat.zero_le _)
        refine (Sf.bind (m' := 0) Sf.name (fun n s2 _ hs2 => ?_)).mono (Nat.zero_le _)
        refine Sf.may (fun _ hl => ?_) (fun _ => ?_)
        · simp only [if_true]
          exact params_fine f _ _ _ (by simp only; omega)
        · simp only [Bool.false_eq_true, if_false]
          refine (Sf.bind (m' := 0) Sf.must (fun _ s4 _ hs4 => ?_)).mono (Nat.zero_le _)
          exact params_fine f _ _ _ (by omega)
      exact Sf.may (fun _ hl => key _ _ (by simp only; omega)) (fun _ => key _ _ (Nat.le_refl _))
theorem rest_fine {f : Nat} {t : Bs} {s : Sx} (hf : 10 * s.ws.length + 8 ≤ f) : Sf 1 (restP f t) s := by
  unfold restP
  refine Sf.bind (m' := 0) Sf.name (fun n s1 _ hs1 => ?_)
  refine Sf.ask rfl ?_
  split
  · rename_i hb
    refine Sf.bind (m := 0) (m' := 0) Sf.func (fun _ s2 e2 hs2 => ?_)
    have hw : s2.ws = s1.ws := by unfold funcP at e2; cases e2; rfl
    refine (Sf.bind (m' := 0) (Sf.take (by rw [hw]; exact isB_ne hb)) (fun _ s3 _ hs3 => ?_)).mono (Nat.zero_le _)
    have key : ∀ m s0, s0.ws.length ≤ s3.ws.length → Sf 0 (do
        let ps ← paramsP f m []
        let b ← blockP f
        pure (⟨3, t, n, [], ps, some b⟩ : Im)) s0 := by
      intro m s0 h0
      refine Sf.bind (m := 0) (m' := 0) (params_fine f _ _ _ (by omega)) (fun ps s4 _ hs4 => ?_)
      exact (Sf.bind (m' := 0) ((fineS f).block s4 (by omega)) (fun _ _ _ _ => Sf.pure _)).mono (Nat.zero_le _)
    exact Sf.may (fun _ hl => key _ _ (by simp only; omega)) (fun _ => key _ _ (Nat.le_refl _))
  · refine Sf.bind (m := 0) (m' := 0) array_fine (fun _ _ _ _ => ?_)
    exact (Sf.bind (m' := 0) Sf.must (fun _ _ _ _ => Sf.pure _)).mono (Nat.zero_le _)
theorem item_fine {f : Nat} {s : Sx} (hf : 10 * s.ws.length + 8 ≤ f) : Sf 1 (itemP f) s := by
  unfold itemP
  refine Sf.may1 (fun _ hl => ?_) (fun _ => ?_)
  · simp only [if_true]
    refine (Sf.bind (m' := 0) Sf.name (fun n s1 _ hs1 => ?_)).mono (Nat.zero_le _)
    simp only at hs1
    refine Sf.may (fun _ hl2 => ?_) (fun _ => ?_)
    · simp only [if_true]
      refine Sf.bind (m := 0) (m' := 0) (fields_fine f _ _ (by simp only; omega)) (fun _ _ _ _ => ?_)
      exact (Sf.bind (m' := 0) Sf.must (fun _ _ _ _ => Sf.pure _)).mono (Nat.zero_le _)
    · simp only [Bool.false_eq_true, if_false]
      refine (Sf.bind (m := 0) (m' := 1) Sf.stars (fun _ s2 _ hs2 => ?_)).mono (Nat.zero_le _)
      exact rest_fine (by omega)
  · simp only [Bool.false_eq_true, if_false]
    exact Sf.bind (m' := 0) typ_fine (fun t s1 _ hs1 => (rest_fine (by omega)).mono (Nat.zero_le _))
theorem items_fine : ∀ (f : Nat) (l : List Im) (s : Sx), 10 * s.ws.length + 9 ≤ f → Sf 0 (itemsP f l) s
  | 0, _, _, h => by omega
  | f + 1, l, s, hf => by
    unfold itemsP
    by_cases he : s.ws.isEmpty = true
    · exact ⟨by simp [he], fun a s' e => by simp only [he, if_true] at e; cases e; simp⟩
    · have h := (Sf.bind (m' := 0) (item_fine (f := f) (s := s) (by omega)) (fun x s1 _ hs1 => items_fine f (l ++ [x]) s1 (by omega))).mono (Nat.zero_le _)
      exact ⟨by simp only [he]; exact h.1, fun a s' e => by simp only [he] at e; exact h.2 a s' e⟩
theorem program_fine {f : Nat} {s : Sx} (hf : 10 * s.ws.length + 9 ≤ f) : programP f s ≠ .out := by
  have h := (items_fine f [] s hf).1
  unfold programP
  cases hx : itemsP f [] s with
  | out => exact absurd hx h
  | bad s' => simp
  | ok a s' => simp
end Go.Proofs.YtjgpbpmicopemaaGreatDoor

/-
  The parser's stars, typ, array.
-/
namespace Go.Proofs.YtjgpbpmicopemaaGreatDoor
open Go.RowKit Go.Shelf
set_option maxRecDepth 20000

theorem repeat_star : ∀ n, Lib.repeatL [42] n = List.replicate n 42
  | 0 => rfl
  | n + 1 => by
    show [42] ++ Lib.repeatL [42] n = _
    rw [repeat_star n]
    rfl
theorem starN_le : ∀ ws : List It, starN ws ≤ ws.length
  | [] => Nat.le_refl _
  | x :: xs => by
    unfold starN
    have := starN_le xs
    split
    · simp only [List.length_cons]; omega
    · omega
theorem starN_drop : ∀ (ws : List It) (k : Nat), k ≤ starN ws → starN (ws.drop k) = starN ws - k
  | [], k, h => by simp [starN]
  | x :: xs, 0, h => rfl
  | x :: xs, k + 1, h => by
    unfold starN at h
    split at h
    · rename_i hb
      have := starN_drop xs k (by omega)
      simp only [List.drop_succ_cons]
      rw [this]
      conv => rhs; unfold starN
      rw [if_pos hb]
      omega
    · omega
theorem starN_is (ws : List It) : isB ws [42] = decide (0 < starN ws) := by
  cases ws with
  | nil => rfl
  | cons x xs =>
    unfold starN
    cases hb : isB (x :: xs) [42] <;> simp
set_option maxHeartbeats 1000000 in
theorem starsZ (p : Nat) (E : Int × Int) (s : Sx) (b : Bs) (w : World) (h : PrAt w p E s) (hb : b.length ≤ 200000) : Calls Tryz.prog 54 #[.pointer (some ⟨p, 0, none⟩), str b] w (Post p E w (fun _ _ v t => v = str t) (starsP b s)) := by
  have hws := h.kind.1
  have hle := starN_le s.ws
  have Cm := fun s' w' h' => mayZ p E s' [42] w' h'
  unfold str at *
  go_enter Tryz.func54, Tryz.ntmps54
  go_wp2_with fail
  go_loopg [5] (starN s.ws + 1) (fun g s5 wr => ∃ k : Nat, k ≤ starN s.ws ∧ starN s.ws - k + 1 ≤ g ∧ s5 = .int .i64 k ∧ PrAt wr p E { s with ws := s.ws.drop k } ∧ Mv (fun k => k = p) w wr)
  case atStart => exact ⟨0, by omega, by omega, rfl, h, Mv.refl _ _⟩
  case round =>
    obtain ⟨k, hk, hg, rfl, hP, hm⟩ := hrel
    have C1 := Cm _ _ hP
    have hN := starN_drop s.ws k hk
    have hS := starN_is (s.ws.drop k)
    unfold mayP at C1
    simp only at C1
    by_cases hlt : k < starN s.ws
    · rw [hS, hN] at C1
      simp only [show 0 < starN s.ws - k by omega, decide_true, if_true] at C1
      go_wp2_with fail
      refine C1.mono ?_
      rintro e w1 ⟨hm1, hP1, v, rfl, rfl⟩
      go_wp2_with fail
      go_roundg (starN s.ws - k)
      case measure => omega
      case rel => exact ⟨k + 1, by omega, by omega, by simp, by simpa using hP1, hm.trans hm1⟩
    · rw [hS, hN] at C1
      obtain rfl : k = starN s.ws := by omega
      simp only [show ¬ 0 < starN s.ws - starN s.ws by omega, decide_false, Bool.false_eq_true, if_false] at C1
      have C2 := fun w' => Tryz.strings_Repeat ⟨#[42]⟩ (starN s.ws) w' (by omega) (by simp [ByteArray.size]; omega)
      go_wp2_with fail
      refine C1.mono ?_
      rintro e w1 ⟨hm1, hP1, v, rfl, rfl⟩
      go_wp2_with fail
      refine (C2 _).mono ?_
      rintro e w2 ⟨rfl, hb2⟩
      have hlen : b.length + starN s.ws ≤ 9223372036854775807 := by omega
      have hrep : (Lib.repeatL [42] (starN s.ws)).length = starN s.ws := by rw [repeat_star]; simp
      go_wp2_with fail
      refine bodyPost_ret (v := .string ⟨(b ++ List.replicate (starN s.ws) 42).toArray⟩) (by simp [results, Tryz.results54, go_sem, ByteArray.ext_iff, ByteArray.data_append, repeat_star]) rfl ⟨(hm.trans hm1).trans (Mv.below hb2), ?_, _, rfl, ?_⟩
      · exact hP1.below hb2
      · rfl
theorem nameP_len {s s' : Sx} {t : Bs} (h : nameP s = .ok t s') (hw : OkWs s.ws) : t.length ≤ 65536 ∧ ∀ c ∈ t, c.toNat < 128 := by
  simp only [nameP] at h
  cases hs : s.ws with
  | nil => rw [hs] at h; cases h
  | cons x xs =>
    rw [hs] at h
    simp only at h
    have hx := hw.2 x (by rw [hs]; simp)
    split at h
    · cases h; exact ⟨hx.t, hx.a⟩
    · cases h
set_option maxHeartbeats 2000000 in
theorem typZ (p : Nat) (E : Int × Int) (s : Sx) (w : World) (h : PrAt w p E s) : Calls Tryz.prog 51 #[.pointer (some ⟨p, 0, none⟩)] w (Post p E w (fun _ _ v t => v = str t) (typP s)) := by
  obtain ⟨R, hG⟩ : ∃ R, R = typP s := ⟨_, rfl⟩
  have hno : R ≠ .out := by rw [hG]; exact typ_fine.1
  rw [← hG]
  unfold typP at hG
  rw [bind_ok (rfl : typedP s = .ok (typedB s.ws) s)] at hG
  have C0 := typedZ p E s w h
  have Cf := fun s' w' h' => failZ p E s' w' h'
  have Ct := fun s' w' h' hn => takeZ p E s' w' h' hn
  cases hb : typedB s.ws
  · rw [hb] at hG C0
    simp only [Bool.false_eq_true, if_false] at hG
    go_enter Tryz.func51, Tryz.ntmps51
    go_wp2_with fail
    refine C0.mono ?_
    rintro e w1 ⟨rfl, hb1⟩
    go_wp2_with fail
    refine (Cf _ _ (h.below hb1)).mono ?_
    rintro e w2 ⟨hm2, rfl, hP2⟩
    go_wp2_with fail
    exact ⟨rfl, Post.badly hG ((Mv.below hb1).trans hm2) hP2⟩
  · rw [hb] at hG C0
    simp only [if_true] at hG
    go_enter Tryz.func51, Tryz.ntmps51
    go_wp2_with fail
    refine C0.mono ?_
    rintro e w1 ⟨rfl, hb1⟩
    have hP1 := h.below hb1
    go_wp2_with fail
    refine (Ct _ _ hP1 (typedB_ne hb)).mono ?_
    intro e w2 hq
    obtain ⟨s2, hR, rfl, hP2, hm2⟩ | ⟨x, s2, v, hx2, hG, rfl, rfl, hP2, hm2⟩ := hq.split hG hno
    · go_wp2_with fail
      exact ⟨rfl, Post.badly hR ((Mv.below hb1).trans hm2) hP2⟩
    have hxw : OkW x := by
      simp only [takeP] at hx2
      cases hs : s.ws with
      | nil => rw [hs] at hx2; cases hx2
      | cons y ys => rw [hs] at hx2; cases hx2; exact h.kind.2 _ (by rw [hs]; simp)
    have hfd := field114_1
    unfold str
    by_cases hst : x.d.t = [115, 116, 114, 117, 99, 116]
    · rw [if_pos hst] at hG
      go_wp2_with fail
      refine (nameZ p E s2 _ (hP2.below (belowAlloc _ _))).mono ?_
      intro e w3 hq
      obtain ⟨s3, hR, rfl, hP3, hm3⟩ | ⟨n, s3, v, hx3, hG, rfl, rfl, hP3, hm3⟩ := hq.split hG hno
      · go_wp2_with fail
        exact ⟨rfl, Post.badly hR ((((Mv.below hb1).trans hm2).more _).trans hm3) hP3⟩
      have hn := (nameP_len hx3 hP2.kind).1
      unfold str
      have hlen : 7 + n.length ≤ 9223372036854775807 := by omega
      go_wp2_with fail
      have hC := starsZ p E s3 ([115, 116, 114, 117, 99, 116, 32] ++ n) _ hP3 (by simp; omega)
      refine Calls.mono (by
        have he : (Value.string ((⟨#[115, 116, 114, 117, 99, 116, 32]⟩ : ByteArray) ++ ⟨n.toArray⟩)) = str ([115, 116, 114, 117, 99, 116, 32] ++ n) := by
          unfold str
          simp [ByteArray.ext_iff, ByteArray.data_append]
        rw [he]
        exact hC) ?_
      intro e w4 hq
      have hd := hq.done hG ((((Mv.below hb1).trans hm2).more _).trans hm3) (enc' := fun _ _ v t => v = str t) (fun _ _ h => h)
      cases R with
      | out => exact absurd rfl hno
      | bad s' =>
        obtain ⟨h1, rfl, h3⟩ := hd
        go_wp2_with fail
        exact ⟨rfl, h1, rfl, h3⟩
      | ok t s' =>
        obtain ⟨h1, h3, v, rfl, rfl⟩ := hd
        unfold str
        go_wp2_with fail
        exact bodyPost_ret (v := .string ⟨t.toArray⟩) (by simp [results, Tryz.results51, go_sem]) rfl ⟨h1, h3, _, rfl, rfl⟩
    · rw [if_neg hst] at hG
      have hst' : (x.d.t == [115, 116, 114, 117, 99, 116]) = false := by simpa using hst
      go_wp2_with fail
      refine (starsZ p E s2 x.d.t _ (hP2.below (belowAlloc _ _)) (by have := hxw.t; omega)).mono ?_
      intro e w4 hq
      have hd := hq.done hG (((Mv.below hb1).trans hm2).more _) (enc' := fun _ _ v t => v = str t) (fun _ _ h => h)
      cases R with
      | out => exact absurd rfl hno
      | bad s' =>
        obtain ⟨h1, rfl, h3⟩ := hd
        go_wp2_with fail
        exact ⟨rfl, h1, rfl, h3⟩
      | ok t s' =>
        obtain ⟨h1, h3, v, rfl, rfl⟩ := hd
        unfold str
        go_wp2_with fail
        exact bodyPost_ret (v := .string ⟨t.toArray⟩) (by simp [results, Tryz.results51, go_sem]) rfl ⟨h1, h3, _, rfl, rfl⟩
theorem numP_len {s s' : Sx} {t : Bs} (h : numP s = .ok t s') (hw : OkWs s.ws) : t.length ≤ 21 := by
  simp only [numP] at h
  cases hs : s.ws with
  | nil => rw [hs] at h; cases h
  | cons x xs =>
    rw [hs] at h
    simp only at h
    have hx := hw.2 x (by rw [hs]; simp)
    split at h
    · cases h; exact Lib.itoa_length_le _ hx.n1 hx.n2
    · cases h
theorem takeP_ok {s s' : Sx} {x : It} (h : takeP s = .ok x s') (hw : OkWs s.ws) : OkW x ∧ OkWs s'.ws ∧ s.ws = x :: s'.ws := by
  simp only [takeP] at h
  cases hs : s.ws with
  | nil => rw [hs] at h; cases h
  | cons y ys =>
    rw [hs] at h hw
    cases h
    exact ⟨hw.2 _ (by simp), hw.tail, rfl⟩
theorem OkWs.drop {l : List It} (h : OkWs l) (n : Nat) : OkWs (l.drop n) := ⟨by have := h.1; simp; omega, fun x hx => h.2 x (List.mem_of_mem_drop hx)⟩
theorem typ_len {s s' : Sx} {t : Bs} (h : typP s = .ok t s') (hw : OkWs s.ws) : t.length ≤ 200000 := by
  unfold typP at h
  rw [bind_ok (rfl : typedP s = .ok (typedB s.ws) s)] at h
  cases hb : typedB s.ws
  · rw [hb] at h; simp only [Bool.false_eq_true, if_false] at h; cases h
  rw [hb] at h
  simp only [if_true] at h
  cases hx : takeP s with
  | out => rw [bind_out hx] at h; cases h
  | bad s1 => rw [bind_bad hx] at h; cases h
  | ok x s1 =>
    rw [bind_ok hx] at h
    obtain ⟨h1, h2, h3⟩ := takeP_ok hx hw
    have hl := hw.1
    split at h
    · cases hn : nameP s1 with
      | out => rw [bind_out hn] at h; cases h
      | bad s2 => rw [bind_bad hn] at h; cases h
      | ok n s2 =>
        rw [bind_ok hn] at h
        have h4 := (nameP_len hn h2).1
        have h5 := starN_le s2.ws
        have h6 := Sf.name.2 n s2 hn
        cases h
        simp only [List.length_append, List.length_replicate, List.length_cons, List.length_nil]
        have : s1.ws.length + 1 = s.ws.length := by rw [h3]; simp
        omega
    · have h5 := starN_le s1.ws
      have h7 := h1.t
      cases h
      simp only [List.length_append, List.length_replicate]
      have : s1.ws.length + 1 = s.ws.length := by rw [h3]; simp
      omega
set_option maxHeartbeats 2000000 in
theorem arrayZ (p : Nat) (E : Int × Int) (s : Sx) (t : Bs) (w : World) (h : PrAt w p E s) (ht : t.length ≤ 200000) : Calls Tryz.prog 52 #[.pointer (some ⟨p, 0, none⟩), str t] w (Post p E w (fun _ _ v t => v = str t) (arrayP t s)) := by
  obtain ⟨R, hG⟩ : ∃ R, R = arrayP t s := ⟨_, rfl⟩
  have hno : R ≠ .out := by rw [hG]; exact array_fine.1
  rw [← hG]
  unfold arrayP at hG
  have C1 := mayZ p E s [91] w h
  unfold str at *
  go_enter Tryz.func52, Tryz.ntmps52
  go_wp2_with fail
  refine C1.mono ?_
  intro e w1 hq
  obtain ⟨s1, hR, rfl, hP1, hm1⟩ | ⟨b, s1, v, hx1, hG, rfl, rfl, hP1, hm1⟩ := hq.split hG hno
  · go_wp2_with fail
    exact ⟨rfl, Post.badly hR hm1 hP1⟩
  cases b
  · simp only [Bool.false_eq_true, if_false] at hG
    go_wp2_with fail
    exact bodyPost_ret (v := .string ⟨t.toArray⟩) (by simp [results, Tryz.results52, go_sem]) rfl (Post.well hG hm1 hP1 rfl)
  · simp only [if_true] at hG
    go_wp2_with fail
    refine (numberZ p E s1 _ hP1).mono ?_
    intro e w2 hq
    obtain ⟨s2, hR, rfl, hP2, hm2⟩ | ⟨n, s2, v, hx2, hG, rfl, rfl, hP2, hm2⟩ := hq.split hG hno
    · go_wp2_with fail
      exact ⟨rfl, Post.badly hR (hm1.trans hm2) hP2⟩
    have hn := numP_len hx2 hP1.kind
    unfold str
    go_wp2_with fail
    refine (mustZ p E s2 [93] _ hP2).mono ?_
    intro e w3 hq
    obtain ⟨s3, hR, rfl, hP3, hm3⟩ | ⟨_, s3, v, hx3, hG, rfl, -, hP3, hm3⟩ := hq.split hG hno
    · go_wp2_with fail
      exact ⟨rfl, Post.badly hR ((hm1.trans hm2).trans hm3) hP3⟩
    have q1 : t.length + 1 ≤ 9223372036854775807 := by omega
    have q2 : t.length + 1 + n.length ≤ 9223372036854775807 := by omega
    have q3 : t.length + 1 + n.length + 1 ≤ 9223372036854775807 := by omega
    go_wp2_with fail
    exact bodyPost_ret (v := .string ⟨(t ++ [91] ++ n ++ [93]).toArray⟩) (by simp [results, Tryz.results52, go_sem, ByteArray.ext_iff, ByteArray.data_append]) rfl (Post.well hG ((hm1.trans hm2).trans hm3) hP3 rfl)
end Go.Proofs.YtjgpbpmicopemaaGreatDoor

/-
  Trees and lists of trees in memory: more laws.
-/
namespace Go.Proofs.YtjgpbpmicopemaaGreatDoor
open Go.RowKit Go.Shelf

section
variable {W W' : World} {K K' : Nat → Prop}
theorem ExsAt.get : ∀ {args : List Ex} {bs : List Nat}, ExsAt W K bs (.of args) → bs.length = args.length ∧ ∀ (k : Nat) (e : Ex), args[k]? = some e → ∃ b : Nat, bs[k]? = some b ∧ ExAt W K b e
  | [], [], _ => ⟨rfl, fun k e h => by simp at h⟩
  | [], b :: bs, h => by unfold Exs.of ExsAt at h; exact h.elim
  | e :: l, [], h => by unfold Exs.of ExsAt at h; exact h.elim
  | e :: l, b :: bs, h => by
    unfold Exs.of ExsAt at h
    obtain ⟨h1, h2⟩ := ExsAt.get h.2
    refine ⟨by simp [h1], fun k e' he => ?_⟩
    cases k with
    | zero => simp at he; subst he; exact ⟨b, rfl, h.1⟩
    | succ k => exact h2 k e' (by simpa using he)
theorem ExsAt.snoc {b : Nat} {e : Ex} (hb : ExAt W K b e) : ∀ {args : List Ex} {bs : List Nat}, ExsAt W K bs (.of args) → ExsAt W K (bs ++ [b]) (.of (args ++ [e]))
  | [], [], _ => by
    show ExsAt W K [b] (.cons e .nil)
    unfold ExsAt
    exact ⟨hb, by unfold ExsAt; trivial⟩
  | [], b :: bs, h => by unfold Exs.of ExsAt at h; exact h.elim
  | e :: l, [], h => by unfold Exs.of ExsAt at h; exact h.elim
  | e :: l, b :: bs, h => by
    unfold Exs.of ExsAt at h
    rw [List.cons_append, List.cons_append]
    unfold Exs.of ExsAt
    exact ⟨h.1, ExsAt.snoc hb h.2⟩
theorem StsAt.get : ∀ {args : List St} {bs : List Nat}, StsAt W K bs (.of args) → bs.length = args.length ∧ ∀ (k : Nat) (e : St), args[k]? = some e → ∃ b : Nat, bs[k]? = some b ∧ StAt W K b e
  | [], [], _ => ⟨rfl, fun k e h => by simp at h⟩
  | [], b :: bs, h => by unfold Sts.of StsAt at h; exact h.elim
  | e :: l, [], h => by unfold Sts.of StsAt at h; exact h.elim
  | e :: l, b :: bs, h => by
    unfold Sts.of StsAt at h
    obtain ⟨h1, h2⟩ := StsAt.get h.2
    refine ⟨by simp [h1], fun k e' he => ?_⟩
    cases k with
    | zero => simp at he; subst he; exact ⟨b, rfl, h.1⟩
    | succ k => exact h2 k e' (by simpa using he)
theorem StsAt.snoc {b : Nat} {e : St} (hb : StAt W K b e) : ∀ {args : List St} {bs : List Nat}, StsAt W K bs (.of args) → StsAt W K (bs ++ [b]) (.of (args ++ [e]))
  | [], [], _ => by
    show StsAt W K [b] (.cons e .nil)
    unfold StsAt
    exact ⟨hb, by unfold StsAt; trivial⟩
  | [], b :: bs, h => by unfold Sts.of StsAt at h; exact h.elim
  | e :: l, [], h => by unfold Sts.of StsAt at h; exact h.elim
  | e :: l, b :: bs, h => by
    unfold Sts.of StsAt at h
    rw [List.cons_append, List.cons_append]
    unfold Sts.of StsAt
    exact ⟨h.1, StsAt.snoc hb h.2⟩
theorem ExAt.tall {b : Nat} {e : Ex} (h : ExAt W K b e) : W.cell? ⟨b, 8, none⟩ = some (.int .i64 e.tall) ∧ K b ∧ b < W.heap.size := by
  cases e
  unfold ExAt at h
  obtain ⟨h1, ln, cl, v, bs, h2, h3, h4⟩ := h
  exact ⟨by simp [World.cell?, h2, Ex.tall], h1, heap_lt h2⟩
theorem StAt.tall {b : Nat} {e : St} (h : StAt W K b e) : W.cell? ⟨b, 8, none⟩ = some (.int .i64 e.tall) ∧ K b ∧ b < W.heap.size := by
  cases e
  unfold StAt at h
  obtain ⟨h1, ln, cl, ve, vp, v, bs, h2, h3, h4⟩ := h
  exact ⟨by simp [World.cell?, h2, St.tall], h1, heap_lt h2⟩
theorem PtrsAt.form {T : Nat} {v : Value} {bs : List Nat} (h : PtrsAt W K T v bs) : ∃ a c, v = .slice a bs.length c ∧ bs.length ≤ c ∧ c ≤ maxLen ∧ (bs ≠ [] → ∃ g, a = some ⟨g, 0, none⟩ ∧ K g ∧ g < W.heap.size ∧ ∀ k b, bs[k]? = some b → W.cell? ⟨g, k, none⟩ = some (ptr b)) := by
  obtain ⟨rfl, rfl⟩ | ⟨g, cap, rest, rfl, e3, e4, e5, e6⟩ := h
  · exact ⟨none, 0, rfl, Nat.le_refl _, Nat.zero_le _, fun h => absurd rfl h⟩
  · refine ⟨_, cap, rfl, e4, e5, fun _ => ⟨g, rfl, e3, heap_lt e6, fun k b hk => ?_⟩⟩
    have hl : k < bs.length := by
      rcases Nat.lt_or_ge k bs.length with h | h
      · exact h
      · rw [List.getElem?_eq_none h] at hk; cases hk
    have hg : bs[k] = b := by rw [List.getElem?_eq_getElem hl] at hk; simpa using hk
    unfold World.cell?
    rw [e6]
    simp [List.getElem?_append_left, hl, hg]
/-- all of it lies in the world -/
theorem PtrsAt.within {T : Nat} {v : Value} {bs : List Nat} (h : PtrsAt W K T v bs) : PtrsAt W (fun k => K k ∧ k < W.heap.size) T v bs := by
  obtain h | ⟨g, cap, rest, e1, e3, e4, e5, e6⟩ := h
  · exact .inl h
  · exact .inr ⟨g, cap, rest, e1, ⟨e3, heap_lt e6⟩, e4, e5, e6⟩
mutual
theorem ExAt.within : ∀ {b : Nat} {e : Ex}, ExAt W K b e → ExAt W (fun k => K k ∧ k < W.heap.size) b e
  | b, .mk k op nm n ty args tall, h => by
    unfold ExAt at h ⊢
    obtain ⟨h1, ln, cl, v, bs, h2, h3, h4⟩ := h
    exact ⟨⟨h1, heap_lt h2⟩, ln, cl, v, bs, h2, h3.within, ExsAt.within h4⟩
theorem ExsAt.within : ∀ {bs : List Nat} {e : Exs}, ExsAt W K bs e → ExsAt W (fun k => K k ∧ k < W.heap.size) bs e
  | [], .nil, _ => by unfold ExsAt; trivial
  | b :: bs, .cons e es, h => by
    unfold ExsAt at h ⊢
    exact ⟨ExAt.within h.1, ExsAt.within h.2⟩
  | [], .cons _ _, h => by unfold ExsAt at h; exact h.elim
  | _ :: _, .nil, h => by unfold ExsAt at h; exact h.elim
end
theorem ExO.within {v : Value} : ∀ {e : Option Ex}, ExO W K v e → ExO W (fun k => K k ∧ k < W.heap.size) v e
  | none, h => h
  | some _, ⟨b, e1, e2⟩ => ⟨b, e1, e2.within⟩
mutual
theorem StAt.within : ∀ {b : Nat} {e : St}, StAt W K b e → StAt W (fun k => K k ∧ k < W.heap.size) b e
  | b, .mk k nm ty e pl l tall, h => by
    unfold StAt at h ⊢
    obtain ⟨h1, ln, cl, ve, vp, v, bs, h2, h3, h4, h5, h6⟩ := h
    exact ⟨⟨h1, heap_lt h2⟩, ln, cl, ve, vp, v, bs, h2, h3.within, h4.within, h5.within, StsAt.within h6⟩
theorem StsAt.within : ∀ {bs : List Nat} {e : Sts}, StsAt W K bs e → StsAt W (fun k => K k ∧ k < W.heap.size) bs e
  | [], .nil, _ => by unfold StsAt; trivial
  | b :: bs, .cons e es, h => by
    unfold StsAt at h ⊢
    exact ⟨StAt.within h.1, StsAt.within h.2⟩
  | [], .cons _ _, h => by unfold StsAt at h; exact h.elim
  | _ :: _, .nil, h => by unfold StsAt at h; exact h.elim
end
/-- what a later world has of it: only blocks that were not there, or not within K, changed -/
theorem Keeps.but {X : Nat → Prop} (m : Mv X W W') (h : ∀ k, K k → X k → ¬ k < W.heap.size) : Keeps K W W' := fun k hk hl => m.same k hl (fun hx => h k hk hx hl)
end
theorem Mv.cell {X : Nat → Prop} {W W' : World} (m : Mv X W W') {a : Addr} {v : Value} (h : W.cell? a = some v) (hx : ¬ X a.block) : W'.cell? a = some v := by
  rw [← h]
  exact World.cell?_of_block (m.same a.block (cell_lt h) hx)
section
variable {α β : Type} {p : Nat} {E : Int × Int} {w w1 w' : World} {enc enc' : World → World → Value → α → Prop} {encb : World → World → Value → β → Prop} {R : Re β} {s s' : Sx} {x : Pr α} {k : α → Pr β} {e : Ending} {v : Value}
/-- how a part ended within a bigger one -/
theorem Post.cut (h : Post p E w1 enc (x s) e w') (hG : (x >>= k) s = R) (hno : R ≠ .out) (hm : Mv (fun k => k = p) w w1) :
    (∃ s' : Sx, e = .panicked [{ v := flt (posOf E s'.ws), recovered := false }] ∧ Post p E w encb R (.panicked [{ v := flt (posOf E s'.ws), recovered := false }]) w') ∨
    (∃ a s' v, x s = .ok a s' ∧ k a s' = R ∧ e = .returned v ∧ enc w1 w' v a ∧ PrAt w' p E s' ∧ Mv (fun k => k = p) w w' ∧ Mv (fun k => k = p) w1 w') := by
  have hm0 := h.1
  obtain ⟨s1, hR, rfl, hP1, hm1⟩ | ⟨a, s1, v, hx1, hG, rfl, he, hP1, hm1⟩ := h.split hG.symm hno
  · exact .inl ⟨s1, rfl, Post.badly hR (hm.trans hm1) hP1⟩
  · exact .inr ⟨a, s1, v, hx1, hG.symm, rfl, he, hP1, hm.trans hm1, hm0⟩
theorem ne_cut (hG : (x >>= k) s = R) (hno : R ≠ .out) : x s ≠ .out := ne_left hG.symm hno
theorem Post.wellc {b : β} (h : .ok b s' = R) (hm : Mv (fun k => k = p) w w') (hP : PrAt w' p E s') (he : encb w w' v b) : Post p E w encb R (.returned v) w' := Post.well h.symm hm hP he
/-- the last part -/
theorem Post.last {y : Re β} (h : Post p E w1 encb y e w') (hG : y = R) (hno : R ≠ .out) (hm : Mv (fun k => k = p) w w1) (he : ∀ v b, encb w1 w' v b → encb w w' v b) :
    (∃ s' : Sx, e = .panicked [{ v := flt (posOf E s'.ws), recovered := false }] ∧ Post p E w encb R (.panicked [{ v := flt (posOf E s'.ws), recovered := false }]) w') ∨
    (∃ v a, e = .returned v ∧ encb w1 w' v a ∧ Post p E w encb R (.returned v) w') := by
  have hd := h.done hG.symm hm he
  subst hG
  cases y with
  | out => exact absurd rfl hno
  | bad s' =>
    obtain ⟨h1, rfl, h3⟩ := hd
    exact .inl ⟨s', rfl, h1, rfl, h3⟩
  | ok a s' =>
    obtain ⟨-, -, v, rfl, h4⟩ := h
    exact .inr ⟨v, a, rfl, h4, hd⟩
end
/-- a literal of one, of two -/
theorem PtrsAt.one {W : World} {K : Nat → Prop} {T : Nat} (a : Nat) (hK : K W.heap.size) : PtrsAt (W.alloc (.cells #[ptr a] T)) K T (.slice (some ⟨W.heap.size, 0, none⟩) 1 1) [a] :=
  .inr ⟨W.heap.size, 1, [], rfl, hK, by simp, by decide, heap_alloc_new W _⟩
theorem PtrsAt.two {W : World} {K : Nat → Prop} {T : Nat} (a b : Nat) (hK : K W.heap.size) : PtrsAt (W.alloc (.cells #[ptr a, ptr b] T)) K T (.slice (some ⟨W.heap.size, 0, none⟩) 2 2) [a, b] :=
  .inr ⟨W.heap.size, 2, [], rfl, hK, by simp, by decide, heap_alloc_new W _⟩
theorem ExsAt.one {W : World} {K : Nat → Prop} {a : Nat} {e : Ex} (h : ExAt W K a e) : ExsAt W K [a] (.of [e]) := by
  show ExsAt W K [a] (.cons e .nil)
  unfold ExsAt
  exact ⟨h, by unfold ExsAt; trivial⟩
theorem ExsAt.two {W : World} {K : Nat → Prop} {a b : Nat} {e r : Ex} (h : ExAt W K a e) (h' : ExAt W K b r) : ExsAt W K [a, b] (.of [e, r]) := by
  show ExsAt W K [a, b] (.cons e (.cons r .nil))
  unfold ExsAt
  exact ⟨h, ExsAt.one h'⟩
theorem ExsAt.none {W : World} {K : Nat → Prop} : ExsAt W K [] (.of []) := by
  show ExsAt W K [] .nil
  unfold ExsAt
  trivial
theorem StsAt.none {W : World} {K : Nat → Prop} : StsAt W K [] (.of []) := by
  show StsAt W K [] .nil
  unfold StsAt
  trivial
/-- a row of pointers that is owned, as a list in memory -/
theorem PtrsAt.ofOwn {W : World} {B T : Nat} {v : Value} {bs : List Nat} (h : W.ownsRow B T 1 v bs.length (bs.map ptr)) : PtrsAt W (fun k => B ≤ k) T v bs := by
  obtain ⟨h1, ⟨rfl, h2⟩ | ⟨g, cap, cur, rfl, h3, h4, h5, h6, h7, h8⟩⟩ := h
  · exact .inl ⟨rfl, List.length_eq_zero_iff.1 h2⟩
  · refine .inr ⟨g, cap, cur.toList.drop bs.length, rfl, h3, h5, h6, ?_⟩
    rw [Nat.mul_one] at h8
    rw [h4, ← h8, List.take_append_drop]
end Go.Proofs.YtjgpbpmicopemaaGreatDoor

/-
  The parser's expr: an expression made.
-/
namespace Go.Proofs.YtjgpbpmicopemaaGreatDoor
open Go.RowKit Go.Shelf
set_option maxRecDepth 20000

theorem maxE_snoc : ∀ (l : List Ex) (t : Int) (e : Ex), maxE t (l ++ [e]) = max (maxE t l) e.tall
  | [], _, _ => rfl
  | x :: l, t, e => maxE_snoc l (max t x.tall) e
set_option maxHeartbeats 2000000 in
theorem exprZ (p : Nat) (E : Int × Int) (s : Sx) (k ln cl : Int) (op nm : Bs) (n : Int) (ty : Bs) (args : List Ex) (w : World) (h : PrAt w p E s) (K : Nat → Prop) (hK : ∀ k, w.heap.size ≤ k → K k)
    (v : Value) (bs : List Nat) (hv : PtrsAt w K 122 v bs) (hx : ExsAt w K bs (.of args)) (hp : ¬ K p) :
    Calls Tryz.prog 125 #[.pointer (some ⟨p, 0, none⟩), .agg #[.int .i64 k, .int .i64 ln, .int .i64 cl, .string ⟨op.toArray⟩, .string ⟨nm.toArray⟩, .int .i64 n, .string ⟨ty.toArray⟩, v, .int .i64 0]] w
      (Post p E w (fun _ w' v e => ∃ b, v = ptr b ∧ ExAt w' K b e) (exprP k op nm n ty args s)) := by
  obtain ⟨a, c, rfl, hc1, hc2, hv2⟩ := hv.form
  obtain ⟨hl, hget⟩ := hx.get
  rw [hl] at hc1
  have hml : args.length ≤ 9223372036854775807 := by unfold maxLen at hc2; omega
  have Cn := fun t w' h' => nodeZ p E s t w' h'
  rw [hl]
  go_enter Tryz.func125, Tryz.ntmps125
  go_wp2_with fail
  go_loopg [6, 10] args.length (fun g s6 s10 wr => ∃ j : Nat, j ≤ args.length ∧ args.length - j ≤ g ∧ s10 = .int .i64 j ∧
    wr.heap[w.heap.size]? = some (.cells #[.int .i64 k, .int .i64 ln, .int .i64 cl, .string ⟨op.toArray⟩, .string ⟨nm.toArray⟩, .int .i64 n, .string ⟨ty.toArray⟩, .slice a args.length c, .int .i64 (maxE 0 (args.take j))] 142 (0, 0)) ∧ Mv (fun _ => False) w wr)
  case atStart => exact ⟨0, by omega, by omega, rfl, heap_alloc_new w _, Mv.alloc _ _⟩
  case round =>
    obtain ⟨j, hj, hg, rfl, hbx, hm⟩ := hrel
    have c8 : wr.cell? ⟨w.heap.size, 8, none⟩ = some (.int .i64 (maxE 0 (args.take j))) := by simp [World.cell?, hbx]
    have cf : wr.frozen? ⟨w.heap.size, 8, none⟩ = false := by simp [World.frozen?, hbx]
    by_cases hlt : j < args.length
    · obtain ⟨b, hb, hE⟩ := hget j args[j] (List.getElem?_eq_getElem hlt)
      obtain ⟨gb, rfl, hKg, hgl, hcs⟩ := hv2 (by intro h0; rw [h0] at hl; simp at hl; omega)
      have d0 := hm.cell (hcs j b hb) (fun h => h)
      have d1 := hm.cell hE.tall.1 (fun h => h)
      have hlt' : (j : Int) < args.length := by omega
      unfold ptr at d0
      have d1' : wr.drew.cell? ⟨b, 8, none⟩ = some (.int .i64 args[j].tall) := d1
      have c8' : wr.drew.cell? ⟨w.heap.size, 8, none⟩ = some (.int .i64 (maxE 0 (args.take j))) := c8
      have cf' : wr.drew.frozen? ⟨w.heap.size, 8, none⟩ = false := cf
      go_wp2_with fail
      go_region
      all_goals go_wp2_with fail
      all_goals go_roundg (args.length - (j + 1))
      case measure => omega
      case rel =>
        refine ⟨j + 1, by omega, by omega, by simp, ?_, ((hm.setNew (Nat.le_refl _)).drawn)⟩
        rw [← List.take_append_getElem hlt, maxE_snoc]
        exact set_same hbx
    · obtain rfl : j = args.length := by omega
      rw [List.take_length] at hbx c8
      have hpl := h.lt
      go_wp2_with fail
      refine (Cn _ _ (h.none hm)).mono ?_
      rintro e w2 ⟨hm2, hP2, v, rfl, rfl⟩
      have hb2 := (hm2.same w.heap.size (heap_lt hbx) (by omega)).trans hbx
      have e8 : w2.cell? ⟨w.heap.size, 8, none⟩ = some (.int .i64 (maxE 0 args)) := by simp [World.cell?, hb2]
      have ef : w2.frozen? ⟨w.heap.size, 8, none⟩ = false := by simp [World.frozen?, hb2]
      go_wp2_with fail
      refine bodyPost_ret (v := ptr w.heap.size) (by simp [results, Tryz.results125, go_sem, ptr]) rfl ⟨(hm.weak.trans hm2).setNew (Nat.le_refl _), ?_⟩
      have hm3 : Mv (fun k => k = w.heap.size) w2 (w2.setCell ⟨w.heap.size, 8, none⟩ (.int .i64 (wrap64 (maxE 0 args + 1)))) := Mv.setCell _ _ rfl
      refine ⟨hP2.tame hm3 ?_, _, rfl, w.heap.size, rfl, ?_⟩
      · rintro k rfl hk
        have := h.1.1
        exact ⟨by omega, by omega, fun cur T r hT => by rw [hb2] at hT; cases hT; decide⟩
      · unfold ExAt
        have hk2 : Keeps (fun k => K k ∧ k < w.heap.size) w (w2.setCell ⟨w.heap.size, 8, none⟩ (.int .i64 (wrap64 (maxE 0 args + 1)))) :=
          Keeps.but (X := fun k => k = p ∨ k = w.heap.size) (((hm.weak (X := fun k => k = p)).trans hm2).mono (fun _ _ h => Or.inl h) |>.trans (hm3.mono (fun _ _ h => Or.inr h))) (fun k hk hx => by
            rcases hx with rfl | rfl
            · exact absurd hk.1 hp
            · omega)
        exact ⟨hK _ (Nat.le_refl _), ln, cl, _, bs, set_same hb2, by rw [← hl]; exact hv.within.mv hk2 (fun _ h => h.1), hx.within.mv hk2 (fun _ h => h.1)⟩
end Go.Proofs.YtjgpbpmicopemaaGreatDoor

/-
  The parser's stmt: a statement made.
-/
namespace Go.Proofs.YtjgpbpmicopemaaGreatDoor
open Go.RowKit Go.Shelf
set_option maxRecDepth 20000

theorem maxS_snoc : ∀ (l : List St) (t : Int) (e : St), maxS t (l ++ [e]) = max (maxS t l) e.tall
  | [], _, _ => rfl
  | x :: l, t, e => maxS_snoc l (max t x.tall) e
theorem ExO.ptr {W : World} {K : Nat → Prop} {v : Value} {o : Option Ex} (h : ExO W K v o) : ∃ q : Option Addr, v = .pointer q ∧ ((q = none ∧ o = none) ∨ ∃ b e, q = some ⟨b, 0, none⟩ ∧ o = some e ∧ ExAt W K b e) := by
  cases o with
  | none => exact ⟨none, h, .inl ⟨rfl, rfl⟩⟩
  | some e =>
    obtain ⟨b, h1, h2⟩ := h
    exact ⟨_, h1, .inr ⟨b, e, rfl, rfl, h2⟩⟩
/-- the height after so many of the two -/
def two (e pl : Option Ex) : Nat → Int
  | 0 => 0
  | 1 => maxO 0 e
  | _ => maxO (maxO 0 e) pl
set_option maxHeartbeats 4000000 in
theorem stmtZ (p : Nat) (E : Int × Int) (s : Sx) (k ln cl : Int) (nm ty : Bs) (e pl : Option Ex) (ve vp : Value) (l : List St) (w : World) (h : PrAt w p E s) (K : Nat → Prop) (hK : ∀ k, w.heap.size ≤ k → K k)
    (v : Value) (bs : List Nat) (he : ExO w K ve e) (hpl : ExO w K vp pl) (hv : PtrsAt w K 71 v bs) (hx : StsAt w K bs (.of l)) (hp : ¬ K p) :
    Calls Tryz.prog 83 #[.pointer (some ⟨p, 0, none⟩), .agg #[.int .i64 k, .int .i64 ln, .int .i64 cl, .string ⟨nm.toArray⟩, .string ⟨ty.toArray⟩, ve, vp, v, .int .i64 0]] w
      (Post p E w (fun _ w' v e => ∃ b, v = ptr b ∧ StAt w' K b e) (stmtP k nm ty e pl l s)) := by
  obtain ⟨a, c, rfl, hc1, hc2, hv2⟩ := hv.form
  obtain ⟨hl, hget⟩ := hx.get
  rw [hl] at hc1
  have hml : l.length ≤ 9223372036854775807 := by unfold maxLen at hc2; omega
  have Cn := fun t w' h' => nodeZ p E s t w' h'
  obtain ⟨qe, rfl, hqe⟩ := he.ptr
  obtain ⟨qp, rfl, hqp⟩ := hpl.ptr
  rw [hl]
  have hpl0 := h.lt
  go_enter Tryz.func83, Tryz.ntmps83
  go_wp2_with fail
  go_loopg [6, 15] 2 (fun g s6 s15 wr => ∃ j : Nat, j ≤ 2 ∧ 2 - j ≤ g ∧ s15 = .int .i64 j ∧
    wr.heap[w.heap.size]? = some (.cells #[.int .i64 k, .int .i64 ln, .int .i64 cl, .string ⟨nm.toArray⟩, .string ⟨ty.toArray⟩, .pointer qe, .pointer qp, .slice a l.length c, .int .i64 (two e pl j)] 125 (0, 0)) ∧
    wr.heap[w.heap.size + 1]? = some (.cells #[.pointer qe, .pointer qp] 122 (0, 0)) ∧ Mv (fun _ => False) w wr)
  case atStart => exact ⟨0, by omega, by omega, rfl, at_alloc (heap_alloc_new w _) _, by have := heap_alloc_new (w.alloc (.cells #[.int .i64 k, .int .i64 ln, .int .i64 cl, .string ⟨nm.toArray⟩, .string ⟨ty.toArray⟩, .pointer qe, .pointer qp, .slice a l.length c, .int .i64 0] 125)) (.cells #[.pointer qe, .pointer qp] 122); simpa using this, (Mv.alloc _ _).more _⟩
  case round =>
    obtain ⟨j, hj, hg, rfl, hbx, hlx, hm⟩ := hrel
    have c8 : wr.cell? ⟨w.heap.size, 8, none⟩ = some (.int .i64 (two e pl j)) := by simp [World.cell?, hbx]
    have cf : wr.frozen? ⟨w.heap.size, 8, none⟩ = false := by simp [World.frozen?, hbx]
    by_cases hlt : j < 2
    · obtain ⟨q, o, hqc, hqo, hst⟩ : ∃ (q : Option Addr) (o : Option Ex), wr.cell? ⟨w.heap.size + 1, j, none⟩ = some (.pointer q) ∧ ((q = none ∧ o = none) ∨ ∃ b e, q = some ⟨b, 0, none⟩ ∧ o = some e ∧ ExAt w K b e) ∧ two e pl (j + 1) = maxO (two e pl j) o := by
        rcases (show j = 0 ∨ j = 1 by omega) with rfl | rfl
        · exact ⟨qe, e, by simp [World.cell?, hlx], hqe, rfl⟩
        · exact ⟨qp, pl, by simp [World.cell?, hlx], hqp, rfl⟩
      have hlt' : (j : Int) < 2 := by omega
      rcases hqo with ⟨rfl, rfl⟩ | ⟨b, e1, rfl, rfl, hE⟩
      · go_wp2_with fail
        go_roundg (2 - (j + 1))
        case measure => omega
        case rel => exact ⟨j + 1, by omega, by omega, by simp, by rw [hst]; exact hbx, hlx, hm⟩
      · have d1' : wr.drew.cell? ⟨b, 8, none⟩ = some (.int .i64 e1.tall) := hm.cell hE.tall.1 (fun h => h)
        have c8' : wr.drew.cell? ⟨w.heap.size, 8, none⟩ = some (.int .i64 (two e pl j)) := c8
        have cf' : wr.drew.frozen? ⟨w.heap.size, 8, none⟩ = false := cf
        go_wp2_with fail
        go_region
        all_goals go_wp2_with fail
        all_goals go_roundg (2 - (j + 1))
        case measure => omega
        case rel => exact ⟨j + 1, by omega, by omega, by simp, by rw [hst]; exact set_same hbx, (set_other (by omega)).trans hlx, ((hm.setNew (Nat.le_refl _)).drawn)⟩
    · obtain rfl : j = 2 := by omega
      have c7 : wr.cell? ⟨w.heap.size, 7, none⟩ = some (.slice a l.length c) := by simp [World.cell?, hbx]
      clear hlx hlt hg hj
      go_wp2_with fail
      go_loopg [8, 33] l.length (fun g s8 s33 wr => ∃ j : Nat, j ≤ l.length ∧ l.length - j ≤ g ∧ s33 = .int .i64 j ∧
        wr.heap[w.heap.size]? = some (.cells #[.int .i64 k, .int .i64 ln, .int .i64 cl, .string ⟨nm.toArray⟩, .string ⟨ty.toArray⟩, .pointer qe, .pointer qp, .slice a l.length c, .int .i64 (maxS (two e pl 2) (l.take j))] 125 (0, 0)) ∧ Mv (fun _ => False) w wr)
      case atStart => exact ⟨0, by omega, by omega, rfl, hbx, hm⟩
      case round =>
        clear hbx hm c7 c8 cf
        obtain ⟨j, hj, hg, rfl, hbx, hm⟩ := hrel
        have c8 : wr.cell? ⟨w.heap.size, 8, none⟩ = some (.int .i64 (maxS (two e pl 2) (l.take j))) := by simp [World.cell?, hbx]
        have cf : wr.frozen? ⟨w.heap.size, 8, none⟩ = false := by simp [World.frozen?, hbx]
        by_cases hlt : j < l.length
        · obtain ⟨b, hb, hE⟩ := hget j l[j] (List.getElem?_eq_getElem hlt)
          obtain ⟨gb, rfl, hKg, hgl, hcs⟩ := hv2 (by intro h0; rw [h0] at hl; simp at hl; omega)
          have d0 := hm.cell (hcs j b hb) (fun h => h)
          have d1 := hm.cell hE.tall.1 (fun h => h)
          have hlt' : (j : Int) < l.length := by omega
          unfold ptr at d0
          have d1' : wr.drew.cell? ⟨b, 8, none⟩ = some (.int .i64 l[j].tall) := d1
          have c8' : wr.drew.cell? ⟨w.heap.size, 8, none⟩ = some (.int .i64 (maxS (two e pl 2) (l.take j))) := c8
          have cf' : wr.drew.frozen? ⟨w.heap.size, 8, none⟩ = false := cf
          go_wp2_with fail
          go_region
          all_goals go_wp2_with fail
          all_goals go_roundg (l.length - (j + 1))
          case measure => omega
          case rel =>
            refine ⟨j + 1, by omega, by omega, by simp, ?_, ((hm.setNew (Nat.le_refl _)).drawn)⟩
            rw [← List.take_append_getElem hlt, maxS_snoc]
            exact set_same hbx
        · obtain rfl : j = l.length := by omega
          rw [List.take_length] at hbx c8
          go_wp2_with fail
          refine (Cn _ _ (h.none hm)).mono ?_
          rintro e' w2 ⟨hm2, hP2, v, rfl, rfl⟩
          have hb2 := (hm2.same w.heap.size (heap_lt hbx) (by omega)).trans hbx
          have e8 : w2.cell? ⟨w.heap.size, 8, none⟩ = some (.int .i64 (maxS (two e pl 2) l)) := by simp [World.cell?, hb2]
          have ef : w2.frozen? ⟨w.heap.size, 8, none⟩ = false := by simp [World.frozen?, hb2]
          go_wp2_with fail
          refine bodyPost_ret (v := ptr w.heap.size) (by simp [results, Tryz.results83, go_sem, ptr]) rfl ⟨(hm.weak.trans hm2).setNew (Nat.le_refl _), ?_⟩
          have hm3 : Mv (fun k => k = w.heap.size) w2 (w2.setCell ⟨w.heap.size, 8, none⟩ (.int .i64 (wrap64 (maxS (two e pl 2) l + 1)))) := Mv.setCell _ _ rfl
          refine ⟨hP2.tame hm3 ?_, _, rfl, w.heap.size, rfl, ?_⟩
          · rintro k rfl hk
            have := h.1.1
            exact ⟨by omega, by omega, fun cur T r hT => by rw [hb2] at hT; cases hT; decide⟩
          · unfold StAt
            have hk2 : Keeps (fun k => K k ∧ k < w.heap.size) w (w2.setCell ⟨w.heap.size, 8, none⟩ (.int .i64 (wrap64 (maxS (two e pl 2) l + 1)))) :=
              Keeps.but (X := fun k => k = p ∨ k = w.heap.size) (((hm.weak (X := fun k => k = p)).trans hm2).mono (fun _ _ h => Or.inl h) |>.trans (hm3.mono (fun _ _ h => Or.inr h))) (fun k hk hx => by
                rcases hx with rfl | rfl
                · exact absurd hk.1 hp
                · omega)
            exact ⟨hK _ (Nat.le_refl _), ln, cl, _, _, _, bs, set_same hb2, he.within.mv hk2 (fun _ h => h.1), hpl.within.mv hk2 (fun _ h => h.1), by rw [← hl]; exact hv.within.mv hk2 (fun _ h => h.1), hx.within.mv hk2 (fun _ h => h.1)⟩
end Go.Proofs.YtjgpbpmicopemaaGreatDoor
