import Derived.Test.YtjgpbpmicopemaaGreatDoorPe06
import Derived.Test.YtjgpbpmicopemaaGreatDoorPb14
import Derived.Test.YtjgpbpmicopemaaGreatDoorPe02
import Derived.Test.YtjgpbpmicopemaaGreatDoorPb04

namespace Go.Proofs.YtjgpbpmicopemaaGreatDoor
open Go.RowKit
theorem decl_ah (f : Nat) : Ah (declP f) ∧ Con (declP f) := by
  have ih := ahE f
  unfold declP
  have h : ∀ t, Ah (do
      let n ← nameP
      if ← mayP [61] then
        let e ← binaryP f 0
        mustP [59]
        stmtP 3 n t (some e) none []
      else
        let t ← arrayP t
        mustP [59]
        stmtP 3 n t none none []) := by
    intro t
    refine Ah.bind Ah.name (fun n => Ah.may (by decide) ?_ ?_)
    · simp only [if_true]; exact Ah.bind (ih.binary 0 (by omega)).1 (fun e => Ah.bind (Ah.must _) (fun _ => Ah.stmt))
    · simp only [Bool.false_eq_true, if_false]; exact Ah.bind (array_ah _) (fun t => Ah.bind (Ah.must _) (fun _ => Ah.stmt))
  exact ⟨Ah.bind typ_ah h, Con.left typ_con h⟩
structure AhS (f : Nat) : Prop where
  block : Ah (blockP f) ∧ Con (blockP f)
  list : ∀ l, Ah (listP f l)
  stat : Ah (statementP f)
theorem ahS : ∀ f, AhS f
  | 0 => by
    constructor
    · exact ⟨Ah.out, Con.out⟩
    · intro l; exact Ah.out
    · exact Ah.out
  | f + 1 => by
    have ih := ahS f
    have ie := ahE f
    constructor
    · unfold blockP
      have h : ∀ _ : Unit, Ah (do
          let l ← listP f []
          stmtP 1 [] [] none none l) := fun _ => Ah.bind (ih.list []) (fun l => Ah.stmt)
      exact ⟨Ah.deep (Ah.bind (Ah.must _) h), Con.deep (Con.left (Con.must _) h)⟩
    · intro l
      unfold listP
      refine Ah.may (by decide) ?_ ?_
      · simp only [if_true]; exact Ah.pure _
      · simp only [Bool.false_eq_true, if_false]
        refine Ah.ask asks_typed ask_typed ?_ ?_ ?_
        · simp only [if_true]; exact Ah.bind (decl_ah f).1 (fun x => ih.list _)
        · simp only [Bool.false_eq_true, if_false]; exact Ah.bind ih.stat (fun x => ih.list _)
        · simp only [if_true]; exact Con.left (decl_ah f).2 (fun x => ih.list _)
    · unfold statementP
      refine Ah.deep ?_
      refine Ah.ask (asks_is (by decide)) (ask_is _) ?_ ?_ ?_
      · simp only [if_true]; exact ih.block.1
      · simp only [Bool.false_eq_true, if_false]
        refine Ah.may (by decide) ?_ ?_
        · simp only [if_true]; exact Ah.stmt
        simp only [Bool.false_eq_true, if_false]
        refine Ah.may (by decide) ?_ ?_
        · simp only [if_true]
          refine Ah.bind ie.within.1 (fun e => Ah.bind ih.stat (fun x => Ah.may (by decide) ?_ ?_))
          · simp only [if_true]; exact Ah.bind ih.stat (fun y => Ah.stmt)
          · simp only [Bool.false_eq_true, if_false]; exact Ah.stmt
        simp only [Bool.false_eq_true, if_false]
        refine Ah.may (by decide) ?_ ?_
        · simp only [if_true]; exact Ah.bind ie.within.1 (fun e => Ah.bind ih.stat (fun x => Ah.stmt))
        simp only [Bool.false_eq_true, if_false]
        refine Ah.ask (asks_any (by decide)) (ask_any _) ?_ ?_ ?_
        · simp only [if_true]; exact Ah.take (fun w => Ah.bind (Ah.must _) (fun _ => Ah.stmt)) (fun w w' e => by simp only [e])
        · simp only [Bool.false_eq_true, if_false]
          refine Ah.may (by decide) ?_ ?_
          · simp only [if_true]
            refine Ah.ask (asks_is (by decide)) (ask_is _) ?_ ?_ ?_
            · simp only [if_true]; exact Ah.bind (Ah.must _) (fun _ => Ah.stmt)
            · simp only [Bool.false_eq_true, if_false]; exact Ah.bind (ie.binary 0 (by omega)).1 (fun e => Ah.bind (Ah.must _) (fun _ => Ah.stmt))
            · simp only [if_true]; exact Con.left (Con.must _) (fun _ => Ah.stmt)
          simp only [Bool.false_eq_true, if_false]
          refine Ah.may (by decide) ?_ ?_
          · simp only [if_true]; exact Ah.bind ie.within.1 (fun e => Ah.bind (Ah.must _) (fun _ => Ah.stmt))
          simp only [Bool.false_eq_true, if_false]
          refine Ah.bind (ie.binary 0 (by omega)).1 (fun e => Ah.may (by decide) ?_ ?_)
          · simp only [if_true]; exact Ah.bind (ie.binary 0 (by omega)).1 (fun r => Ah.bind (Ah.must _) (fun _ => Ah.stmt))
          · simp only [Bool.false_eq_true, if_false]; exact Ah.bind (Ah.must _) (fun _ => Ah.stmt)
        · simp only [if_true]; exact Con.left Con.take (fun w => Ah.bind (Ah.must _) (fun _ => Ah.stmt))
      · simp only [if_true]; exact ih.block.2
theorem fields_ah : ∀ (f : Nat) (l : List Fd), Ah (fieldsP f l)
  | 0, _ => Ah.out
  | f + 1, l => by
    unfold fieldsP
    refine Ah.may (by decide) ?_ ?_
    · simp only [if_true]; exact Ah.pure _
    · simp only [Bool.false_eq_true, if_false]
      exact Ah.bind typ_ah (fun t => Ah.bind Ah.name (fun n => Ah.bind (array_ah _) (fun t => Ah.bind (Ah.must _) (fun _ => fields_ah f _))))
theorem params_ah : ∀ (f : Nat) (more : Bool) (l : List Pm), Ah (paramsP f more l)
  | 0, _, _ => Ah.out
  | f + 1, more, l => by
    unfold paramsP
    cases more
    · simp only [Bool.false_eq_true, if_false]; exact Ah.pure _
    · simp only [if_true]
      refine Ah.bind (Ah.may0 (by decide)) (fun b => Ah.bind typ_ah (fun t => Ah.bind Ah.name (fun n => Ah.may (by decide) ?_ ?_)))
      · simp only [if_true]; exact params_ah f _ _
      · simp only [Bool.false_eq_true, if_false]; exact Ah.bind (Ah.must _) (fun _ => params_ah f _ _)
theorem params_con (f : Nat) (l : List Pm) : Con (paramsP f true l) := by
  cases f with
  | zero => exact Con.out
  | succ f =>
    unfold paramsP
    simp only [if_true]
    refine Con.right (Ah.may0 (by decide)) (fun b => Con.left typ_con (fun t => Ah.bind Ah.name (fun n => Ah.may (by decide) ?_ ?_)))
    · simp only [if_true]; exact params_ah f _ _
    · simp only [Bool.false_eq_true, if_false]; exact Ah.bind (Ah.must _) (fun _ => params_ah f _ _)
theorem rest_ah (f : Nat) (t : Bs) : Ah (restP f t) ∧ Con (restP f t) := by
  unfold restP
  have hb : ∀ n ps, Ah (do
      let b ← blockP f
      pure (⟨3, t, n, [], ps, some b⟩ : Im)) := fun n ps => Ah.bind (ahS f).block.1 (fun b => Ah.pure _)
  have hp : ∀ n m, Ah (do
      let ps ← paramsP f m []
      let b ← blockP f
      pure (⟨3, t, n, [], ps, some b⟩ : Im)) := fun n m => Ah.bind (params_ah f _ _) (fun ps => hb n ps)
  have hm : ∀ n, Ah (do
      let m ← mayP [41]
      let ps ← paramsP f (!m) []
      let b ← blockP f
      pure (⟨3, t, n, [], ps, some b⟩ : Im)) := fun n => Ah.may41 (hp n _) (hp n _) (Con.left (params_con f _) (fun ps => hb n ps))
  have h : ∀ n, Ah (do
      if ← isP [40] then
        funcP
        let _ ← takeP
        let m ← mayP [41]
        let ps ← paramsP f (!m) []
        let b ← blockP f
        pure ⟨3, t, n, [], ps, some b⟩
      else
        let t ← arrayP t
        mustP [59]
        pure (⟨2, t, n, [], [], none⟩ : Im)) := by
    intro n
    refine Ah.ask (asks_is (by decide)) (ask_is _) ?_ ?_ ?_
    · simp only [if_true]; exact Ah.bind Ah.func (fun _ => Ah.take (fun _ => hm n) (fun _ _ _ => rfl))
    · simp only [Bool.false_eq_true, if_false]; exact Ah.bind (array_ah _) (fun t => Ah.bind (Ah.must _) (fun _ => Ah.pure _))
    · simp only [if_true]; exact Con.right Ah.func (fun _ => Con.left Con.take (fun _ => hm n))
  exact ⟨Ah.bind Ah.name h, Con.left Con.name h⟩
theorem item_ah (f : Nat) : Ah (itemP f) ∧ Con (itemP f) := by
  unfold itemP
  have h1 : Ah (do
      let n ← nameP
      if ← mayP [123] then
        let l ← fieldsP f []
        mustP [59]
        pure ⟨1, [], n, l, [], none⟩
      else
        let t ← starsP ([115, 116, 114, 117, 99, 116, 32] ++ n)
        restP f t) := by
    refine Ah.bind Ah.name (fun n => Ah.may (by decide) ?_ ?_)
    · simp only [if_true]; exact Ah.bind (fields_ah f _) (fun l => Ah.bind (Ah.must _) (fun _ => Ah.pure _))
    · simp only [Bool.false_eq_true, if_false]; exact Ah.bind (Ah.stars _) (fun t => (rest_ah f t).1)
  constructor
  · refine Ah.may (by decide) ?_ ?_
    · simp only [if_true]; exact h1
    · simp only [Bool.false_eq_true, if_false]; exact Ah.bind typ_ah (fun t => (rest_ah f t).1)
  · refine Con.may ?_ ?_
    · simp only [if_true]; exact h1
    · simp only [Bool.false_eq_true, if_false]; exact Con.left typ_con (fun t => (rest_ah f t).1)
end Go.Proofs.YtjgpbpmicopemaaGreatDoor

namespace Go.Proofs.YtjgpbpmicopemaaGreatDoor
open Go.RowKit
def Edge (r : List UInt8) : Prop := r = [] ∨ ∃ x r', r = x :: r' ∧ (x = 32 ∨ x = 41 ∨ x = 59)
theorem edge_not (x : UInt8) (h : x = 32 ∨ x = 41 ∨ x = 59) : goesC x = false ∧ x ≠ 47 ∧ x ≠ 42 ∧ (∀ c, twos.contains [c, x] = false) := by
  rcases h with rfl | rfl | rfl <;> exact ⟨by decide, by decide, by decide, fun c => by simp [twos]⟩
theorem nameN_edge (l r : List UInt8) (hr : Edge r) : nameN (l ++ r) = nameN l := by
  rcases hr with rfl | ⟨x, r', rfl, hx⟩
  · rw [List.append_nil]
  · unfold nameN
    rw [tw_join goesC x r' (edge_not x hx).1]
theorem markN_edge (c : UInt8) (l r : List UInt8) (hr : Edge r) : markN (c :: l ++ r) = markN (c :: l) := by
  rcases hr with rfl | ⟨x, r', rfl, hx⟩
  · rw [List.append_nil]
  · cases l with
    | nil =>
      have h1 := (edge_not x hx).2.2.2 c
      have h2 : (decide (2 ≤ ([c] ++ x :: r').length) && twos.contains (([c] ++ x :: r').take 2)) = false := by
        rw [show ([c] ++ x :: r').take 2 = [c, x] from rfl, h1, Bool.and_false]
      unfold markN
      rw [h2]
      rfl
    | cons d l =>
      unfold markN
      simp
theorem word_edge (c : UInt8) (l r : List UInt8) (hr : Edge r) : wordO (c :: l ++ r) = wordO (c :: l) := by
  have h1 := nameN_edge (c :: l) r hr
  have h2 := markN_edge c l r hr
  have h3 := take_join (c :: l) r (nameN (c :: l)) (nameN_le _)
  have h4 := take_join (c :: l) r (markN (c :: l)) (markN_le _ (by simp))
  unfold wordO
  rw [h1, h2, h3, h4]
  rfl
theorem blank_plain (c : UInt8) (l : List UInt8) (h : c ≠ 47) : blankV (c :: l) = if [32, 9, 13, 10].contains c then (1, true) else (0, true) := by
  have h1 : ∀ y, Lib.hasPrefix (c :: l) [47, y] = false := fun y => by
    rw [hasP]
    cases l with
    | nil => simp
    | cons d l => simp [h]
  unfold blankV
  rw [List.headD_cons, h1, h1]
  rfl
theorem edgeW (r : List UInt8) (hr : Edge r) : ∀ (n : Nat) (a : List UInt8), a.length ≤ n → none ∉ wordsW a → (47 : UInt8) ∉ a → wordsW (a ++ r) = wordsW a ++ wordsW r
  | _, [], _, _, _ => by rw [List.nil_append, wordsW_nil, List.nil_append]
  | 0, _ :: _, h, _, _ => absurd h (by simp)
  | n + 1, c :: l, hn, h, h47 => by
    simp only [List.length_cons] at hn
    have hc : c ≠ 47 := fun e => h47 (by rw [e]; simp)
    have hd : ∀ k, (47 : UInt8) ∉ (c :: l).drop k := fun k hk => h47 (List.mem_of_mem_drop hk)
    have b1 := blank_plain c l hc
    have b2 := blank_plain c (l ++ r) hc
    rcases wordsW_parts c l h with ⟨h1, h2⟩ | ⟨d, h1, h2⟩
    · have hk : blankV (c :: l) = (1, true) := by
        rw [b1] at h2 ⊢
        split
        · rfl
        · rename_i hx; rw [if_neg hx] at h2; exact absurd rfl h2
      have hk2 : blankV (c :: (l ++ r)) = (1, true) := by rw [b2, ← b1, hk]
      have e1 := wordsW_blank c l h1 h2
      have e2 := wordsW_blank c (l ++ r) (by rw [hk2]) (by rw [hk2]; decide)
      rw [hk] at e1
      rw [hk2] at e2
      have e1 : wordsW (c :: l) = wordsW l := e1
      have e2 : wordsW (c :: (l ++ r)) = wordsW (l ++ r) := e2
      rw [List.cons_append, e1, e2]
      rw [e1] at h
      exact edgeW r hr n l (by omega) h (fun hx => h47 (List.mem_cons_of_mem _ hx))
    · obtain ⟨w1, w2⟩ := word_low c l d h2
      have hk2 : blankV (c :: (l ++ r)) = (0, true) := by rw [b2, ← b1, h1]
      have hw := word_edge c l r hr
      rw [List.cons_append] at hw
      have e1 := wordsW_word c l d h1 h2
      have e2 := wordsW_word c (l ++ r) d hk2 (hw.trans h2)
      rw [← List.cons_append, drop_join _ _ _ w2] at e2
      rw [e1] at h ⊢
      rw [e2, List.cons_append, edgeW r hr n _ (by rw [List.length_drop, List.length_cons]; omega) (fun hx => h (List.mem_cons_of_mem _ hx)) (hd _)]
theorem openW (m : List UInt8) : wordsW (40 :: m) = some ⟨4, [40], 0⟩ :: wordsW m := by
  have hn : nameN (40 :: m) = 0 := by rw [nameN_cons]; rfl
  have hm : markN (40 :: m) = 1 := by
    have h1 : (decide (2 ≤ (40 :: m).length) && twos.contains ((40 :: m).take 2)) = false := by
      cases m with
      | nil => rfl
      | cons d m =>
        rw [show (40 :: d :: m).take 2 = [40, d] from rfl]
        simp [twos]
    unfold markN
    rw [h1]
    rfl
  have hw : wordO (40 :: m) = some ⟨4, [40], 0⟩ := by
    unfold wordO
    rw [hn, hm]
    rfl
  exact wordsW_word 40 m _ (by rw [blank_plain 40 m (by decide)]; rfl) hw
end Go.Proofs.YtjgpbpmicopemaaGreatDoor

namespace Go.Proofs.YtjgpbpmicopemaaGreatDoor
open Go.RowKit
set_option linter.unusedSimpArgs false
def Lo {α : Type} (g : Pr α) (s : Sx) (Q : α → Sx → Prop) : Prop := ∀ a t, g s = .ok a t → Q a t
def ovN (s : Sx) : Nat := if s.over then 1 else 0
theorem ovN_zero {s : Sx} : ovN s = 0 ↔ s.over = false := by unfold ovN; cases s.over <;> simp
section
variable {α β : Type} {g : Pr α} {h : α → Pr β} {s : Sx} {Q : α → Sx → Prop} {R : β → Sx → Prop}
theorem Lo.mono {Q' : α → Sx → Prop} (hg : Lo g s Q) (hQ : ∀ a t, Q a t → Q' a t) : Lo g s Q' := fun a t e => hQ a t (hg a t e)
theorem Lo.bind (hg : Lo g s Q) (hh : ∀ a t, Q a t → Lo (h a) t R) : Lo (g >>= h) s R := by
  intro b u e
  cases x : g s with
  | out => rw [bind_out x] at e; cases e
  | bad t => rw [bind_bad x] at e; cases e
  | ok a t => rw [bind_ok x] at e; exact hh a t (hg a t x) b u e
theorem Lo.pure {a : α} (h : Q a s) : Lo (Pure.pure a) s Q := by intro b t e; cases e; exact h
theorem Lo.out : Lo (fun _ => .out) s Q := by intro b t e; cases e
theorem Lo.fail : Lo failP s Q := by intro b t e; cases e
theorem Lo.ask {q : Pr α} {a : α} (hq : q s = .ok a s) (h1 : Lo (h a) s R) : Lo (q >>= h) s R := by
  intro b u e
  rw [bind_ok hq] at e
  exact h1 b u e
def Nx (c : Nat) (s t : Sx) : Prop := t.ws.length + c ≤ s.ws.length ∧ t.nodes = s.nodes ∧ t.funcs = s.funcs ∧ t.depth = s.depth ∧ ovN t = ovN s
theorem lo_must (t : Bs) : Lo (mustP t) s (fun _ u => Nx 1 s u) := by
  intro a u e
  unfold mustP at e
  split at e
  · rename_i hb
    cases e
    cases hw : s.ws with
    | nil => rw [hw] at hb; simp [isB] at hb
    | cons x l => simp [Nx, hw, ovN]
  · cases e
theorem lo_take : Lo takeP s (fun _ u => Nx 1 s u) := by
  intro a u e
  unfold takeP at e
  cases hw : s.ws with
  | nil => rw [hw] at e; cases e
  | cons x l => rw [hw] at e; cases e; simp [Nx, hw, ovN]
theorem lo_name : Lo nameP s (fun _ u => Nx 1 s u) := by
  intro a u e
  unfold nameP at e
  cases hw : s.ws with
  | nil => rw [hw] at e; cases e
  | cons x l =>
    rw [hw] at e
    simp only at e
    split at e
    · cases e; simp [Nx, hw, ovN]
    · cases e
theorem lo_num : Lo numP s (fun _ u => Nx 1 s u) := by
  intro a u e
  unfold numP at e
  cases hw : s.ws with
  | nil => rw [hw] at e; cases e
  | cons x l =>
    rw [hw] at e
    simp only at e
    split at e
    · cases e; simp [Nx, hw, ovN]
    · cases e
theorem lo_stars (b : Bs) : Lo (starsP b) s (fun _ u => Nx 0 s u) := by
  intro a u e
  unfold starsP at e
  cases e
  simp [Nx, ovN]
theorem Lo.may {t : Bs} {h : Bool → Pr β} (h1 : ∀ u, Nx 1 s u → Lo (h true) u R) (h0 : Lo (h false) s R) : Lo (mayP t >>= h) s R := by
  intro b u e
  cases hb : isB s.ws t
  · rw [bind_ok (show mayP t s = .ok false s by unfold mayP; simp [hb])] at e
    exact h0 b u e
  · rw [bind_ok (show mayP t s = .ok true { s with ws := s.ws.tail } by unfold mayP; simp [hb])] at e
    refine h1 _ ?_ b u e
    cases hw : s.ws with
    | nil => rw [hw] at hb; simp [isB] at hb
    | cons x l => simp [Nx, hw, ovN]
theorem Lo.deep (h0 : 0 ≤ s.depth ∧ s.depth + 1 ≤ 800 ∧ ovN s = 0) (hg : ∀ u, u.ws.length = s.ws.length → u.nodes = s.nodes → u.funcs = s.funcs → u.depth = s.depth + 1 → ovN u = 0 → Lo g u (fun a t => t.depth = u.depth ∧ ∀ t' : Sx, t'.ws.length = t.ws.length → t'.nodes = t.nodes → t'.funcs = t.funcs → t'.depth = s.depth → ovN t' = ovN t → Q a t')) : Lo (deepP g) s Q := by
  intro a t e
  unfold deepP at e
  have hi : inc s.depth = s.depth + 1 := by unfold inc; unfold wrap64; omega
  have hd := hg s.down rfl rfl rfl hi (by
    unfold ovN Sx.down
    have := ovN_zero.1 h0.2.2
    simp only [this, hi, Bool.false_or]
    rw [decide_eq_true (by omega)]
    rfl)
  cases x : g s.down with
  | out => rw [x] at e; cases e
  | bad u => rw [x] at e; cases e
  | ok b u =>
    rw [x] at e
    cases e
    obtain ⟨h1, h2⟩ := hd _ _ x
    refine h2 _ rfl rfl rfl ?_ rfl
    have : (Sx.up u).depth = dec u.depth := rfl
    rw [this, h1]
    show dec (inc s.depth) = _
    rw [hi]
    unfold dec wrap64
    omega
theorem node_lo {T : Int} (h0 : 0 ≤ s.nodes ∧ s.nodes + 1 ≤ 20000) (hT : T ≤ 200) (ho : ovN s = 0) : (s.node T).nodes = s.nodes + 1 ∧ ovN (s.node T) = 0 := by
  have hi : inc s.nodes = s.nodes + 1 := by unfold inc; unfold wrap64; omega
  refine ⟨hi, ?_⟩
  unfold ovN Sx.node
  have := ovN_zero.1 ho
  simp only [this, hi, Bool.false_or]
  rw [decide_eq_true (by omega), decide_eq_true (by omega)]
  rfl
theorem lo_expr {k n : Int} {op nm ty : Bs} {args : List Ex} {Q : Ex → Sx → Prop} (h0 : 0 ≤ s.nodes ∧ s.nodes + 1 ≤ 20000) (hT : 0 ≤ maxE 0 args ∧ maxE 0 args + 1 ≤ 200) (ho : ovN s = 0)
    (H : ∀ e t, Ex.tall e = maxE 0 args + 1 → t.ws.length = s.ws.length → t.nodes = s.nodes + 1 → t.funcs = s.funcs → t.depth = s.depth → ovN t = 0 → Q e t) : Lo (exprP k op nm n ty args) s Q := by
  intro e t x
  unfold exprP at x
  cases x
  have hi : inc (maxE 0 args) = maxE 0 args + 1 := by unfold inc; unfold wrap64; omega
  obtain ⟨h1, h2⟩ := node_lo (T := inc (maxE 0 args)) h0 (by omega) ho
  exact H _ _ hi rfl h1 rfl rfl h2
theorem lo_stmt {k : Int} {nm ty : Bs} {e pl : Option Ex} {l : List St} {Q : St → Sx → Prop} (h0 : 0 ≤ s.nodes ∧ s.nodes + 1 ≤ 20000) (hT : 0 ≤ maxS (maxO (maxO 0 e) pl) l ∧ maxS (maxO (maxO 0 e) pl) l + 1 ≤ 200) (ho : ovN s = 0)
    (H : ∀ x t, St.tall x = maxS (maxO (maxO 0 e) pl) l + 1 → t.ws.length = s.ws.length → t.nodes = s.nodes + 1 → t.funcs = s.funcs → t.depth = s.depth → ovN t = 0 → Q x t) : Lo (stmtP k nm ty e pl l) s Q := by
  intro x t y
  unfold stmtP at y
  cases y
  have hi : inc (maxS (maxO (maxO 0 e) pl) l) = maxS (maxO (maxO 0 e) pl) l + 1 := by unfold inc; unfold wrap64; omega
  obtain ⟨h1, h2⟩ := node_lo (T := inc (maxS (maxO (maxO 0 e) pl) l)) h0 (by omega) ho
  exact H _ _ hi rfl h1 rfl rfl h2
end
theorem maxE_app : ∀ (l : List Ex) (t : Int) (e : Ex), maxE t (l ++ [e]) = max (maxE t l) e.tall
  | [], _, _ => rfl
  | a :: l, t, e => by simp only [List.cons_append, maxE]; exact maxE_app l _ e
theorem maxS_app : ∀ (l : List St) (t : Int) (e : St), maxS t (l ++ [e]) = max (maxS t l) e.tall
  | [], _, _ => rfl
  | a :: l, t, e => by simp only [List.cons_append, maxS]; exact maxS_app l _ e
def Lm (k : Int) (s : Sx) : Prop := 0 ≤ s.nodes ∧ s.nodes + s.ws.length ≤ 20000 ∧ 0 ≤ s.depth ∧ s.depth + 2 * s.ws.length + k ≤ 800 ∧ s.ws.length ≤ 199 ∧ ovN s = 0
def Po (s t : Sx) : Prop := t.ws.length ≤ s.ws.length ∧ t.nodes + t.ws.length ≤ s.nodes + s.ws.length ∧ s.nodes ≤ t.nodes ∧ t.depth = s.depth ∧ t.funcs = s.funcs ∧ ovN t = 0
def PoE (s : Sx) (e : Ex) (t : Sx) : Prop := Po s t ∧ 1 ≤ e.tall ∧ e.tall + t.ws.length ≤ s.ws.length
theorem typ_lo {s : Sx} : Lo typP s (fun _ u => Nx 1 s u) := by
  unfold typP
  refine Lo.ask rfl ?_
  split
  · refine Lo.bind lo_take (fun w t ht => ?_)
    split
    · exact Lo.bind lo_name (fun n u hu => (lo_stars _).mono (fun _ v hv => by ((try simp only [Lm, Po, PoE, Nx, maxE, maxS, maxO, maxE_app, maxS_app, and_true, true_and] at *) <;> omega)))
    · exact (lo_stars _).mono (fun _ v hv => by ((try simp only [Lm, Po, PoE, Nx, maxE, maxS, maxO, maxE_app, maxS_app, and_true, true_and] at *) <;> omega))
  · exact Lo.fail
theorem array_lo {s : Sx} {t : Bs} : Lo (arrayP t) s (fun _ u => Nx 0 s u) := by
  unfold arrayP
  refine Lo.may (fun u hu => ?_) ?_
  · simp only [if_true]
    exact Lo.bind lo_num (fun n v hv => Lo.bind (lo_must _) (fun _ x hx => Lo.pure (by ((try simp only [Lm, Po, PoE, Nx, maxE, maxS, maxO, maxE_app, maxS_app, and_true, true_and] at *) <;> omega))))
  · simp only [Bool.false_eq_true, if_false]
    exact Lo.pure (by ((try simp only [Lm, Po, PoE, Nx, maxE, maxS, maxO, maxE_app, maxS_app, and_true, true_and] at *) <;> omega))
structure LoE (f : Nat) : Prop where
  binary : ∀ lev s, Lm 1 s → Lo (binaryP f lev) s (PoE s)
  bloop : ∀ lev e s (M : Int), Lm 0 s → 1 ≤ e.tall → e.tall + s.ws.length ≤ M → M ≤ 199 → Lo (binLoop f lev e) s (fun e' t => Po s t ∧ 1 ≤ e'.tall ∧ e'.tall + t.ws.length ≤ M)
  unary : ∀ s, Lm 1 s → Lo (unaryP f) s (PoE s)
  post : ∀ s, Lm 0 s → Lo (postfixP f) s (PoE s)
  ploop : ∀ e s (M : Int), Lm 0 s → 1 ≤ e.tall → e.tall + s.ws.length ≤ M → M ≤ 199 → Lo (postLoop f e) s (fun e' t => Po s t ∧ 1 ≤ e'.tall ∧ e'.tall + t.ws.length ≤ M)
  primary : ∀ s, Lm 0 s → Lo (primaryP f) s (PoE s)
  within : ∀ s, Lm 0 s → Lo (withinP f) s (fun e t => PoE s e t ∧ t.ws.length + 1 ≤ s.ws.length)
  args : ∀ more l s (M : Int), Lm 1 s → 0 ≤ maxE 0 l → maxE 0 l + s.ws.length ≤ M → M ≤ 199 → Lo (argsP f more l) s (fun l' t => Po s t ∧ 0 ≤ maxE 0 l' ∧ maxE 0 l' + t.ws.length ≤ M)
theorem loE : ∀ f, LoE f
  | 0 => by constructor <;> intros <;> exact Lo.out
  | f + 1 => by
    have ih := loE f
    constructor
    · intro lev s hL
      unfold binaryP
      exact Lo.bind (ih.unary s hL) (fun e t ht => (ih.bloop lev e t s.ws.length (by ((try simp only [Lm, Po, PoE, Nx, maxE, maxS, maxO, maxE_app, maxS_app, and_true, true_and] at *) <;> omega)) (by ((try simp only [Lm, Po, PoE, Nx, maxE, maxS, maxO, maxE_app, maxS_app, and_true, true_and] at *) <;> omega)) (by ((try simp only [Lm, Po, PoE, Nx, maxE, maxS, maxO, maxE_app, maxS_app, and_true, true_and] at *) <;> omega)) (by ((try simp only [Lm, Po, PoE, Nx, maxE, maxS, maxO, maxE_app, maxS_app, and_true, true_and] at *) <;> omega))).mono (fun e' u hu => by ((try simp only [Lm, Po, PoE, Nx, maxE, maxS, maxO, maxE_app, maxS_app, and_true, true_and] at *) <;> omega)))
    · intro lev e s M hL h1 h2 h3
      unfold binLoop
      refine Lo.ask rfl ?_
      split
      · refine Lo.pure ?_; ((try simp only [Lm, Po, PoE, Nx, maxE, maxS, maxO, maxE_app, maxS_app, and_true, true_and] at *) <;> omega)
      · refine Lo.bind lo_take (fun w t ht => ?_)
        refine Lo.bind (ih.binary _ t (by ((try simp only [Lm, Po, PoE, Nx, maxE, maxS, maxO, maxE_app, maxS_app, and_true, true_and] at *) <;> omega))) (fun r u hu => ?_)
        refine Lo.bind (Q := fun e' v => v.ws.length = u.ws.length ∧ v.nodes = u.nodes + 1 ∧ v.funcs = u.funcs ∧ v.depth = u.depth ∧ ovN v = 0 ∧ Ex.tall e' = max (max 0 e.tall) r.tall + 1) (lo_expr (by ((try simp only [Lm, Po, PoE, Nx, maxE, maxS, maxO, maxE_app, maxS_app, and_true, true_and] at *) <;> omega)) (by ((try simp only [Lm, Po, PoE, Nx, maxE, maxS, maxO, maxE_app, maxS_app, and_true, true_and] at *) <;> omega)) (by ((try simp only [Lm, Po, PoE, Nx, maxE, maxS, maxO, maxE_app, maxS_app, and_true, true_and] at *) <;> omega)) (fun e' v a1 a2 a3 a4 a5 a6 => by ((try simp only [Lm, Po, PoE, Nx, maxE, maxS, maxO, maxE_app, maxS_app, and_true, true_and] at *) <;> omega))) (fun e' v hv => ?_)
        exact (ih.bloop lev e' v M (by ((try simp only [Lm, Po, PoE, Nx, maxE, maxS, maxO, maxE_app, maxS_app, and_true, true_and] at *) <;> omega)) (by ((try simp only [Lm, Po, PoE, Nx, maxE, maxS, maxO, maxE_app, maxS_app, and_true, true_and] at *) <;> omega)) (by ((try simp only [Lm, Po, PoE, Nx, maxE, maxS, maxO, maxE_app, maxS_app, and_true, true_and] at *) <;> omega)) h3).mono (fun e'' x hx => by ((try simp only [Lm, Po, PoE, Nx, maxE, maxS, maxO, maxE_app, maxS_app, and_true, true_and] at *) <;> omega))
    · intro s hL
      unfold unaryP
      refine Lo.deep (by ((try simp only [Lm, Po, PoE, Nx, maxE, maxS, maxO, maxE_app, maxS_app, and_true, true_and] at *) <;> omega)) (fun u a1 a2 a3 a4 a5 => ?_)
      refine Lo.ask rfl ?_
      split
      · refine Lo.bind lo_take (fun w t ht => ?_)
        refine Lo.bind (ih.unary t (by ((try simp only [Lm, Po, PoE, Nx, maxE, maxS, maxO, maxE_app, maxS_app, and_true, true_and] at *) <;> omega))) (fun r v hv => ?_)
        exact lo_expr (by ((try simp only [Lm, Po, PoE, Nx, maxE, maxS, maxO, maxE_app, maxS_app, and_true, true_and] at *) <;> omega)) (by ((try simp only [Lm, Po, PoE, Nx, maxE, maxS, maxO, maxE_app, maxS_app, and_true, true_and] at *) <;> omega)) (by ((try simp only [Lm, Po, PoE, Nx, maxE, maxS, maxO, maxE_app, maxS_app, and_true, true_and] at *) <;> omega)) (fun e' v a1 a2 a3 a4 a5 a6 => ⟨by ((try simp only [Lm, Po, PoE, Nx, maxE, maxS, maxO, maxE_app, maxS_app, and_true, true_and] at *) <;> omega), fun t' b1 b2 b3 b4 b5 => by ((try simp only [Lm, Po, PoE, Nx, maxE, maxS, maxO, maxE_app, maxS_app, and_true, true_and] at *) <;> omega)⟩)
      · refine Lo.ask rfl ?_
        split
        · refine Lo.bind lo_take (fun w t ht => ?_)
          refine Lo.bind typ_lo (fun ty t2 ht2 => ?_)
          refine Lo.bind (lo_must _) (fun _ t3 ht3 => ?_)
          refine Lo.bind (ih.unary t3 (by ((try simp only [Lm, Po, PoE, Nx, maxE, maxS, maxO, maxE_app, maxS_app, and_true, true_and] at *) <;> omega))) (fun r v hv => ?_)
          exact lo_expr (by ((try simp only [Lm, Po, PoE, Nx, maxE, maxS, maxO, maxE_app, maxS_app, and_true, true_and] at *) <;> omega)) (by ((try simp only [Lm, Po, PoE, Nx, maxE, maxS, maxO, maxE_app, maxS_app, and_true, true_and] at *) <;> omega)) (by ((try simp only [Lm, Po, PoE, Nx, maxE, maxS, maxO, maxE_app, maxS_app, and_true, true_and] at *) <;> omega)) (fun e' v a1 a2 a3 a4 a5 a6 => ⟨by ((try simp only [Lm, Po, PoE, Nx, maxE, maxS, maxO, maxE_app, maxS_app, and_true, true_and] at *) <;> omega), fun t' b1 b2 b3 b4 b5 => by ((try simp only [Lm, Po, PoE, Nx, maxE, maxS, maxO, maxE_app, maxS_app, and_true, true_and] at *) <;> omega)⟩)
        · exact (ih.post u (by ((try simp only [Lm, Po, PoE, Nx, maxE, maxS, maxO, maxE_app, maxS_app, and_true, true_and] at *) <;> omega))).mono (fun e' v hv => ⟨by ((try simp only [Lm, Po, PoE, Nx, maxE, maxS, maxO, maxE_app, maxS_app, and_true, true_and] at *) <;> omega), fun t' b1 b2 b3 b4 b5 => by ((try simp only [Lm, Po, PoE, Nx, maxE, maxS, maxO, maxE_app, maxS_app, and_true, true_and] at *) <;> omega)⟩)
    · intro s hL
      unfold postfixP
      exact Lo.bind (ih.primary s hL) (fun e t ht => (ih.ploop e t s.ws.length (by ((try simp only [Lm, Po, PoE, Nx, maxE, maxS, maxO, maxE_app, maxS_app, and_true, true_and] at *) <;> omega)) (by ((try simp only [Lm, Po, PoE, Nx, maxE, maxS, maxO, maxE_app, maxS_app, and_true, true_and] at *) <;> omega)) (by ((try simp only [Lm, Po, PoE, Nx, maxE, maxS, maxO, maxE_app, maxS_app, and_true, true_and] at *) <;> omega)) (by ((try simp only [Lm, Po, PoE, Nx, maxE, maxS, maxO, maxE_app, maxS_app, and_true, true_and] at *) <;> omega))).mono (fun e' u hu => by ((try simp only [Lm, Po, PoE, Nx, maxE, maxS, maxO, maxE_app, maxS_app, and_true, true_and] at *) <;> omega)))
    · intro e s M hL h1 h2 h3
      have hend : ∀ (k : Int) (nm : Bs) (u : Sx) (args : List Ex), Lm 0 u → Po s u → 1 ≤ maxE 0 args → maxE 0 args + u.ws.length + 1 ≤ M → u.nodes + u.ws.length + 1 ≤ s.nodes + s.ws.length → Lo (do
          let e' ← exprP k [] nm 0 [] args
          postLoop f e') u (fun e' t => Po s t ∧ 1 ≤ e'.tall ∧ e'.tall + t.ws.length ≤ M) := by
        intro k nm u args c1 c2 c3 c4 c5
        refine Lo.bind (Q := fun e' v => v.ws.length = u.ws.length ∧ v.nodes = u.nodes + 1 ∧ v.funcs = u.funcs ∧ v.depth = u.depth ∧ ovN v = 0 ∧ Ex.tall e' = maxE 0 args + 1) (lo_expr (by ((try simp only [Lm, Po, PoE, Nx, maxE, maxS, maxO, maxE_app, maxS_app, and_true, true_and] at *) <;> omega)) (by ((try simp only [Lm, Po, PoE, Nx, maxE, maxS, maxO, maxE_app, maxS_app, and_true, true_and] at *) <;> omega)) (by ((try simp only [Lm, Po, PoE, Nx, maxE, maxS, maxO, maxE_app, maxS_app, and_true, true_and] at *) <;> omega)) (fun e' v a1 a2 a3 a4 a5 a6 => by ((try simp only [Lm, Po, PoE, Nx, maxE, maxS, maxO, maxE_app, maxS_app, and_true, true_and] at *) <;> omega))) (fun e' v hv => ?_)
        exact (ih.ploop e' v M (by ((try simp only [Lm, Po, PoE, Nx, maxE, maxS, maxO, maxE_app, maxS_app, and_true, true_and] at *) <;> omega)) (by ((try simp only [Lm, Po, PoE, Nx, maxE, maxS, maxO, maxE_app, maxS_app, and_true, true_and] at *) <;> omega)) (by ((try simp only [Lm, Po, PoE, Nx, maxE, maxS, maxO, maxE_app, maxS_app, and_true, true_and] at *) <;> omega)) h3).mono (fun e'' x hx => by ((try simp only [Lm, Po, PoE, Nx, maxE, maxS, maxO, maxE_app, maxS_app, and_true, true_and] at *) <;> omega))
      unfold postLoop
      refine Lo.may (fun t ht => ?_) ?_
      · simp only [if_true]
        refine Lo.bind (ih.binary 0 t (by ((try simp only [Lm, Po, PoE, Nx, maxE, maxS, maxO, maxE_app, maxS_app, and_true, true_and] at *) <;> omega))) (fun i u hu => ?_)
        refine Lo.bind (lo_must _) (fun _ v hv => ?_)
        exact hend _ _ v _ (by ((try simp only [Lm, Po, PoE, Nx, maxE, maxS, maxO, maxE_app, maxS_app, and_true, true_and] at *) <;> omega)) (by ((try simp only [Lm, Po, PoE, Nx, maxE, maxS, maxO, maxE_app, maxS_app, and_true, true_and] at *) <;> omega)) (by ((try simp only [Lm, Po, PoE, Nx, maxE, maxS, maxO, maxE_app, maxS_app, and_true, true_and] at *) <;> omega)) (by ((try simp only [Lm, Po, PoE, Nx, maxE, maxS, maxO, maxE_app, maxS_app, and_true, true_and] at *) <;> omega)) (by ((try simp only [Lm, Po, PoE, Nx, maxE, maxS, maxO, maxE_app, maxS_app, and_true, true_and] at *) <;> omega))
      · simp only [Bool.false_eq_true, if_false]
        refine Lo.may (fun t ht => ?_) ?_
        · simp only [if_true]
          exact Lo.bind lo_name (fun n v hv => hend _ _ v _ (by ((try simp only [Lm, Po, PoE, Nx, maxE, maxS, maxO, maxE_app, maxS_app, and_true, true_and] at *) <;> omega)) (by ((try simp only [Lm, Po, PoE, Nx, maxE, maxS, maxO, maxE_app, maxS_app, and_true, true_and] at *) <;> omega)) (by ((try simp only [Lm, Po, PoE, Nx, maxE, maxS, maxO, maxE_app, maxS_app, and_true, true_and] at *) <;> omega)) (by ((try simp only [Lm, Po, PoE, Nx, maxE, maxS, maxO, maxE_app, maxS_app, and_true, true_and] at *) <;> omega)) (by ((try simp only [Lm, Po, PoE, Nx, maxE, maxS, maxO, maxE_app, maxS_app, and_true, true_and] at *) <;> omega)))
        · simp only [Bool.false_eq_true, if_false]
          refine Lo.may (fun t ht => ?_) ?_
          · simp only [if_true]
            exact Lo.bind lo_name (fun n v hv => hend _ _ v _ (by ((try simp only [Lm, Po, PoE, Nx, maxE, maxS, maxO, maxE_app, maxS_app, and_true, true_and] at *) <;> omega)) (by ((try simp only [Lm, Po, PoE, Nx, maxE, maxS, maxO, maxE_app, maxS_app, and_true, true_and] at *) <;> omega)) (by ((try simp only [Lm, Po, PoE, Nx, maxE, maxS, maxO, maxE_app, maxS_app, and_true, true_and] at *) <;> omega)) (by ((try simp only [Lm, Po, PoE, Nx, maxE, maxS, maxO, maxE_app, maxS_app, and_true, true_and] at *) <;> omega)) (by ((try simp only [Lm, Po, PoE, Nx, maxE, maxS, maxO, maxE_app, maxS_app, and_true, true_and] at *) <;> omega)))
          · simp only [Bool.false_eq_true, if_false]
            refine Lo.pure ?_; ((try simp only [Lm, Po, PoE, Nx, maxE, maxS, maxO, maxE_app, maxS_app, and_true, true_and] at *) <;> omega)
    · intro s hL
      have hend : ∀ (k n : Int) (nm ty : Bs) (u : Sx), u.ws.length + 1 ≤ s.ws.length → u.nodes = s.nodes → u.funcs = s.funcs → u.depth = s.depth → ovN u = 0 → Lo (exprP k [] nm n ty []) u (PoE s) := by
        intro k n nm ty u c1 c2 c3 c4 c5
        exact lo_expr (by ((try simp only [Lm, Po, PoE, Nx, maxE, maxS, maxO, maxE_app, maxS_app, and_true, true_and] at *) <;> omega)) (by ((try simp only [Lm, Po, PoE, Nx, maxE, maxS, maxO, maxE_app, maxS_app, and_true, true_and] at *) <;> omega)) (by ((try simp only [Lm, Po, PoE, Nx, maxE, maxS, maxO, maxE_app, maxS_app, and_true, true_and] at *) <;> omega)) (fun e' v a1 a2 a3 a4 a5 a6 => by ((try simp only [Lm, Po, PoE, Nx, maxE, maxS, maxO, maxE_app, maxS_app, and_true, true_and] at *) <;> omega))
      unfold primaryP
      refine Lo.ask rfl ?_
      split
      · exact (ih.within s hL).mono (fun _ _ h => h.1)
      · refine Lo.may (fun t ht => ?_) ?_
        · simp only [if_true]
          refine Lo.bind (lo_must _) (fun _ t2 ht2 => Lo.bind (lo_must _) (fun _ t3 ht3 => ?_))
          exact hend _ _ _ _ _ (by ((try simp only [Lm, Po, PoE, Nx, maxE, maxS, maxO, maxE_app, maxS_app, and_true, true_and] at *) <;> omega)) (by ((try simp only [Lm, Po, PoE, Nx, maxE, maxS, maxO, maxE_app, maxS_app, and_true, true_and] at *) <;> omega)) (by ((try simp only [Lm, Po, PoE, Nx, maxE, maxS, maxO, maxE_app, maxS_app, and_true, true_and] at *) <;> omega)) (by ((try simp only [Lm, Po, PoE, Nx, maxE, maxS, maxO, maxE_app, maxS_app, and_true, true_and] at *) <;> omega)) (by ((try simp only [Lm, Po, PoE, Nx, maxE, maxS, maxO, maxE_app, maxS_app, and_true, true_and] at *) <;> omega))
        · simp only [Bool.false_eq_true, if_false]
          refine Lo.may (fun t ht => ?_) ?_
          · simp only [if_true]
            refine Lo.bind (lo_must _) (fun _ t2 ht2 => Lo.bind typ_lo (fun _ t3 ht3 => Lo.bind array_lo (fun _ t4 ht4 => Lo.bind (lo_must _) (fun _ t5 ht5 => ?_))))
            exact hend _ _ _ _ _ (by ((try simp only [Lm, Po, PoE, Nx, maxE, maxS, maxO, maxE_app, maxS_app, and_true, true_and] at *) <;> omega)) (by ((try simp only [Lm, Po, PoE, Nx, maxE, maxS, maxO, maxE_app, maxS_app, and_true, true_and] at *) <;> omega)) (by ((try simp only [Lm, Po, PoE, Nx, maxE, maxS, maxO, maxE_app, maxS_app, and_true, true_and] at *) <;> omega)) (by ((try simp only [Lm, Po, PoE, Nx, maxE, maxS, maxO, maxE_app, maxS_app, and_true, true_and] at *) <;> omega)) (by ((try simp only [Lm, Po, PoE, Nx, maxE, maxS, maxO, maxE_app, maxS_app, and_true, true_and] at *) <;> omega))
          · simp only [Bool.false_eq_true, if_false]
            refine Lo.ask rfl ?_
            split
            · exact Lo.bind lo_take (fun w t ht => hend _ _ _ _ _ (by ((try simp only [Lm, Po, PoE, Nx, maxE, maxS, maxO, maxE_app, maxS_app, and_true, true_and] at *) <;> omega)) (by ((try simp only [Lm, Po, PoE, Nx, maxE, maxS, maxO, maxE_app, maxS_app, and_true, true_and] at *) <;> omega)) (by ((try simp only [Lm, Po, PoE, Nx, maxE, maxS, maxO, maxE_app, maxS_app, and_true, true_and] at *) <;> omega)) (by ((try simp only [Lm, Po, PoE, Nx, maxE, maxS, maxO, maxE_app, maxS_app, and_true, true_and] at *) <;> omega)) (by ((try simp only [Lm, Po, PoE, Nx, maxE, maxS, maxO, maxE_app, maxS_app, and_true, true_and] at *) <;> omega)))
            · refine Lo.bind lo_name (fun nm t ht => ?_)
              refine Lo.may (fun t2 ht2 => ?_) ?_
              · simp only [if_true]
                have key : ∀ m t3, Nx 0 t2 t3 → Lo (do
                    let args ← argsP f m []
                    exprP 6 [] nm 0 [] args) t3 (PoE s) := by
                  intro m t3 ht3
                  refine Lo.bind (ih.args m [] t3 (s.ws.length - 2) (by ((try simp only [Lm, Po, PoE, Nx, maxE, maxS, maxO, maxE_app, maxS_app, and_true, true_and] at *) <;> omega)) (by ((try simp only [Lm, Po, PoE, Nx, maxE, maxS, maxO, maxE_app, maxS_app, and_true, true_and] at *) <;> omega)) (by ((try simp only [Lm, Po, PoE, Nx, maxE, maxS, maxO, maxE_app, maxS_app, and_true, true_and] at *) <;> omega)) (by ((try simp only [Lm, Po, PoE, Nx, maxE, maxS, maxO, maxE_app, maxS_app, and_true, true_and] at *) <;> omega))) (fun l u hu => ?_)
                  exact lo_expr (by ((try simp only [Lm, Po, PoE, Nx, maxE, maxS, maxO, maxE_app, maxS_app, and_true, true_and] at *) <;> omega)) (by ((try simp only [Lm, Po, PoE, Nx, maxE, maxS, maxO, maxE_app, maxS_app, and_true, true_and] at *) <;> omega)) (by ((try simp only [Lm, Po, PoE, Nx, maxE, maxS, maxO, maxE_app, maxS_app, and_true, true_and] at *) <;> omega)) (fun e' v a1 a2 a3 a4 a5 a6 => by ((try simp only [Lm, Po, PoE, Nx, maxE, maxS, maxO, maxE_app, maxS_app, and_true, true_and] at *) <;> omega))
                exact Lo.may (fun t3 ht3 => key _ t3 (by ((try simp only [Lm, Po, PoE, Nx, maxE, maxS, maxO, maxE_app, maxS_app, and_true, true_and] at *) <;> omega))) (key _ t2 (by ((try simp only [Lm, Po, PoE, Nx, maxE, maxS, maxO, maxE_app, maxS_app, and_true, true_and] at *) <;> omega)))
              · simp only [Bool.false_eq_true, if_false]
                exact hend _ _ _ _ _ (by ((try simp only [Lm, Po, PoE, Nx, maxE, maxS, maxO, maxE_app, maxS_app, and_true, true_and] at *) <;> omega)) (by ((try simp only [Lm, Po, PoE, Nx, maxE, maxS, maxO, maxE_app, maxS_app, and_true, true_and] at *) <;> omega)) (by ((try simp only [Lm, Po, PoE, Nx, maxE, maxS, maxO, maxE_app, maxS_app, and_true, true_and] at *) <;> omega)) (by ((try simp only [Lm, Po, PoE, Nx, maxE, maxS, maxO, maxE_app, maxS_app, and_true, true_and] at *) <;> omega)) (by ((try simp only [Lm, Po, PoE, Nx, maxE, maxS, maxO, maxE_app, maxS_app, and_true, true_and] at *) <;> omega))
    · intro s hL
      unfold withinP
      refine Lo.bind (lo_must _) (fun _ t ht => ?_)
      refine Lo.bind (ih.binary 0 t (by ((try simp only [Lm, Po, PoE, Nx, maxE, maxS, maxO, maxE_app, maxS_app, and_true, true_and] at *) <;> omega))) (fun e u hu => ?_)
      exact Lo.bind (lo_must _) (fun _ v hv => Lo.pure (by ((try simp only [Lm, Po, PoE, Nx, maxE, maxS, maxO, maxE_app, maxS_app, and_true, true_and] at *) <;> omega)))
    · intro more l s M hL h1 h2 h3
      unfold argsP
      cases more
      · simp only [Bool.false_eq_true, if_false]
        refine Lo.pure ?_; ((try simp only [Lm, Po, PoE, Nx, maxE, maxS, maxO, maxE_app, maxS_app, and_true, true_and] at *) <;> omega)
      · simp only [if_true]
        refine Lo.bind (ih.binary 0 s (by ((try simp only [Lm, Po, PoE, Nx, maxE, maxS, maxO, maxE_app, maxS_app, and_true, true_and] at *) <;> omega))) (fun e u hu => ?_)
        refine Lo.may (fun t ht => ?_) ?_
        · simp only [if_true]
          exact (ih.args true (l ++ [e]) t M (by ((try simp only [Lm, Po, PoE, Nx, maxE, maxS, maxO, maxE_app, maxS_app, and_true, true_and] at *) <;> omega)) (by ((try simp only [Lm, Po, PoE, Nx, maxE, maxS, maxO, maxE_app, maxS_app, and_true, true_and] at *) <;> omega)) (by ((try simp only [Lm, Po, PoE, Nx, maxE, maxS, maxO, maxE_app, maxS_app, and_true, true_and] at *) <;> omega)) h3).mono (fun _ x hx => by ((try simp only [Lm, Po, PoE, Nx, maxE, maxS, maxO, maxE_app, maxS_app, and_true, true_and] at *) <;> omega))
        · simp only [Bool.false_eq_true, if_false]
          refine Lo.bind (lo_must _) (fun _ t ht => ?_)
          exact (ih.args false (l ++ [e]) t M (by ((try simp only [Lm, Po, PoE, Nx, maxE, maxS, maxO, maxE_app, maxS_app, and_true, true_and] at *) <;> omega)) (by ((try simp only [Lm, Po, PoE, Nx, maxE, maxS, maxO, maxE_app, maxS_app, and_true, true_and] at *) <;> omega)) (by ((try simp only [Lm, Po, PoE, Nx, maxE, maxS, maxO, maxE_app, maxS_app, and_true, true_and] at *) <;> omega)) h3).mono (fun _ x hx => by ((try simp only [Lm, Po, PoE, Nx, maxE, maxS, maxO, maxE_app, maxS_app, and_true, true_and] at *) <;> omega))
end Go.Proofs.YtjgpbpmicopemaaGreatDoor
