import Derived.Test.YtjgpbpmicopemaaGreatDoorPb07

namespace Go.Proofs.YtjgpbpmicopemaaGreatDoor
open Go.RowKit
def Sx.ds (s : Sx) : List Wd := s.ws.map It.d
theorem ds_nil {s : Sx} (h : s.ds = []) : s.ws = [] := List.map_eq_nil_iff.1 h
theorem ds_of_nil {s : Sx} (h : s.ws = []) : s.ds = [] := by unfold Sx.ds; rw [h]; rfl
theorem ds_cons {s : Sx} {x : Wd} {l : List Wd} (h : s.ds = x :: l) : ∃ y ys, s.ws = y :: ys ∧ y.d = x ∧ ys.map It.d = l := by
  unfold Sx.ds at h
  cases hw : s.ws with
  | nil => rw [hw] at h; cases h
  | cons y ys => rw [hw] at h; cases h; exact ⟨y, ys, rfl, rfl, rfl⟩
def isW : List Wd → Bs → Bool
  | [], _ => false
  | x :: _, t => x.t == t && decide (3 ≤ x.k)
def anyW (ws : List Wd) (l : List Bs) : Bool := l.any (isW ws)
def kindW : List Wd → Int → Bool
  | [], _ => false
  | x :: _, k => decide (x.k = k)
def typedW (ws : List Wd) : Bool := anyW ws typeWs
theorem isB_W (ws : List It) (t : Bs) : isB ws t = isW (ws.map It.d) t := by cases ws <;> rfl
theorem anyB_W (ws : List It) (l : List Bs) : anyB ws l = anyW (ws.map It.d) l := by
  unfold anyB anyW
  congr 1
  funext t
  exact isB_W ws t
theorem kindB_W (ws : List It) (k : Int) : kindB ws k = kindW (ws.map It.d) k := by cases ws <;> rfl
theorem typedB_W (ws : List It) : typedB ws = typedW (ws.map It.d) := anyB_W ws _
def Sub (r x : List Wd) : Prop := r = [] ∨ r.head? = x.head? ∨ (isW x [59] = true ∧ isW r [41] = true)
theorem Sub.app {r x : List Wd} (c : List Wd) (h : Sub r x) : Sub (c ++ r) (c ++ x) := by
  cases c with
  | nil => exact h
  | cons y c => exact .inr (.inl rfl)
def Ends {α : Type} : Re α → Prop
  | .out => True
  | .bad t => t.ds = []
  | .ok _ t => t.ds = []
def Con {α : Type} (g : Pr α) : Prop := ∀ s a t, g s = .ok a t → t.ds.length < s.ds.length
structure Ah {α : Type} (g : Pr α) : Prop where
  ok : ∀ s a t, g s = .ok a t → t.ds <:+ s.ds
  bad : ∀ s t, g s = .bad t → t.ds <:+ s.ds
  go : ∀ s a t c, g s = .ok a t → s.ds = c ++ t.ds → ∀ s' r, s'.ds = c ++ r → Sub r t.ds → ∃ t', g s' = .ok a t' ∧ t'.ds = r
  cut : ∀ s a t c, g s = .ok a t → s.ds = c ++ t.ds → ∀ s' d, d ≠ [] → s'.ds ++ d = c → Ends (g s')
section
variable {α β : Type} {g : Pr α} {h : α → Pr β}
theorem Ah.none (hg : Ah g) (s : Sx) (h0 : s.ds = []) : Ends (g s) := by
  cases e : g s with
  | out => trivial
  | bad t => have := hg.bad _ _ e; rw [h0] at this; exact List.suffix_nil.1 this
  | ok a t => have := hg.ok _ _ _ e; rw [h0] at this; exact List.suffix_nil.1 this
theorem Ah.bind (hg : Ah g) (hh : ∀ a, Ah (h a)) : Ah (g >>= h) := by
  constructor
  · intro s b u e
    cases x : g s with
    | out => rw [bind_out x] at e; cases e
    | bad t => rw [bind_bad x] at e; cases e
    | ok a t => rw [bind_ok x] at e; exact ((hh a).ok _ _ _ e).trans (hg.ok _ _ _ x)
  · intro s u e
    cases x : g s with
    | out => rw [bind_out x] at e; cases e
    | bad t => rw [bind_bad x] at e; cases e; exact hg.bad _ _ x
    | ok a t => rw [bind_ok x] at e; exact ((hh a).bad _ _ e).trans (hg.ok _ _ _ x)
  · intro s b u c e hc s' r hs hr
    cases x : g s with
    | out => rw [bind_out x] at e; cases e
    | bad t => rw [bind_bad x] at e; cases e
    | ok a t =>
      rw [bind_ok x] at e
      obtain ⟨c1, h1⟩ := hg.ok _ _ _ x
      obtain ⟨c2, h2⟩ := (hh a).ok _ _ _ e
      have hcc : c = c1 ++ c2 := by
        rw [← h1, ← h2, ← List.append_assoc] at hc
        exact (List.append_cancel_right hc).symm
      subst hcc
      obtain ⟨t', x', ht'⟩ := hg.go s a t c1 x h1.symm s' (c2 ++ r) (by rw [hs, List.append_assoc]) (by rw [← h2]; exact hr.app c2)
      obtain ⟨u', y', hu'⟩ := (hh a).go t b u c2 e h2.symm t' r ht' hr
      exact ⟨u', by rw [bind_ok x']; exact y', hu'⟩
  · intro s b u c e hc s' d hd hs
    cases x : g s with
    | out => rw [bind_out x] at e; cases e
    | bad t => rw [bind_bad x] at e; cases e
    | ok a t =>
      rw [bind_ok x] at e
      obtain ⟨c1, h1⟩ := hg.ok _ _ _ x
      obtain ⟨c2, h2⟩ := (hh a).ok _ _ _ e
      have hcc : c = c1 ++ c2 := by
        rw [← h1, ← h2, ← List.append_assoc] at hc
        exact (List.append_cancel_right hc).symm
      subst hcc
      rcases List.append_eq_append_iff.1 hs with ⟨d1, hd1, hd2⟩ | ⟨c3, hc3, hd3⟩
      · -- c1 = s'.ds ++ d1
        by_cases hn : d1 = []
        · subst hn
          rw [List.append_nil] at hd1
          obtain ⟨t', x', ht'⟩ := hg.go s a t c1 x h1.symm s' [] (by rw [hd1, List.append_nil]) (.inl rfl)
          rw [bind_ok x']
          exact (hh a).none _ ht'
        · have := hg.cut s a t c1 x h1.symm s' d1 hn hd1.symm
          cases y : g s' with
          | out => rw [bind_out y]; trivial
          | bad t' => rw [bind_bad y]; rw [y] at this; exact this
          | ok a' t' => rw [bind_ok y]; rw [y] at this; exact (hh a').none _ this
      · obtain ⟨t', x', ht'⟩ := hg.go s a t c1 x h1.symm s' c3 hc3 (by
          rw [← h2, hd3]
          cases c3 with
          | nil => exact .inl rfl
          | cons y c3 => exact .inr (.inl rfl))
        rw [bind_ok x']
        exact (hh a).cut t b u c2 e h2.symm t' d hd (by rw [ht']; exact hd3.symm)
theorem Ah.still (v : α) (hg : ∀ s, ∃ t, g s = .ok v t ∧ t.ds = s.ds) : Ah g := by
  constructor
  · intro s a t e
    obtain ⟨t', e', hw⟩ := hg s
    rw [e] at e'; cases e'
    rw [hw]
    exact List.suffix_refl _
  · intro s t e
    obtain ⟨t', e', hw⟩ := hg s
    rw [e] at e'; cases e'
  · intro s a t c e hc s' r hs _
    obtain ⟨t', e', hw⟩ := hg s
    rw [e] at e'; cases e'
    rw [hw] at hc
    have hc0 : c = [] := List.append_cancel_right (bs := s.ds) (by simpa using hc.symm)
    subst hc0
    obtain ⟨u, e', hu⟩ := hg s'
    exact ⟨u, e', by rw [hu, hs]; rfl⟩
  · intro s a t c e hc s' d hd hs
    obtain ⟨t', e', hw⟩ := hg s
    rw [e] at e'; cases e'
    rw [hw] at hc
    have hc0 : c = [] := List.append_cancel_right (bs := s.ds) (by simpa using hc.symm)
    rw [hc0] at hs
    exact absurd (List.append_eq_nil_iff.1 hs).2 hd
theorem Ah.word (p : Wd → Bool) (v : Wd → α) (h0 : ∀ s, s.ws = [] → Ends (g s)) (h0' : ∀ s a t, s.ws = [] → g s ≠ .ok a t) (h1 : ∀ s x l, s.ws = x :: l → p x.d = true → ∃ t, g s = .ok (v x.d) t ∧ t.ws = l) (h2 : ∀ s x l, s.ws = x :: l → p x.d = false → g s = .bad s) : Ah g := by
  have key : ∀ s a t, g s = .ok a t → ∃ x, s.ds = x :: t.ds ∧ p x = true ∧ a = v x := by
    intro s a t e
    cases hw : s.ws with
    | nil => exact absurd e (h0' s a t hw)
    | cons x l =>
      cases hp : p x.d
      · have := h2 s x l hw hp
        rw [e] at this; cases this
      · obtain ⟨t', e', hl⟩ := h1 s x l hw hp
        rw [e] at e'; cases e'
        exact ⟨x.d, by unfold Sx.ds; rw [hw, hl]; rfl, hp, rfl⟩
  constructor
  · intro s a t e
    obtain ⟨x, hx, -, -⟩ := key s a t e
    exact ⟨[x], by rw [hx]; rfl⟩
  · intro s t e
    cases hw : s.ws with
    | nil => have := h0 s hw; rw [e] at this; rw [show t.ds = [] from this]; exact List.nil_suffix
    | cons x l =>
      cases hp : p x.d
      · have := h2 s x l hw hp
        rw [e] at this; cases this
        exact List.suffix_refl _
      · obtain ⟨t', e', hl⟩ := h1 s x l hw hp
        rw [e] at e'; cases e'
  · intro s a t c e hc s' r hs _
    obtain ⟨x, hx, hp, rfl⟩ := key s a t e
    rw [hx] at hc
    have hc1 : c = [x] := List.append_cancel_right (bs := t.ds) (by simpa using hc.symm)
    subst hc1
    obtain ⟨y, ys, hy, rfl, hys⟩ := ds_cons hs
    obtain ⟨t', e', hl⟩ := h1 s' y ys hy hp
    exact ⟨t', e', by unfold Sx.ds; rw [hl]; exact hys⟩
  · intro s a t c e hc s' d hd hs
    obtain ⟨x, hx, hp, rfl⟩ := key s a t e
    rw [hx] at hc
    have hc1 : c = [x] := List.append_cancel_right (bs := t.ds) (by simpa using hc.symm)
    subst hc1
    cases hw : s'.ds with
    | nil => exact h0 s' (ds_nil hw)
    | cons y l =>
      rw [hw] at hs
      simp at hs
      exact absurd hs.2.2 hd
theorem Ah.fail : Ah (failP : Pr α) := by
  constructor
  · intro s a t e; cases e
  · intro s t e; cases e; exact List.suffix_refl _
  · intro s a t c e; cases e
  · intro s a t c e; cases e
theorem Ah.out : Ah (fun _ => .out : Pr α) := by
  constructor
  · intro s a t e; cases e
  · intro s t e; cases e
  · intro s a t c e; cases e
  · intro s a t c e; cases e
theorem Ah.deep (hg : Ah g) : Ah (deepP g) := by
  have key : ∀ s a t, deepP g s = .ok a t → ∃ u, g s.down = .ok a u ∧ u.ds = t.ds := by
    intro s a t e
    unfold deepP at e
    cases x : g s.down with
    | out => rw [x] at e; cases e
    | bad u => rw [x] at e; cases e
    | ok b u => rw [x] at e; cases e; exact ⟨u, rfl, rfl⟩
  constructor
  · intro s a t e
    obtain ⟨u, x, hu⟩ := key s a t e
    rw [← hu]
    exact hg.ok s.down _ _ x
  · intro s t e
    unfold deepP at e
    cases x : g s.down with
    | out => rw [x] at e; cases e
    | bad u => rw [x] at e; cases e; exact hg.bad s.down _ x
    | ok b u => rw [x] at e; cases e
  · intro s a t c e hc s' r hs hr
    obtain ⟨u, x, hu⟩ := key s a t e
    obtain ⟨t', e', ht⟩ := hg.go s.down a u c x (by rw [hu]; exact hc) s'.down r hs (by rw [hu]; exact hr)
    exact ⟨t'.up, by unfold deepP; rw [e'], ht⟩
  · intro s a t c e hc s' d hd hs
    obtain ⟨u, x, hu⟩ := key s a t e
    have := hg.cut s.down a u c x (by rw [hu]; exact hc) s'.down d hd hs
    unfold deepP
    cases y : g s'.down with
    | out => trivial
    | bad u => rw [y] at this; exact this
    | ok b u => rw [y] at this; exact this
theorem Con.left (hg : Con g) (hh : ∀ a, Ah (h a)) : Con (g >>= h) := by
  intro s b u e
  cases x : g s with
  | out => rw [bind_out x] at e; cases e
  | bad t => rw [bind_bad x] at e; cases e
  | ok a t => rw [bind_ok x] at e; have := ((hh a).ok _ _ _ e).length_le; have := hg _ _ _ x; omega
theorem Con.right (hg : Ah g) (hh : ∀ a, Con (h a)) : Con (g >>= h) := by
  intro s b u e
  cases x : g s with
  | out => rw [bind_out x] at e; cases e
  | bad t => rw [bind_bad x] at e; cases e
  | ok a t => rw [bind_ok x] at e; have := (hg.ok _ _ _ x).length_le; have := hh _ _ _ _ e; omega
theorem Con.deep (hg : Con g) : Con (deepP g) := by
  intro s a t e
  unfold deepP at e
  cases x : g s.down with
  | out => rw [x] at e; cases e
  | bad u => rw [x] at e; cases e
  | ok b u => rw [x] at e; cases e; exact (hg s.down _ _ x : u.ds.length < s.ds.length)
theorem Con.out : Con (fun _ => .out : Pr α) := by intro s a t e; cases e
theorem Con.fail : Con (failP : Pr α) := by intro s a t e; cases e
structure Asks (f : List Wd → Bool) : Prop where
  nil : f [] = false
  one : ∀ x l l', f (x :: l) = f (x :: l')
  no : ∀ r x, Sub r x → f x = false → f r = false
structure Asks1 (f : List Wd → Bool) : Prop where
  nil : f [] = false
  one : ∀ x l l', f (x :: l) = f (x :: l')
theorem isW_one (t : Bs) (x : Wd) (l l' : List Wd) : isW (x :: l) t = isW (x :: l') t := rfl
theorem isW_two {l : List Wd} {t t' : Bs} (h : isW l t = true) (h' : isW l t' = true) : t = t' := by
  cases l with
  | nil => simp [isW] at h
  | cons x l =>
    simp only [isW, Bool.and_eq_true, beq_iff_eq] at h h'
    exact h.1.symm.trans h'.1
theorem isW_kind {l : List Wd} {t : Bs} (h : isW l t = true) : kindW l 2 = false ∧ kindW l 1 = false := by
  cases l with
  | nil => simp [isW] at h
  | cons x l =>
    simp only [isW, Bool.and_eq_true, decide_eq_true_eq] at h
    simp only [kindW, decide_eq_false_iff_not]
    omega
theorem head_one {f : List Wd → Bool} (_h0 : f [] = false) (h1 : ∀ x l l', f (x :: l) = f (x :: l')) {r x : List Wd} (h : r.head? = x.head?) : f r = f x := by
  cases r with
  | nil => cases x with
    | nil => rfl
    | cons y x => cases h
  | cons z r => cases x with
    | nil => cases h
    | cons y x => cases h; exact h1 _ _ _
theorem Asks.mk' {f : List Wd → Bool} (h0 : f [] = false) (h1 : ∀ x l l', f (x :: l) = f (x :: l')) (h2 : ∀ r, isW r [41] = true → f r = false) : Asks f :=
  ⟨h0, h1, fun r x hs hx => by
    rcases hs with rfl | hh | ⟨-, hb⟩
    · exact h0
    · rw [head_one h0 h1 hh]; exact hx
    · exact h2 r hb⟩
theorem asks_is {t : Bs} (ht : t ≠ [41]) : Asks (fun ws => isW ws t) :=
  .mk' rfl (fun _ _ _ => rfl) (fun r hr => by
    cases hx : isW r t
    · rfl
    · exact absurd (isW_two hx hr) ht)
theorem anyW_one (l : List Bs) (x : Wd) (r r' : List Wd) : anyW (x :: r) l = anyW (x :: r') l := rfl
theorem asks_any {l : List Bs} (ht : [41] ∉ l) : Asks (fun ws => anyW ws l) := by
  refine .mk' ?_ (fun _ _ _ => rfl) (fun r hr => ?_)
  · have := anyB_W [] l
    cases hb : anyB [] l with
    | false => rw [hb] at this; exact this.symm
    | true => exact absurd rfl (anyB_ne hb)
  · cases hx : anyW r l
    · rfl
    · unfold anyW at hx
      rw [List.any_eq_true] at hx
      obtain ⟨t, h1, h2⟩ := hx
      rw [isW_two h2 hr] at h1
      exact absurd h1 ht
theorem asks_typed : Asks typedW := asks_any (l := typeWs) (by decide)
theorem asks_kind : Asks (fun ws => kindW ws 2) := .mk' rfl (fun _ _ _ => rfl) (fun _ hr => (isW_kind hr).1)
theorem Ah.ask {q : Pr Bool} {f : List Wd → Bool} (hf : Asks f) (hq : ∀ s, q s = .ok (f s.ds) s) {h : Bool → Pr β} (h1 : Ah (h true)) (h0 : Ah (h false)) (hc : Con (h true)) : Ah (q >>= h) := by
  have e : ∀ s, (q >>= h) s = h (f s.ds) s := fun s => bind_ok (hq s)
  constructor
  · intro s b u x
    rw [e] at x
    cases hb : f s.ds <;> rw [hb] at x
    · exact h0.ok _ _ _ x
    · exact h1.ok _ _ _ x
  · intro s u x
    rw [e] at x
    cases hb : f s.ds <;> rw [hb] at x
    · exact h0.bad _ _ x
    · exact h1.bad _ _ x
  · intro s b u c x hcc s' r hs hr
    rw [e] at x ⊢
    cases hb : f s.ds <;> rw [hb] at x
    · have : f s'.ds = false := by
        cases c with
        | nil => rw [hs]; rw [hcc] at hb; exact hf.no r u.ds hr hb
        | cons y c => rw [hs, List.cons_append, hf.one y _ (c ++ u.ds)]; rw [hcc] at hb; exact hb
      rw [this]
      exact h0.go _ _ _ _ x hcc _ _ hs hr
    · have hlt := hc _ _ _ x
      cases c with
      | nil => rw [hcc] at hlt; simp at hlt
      | cons y c =>
        have : f s'.ds = true := by rw [hs, List.cons_append, hf.one y _ (c ++ u.ds)]; rw [hcc] at hb; exact hb
        rw [this]
        exact h1.go _ _ _ _ x hcc _ _ hs hr
  · intro s b u c x hcc s' d hd hs
    rw [e] at x ⊢
    cases hw : s'.ds with
    | nil =>
      rw [hf.nil]
      exact h0.none _ hw
    | cons y l =>
      have hb' : f s.ds = f (y :: l) := by
        rw [hcc, ← hs, hw]
        exact hf.one _ _ _
      rw [hb'] at x
      cases hb : f (y :: l) <;> rw [hb] at x
      · exact h0.cut _ _ _ _ x hcc _ _ hd hs
      · exact h1.cut _ _ _ _ x hcc _ _ hd hs
theorem Con.ask {q : Pr Bool} {f : List Wd → Bool} (hq : ∀ s, q s = .ok (f s.ds) s) {h : Bool → Pr β} (h1 : Con (h true)) (h0 : Con (h false)) : Con (q >>= h) := by
  intro s b u x
  rw [bind_ok (hq s)] at x
  cases hb : f s.ds <;> rw [hb] at x
  · exact h0 _ _ _ x
  · exact h1 _ _ _ x
theorem Ah.pure (a : α) : Ah (Pure.pure a : Pr α) := Ah.still a (fun s => ⟨s, rfl, rfl⟩)
theorem Ah.must (t : Bs) : Ah (mustP t) :=
  Ah.word (fun x => isW [x] t) (fun _ => ()) (fun s h => by unfold mustP; rw [h]; exact ds_of_nil h) (fun s a u h => by unfold mustP; rw [h]; simp [isB]) (fun s x l h hp => ⟨{ s with ws := l }, by unfold mustP; rw [h]; rw [if_pos (by simpa [isB, isW] using hp)]; rfl, rfl⟩) (fun s x l h hp => by unfold mustP; rw [h, if_neg (by rw [show isB (x :: l) t = isW [x.d] t from rfl, hp]; simp)])
def takeD : Pr Wd := fun s => match s.ws with
  | [] => .out
  | x :: xs => .ok x.d { s with ws := xs }
theorem Ah.takeD : Ah takeD :=
  Ah.word (fun _ => true) id (fun s h => by unfold Go.Proofs.YtjgpbpmicopemaaGreatDoor.takeD; rw [h]; trivial) (fun s a u h => by unfold Go.Proofs.YtjgpbpmicopemaaGreatDoor.takeD; rw [h]; simp) (fun s x l h _ => ⟨{ s with ws := l }, by unfold Go.Proofs.YtjgpbpmicopemaaGreatDoor.takeD; rw [h]; rfl, rfl⟩) (fun s x l h hp => by cases hp)
theorem Ah.take {h : It → Pr β} (hk : ∀ w, Ah (h w)) (he : ∀ w w', w.d = w'.d → h w = h w') : Ah (takeP >>= h) := by
  have e : (takeP >>= h) = (Go.Proofs.YtjgpbpmicopemaaGreatDoor.takeD >>= fun d => h ⟨d, (0, 0), false⟩) := by
    funext s
    cases hw : s.ws with
    | nil => rw [bind_out (show takeP s = .out by unfold takeP; rw [hw]), bind_out (show Go.Proofs.YtjgpbpmicopemaaGreatDoor.takeD s = .out by unfold Go.Proofs.YtjgpbpmicopemaaGreatDoor.takeD; rw [hw])]
    | cons x l =>
      rw [bind_ok (show takeP s = .ok x { s with ws := l } by unfold takeP; rw [hw]), bind_ok (show Go.Proofs.YtjgpbpmicopemaaGreatDoor.takeD s = .ok x.d { s with ws := l } by unfold Go.Proofs.YtjgpbpmicopemaaGreatDoor.takeD; rw [hw])]
      rw [he x ⟨x.d, (0, 0), false⟩ rfl]
  rw [e]
  exact Ah.bind Ah.takeD (fun d => hk _)
theorem Ah.name : Ah nameP :=
  Ah.word (fun x => decide (x.k = 1)) (fun x => x.t) (fun s h => by unfold nameP; rw [h]; exact ds_of_nil h) (fun s a u h => by unfold nameP; rw [h]; simp) (fun s x l h hp => ⟨{ s with ws := l }, by unfold nameP; rw [h]; simp only [decide_eq_true_eq] at hp; simp only [hp, if_true], rfl⟩) (fun s x l h hp => by unfold nameP; rw [h]; simp only [decide_eq_false_iff_not] at hp; simp only [if_neg hp])
theorem Ah.num : Ah numP :=
  Ah.word (fun x => decide (x.k = 2)) (fun x => Lib.itoa x.n) (fun s h => by unfold numP; rw [h]; exact ds_of_nil h) (fun s a u h => by unfold numP; rw [h]; simp) (fun s x l h hp => ⟨{ s with ws := l }, by unfold numP; rw [h]; simp only [decide_eq_true_eq] at hp; simp only [hp, if_true], rfl⟩) (fun s x l h hp => by unfold numP; rw [h]; simp only [decide_eq_false_iff_not] at hp; simp only [if_neg hp])
theorem Ah.expr {k n : Int} {op nm ty : Bs} {args : List Ex} : Ah (exprP k op nm n ty args) := Ah.still _ (fun _ => ⟨_, rfl, rfl⟩)
theorem Ah.stmt {k : Int} {nm ty : Bs} {e pl : Option Ex} {l : List St} : Ah (stmtP k nm ty e pl l) := Ah.still _ (fun _ => ⟨_, rfl, rfl⟩)
theorem Ah.func : Ah funcP := Ah.still _ (fun _ => ⟨_, rfl, rfl⟩)
theorem Con.of_sf (h : ∀ s a t, g s = .ok a t → t.ws.length + 1 ≤ s.ws.length) : Con g := fun s a t e => by have := h s a t e; simp only [Sx.ds, List.length_map]; omega
theorem Con.must (t : Bs) : Con (mustP t) := Con.of_sf fun s a u e => (Sf.must (t := t) (s := s)).2 a u e
theorem Con.take : Con takeP := Con.of_sf fun s a u e => by
  refine (Sf.take (s := s) ?_).2 a u e
  intro h
  unfold takeP at e
  rw [h] at e
  cases e
theorem Con.name : Con nameP := Con.of_sf fun s a u e => (Sf.name (s := s)).2 a u e
theorem Con.num : Con numP := Con.of_sf fun s a u e => (Sf.num (s := s)).2 a u e
def tailP : Pr Bool := fun s => match s.ws with
  | [] => .out
  | _ :: xs => .ok true { s with ws := xs }
theorem may_ask (t : Bs) : mayP t = (isP t >>= fun b => if b then tailP else Pure.pure false) := by
  funext s
  rw [bind_ok (rfl : isP t s = .ok (isB s.ws t) s)]
  unfold mayP
  cases hb : isB s.ws t
  · rfl
  · cases hw : s.ws with
    | nil => rw [hw] at hb; cases hb
    | cons x l => simp [tailP, hw]
theorem Ah.tail : Ah tailP :=
  Ah.word (fun _ => true) (fun _ => true) (fun s h => by unfold tailP; rw [h]; trivial) (fun s a u h => by unfold tailP; rw [h]; simp) (fun s x l h _ => ⟨{ s with ws := l }, by unfold tailP; rw [h], rfl⟩) (fun s x l h hp => by cases hp)
theorem Con.tail : Con tailP := by
  intro s a t e
  unfold tailP at e
  cases hw : s.ws with
  | nil => rw [hw] at e; cases e
  | cons x l => rw [hw] at e; cases e; simp [Sx.ds, hw]
theorem Ah.may0 {t : Bs} (ht : t ≠ [41]) : Ah (mayP t) := by
  rw [may_ask]
  exact Ah.ask (asks_is ht) (fun s => by show Re.ok _ _ = _; rw [isB_W]; rfl) (by simpa using Ah.tail) (by simpa using Ah.pure false) (by simpa using Con.tail)
theorem Ah.may {t : Bs} (ht : t ≠ [41]) {h : Bool → Pr β} (h1 : Ah (h true)) (h0 : Ah (h false)) : Ah (mayP t >>= h) :=
  Ah.bind (Ah.may0 ht) (fun b => by cases b; exact h0; exact h1)
theorem isB_ds (s : Sx) (t : Bs) : isB s.ws t = isW s.ds t := isB_W _ _
theorem tail_ds (s : Sx) : ({ s with ws := s.ws.tail } : Sx).ds = s.ds.tail := by unfold Sx.ds; simp
theorem isW_len {ws : List Wd} {t : Bs} (h : isW ws t = true) : ws.tail.length + 1 = ws.length := by
  cases ws with
  | nil => simp [isW] at h
  | cons x xs => simp
theorem may_eq (t : Bs) (h : Bool → Pr β) (s : Sx) : (mayP t >>= h) s = if isW s.ds t then h true { s with ws := s.ws.tail } else h false s := by
  rw [← isB_ds]
  cases hb : isB s.ws t
  · rw [bind_ok (show mayP t s = .ok false s by unfold mayP; simp [hb])]; rfl
  · rw [bind_ok (show mayP t s = .ok true { s with ws := s.ws.tail } by unfold mayP; simp [hb])]; rfl
theorem Con.may {t : Bs} {h : Bool → Pr β} (h1 : Ah (h true)) (h0 : Con (h false)) : Con (mayP t >>= h) := by
  intro s b u x
  rw [may_eq] at x
  cases hb : isW s.ds t <;> simp only [hb, if_true, Bool.false_eq_true, if_false] at x
  · exact h0 _ _ _ x
  · have := (h1.ok _ _ _ x).length_le
    have := isW_len hb
    rw [tail_ds] at *
    omega
theorem Ah.may41 {t : Bs} {h : Bool → Pr β} (h1 : Ah (h true)) (h0 : Ah (h false)) (hc : Con (h false)) : Ah (mayP t >>= h) := by
  have hcon : Con (mayP t >>= h) := Con.may h1 hc
  constructor
  · intro s b u x
    rw [may_eq] at x
    cases hb : isW s.ds t <;> simp only [hb, if_true, Bool.false_eq_true, if_false] at x
    · exact h0.ok _ _ _ x
    · have := h1.ok _ _ _ x
      rw [tail_ds] at this
      exact this.trans (List.tail_suffix _)
  · intro s u x
    rw [may_eq] at x
    cases hb : isW s.ds t <;> simp only [hb, if_true, Bool.false_eq_true, if_false] at x
    · exact h0.bad _ _ x
    · have := h1.bad _ _ x
      rw [tail_ds] at this
      exact this.trans (List.tail_suffix _)
  · intro s b u c x hcc s' r hs hr
    have hlt := hcon _ _ _ x
    cases c with
    | nil => rw [hcc] at hlt; simp at hlt
    | cons y c =>
      rw [may_eq] at x ⊢
      have hb' : isW s'.ds t = isW s.ds t := by rw [hs, hcc]; rfl
      rw [hb']
      cases hb : isW s.ds t <;> simp only [hb, if_true, Bool.false_eq_true, if_false] at x ⊢
      · exact h0.go _ _ _ _ x hcc _ _ hs hr
      · exact h1.go _ _ _ c x (by rw [tail_ds, hcc]; rfl) _ _ (by rw [tail_ds, hs]; rfl) hr
  · intro s b u c x hcc s' d hd hs
    rw [may_eq] at x ⊢
    cases hw : s'.ds with
    | nil =>
      simp only [isW, Bool.false_eq_true, if_false]
      exact h0.none _ hw
    | cons y l =>
      have hb' : isW (y :: l) t = isW s.ds t := by rw [hcc, ← hs, hw]; rfl
      rw [hb']
      cases hb : isW s.ds t <;> simp only [hb, if_true, Bool.false_eq_true, if_false] at x ⊢
      · exact h0.cut _ _ _ _ x hcc _ _ hd hs
      · rw [hw, List.cons_append] at hs
        exact h1.cut _ _ _ (l ++ d) x (by rw [tail_ds, hcc, ← hs]; rfl) _ d hd (by rw [tail_ds, hw]; rfl)
def starW : List Wd → Nat
  | [] => 0
  | x :: xs => if isW (x :: xs) [42] then starW xs + 1 else 0
theorem star_W : ∀ l : List It, starN l = starW (l.map It.d)
  | [] => rfl
  | x :: l => by simp only [starN, List.map_cons, starW, star_W l]; rfl
theorem Ah.stars (b : Bs) : Ah (starsP b) := by
  have h1 : ∀ (c r : List Wd), (∀ x ∈ c, isW [x] [42] = true) → isW r [42] = false → starW (c ++ r) = c.length := by
    intro c
    induction c with
    | nil =>
      intro r _ hr
      cases r with
      | nil => rfl
      | cons x r => simp only [List.nil_append, starW, hr]; simp
    | cons x c ih =>
      intro r hc hr
      have := hc x (by simp)
      simp only [List.cons_append, starW]
      rw [if_pos (by simpa [isW] using this), ih r (fun y hy => hc y (by simp [hy])) hr]
      rfl
  have h2 : ∀ (l : List Wd), (∀ x ∈ l.take (starW l), isW [x] [42] = true) ∧ isW (l.drop (starW l)) [42] = false := by
    intro l
    induction l with
    | nil => exact ⟨by simp, rfl⟩
    | cons x l ih =>
      unfold starW
      cases hb : isW (x :: l) [42]
      · rw [if_neg (by simp)]; exact ⟨by simp, by simpa using hb⟩
      · rw [if_pos rfl]
        refine ⟨fun y hy => ?_, by simpa using ih.2⟩
        simp only [List.take_succ_cons, List.mem_cons] at hy
        rcases hy with rfl | hy
        · exact hb
        · exact ih.1 y hy
  have ev : ∀ s, starsP b s = .ok (b ++ List.replicate (starW s.ds) 42) { s with ws := s.ws.drop (starW s.ds) } := by
    intro s
    unfold starsP
    rw [star_W]
    rfl
  have dr : ∀ (s : Sx) n, ({ s with ws := s.ws.drop n } : Sx).ds = s.ds.drop n := by intro s n; unfold Sx.ds; simp
  constructor
  · intro s a t e
    rw [ev] at e
    cases e
    rw [dr]
    exact List.drop_suffix _ _
  · intro s t e
    rw [ev] at e
    cases e
  · intro s a t c e hc s' r hs hr
    rw [ev] at e
    cases e
    rw [dr] at hc hr
    obtain ⟨q1, q2⟩ := h2 s.ds
    have hc1 : c = s.ds.take (starW s.ds) := List.append_cancel_right (bs := s.ds.drop (starW s.ds)) (by rw [List.take_append_drop]; exact hc.symm)
    rw [← hc1] at q1
    have hr0 := (asks_is (t := [42]) (by decide)).no _ _ hr q2
    have hn : starW s'.ds = c.length := by rw [hs]; exact h1 c r q1 hr0
    have hlen : c.length = starW s.ds := by rw [← h1 c _ q1 q2, ← hc]
    refine ⟨{ s' with ws := s'.ws.drop (starW s'.ds) }, by rw [ev, hn, hlen], ?_⟩
    rw [dr, hn, hs]
    exact List.drop_left
  · intro s a t c e hc s' d hd hs
    rw [ev] at e
    cases e
    rw [dr] at hc
    obtain ⟨q1, q2⟩ := h2 s.ds
    have hc1 : c = s.ds.take (starW s.ds) := List.append_cancel_right (bs := s.ds.drop (starW s.ds)) (by rw [List.take_append_drop]; exact hc.symm)
    rw [← hc1, ← hs] at q1
    have hn := h1 s'.ds [] (fun x hx => q1 x (by simp [hx])) rfl
    rw [List.append_nil] at hn
    rw [ev]
    show ({ s' with ws := s'.ws.drop (starW s'.ds) } : Sx).ds = []
    rw [dr, hn, List.drop_length]
end
theorem ask_is (t : Bs) (s : Sx) : isP t s = .ok (isW s.ds t) s := by unfold isP; rw [isB_ds]
theorem ask_any (l : List Bs) (s : Sx) : anyP l s = .ok (anyW s.ds l) s := by unfold anyP; rw [anyB_W]; rfl
theorem ask_typed (s : Sx) : typedP s = .ok (typedW s.ds) s := by unfold typedP; rw [typedB_W]; rfl
theorem ask_kind (k : Int) (s : Sx) : kindP k s = .ok (kindW s.ds k) s := by unfold kindP; rw [kindB_W]; rfl
theorem typ_ah : Ah typP := by
  unfold typP
  refine Ah.ask asks_typed ask_typed ?_ ?_ ?_
  · simp only [if_true]
    refine Ah.take (fun w => ?_) (fun w w' e => by simp only [e])
    split
    · exact Ah.bind Ah.name (fun _ => Ah.stars _)
    · exact Ah.stars _
  · simp only [Bool.false_eq_true, if_false]
    exact Ah.fail
  · simp only [if_true]
    refine Con.left Con.take (fun w => ?_)
    split
    · exact Ah.bind Ah.name (fun _ => Ah.stars _)
    · exact Ah.stars _
theorem typ_con : Con typP := Con.of_sf fun s a t e => (typ_fine (s := s)).2 a t e
theorem array_ah (t : Bs) : Ah (arrayP t) := by
  unfold arrayP
  refine Ah.may (by decide) ?_ ?_
  · exact Ah.bind Ah.num (fun _ => Ah.bind (Ah.must _) (fun _ => Ah.pure _))
  · exact Ah.pure _
end Go.Proofs.YtjgpbpmicopemaaGreatDoor

namespace Go.Proofs.YtjgpbpmicopemaaGreatDoor
open Go.RowKit
def levW (ws : List Wd) : Nat → List (List Bs) → Int
  | _, [] => -1
  | i, l :: ls => if anyW ws l then i else levW ws (i + 1) ls
def levelW (ws : List Wd) : Int := levW ws 0 levels
theorem levI_W (ws : List It) : ∀ (ls : List (List Bs)) (i : Nat), levI ws i ls = levW (ws.map It.d) i ls
  | [], _ => rfl
  | l :: ls, i => by unfold levI levW; rw [anyB_W, levI_W ws ls]
theorem levW_nil (ls : List (List Bs)) (i : Nat) : levW [] i ls = -1 := by
  have := levI_W [] ls i
  rw [levI_nil] at this
  exact this.symm
def castW (ws : List Wd) : Bool := isW ws [40] && typedW ws.tail
theorem cast_W (ws : List It) : castB ws = castW (ws.map It.d) := by
  unfold castB castW
  rw [isB_W, typedB_W, List.map_tail]
theorem ask_level (s : Sx) : levelP s = .ok (levelW s.ds) s := by unfold levelP levelI; rw [levI_W]; rfl
theorem ask_cast (s : Sx) : castP s = .ok (castW s.ds) s := by unfold castP; rw [cast_W]; rfl
theorem levW_one (x : Wd) (l l' : List Wd) : ∀ (ls : List (List Bs)) (i : Nat), levW (x :: l) i ls = levW (x :: l') i ls
  | [], _ => rfl
  | y :: ls, i => by
    unfold levW
    rw [anyW_one y x l l', levW_one x l l' ls]
theorem levW_no {r : List Wd} : ∀ (ls : List (List Bs)) (i : Nat), (∀ l ∈ ls, anyW r l = false) → levW r i ls = -1
  | [], _, _ => rfl
  | y :: ls, i, h => by
    unfold levW
    rw [h y (by simp)]
    exact levW_no ls _ (fun l hl => h l (by simp [hl]))
theorem level_stop {r : List Wd} (h : isW r [41] = true) : levelW r = -1 := by
  refine levW_no _ _ (fun l hl => ?_)
  have h41 : ([41] : Bs) ∉ l := by
    unfold levels at hl
    simp only [List.mem_cons, List.not_mem_nil, or_false] at hl
    rcases hl with rfl | rfl | rfl | rfl | rfl | rfl | rfl | rfl | rfl | rfl <;> decide
  cases hx : anyW r l
  · rfl
  · unfold anyW at hx
    rw [List.any_eq_true] at hx
    obtain ⟨t, h1, h2⟩ := hx
    rw [isW_two h2 h] at h1
    exact absurd h1 h41
theorem level_sub {r x : List Wd} {lev : Int} (h0 : 0 ≤ lev) (hs : Sub r x) (h : levelW x < lev) : levelW r < lev := by
  rcases hs with rfl | hh | ⟨-, hb⟩
  · unfold levelW; rw [levW_nil]; omega
  · cases r with
    | nil => unfold levelW; rw [levW_nil]; omega
    | cons z r => cases x with
      | nil => cases hh
      | cons y x => cases hh; unfold levelW at h ⊢; rw [levW_one z r x]; exact h
  · rw [level_stop hb]; omega
theorem Ah.level {α : Type} {lev : Int} (h0 : 0 ≤ lev) {e : α} {k : Int → Pr α} (hk : ∀ n, lev ≤ n → Ah (k n)) (hc : ∀ n, lev ≤ n → Con (k n)) : Ah (levelP >>= fun n => if n < lev then Pure.pure e else k n) := by
  have ev : ∀ s, (levelP >>= fun n => if n < lev then Pure.pure e else k n) s = if levelW s.ds < lev then .ok e s else k (levelW s.ds) s := by
    intro s
    rw [bind_ok (ask_level s)]
    split <;> rfl
  constructor
  · intro s b u x
    rw [ev] at x
    split at x
    · cases x; exact List.suffix_refl _
    · exact (hk _ (by omega)).ok _ _ _ x
  · intro s u x
    rw [ev] at x
    split at x
    · cases x
    · exact (hk _ (by omega)).bad _ _ x
  · intro s b u c x hcc s' r hs hr
    rw [ev] at x ⊢
    split at x
    · rename_i hl
      cases x
      have hc0 : c = [] := List.append_cancel_right (bs := s.ds) (by simpa using hcc.symm)
      subst hc0
      have hs0 : s'.ds = r := hs
      rw [if_pos (by rw [hs0]; exact level_sub h0 hr hl)]
      exact ⟨s', rfl, hs0⟩
    · rename_i hl
      have hlt := hc _ (by omega) _ _ _ x
      cases c with
      | nil => rw [hcc] at hlt; simp at hlt
      | cons y c =>
        have hll : levelW s'.ds = levelW s.ds := by rw [hs, hcc]; exact levW_one y _ _ _ _
        rw [hll, if_neg hl]
        exact (hk _ (by omega)).go _ _ _ _ x hcc _ _ hs hr
  · intro s b u c x hcc s' d hd hs
    rw [ev] at x ⊢
    split at x
    · rename_i hl
      cases x
      have hc0 : c = [] := List.append_cancel_right (bs := s.ds) (by simpa using hcc.symm)
      rw [hc0] at hs
      exact absurd (List.append_eq_nil_iff.1 hs).2 hd
    · rename_i hl
      cases hw : s'.ds with
      | nil =>
        rw [if_pos (by unfold levelW; rw [levW_nil]; omega)]
        exact hw
      | cons y l =>
        have hll : levelW (y :: l) = levelW s.ds := by rw [hcc, ← hs, hw]; exact levW_one y _ _ _ _
        rw [hll, if_neg hl]
        exact (hk _ (by omega)).cut _ _ _ _ x hcc _ _ hd hs
theorem Ah.cast {α : Type} {h : Bool → Pr α} (h1 : Ah (h true)) (h0 : Ah (h false)) (hc0 : Con (h false)) (hc1 : ∀ s a t, h true s = .ok a t → t.ds.length + 2 ≤ s.ds.length) (hp : ∀ s x, s.ds = [x] → isW [x] [40] = true → Ends (h false s)) : Ah (castP >>= h) := by
  have ev : ∀ s, (castP >>= h) s = h (castW s.ds) s := fun s => bind_ok (ask_cast s)
  have h2 : ∀ (x y : Wd) (l l' : List Wd), castW (x :: y :: l) = castW (x :: y :: l') := fun _ _ _ _ => rfl
  have hone : ∀ x, castW [x] = false := by intro x; unfold castW; simp [typedW, anyW, typeWs, isW]
  constructor
  · intro s b u x
    rw [ev] at x
    cases hb : castW s.ds <;> rw [hb] at x
    · exact h0.ok _ _ _ x
    · exact h1.ok _ _ _ x
  · intro s u x
    rw [ev] at x
    cases hb : castW s.ds <;> rw [hb] at x
    · exact h0.bad _ _ x
    · exact h1.bad _ _ x
  · intro s b u c x hcc s' r hs hr
    rw [ev] at x ⊢
    cases hb : castW s.ds <;> rw [hb] at x
    · have hlt := hc0 _ _ _ x
      have : castW s'.ds = false := by
        rw [hs]
        rw [hcc] at hb
        match c, hlt, hb with
        | [], hlt, _ => rw [hcc] at hlt; simp at hlt
        | [y], _, hb =>
          unfold castW at hb ⊢
          simp only [List.singleton_append, List.tail_cons] at hb ⊢
          rw [isW_one _ y r u.ds]
          cases hi : isW (y :: u.ds) [40]
          · rfl
          · rw [hi] at hb
            simp only [Bool.true_and] at hb ⊢
            exact asks_typed.no _ _ hr hb
        | y :: z :: c, _, hb => exact hb
      rw [this]
      exact h0.go _ _ _ _ x hcc _ _ hs hr
    · have hlt := hc1 _ _ _ x
      have : castW s'.ds = true := by
        rw [hs]
        rw [hcc] at hb
        rw [hcc] at hlt
        match c, hlt, hb with
        | [], hlt, _ => exact absurd hlt (by simp only [List.nil_append]; omega)
        | [y], hlt, _ => exact absurd hlt (by simp only [List.singleton_append, List.length_cons]; omega)
        | y :: z :: c, _, hb => exact hb
      rw [this]
      exact h1.go _ _ _ _ x hcc _ _ hs hr
  · intro s b u c x hcc s' d hd hs
    rw [ev] at x ⊢
    cases hb : castW s.ds <;> rw [hb] at x
    · have : castW s'.ds = false := by
        rw [hcc, ← hs] at hb
        match hw : s'.ds, hb with
        | [], _ => rfl
        | [y], _ => exact hone y
        | y :: z :: l, hb => exact hb
      rw [this]
      exact h0.cut _ _ _ _ x hcc _ _ hd hs
    · match hw : s'.ds with
      | [] => exact h0.none _ hw
      | [y] =>
        rw [hone y]
        refine hp _ y hw ?_
        rw [hcc, ← hs, hw] at hb
        unfold castW at hb
        simp only [Bool.and_eq_true] at hb
        exact hb.1
      | y :: z :: l =>
        rw [hcc, ← hs, hw] at hb
        rw [show castW (y :: z :: l) = true from hb]
        exact h1.cut _ _ _ _ x hcc _ _ hd hs
structure AhE (f : Nat) : Prop where
  binary : ∀ lev, 0 ≤ lev → Ah (binaryP f lev) ∧ Con (binaryP f lev)
  bloop : ∀ lev e, 0 ≤ lev → Ah (binLoop f lev e)
  unary : Ah (unaryP f) ∧ Con (unaryP f)
  post : Ah (postfixP f) ∧ Con (postfixP f)
  ploop : ∀ e, Ah (postLoop f e)
  primary : Ah (primaryP f) ∧ Con (primaryP f)
  within : Ah (withinP f) ∧ Con (withinP f)
  args : ∀ more l, Ah (argsP f more l)
  argsC : ∀ l, Con (argsP f true l)
  open1 : ∀ s x, s.ds = [x] → isW [x] [40] = true → Ends (postfixP f s) ∧ Ends (primaryP f s) ∧ Ends (withinP f s)
theorem Ends.bind {α β : Type} {g : Pr α} {h : α → Pr β} {s : Sx} (e : Ends (g s)) (hh : ∀ a, Ah (h a)) : Ends ((g >>= h) s) := by
  cases x : g s with
  | out => rw [bind_out x]; trivial
  | bad t => rw [bind_bad x]; rw [x] at e; exact e
  | ok a t => rw [bind_ok x]; rw [x] at e; exact (hh a).none _ e
theorem ahE : ∀ f, AhE f
  | 0 => by
    constructor
    · intro lev _; exact ⟨Ah.out, Con.out⟩
    · intro lev e _; exact Ah.out
    · exact ⟨Ah.out, Con.out⟩
    · exact ⟨Ah.out, Con.out⟩
    · intro e; exact Ah.out
    · exact ⟨Ah.out, Con.out⟩
    · exact ⟨Ah.out, Con.out⟩
    · intro m l; exact Ah.out
    · intro l; exact Con.out
    · intro s x _ _; exact ⟨trivial, trivial, trivial⟩
  | f + 1 => by
    have ih := ahE f
    have hloop : ∀ lev e (n : Int), lev ≤ n → 0 ≤ lev → Ah (do
        let w ← takeP
        let r ← binaryP f (n + 1)
        let e' ← exprP 4 w.d.t [] 0 [] [e, r]
        binLoop f lev e') := by
      intro lev e n hn h0
      exact Ah.take (fun w => Ah.bind (ih.binary _ (by omega)).1 (fun r => Ah.bind Ah.expr (fun e' => ih.bloop _ _ h0))) (fun w w' e => by simp only [e])
    have hpc : Con (primaryP (f + 1)) := by
      unfold primaryP
      refine Con.ask (f := fun ws => isW ws [40]) (ask_is [40]) ?_ ?_
      · simp only [if_true]; exact ih.within.2
      · simp only [Bool.false_eq_true, if_false]
        refine Con.may ?_ ?_
        · simp only [if_true]; exact Ah.bind (Ah.must _) (fun _ => Ah.bind (Ah.must _) (fun _ => Ah.expr))
        · simp only [Bool.false_eq_true, if_false]
          refine Con.may ?_ ?_
          · simp only [if_true]; exact Ah.bind (Ah.must _) (fun _ => Ah.bind typ_ah (fun _ => Ah.bind (array_ah _) (fun _ => Ah.bind (Ah.must _) (fun _ => Ah.expr))))
          · simp only [Bool.false_eq_true, if_false]
            refine Con.ask (f := fun ws => kindW ws 2) (ask_kind 2) ?_ ?_
            · simp only [if_true]; exact Con.left Con.take (fun _ => Ah.expr)
            · simp only [Bool.false_eq_true, if_false]
              refine Con.left Con.name (fun nm => ?_)
              refine Ah.may (by decide) ?_ ?_
              · simp only [if_true]
                refine Ah.may41 ?_ ?_ ?_
                · exact Ah.bind (ih.args _ _) (fun _ => Ah.expr)
                · exact Ah.bind (ih.args _ _) (fun _ => Ah.expr)
                · exact Con.left (ih.argsC _) (fun _ => Ah.expr)
              · simp only [Bool.false_eq_true, if_false]; exact Ah.expr
    constructor
    · intro lev h0
      unfold binaryP
      exact ⟨Ah.bind ih.unary.1 (fun e => ih.bloop lev e h0), Con.left ih.unary.2 (fun e => ih.bloop lev e h0)⟩
    · intro lev e h0
      unfold binLoop
      refine Ah.level h0 (k := fun n => do
        let w ← takeP
        let r ← binaryP f (n + 1)
        let e' ← exprP 4 w.d.t [] 0 [] [e, r]
        binLoop f lev e') (fun n hn => hloop lev e n hn h0) (fun n hn => ?_)
      exact Con.left Con.take (fun w => Ah.bind (ih.binary _ (by omega)).1 (fun r => Ah.bind Ah.expr (fun e' => ih.bloop _ _ h0)))
    · have hA : Ah (do
          if ← anyP preWs then
            let w ← takeP
            let a ← unaryP f
            exprP 3 w.d.t [] 0 [] [a]
          else if ← castP then
            let _ ← takeP
            let t ← typP
            mustP [41]
            let a ← unaryP f
            exprP 5 [] [] 0 t [a]
          else postfixP f) ∧ Con (do
          if ← anyP preWs then
            let w ← takeP
            let a ← unaryP f
            exprP 3 w.d.t [] 0 [] [a]
          else if ← castP then
            let _ ← takeP
            let t ← typP
            mustP [41]
            let a ← unaryP f
            exprP 5 [] [] 0 t [a]
          else postfixP f) := by
        have hu : Ah (do
            let w ← takeP
            let a ← unaryP f
            exprP 3 w.d.t [] 0 [] [a]) := Ah.take (fun w => Ah.bind ih.unary.1 (fun a => Ah.expr)) (fun w w' e => by simp only [e])
        have huc : Con (do
            let w ← takeP
            let a ← unaryP f
            exprP 3 w.d.t [] 0 [] [a]) := Con.left Con.take (fun w => Ah.bind ih.unary.1 (fun a => Ah.expr))
        have hm : ∀ t, Ah (do
            mustP [41]
            let a ← unaryP f
            exprP 5 [] [] 0 t [a]) := fun t => Ah.bind (Ah.must _) (fun _ => Ah.bind ih.unary.1 (fun a => Ah.expr))
        have hca : Ah (do
            let _ ← takeP
            let t ← typP
            mustP [41]
            let a ← unaryP f
            exprP 5 [] [] 0 t [a]) := Ah.take (fun _ => Ah.bind typ_ah (fun t => hm t)) (fun _ _ _ => rfl)
        have hcc : ∀ s a t, (do
            let _ ← takeP
            let t ← typP
            mustP [41]
            let a ← unaryP f
            exprP 5 [] [] 0 t [a]) s = .ok a t → t.ds.length + 2 ≤ s.ds.length := by
          intro s a t e
          cases x : takeP s with
          | out => rw [bind_out x] at e; cases e
          | bad u => rw [bind_bad x] at e; cases e
          | ok w u =>
            rw [bind_ok x] at e
            have := Con.take _ _ _ x
            have := Con.left typ_con (fun t => hm t) _ _ _ e
            omega
        constructor
        · refine Ah.ask (asks_any (by decide)) (ask_any _) ?_ ?_ ?_
          · simp only [if_true]; exact hu
          · simp only [Bool.false_eq_true, if_false]
            refine Ah.cast ?_ ?_ ?_ ?_ ?_
            · simp only [if_true]; exact hca
            · simp only [Bool.false_eq_true, if_false]; exact ih.post.1
            · simp only [Bool.false_eq_true, if_false]; exact ih.post.2
            · simp only [if_true]; exact hcc
            · simp only [Bool.false_eq_true, if_false]; exact fun s x h1 h2 => (ih.open1 s x h1 h2).1
          · simp only [if_true]; exact huc
        · refine Con.ask (f := fun ws => anyW ws preWs) (ask_any preWs) ?_ ?_
          · simp only [if_true]; exact huc
          · simp only [Bool.false_eq_true, if_false]
            refine Con.ask ask_cast ?_ ?_
            · simp only [if_true]; exact fun s a t e => by have := hcc s a t e; omega
            · simp only [Bool.false_eq_true, if_false]; exact ih.post.2
      unfold unaryP
      exact ⟨Ah.deep hA.1, Con.deep hA.2⟩
    · unfold postfixP
      exact ⟨Ah.bind ih.primary.1 (fun e => ih.ploop e), Con.left ih.primary.2 (fun e => ih.ploop e)⟩
    · intro e
      unfold postLoop
      refine Ah.may (by decide) ?_ ?_
      · simp only [if_true]
        exact Ah.bind (ih.binary 0 (by omega)).1 (fun i => Ah.bind (Ah.must _) (fun _ => Ah.bind Ah.expr (fun e' => ih.ploop e')))
      · simp only [Bool.false_eq_true, if_false]
        refine Ah.may (by decide) ?_ ?_
        · simp only [if_true]
          exact Ah.bind Ah.name (fun n => Ah.bind Ah.expr (fun e' => ih.ploop e'))
        · simp only [Bool.false_eq_true, if_false]
          refine Ah.may (by decide) ?_ ?_
          · simp only [if_true]
            exact Ah.bind Ah.name (fun n => Ah.bind Ah.expr (fun e' => ih.ploop e'))
          · simp only [Bool.false_eq_true, if_false]
            exact Ah.pure _
    · refine ⟨?_, hpc⟩
      unfold primaryP
      refine Ah.ask (asks_is (by decide)) (ask_is _) ?_ ?_ ?_
      · simp only [if_true]; exact ih.within.1
      · simp only [Bool.false_eq_true, if_false]
        refine Ah.may (by decide) ?_ ?_
        · simp only [if_true]; exact Ah.bind (Ah.must _) (fun _ => Ah.bind (Ah.must _) (fun _ => Ah.expr))
        · simp only [Bool.false_eq_true, if_false]
          refine Ah.may (by decide) ?_ ?_
          · simp only [if_true]; exact Ah.bind (Ah.must _) (fun _ => Ah.bind typ_ah (fun _ => Ah.bind (array_ah _) (fun _ => Ah.bind (Ah.must _) (fun _ => Ah.expr))))
          · simp only [Bool.false_eq_true, if_false]
            refine Ah.ask asks_kind (ask_kind 2) ?_ ?_ ?_
            · simp only [if_true]; exact Ah.take (fun _ => Ah.expr) (fun w w' e => by simp only [e])
            · simp only [Bool.false_eq_true, if_false]
              refine Ah.bind Ah.name (fun nm => ?_)
              refine Ah.may (by decide) ?_ ?_
              · simp only [if_true]
                refine Ah.may41 ?_ ?_ ?_
                · exact Ah.bind (ih.args _ _) (fun _ => Ah.expr)
                · exact Ah.bind (ih.args _ _) (fun _ => Ah.expr)
                · exact Con.left (ih.argsC _) (fun _ => Ah.expr)
              · simp only [Bool.false_eq_true, if_false]; exact Ah.expr
            · simp only [if_true]; exact Con.left Con.take (fun _ => Ah.expr)
      · simp only [if_true]; exact ih.within.2
    · unfold withinP
      exact ⟨Ah.bind (Ah.must _) (fun _ => Ah.bind (ih.binary 0 (by omega)).1 (fun e => Ah.bind (Ah.must _) (fun _ => Ah.pure _))), Con.left (Con.must _) (fun _ => Ah.bind (ih.binary 0 (by omega)).1 (fun e => Ah.bind (Ah.must _) (fun _ => Ah.pure _)))⟩
    · intro more l
      unfold argsP
      cases more
      · simp only [Bool.false_eq_true, if_false]; exact Ah.pure _
      · simp only [if_true]
        refine Ah.bind (ih.binary 0 (by omega)).1 (fun e => ?_)
        refine Ah.may (by decide) ?_ ?_
        · simp only [if_true]; exact ih.args _ _
        · simp only [Bool.false_eq_true, if_false]; exact Ah.bind (Ah.must _) (fun _ => ih.args _ _)
    · intro l
      unfold argsP
      simp only [if_true]
      refine Con.left (ih.binary 0 (by omega)).2 (fun e => ?_)
      refine Ah.may (by decide) ?_ ?_
      · simp only [if_true]; exact ih.args _ _
      · simp only [Bool.false_eq_true, if_false]; exact Ah.bind (Ah.must _) (fun _ => ih.args _ _)
    · intro s x hs hb
      have hb' : isW s.ds [40] = true := by rw [hs]; exact hb
      obtain ⟨y, ys, hy, -, hys⟩ := ds_cons hs
      have hys := List.map_eq_nil_iff.1 hys
      subst hys
      have hw : Ends (withinP (f + 1) s) := by
        unfold withinP
        rw [bind_ok (show mustP [40] s = .ok () { s with ws := [] } by unfold mustP; rw [isB_ds, if_pos hb', hy]; rfl)]
        exact (Ah.bind (ih.binary 0 (by omega)).1 (fun e => Ah.bind (Ah.must _) (fun _ => Ah.pure _))).none _ rfl
      have hw' := (ih.open1 s x hs hb)
      have hp : Ends (primaryP (f + 1) s) := by
        unfold primaryP
        rw [bind_ok (ask_is [40] s), hb']
        simp only [if_true]
        exact hw'.2.2
      refine ⟨?_, hp, hw⟩
      unfold postfixP
      exact Ends.bind hw'.2.1 (fun e => ih.ploop e)
end Go.Proofs.YtjgpbpmicopemaaGreatDoor
