import Derived.Test.YtjgpbpmicopemaaGreatDoorPe07
import Derived.Test.YtjgpbpmicopemaaGreatDoorPe09
import Derived.Test.YtjgpbpmicopemaaGreatDoorPe08

namespace Go.Proofs.YtjgpbpmicopemaaGreatDoor
open Go.RowKit
theorem bind_inv {α β : Type} {g : Pr α} {h : α → Pr β} {s u : Sx} {b : β} (e : (g >>= h) s = .ok b u) : ∃ a t, g s = .ok a t ∧ h a t = .ok b u := by
  cases x : g s with
  | out => rw [bind_out x] at e; cases e
  | bad t => rw [bind_bad x] at e; cases e
  | ok a t => rw [bind_ok x] at e; exact ⟨a, t, rfl, e⟩
theorem deep_inv {α : Type} {g : Pr α} {s t : Sx} {a : α} (e : deepP g s = .ok a t) : ∃ u, g s.down = .ok a u ∧ t = u.up := by
  unfold deepP at e
  cases x : g s.down with
  | out => rw [x] at e; cases e
  | bad u => rw [x] at e; cases e
  | ok b u => rw [x] at e; cases e; exact ⟨u, rfl, rfl⟩
theorem deep_ok {α : Type} {g : Pr α} {s t : Sx} {a : α} (e : g s.down = .ok a t) : deepP g s = .ok a t.up := by
  unfold deepP; rw [e]
theorem down_ds (s : Sx) : s.down.ds = s.ds := rfl
theorem up_ds (s : Sx) : s.up.ds = s.ds := rfl
theorem is_eq {β : Type} (t : Bs) (h : Bool → Pr β) (s : Sx) : (isP t >>= h) s = h (isW s.ds t) s := bind_ok (by unfold isP; rw [isB_ds])
theorem any_eq {β : Type} (l : List Bs) (h : Bool → Pr β) (s : Sx) : (anyP l >>= h) s = h (anyW s.ds l) s := bind_ok (by unfold anyP; rw [anyB_W]; rfl)
theorem typed_eq {β : Type} (h : Bool → Pr β) (s : Sx) : (typedP >>= h) s = h (typedW s.ds) s := bind_ok (by unfold typedP; rw [typedB_W]; rfl)
theorem cast_eq {β : Type} (h : Bool → Pr β) (s : Sx) : (castP >>= h) s = h (castW s.ds) s := bind_ok (ask_cast s)
theorem level_eq {β : Type} (h : Int → Pr β) (s : Sx) : (levelP >>= h) s = h (levelW s.ds) s := bind_ok (ask_level s)
theorem kind_eq {β : Type} (k : Int) (h : Bool → Pr β) (s : Sx) : (kindP k >>= h) s = h (kindW s.ds k) s := bind_ok (by unfold kindP; rw [kindB_W]; rfl)
theorem must_ok {t : Bs} {s : Sx} {x : Wd} {l : List Wd} (h : s.ds = x :: l) (hx : isW [x] t = true) : ∃ u, mustP t s = .ok () u ∧ u.ds = l := by
  have hb : isB s.ws t = true := by rw [isB_ds, h]; exact hx
  exact ⟨{ s with ws := s.ws.tail }, by unfold mustP; rw [if_pos hb], by rw [tail_ds, h]; rfl⟩
theorem must_inv {t : Bs} {s u : Sx} {a : Unit} (e : mustP t s = .ok a u) : isW s.ds t = true ∧ u.ds = s.ds.tail := by
  unfold mustP at e
  split at e
  · rename_i h
    cases e
    exact ⟨by rw [← isB_ds]; exact h, tail_ds s⟩
  · cases e
theorem name_ok {s : Sx} {x : Wd} {l : List Wd} (h : s.ds = x :: l) (hx : x.k = 1) : ∃ u, nameP s = .ok x.t u ∧ u.ds = l := by
  obtain ⟨y, ys, h1, rfl, h3⟩ := ds_cons h
  exact ⟨{ s with ws := ys }, by unfold nameP; rw [h1]; simp only [hx, if_true], h3⟩
theorem take_ok {s : Sx} {x : Wd} {l : List Wd} (h : s.ds = x :: l) : ∃ y u, takeP s = .ok y u ∧ y.d = x ∧ u.ds = l := by
  obtain ⟨y, ys, h1, h2, h3⟩ := ds_cons h
  exact ⟨y, { s with ws := ys }, by unfold takeP; rw [h1], h2, h3⟩
abbrev wL : Wd := ⟨4, [40], 0⟩
abbrev wR : Wd := ⟨4, [41], 0⟩
abbrev wS : Wd := ⟨4, [59], 0⟩
abbrev wB : Wd := ⟨4, [123], 0⟩
abbrev wE : Wd := ⟨4, [125], 0⟩
abbrev wRet : Wd := ⟨3, [114, 101, 116, 117, 114, 110], 0⟩
abbrev wInt : Wd := ⟨3, [105, 110, 116], 0⟩
def Takes (f : Nat) (Y Z : List Wd) (e : Ex) : Prop := ∀ s : Sx, s.ds = Y ++ Z → ∃ t, binaryP f 0 s = .ok e t ∧ t.ds = Z
theorem typed_inv {l : List Wd} (h : typedW l = true) : ∃ t ∈ typeWs, isW l t = true := by
  unfold typedW anyW at h
  rw [List.any_eq_true] at h
  exact h
theorem typed_no {f : Nat} {s t : Sx} {e : Ex} (h : typedW s.ds = true) : binaryP f 0 s ≠ .ok e t := by
  obtain ⟨w, hw, hi⟩ := typed_inv h
  have hne : ∀ v, v ∉ typeWs → isW s.ds v = false := fun v hv => by
    cases hx : isW s.ds v
    · rfl
    · exact absurd (isW_two hx hi ▸ hw) hv
  obtain ⟨k2, k1⟩ := isW_kind hi
  have hpre : anyW s.ds preWs = false := by
    cases hx : anyW s.ds preWs
    · rfl
    · unfold anyW at hx
      rw [List.any_eq_true] at hx
      obtain ⟨v, h1, h2⟩ := hx
      rw [isW_two h2 hi] at h1
      have : ∀ v ∈ preWs, v ∉ typeWs := by decide
      exact absurd hw (this _ h1)
  intro x
  cases f with
  | zero => unfold binaryP at x; cases x
  | succ f =>
    unfold binaryP at x
    obtain ⟨e1, u1, x, -⟩ := bind_inv x
    cases f with
    | zero => unfold unaryP at x; cases x
    | succ f =>
      unfold unaryP at x
      obtain ⟨u2, x, -⟩ := deep_inv x
      rw [any_eq, down_ds, hpre] at x
      simp only [Bool.false_eq_true, if_false] at x
      rw [cast_eq, down_ds] at x
      have hc : castW s.ds = false := by unfold castW; rw [hne [40] (by decide)]; rfl
      rw [hc] at x
      simp only [Bool.false_eq_true, if_false] at x
      cases f with
      | zero => unfold postfixP at x; cases x
      | succ f =>
        unfold postfixP at x
        obtain ⟨e3, u3, x, -⟩ := bind_inv x
        cases f with
        | zero => unfold primaryP at x; cases x
        | succ f =>
          unfold primaryP at x
          rw [is_eq, down_ds, hne [40] (by decide)] at x
          simp only [Bool.false_eq_true, if_false] at x
          rw [may_eq, down_ds, hne [105, 110] (by decide)] at x
          simp only [Bool.false_eq_true, if_false] at x
          rw [may_eq, down_ds, hne [115, 105, 122, 101, 111, 102] (by decide)] at x
          simp only [Bool.false_eq_true, if_false] at x
          rw [kind_eq, down_ds, k2] at x
          simp only [Bool.false_eq_true, if_false] at x
          obtain ⟨nm, u4, x, -⟩ := bind_inv x
          unfold nameP at x
          cases hws : s.down.ws with
          | nil => rw [hws] at x; cases x
          | cons y ys =>
            rw [hws] at x
            have hk : kindW (s.down.ws.map It.d) 1 = false := k1
            rw [hws] at hk
            have hk : ¬ y.d.k = 1 := by simpa [kindW] using hk
            simp only [hk, if_false] at x
            cases x
def Shut (Z : List Wd) : Prop := ∃ Z', Z = wR :: Z' ∨ Z = wS :: Z'
theorem shut_is {Z : List Wd} (h : Shut Z) (t : Bs) (h1 : t ≠ [41]) (h2 : t ≠ [59]) : isW Z t = false := by
  obtain ⟨Z', rfl | rfl⟩ := h
  · simp [isW, Ne.symm h1]
  · simp [isW, Ne.symm h2]
theorem shut_level {Z : List Wd} (h : Shut Z) : levelW Z = -1 := by
  refine levW_no _ _ (fun l hl => ?_)
  have h0 : ∀ l ∈ levels, ∀ t ∈ l, t ≠ [41] ∧ t ≠ [59] := by decide
  cases hx : anyW Z l
  · rfl
  · unfold anyW at hx
    rw [List.any_eq_true] at hx
    obtain ⟨t, h1, h2⟩ := hx
    obtain ⟨h3, h4⟩ := h0 l hl t h1
    rw [shut_is h t h3 h4] at h2
    cases h2
theorem postLoop_shut {f : Nat} {e : Ex} {s : Sx} (h : Shut s.ds) : postLoop (f + 1) e s = .ok e s := by
  unfold postLoop
  rw [may_eq, shut_is h [91] (by decide) (by decide)]
  simp only [Bool.false_eq_true, if_false]
  rw [may_eq, shut_is h [46] (by decide) (by decide)]
  simp only [Bool.false_eq_true, if_false]
  rw [may_eq, shut_is h [45, 62] (by decide) (by decide)]
  rfl
theorem binLoop_shut {f : Nat} {e : Ex} {s : Sx} (h : Shut s.ds) : binLoop (f + 1) 0 e s = .ok e s := by
  unfold binLoop
  rw [level_eq, shut_level h]
  rfl
theorem takes_more {f : Nat} {Y Z : List Wd} {e : Ex} (h : Takes f Y Z e) (k : Nat) : Takes (f + k) Y Z e := fun s hs => by
  obtain ⟨t, h1, h2⟩ := h s hs
  exact ⟨t, binary_more h1 k, h2⟩
theorem takes_paren {f : Nat} {Y Z : List Wd} {e : Ex} (hY : typedW Y = false) (hne : Y ≠ []) (hZ : Shut Z) (h0 : Takes f Y (wR :: Z) e) : Takes (f + 6) (wL :: (Y ++ [wR])) Z e := by
  have h := takes_more h0 1
  intro s hs
  have hs : s.ds = wL :: (Y ++ wR :: Z) := by rw [hs]; simp
  obtain ⟨u, hu1, hu2⟩ := must_ok (t := [40]) (s := s.down) (x := wL) (l := Y ++ wR :: Z) hs rfl
  obtain ⟨t, ht1, ht2⟩ := h u hu2
  obtain ⟨v, hv1, hv2⟩ := must_ok (t := [41]) (s := t) (x := wR) (l := Z) ht2 rfl
  have e1 : withinP (f + 2) s.down = .ok e v := by
    unfold withinP
    rw [bind_ok hu1, bind_ok ht1, bind_ok hv1]
    rfl
  have e2 : primaryP (f + 3) s.down = .ok e v := by
    unfold primaryP
    rw [is_eq, down_ds, hs]
    exact e1
  have e3 : postfixP (f + 4) s.down = .ok e v := by
    unfold postfixP
    rw [bind_ok e2]
    exact postLoop_shut (by rw [hv2]; exact hZ)
  have hty : typedW (Y ++ wR :: Z) = false := by
    cases Y with
    | nil => exact absurd rfl hne
    | cons y Y => rw [← hY]; rfl
  have e4 : unaryP (f + 5) s = .ok e v.up := by
    unfold unaryP
    refine deep_ok ?_
    rw [any_eq, down_ds, hs, show anyW (wL :: (Y ++ wR :: Z)) preWs = false from rfl]
    simp only [Bool.false_eq_true, if_false]
    rw [cast_eq, down_ds, hs, show castW (wL :: (Y ++ wR :: Z)) = false by unfold castW; rw [List.tail_cons, hty, Bool.and_false]]
    exact e3
  refine ⟨v.up, ?_, hv2⟩
  unfold binaryP
  rw [bind_ok e4]
  exact binLoop_shut (by rw [up_ds, hv2]; exact hZ)
def headW : List Wd := [wInt, ⟨1, [102], 0⟩, wL, wInt, ⟨1, [97], 0⟩, ⟨4, [44], 0⟩, wInt, ⟨1, [98], 0⟩, wR]
def retS (e : Ex) : St := .mk 10 [] [] (some e) none (.of []) (inc (maxS (maxO (maxO 0 (some e)) none) []))
def blockS (e : Ex) : St := .mk 1 [] [] none none (.of [retS e]) (inc (maxS (maxO (maxO 0 none) none) [retS e]))
def itemR (b : St) : Im := ⟨3, [105, 110, 116], [102], [], [⟨false, [105, 110, 116], [97]⟩, ⟨false, [105, 110, 116], [98]⟩], some b⟩
theorem typ_int {s : Sx} {x : Wd} {l : List Wd} (h : s.ds = wInt :: x :: l) (hx : x.t ≠ [42]) : ∃ u, typP s = .ok [105, 110, 116] u ∧ u.ds = x :: l := by
  unfold typP
  rw [typed_eq, h]
  simp only [show typedW (wInt :: x :: l) = true from rfl, if_true]
  obtain ⟨y, u, h1, h2, h3⟩ := take_ok h
  rw [bind_ok h1, h2]
  rw [if_neg (by decide)]
  unfold starsP
  obtain ⟨z, zs, e1, e2, e3⟩ := ds_cons h3
  have h0 : starN u.ws = 0 := by
    rw [e1]
    unfold starN
    rw [if_neg]
    rw [isB_W, List.map_cons, e2]
    simp [isW, hx]
  rw [h0]
  exact ⟨u, by simp, h3⟩
theorem statement_ret {f : Nat} {s : Sx} {R : List Wd} (h : s.ds = wRet :: R) (hR : isW R [59] = false) : ∃ s1, s1.ds = R ∧ ∀ (x : St) (u : Sx),
    statementP (f + 1) s = .ok x u ↔ ∃ v, (binaryP f 0 >>= fun e => mustP [59] >>= fun _ => stmtP 10 [] [] (some e) none []) s1 = .ok x v ∧ u = v.up := by
  refine ⟨{ s.down with ws := s.down.ws.tail }, by rw [tail_ds, down_ds, h]; rfl, fun x u => ?_⟩
  have key : statementP (f + 1) s = deepP (fun _ => (binaryP f 0 >>= fun e => mustP [59] >>= fun _ => stmtP 10 [] [] (some e) none []) { s.down with ws := s.down.ws.tail }) s := by
    unfold statementP deepP
    rw [is_eq, down_ds, h, show isW (wRet :: R) [123] = false from rfl]
    simp only [Bool.false_eq_true, if_false]
    rw [may_eq, down_ds, h, show isW (wRet :: R) [59] = false from rfl]
    simp only [Bool.false_eq_true, if_false]
    rw [may_eq, down_ds, h, show isW (wRet :: R) [105, 102] = false from rfl]
    simp only [Bool.false_eq_true, if_false]
    rw [may_eq, down_ds, h, show isW (wRet :: R) [119, 104, 105, 108, 101] = false from rfl]
    simp only [Bool.false_eq_true, if_false]
    rw [any_eq, down_ds, h, show anyW (wRet :: R) [[98, 114, 101, 97, 107], [99, 111, 110, 116, 105, 110, 117, 101]] = false from rfl]
    simp only [Bool.false_eq_true, if_false]
    rw [may_eq, down_ds, h, show isW (wRet :: R) [114, 101, 116, 117, 114, 110] = true from rfl]
    simp only [if_true]
    rw [is_eq, tail_ds, down_ds, h, List.tail_cons, hR]
    simp only [Bool.false_eq_true, if_false]
  rw [key]
  constructor
  · intro e
    obtain ⟨v, h1, h2⟩ := deep_inv e
    exact ⟨v, h1, h2⟩
  · rintro ⟨v, h1, rfl⟩
    exact deep_ok h1
theorem stmt_ok (k : Int) (nm ty : Bs) (e pl : Option Ex) (l : List St) (s : Sx) : ∃ u, stmtP k nm ty e pl l s = .ok (.mk k nm ty e pl (.of l) (inc (maxS (maxO (maxO 0 e) pl) l))) u ∧ u.ds = s.ds := ⟨_, rfl, rfl⟩
theorem front_item {f : Nat} {s : Sx} {R : List Wd} (h : s.ds = headW ++ wB :: R) : ∃ s1, s1.ds = wB :: R ∧ itemP (f + 3) s = (blockP (f + 3) >>= fun b => Pure.pure (itemR b)) s1 := by
  have h : s.ds = wInt :: ⟨1, [102], 0⟩ :: wL :: wInt :: ⟨1, [97], 0⟩ :: ⟨4, [44], 0⟩ :: wInt :: ⟨1, [98], 0⟩ :: wR :: wB :: R := h
  obtain ⟨u1, e1, h1⟩ := typ_int h (by decide)
  obtain ⟨u2, e2, h2⟩ := name_ok h1 rfl
  have hf : ∃ u, funcP u2 = .ok () u ∧ u.ds = u2.ds := ⟨_, rfl, rfl⟩
  obtain ⟨u3, e3, h3⟩ := hf
  rw [h2] at h3
  obtain ⟨y, u4, e4, -, h4⟩ := take_ok h3
  obtain ⟨u5, e5, h5⟩ := typ_int h4 (by decide)
  obtain ⟨u6, e6, h6⟩ := name_ok h5 rfl
  have h7 : ({ u6 with ws := u6.ws.tail } : Sx).ds = wInt :: ⟨1, [98], 0⟩ :: wR :: wB :: R := by rw [tail_ds, h6, List.tail_cons]
  obtain ⟨u8, e8, h8⟩ := typ_int h7 (by decide)
  obtain ⟨u9, e9, h9⟩ := name_ok h8 rfl
  obtain ⟨u10, e10, h10⟩ := must_ok (t := [41]) h9 rfl
  refine ⟨u10, h10, ?_⟩
  have p0 : paramsP (f + 1) false [⟨false, [105, 110, 116], [97]⟩, ⟨false, [105, 110, 116], [98]⟩] u10 = .ok [⟨false, [105, 110, 116], [97]⟩, ⟨false, [105, 110, 116], [98]⟩] u10 := by
    unfold paramsP
    rfl
  have p1 : paramsP (f + 2) true [⟨false, [105, 110, 116], [97]⟩] { u6 with ws := u6.ws.tail } = .ok [⟨false, [105, 110, 116], [97]⟩, ⟨false, [105, 110, 116], [98]⟩] u10 := by
    unfold paramsP
    simp only [if_true]
    rw [may_eq, h7, show isW (wInt :: ⟨1, [98], 0⟩ :: wR :: wB :: R) [112, 117, 98, 108, 105, 99] = false from rfl]
    simp only [Bool.false_eq_true, if_false]
    rw [bind_ok e8, bind_ok e9, may_eq, h9, show isW (wR :: wB :: R) [44] = false from rfl]
    simp only [Bool.false_eq_true, if_false]
    rw [bind_ok e10]
    exact p0
  have p2 : paramsP (f + 3) true [] u4 = .ok [⟨false, [105, 110, 116], [97]⟩, ⟨false, [105, 110, 116], [98]⟩] u10 := by
    unfold paramsP
    simp only [if_true]
    rw [may_eq, h4, show isW (wInt :: ⟨1, [97], 0⟩ :: ⟨4, [44], 0⟩ :: wInt :: ⟨1, [98], 0⟩ :: wR :: wB :: R) [112, 117, 98, 108, 105, 99] = false from rfl]
    simp only [Bool.false_eq_true, if_false]
    rw [bind_ok e5, bind_ok e6, may_eq, h6, show isW (⟨4, [44], 0⟩ :: wInt :: ⟨1, [98], 0⟩ :: wR :: wB :: R) [44] = true from rfl]
    simp only [if_true]
    exact p1
  unfold itemP
  rw [may_eq, h, show isW (wInt :: ⟨1, [102], 0⟩ :: wL :: wInt :: ⟨1, [97], 0⟩ :: ⟨4, [44], 0⟩ :: wInt :: ⟨1, [98], 0⟩ :: wR :: wB :: R) [115, 116, 114, 117, 99, 116] = false from rfl]
  simp only [Bool.false_eq_true, if_false]
  rw [bind_ok e1]
  unfold restP
  rw [bind_ok e2, is_eq, h2, show isW (wL :: wInt :: ⟨1, [97], 0⟩ :: ⟨4, [44], 0⟩ :: wInt :: ⟨1, [98], 0⟩ :: wR :: wB :: R) [40] = true from rfl]
  simp only [if_true]
  rw [bind_ok e3, bind_ok e4, may_eq, h4, show isW (wInt :: ⟨1, [97], 0⟩ :: ⟨4, [44], 0⟩ :: wInt :: ⟨1, [98], 0⟩ :: wR :: wB :: R) [41] = false from rfl]
  simp only [Bool.false_eq_true, if_false, Bool.not_false]
  rw [bind_ok p2]
  rfl
theorem prog_go {f : Nat} {s : Sx} {Y : List Wd} {e : Ex} (h : s.ds = headW ++ wB :: wRet :: (Y ++ [wS, wE])) (hR : isW (Y ++ [wS, wE]) [59] = false) (hT : Takes f Y [wS, wE] e) :
    ∃ n t, programP (f + 4) s = .ok ⟨[itemR (blockS e)], n⟩ t := by
  obtain ⟨s1, h1, e1⟩ := front_item (f := f) h
  obtain ⟨s2, e2, h2⟩ := must_ok (t := [123]) (s := s1.down) h1 rfl
  obtain ⟨s3, h3, e3⟩ := statement_ret (f := f) h2 hR
  obtain ⟨s4, e4, h4⟩ := hT s3 h3
  obtain ⟨s5, e5, h5⟩ := must_ok (t := [59]) (s := s4) h4 rfl
  obtain ⟨s6, e6, h6⟩ := stmt_ok 10 [] [] (some e) none [] s5
  have e7 : statementP (f + 1) s2 = .ok (retS e) s6.up := (e3 _ _).2 ⟨s6, by rw [bind_ok e4, bind_ok e5]; exact e6, rfl⟩
  have h7 : s6.up.ds = [wE] := by rw [up_ds, h6, h5]
  have e8 : listP (f + 1) [retS e] s6.up = .ok [retS e] { s6.up with ws := s6.up.ws.tail } := by
    unfold listP
    rw [may_eq, h7, show isW [wE] [125] = true from rfl]
    rfl
  have h8 : ({ s6.up with ws := s6.up.ws.tail } : Sx).ds = [] := by rw [tail_ds, h7]; rfl
  have e9 : listP (f + 2) [] s2 = .ok [retS e] { s6.up with ws := s6.up.ws.tail } := by
    unfold listP
    rw [may_eq, h2, show isW (wRet :: (Y ++ [wS, wE])) [125] = false from rfl]
    simp only [Bool.false_eq_true, if_false]
    rw [typed_eq, h2, show typedW (wRet :: (Y ++ [wS, wE])) = false from rfl]
    simp only [Bool.false_eq_true, if_false]
    rw [bind_ok e7]
    exact e8
  obtain ⟨s10, e10, h10⟩ := stmt_ok 1 [] [] none none [retS e] { s6.up with ws := s6.up.ws.tail }
  have e11 : blockP (f + 3) s1 = .ok (blockS e) s10.up := by
    unfold blockP
    refine deep_ok ?_
    rw [bind_ok e2, bind_ok e9]
    exact e10
  have e12 : itemP (f + 3) s = .ok (itemR (blockS e)) s10.up := by
    rw [e1, bind_ok e11]
    rfl
  have hn : s10.up.ws = [] := ds_nil (by rw [up_ds, h10, h8])
  have e13 : itemsP (f + 3) [itemR (blockS e)] s10.up = .ok [itemR (blockS e)] s10.up := by
    unfold itemsP
    rw [hn]
    rfl
  have hs : s.ws.isEmpty = false := by
    obtain ⟨y, ys, h1, -, -⟩ := ds_cons (show s.ds = wInt :: _ from h)
    rw [h1]; rfl
  have e14 : itemsP (f + 4) [] s = .ok [itemR (blockS e)] s10.up := by
    unfold itemsP
    rw [hs]
    simp only [Bool.false_eq_true, if_false]
    rw [bind_ok e12]
    exact e13
  exact ⟨_, _, by unfold programP; rw [e14]⟩
theorem prog_back {f : Nat} {s t : Sx} {Y : List Wd} {p : Pg} (h : s.ds = headW ++ wB :: wRet :: (Y ++ [wS, wE])) (hY : ∀ d ∈ Y, d.t ≠ [59]) (hne : Y ≠ []) (hp : programP (f + 4) s = .ok p t) :
    ∃ e s3 t3, s3.ds = Y ++ [wS, wE] ∧ binaryP f 0 s3 = .ok e t3 ∧ t3.ds = [wS, wE] := by
  have hR : isW (Y ++ [wS, wE]) [59] = false := by
    cases Y with
    | nil => exact absurd rfl hne
    | cons y Y => simp [isW, hY y (by simp)]
  obtain ⟨s1, h1, e1⟩ := front_item (f := f) h
  obtain ⟨s2, e2, h2⟩ := must_ok (t := [123]) (s := s1.down) h1 rfl
  obtain ⟨s3, h3, e3⟩ := statement_ret (f := f) h2 hR
  have hs : s.ws.isEmpty = false := by
    obtain ⟨y, ys, h1, -, -⟩ := ds_cons (show s.ds = wInt :: _ from h)
    rw [h1]; rfl
  have x1 : ∃ l u, itemsP (f + 4) [] s = .ok l u := by
    unfold programP at hp
    cases x : itemsP (f + 4) [] s with
    | out => rw [x] at hp; cases hp
    | bad u => rw [x] at hp; cases hp
    | ok l u => exact ⟨l, u, rfl⟩
  obtain ⟨l, u, x1⟩ := x1
  unfold itemsP at x1
  rw [hs] at x1
  simp only [Bool.false_eq_true, if_false] at x1
  obtain ⟨im, u1, x2, -⟩ := bind_inv x1
  rw [e1] at x2
  obtain ⟨b, u2, x3, -⟩ := bind_inv x2
  unfold blockP at x3
  obtain ⟨u3, x3, -⟩ := deep_inv x3
  rw [bind_ok e2] at x3
  obtain ⟨l2, u4, x4, -⟩ := bind_inv x3
  unfold listP at x4
  rw [may_eq, h2, show isW (wRet :: (Y ++ [wS, wE])) [125] = false from rfl] at x4
  simp only [Bool.false_eq_true, if_false] at x4
  rw [typed_eq, h2, show typedW (wRet :: (Y ++ [wS, wE])) = false from rfl] at x4
  simp only [Bool.false_eq_true, if_false] at x4
  obtain ⟨x, u5, x5, -⟩ := bind_inv x4
  obtain ⟨v, x6, -⟩ := (e3 _ _).1 x5
  obtain ⟨e, t3, x7, x8⟩ := bind_inv x6
  obtain ⟨_, t4, x9, -⟩ := bind_inv x8
  obtain ⟨hw, -⟩ := must_inv x9
  refine ⟨e, s3, t3, h3, x7, ?_⟩
  obtain ⟨c, hc⟩ := ((ahE f).binary 0 (by decide)).1.ok _ _ _ x7
  rw [h3] at hc
  cases hd : t3.ds with
  | nil => rw [hd] at hw; cases hw
  | cons y ys =>
    rw [hd] at hw hc
    have hy : y.t = [59] := by simp only [isW, Bool.and_eq_true, beq_iff_eq] at hw; exact hw.1
    rcases List.append_eq_append_iff.1 hc with ⟨d, hd1, hd2⟩ | ⟨d, hd1, hd2⟩
    · -- Y = c ++ d
      cases d with
      | nil => rw [List.nil_append] at hd2; exact hd2
      | cons z d =>
        rw [List.cons_append] at hd2
        injection hd2 with g1 g2
        subst g1
        exact absurd hy (hY y (by rw [hd1]; simp))
    · -- c = Y ++ d
      cases d with
      | nil => rw [List.nil_append] at hd2; exact hd2.symm
      | cons z d =>
        rw [List.cons_append] at hd2
        injection hd2 with g1 g2
        cases d with
        | nil =>
          rw [List.nil_append] at g2
          injection g2 with g3 g4
          subst g3
          exact absurd hy (by decide)
        | cons z2 d =>
          rw [List.cons_append] at g2
          injection g2 with g3 g4
          cases d <;> simp at g4
theorem paren_law {F : Nat} {s s' t : Sx} {Y : List Wd} {p : Pg} (h : s.ds = headW ++ wB :: wRet :: (Y ++ [wS, wE])) (h' : s'.ds = headW ++ wB :: wRet :: (wL :: (wL :: (Y ++ [wR]) ++ [wR]) ++ [wS, wE]))
    (hY : ∀ d ∈ Y, d.t ≠ [59]) (hne : Y ≠ []) (hp : programP (F + 4) s = .ok p t) (hF : 10 * s'.ws.length + 20 ≤ F) :
    ∃ e n n' t', p = ⟨[itemR (blockS e)], n⟩ ∧ programP (F + 4) s' = .ok ⟨[itemR (blockS e)], n'⟩ t' ∧ ∃ s3 t3, s3.ds = Y ++ [wS, wE] ∧ binaryP F 0 s3 = .ok e t3 := by
  obtain ⟨e, s3, t3, h3, x3, ht3⟩ := prog_back h hY hne hp
  have hR : isW (Y ++ [wS, wE]) [59] = false := by
    cases Y with
    | nil => exact absurd rfl hne
    | cons y Y => simp [isW, hY y (by simp)]
  have hT : typedW Y = false := by
    cases hx : typedW Y
    · rfl
    · refine absurd x3 (typed_no ?_)
      rw [h3]
      cases Y with
      | nil => exact absurd rfl hne
      | cons y Y => rw [← hx]; rfl
  have hgo : ∀ Z, Sub Z [wS, wE] → Takes F Y Z e := fun Z hZ u hu =>
    ((ahE F).binary 0 (by decide)).1.go s3 e t3 Y x3 (by rw [h3, ht3]) u Z hu (by rw [ht3]; exact hZ)
  obtain ⟨n, t1, g1⟩ := prog_go h hR (hgo _ (.inr (.inl rfl)))
  rw [g1] at hp
  cases hp
  have k1 : Takes (F + 6) (wL :: (Y ++ [wR])) (wR :: [wS, wE]) e := takes_paren hT hne ⟨_, .inl rfl⟩ (hgo _ (.inr (.inr ⟨rfl, rfl⟩)))
  have k2 : Takes (F + 6 + 6) (wL :: (wL :: (Y ++ [wR]) ++ [wR])) [wS, wE] e := takes_paren rfl (by simp) ⟨_, .inr rfl⟩ k1
  have k3 : Takes F (wL :: (wL :: (Y ++ [wR]) ++ [wR])) [wS, wE] e := by
    intro u hu
    obtain ⟨v, v1, v2⟩ := k2 u hu
    refine ⟨v, binary_same v1 ((fineE F).binary 0 u (by decide) ?_).1, v2⟩
    have e1 : u.ws.length = u.ds.length := by unfold Sx.ds; rw [List.length_map]
    have e2 : s'.ws.length = s'.ds.length := by unfold Sx.ds; rw [List.length_map]
    rw [e2, h'] at hF
    rw [e1, hu]
    simp only [List.length_append, List.length_cons] at hF ⊢
    omega
  obtain ⟨n', t', g2⟩ := prog_go h' rfl k3
  exact ⟨e, n, n', t', rfl, g2, s3, t3, h3, x3⟩
end Go.Proofs.YtjgpbpmicopemaaGreatDoor

namespace Go.Proofs.YtjgpbpmicopemaaGreatDoor
open Go.RowKit Go.Shelf
set_option maxRecDepth 20000
abbrev preT : Bs := [105, 110, 116, 32, 102, 40, 105, 110, 116, 32, 97, 44, 105, 110, 116, 32, 98, 41, 123, 114, 101, 116, 117, 114, 110]
theorem pre_words : wordsW preT = (headW ++ [wB, wRet]).map some := by kernel_rfl
theorem end1_words : wordsW [59, 125] = [some wS, some wE] := by kernel_rfl
theorem end2_words : wordsW [41, 41, 59, 125] = [some wR, some wR, some wS, some wE] := by kernel_rfl
theorem pre_none : none ∉ wordsW preT := by
  rw [pre_words]
  intro h
  obtain ⟨x, -, hx⟩ := List.mem_map.1 h
  cases hx
theorem pre_slash : (47 : UInt8) ∉ preT := by decide
def textA (x : Bs) : Bs := preT ++ 32 :: (x ++ [59, 125])
def textB (x : Bs) : Bs := preT ++ 32 :: 40 :: 40 :: (x ++ [41, 41, 59, 125])
theorem ds_of {l : Bs} (he : wordsE l = 0) {ds : List Wd} (h : wordsW l = ds.map some) : (wordsL l).map It.d = ds := by
  have e1 := words_bare l he
  rw [h] at e1
  refine map_some_inj ?_
  rw [← e1, List.map_map]
  rfl
section
variable {x : Bs}
theorem words_A (h : none ∉ wordsW x) (h47 : (47 : UInt8) ∉ x) : wordsW (textA x) = (headW ++ [wB, wRet]).map some ++ (wordsW x ++ [some wS, some wE]) := by
  unfold textA
  rw [edgeW _ (.inr ⟨_, _, rfl, .inl rfl⟩) preT.length preT (Nat.le_refl _) pre_none pre_slash, pre_words, skip1 _ _ (by decide),
    edgeW _ (.inr ⟨_, _, rfl, .inr (.inr rfl)⟩) x.length x (Nat.le_refl _) h h47, end1_words]
theorem words_B (h : none ∉ wordsW x) (h47 : (47 : UInt8) ∉ x) : wordsW (textB x) = (headW ++ [wB, wRet]).map some ++ (some wL :: some wL :: (wordsW x ++ [some wR, some wR, some wS, some wE])) := by
  unfold textB
  rw [edgeW _ (.inr ⟨_, _, rfl, .inl rfl⟩) preT.length preT (Nat.le_refl _) pre_none pre_slash, pre_words, skip1 _ _ (by decide), openW, openW,
    edgeW _ (.inr ⟨_, _, rfl, .inr (.inl rfl)⟩) x.length x (Nat.le_refl _) h h47, end2_words]
theorem ds_A (he : wordsE x = 0) (h47 : (47 : UInt8) ∉ x) (hA : wordsE (textA x) = 0) : (wordsL (textA x)).map It.d = headW ++ wB :: wRet :: ((wordsL x).map It.d ++ [wS, wE]) := by
  refine ds_of hA ?_
  rw [words_A (wordsE_none x he) h47, ← words_bare x he]
  simp [List.map_map]
theorem ds_B (he : wordsE x = 0) (h47 : (47 : UInt8) ∉ x) (hB : wordsE (textB x) = 0) : (wordsL (textB x)).map It.d = headW ++ wB :: wRet :: (wL :: (wL :: ((wordsL x).map It.d ++ [wR]) ++ [wR]) ++ [wS, wE]) := by
  refine ds_of hB ?_
  rw [words_B (wordsE_none x he) h47, ← words_bare x he]
  simp [List.map_map]
end
theorem stands_sub {l : Bs} : ∀ {xs : List It} {k : Nat}, Stands l k xs → ∀ y ∈ xs, ∀ c ∈ y.d.t, c ∈ l
  | y :: xs, k, ⟨j, h1, h2, h3, h4, h5, h6⟩, z, hz, c, hc => by
    rcases List.mem_cons.1 hz with rfl | hz
    · rw [h5] at hc
      exact List.mem_of_mem_drop (List.mem_of_mem_take hc)
    · exact stands_sub h6 z hz c hc
theorem no_semi {x : Bs} (he : wordsE x = 0) (h59 : (59 : UInt8) ∉ x) : ∀ d ∈ (wordsL x).map It.d, d.t ≠ [59] := by
  intro d hd e
  obtain ⟨y, hy, rfl⟩ := List.mem_map.1 hd
  exact h59 (stands_sub (stands_words x he) y hy 59 (by rw [e]; simp))
theorem items_len : ∀ (f : Nat) (l : List Im) (s : Sx) (l' : List Im) (t : Sx), itemsP f l s = .ok l' t → l'.length + t.ds.length ≤ l.length + s.ds.length
  | 0, l, s, l', t, h => by unfold itemsP at h; cases h
  | f + 1, l, s, l', t, h => by
    unfold itemsP at h
    by_cases he : s.ws.isEmpty = true
    · simp only [he, if_true] at h
      cases h
      omega
    · simp only [he] at h
      have h : (itemP f >>= fun x => itemsP f (l ++ [x])) s = .ok l' t := h
      obtain ⟨a, u, h1, h2⟩ := bind_inv h
      have h3 := (item_ah f).2 _ _ _ h1
      have h4 := items_len f _ u l' t h2
      simp only [List.length_append, List.length_cons, List.length_nil] at h4
      omega
theorem program_len {f : Nat} {s t : Sx} {p : Pg} (h : programP f s = .ok p t) : p.items.length ≤ s.ws.length := by
  unfold programP at h
  cases x : itemsP f [] s with
  | out => rw [x] at h; cases h
  | bad u => rw [x] at h; cases h
  | ok l u =>
    rw [x] at h
    have := items_len f [] s l u x
    cases h
    have e : s.ds.length = s.ws.length := by unfold Sx.ds; rw [List.length_map]
    simp only [List.length_nil] at this
    show l.length ≤ _
    omega
theorem tree_fair {e : Ex} (he : okE e = true) (n : Int) : (∀ i ∈ (⟨[itemR (blockS e)], n⟩ : Pg).items, okI i = true) ∧ (textP ⟨[itemR (blockS e)], n⟩).length ≤ (textE e).length + 1000 := by
  constructor
  · intro i hi
    obtain rfl := List.mem_singleton.1 hi
    have h1 : okS (retS e) = true := by
      unfold retS okS
      simp [okO, he, ascB, okSs, Sts.of]
    have h2 : okS (blockS e) = true := by
      show okS (.mk 1 [] [] none none (.cons (retS e) .nil) _) = true
      unfold okS
      simp [okO, ascB, okSs, h1]
    unfold itemR okI
    simp [h2, ascB]
  · have e1 : textP ⟨[itemR (blockS e)], n⟩ = jn [jn [typedT [105, 110, 116], callT [102] (jn (pmsT [⟨false, [105, 110, 116], [97]⟩, ⟨false, [105, 110, 116], [98]⟩])), textS (blockS e)]] := rfl
    have e2 : textS (blockS e) = jn [[123], textS (retS e), [125]] := by
      show textS (.mk 1 [] [] none none (.cons (retS e) .nil) _) = _
      conv => lhs; unfold textS
      simp [textsS]
    have e3 : textS (retS e) = jn [[114, 101, 116, 117, 114, 110], textE e, [59]] := by
      show textS (.mk 10 [] [] (some e) none .nil _) = _
      unfold textS
      simp
    have e4 : ∀ a : Bs, jn [a] = a := fun a => by simp [jn, Lib.join, List.intercalate]
    have e5 : (callT [102] (jn (pmsT [⟨false, [105, 110, 116], [97]⟩, ⟨false, [105, 110, 116], [98]⟩]))).length ≤ 200 := by decide +kernel
    have e6 : (typedT [105, 110, 116]).length = 3 := by decide
    rw [e1, e4, jn3_len, e2, jn3_len, e3, jn3_len, e6]
    simp only [List.length_cons, List.length_nil]
    omega
theorem okWs_of_ds {l : List It} (h : OkWs l) {l' : List It} (hs : ∀ d ∈ l'.map It.d, d ∈ l.map It.d) (hn : l'.length ≤ 65536) : OkWs l' := ⟨hn, fun x hx => by
  obtain ⟨y, hy, e⟩ := List.mem_map.1 (hs x.d (List.mem_map_of_mem hx))
  have := h.2 y hy
  exact ⟨by rw [← e]; exact this.n1, by rw [← e]; exact this.n2, by rw [← e]; exact this.t, by rw [← e]; exact this.a⟩⟩
theorem parens_tree {x : Bs} (he : wordsE x = 0) (hne : wordsL x ≠ []) (h47 : (47 : UInt8) ∉ x) (h59 : (59 : UInt8) ∉ x) (hA : wordsE (textA x) = 0) (hnA : (wordsL (textA x)).length ≤ 200) (hB : wordsE (textB x) = 0) (hnB : (wordsL (textB x)).length ≤ 200)
    {pg : Pg} {t : Sx} (hp : programP fuelP (begS (textA x)) = .ok pg t) : ∃ pg' t', programP fuelP (begS (textB x)) = .ok pg' t' ∧ textP pg' = textP pg ∧ (∀ i ∈ pg.items, okI i = true) ∧ (∀ i ∈ pg'.items, okI i = true) ∧ (textP pg).length ≤ 1000000000000 := by
  have dA := ds_A he h47 hA
  have dB := ds_B he h47 hB
  obtain ⟨e, n, n', t', rfl, h2, s3, t3, h3, h4⟩ := paren_law (F := 699996) (s := begS (textA x)) (s' := begS (textB x)) dA dB (no_semi he h59) (fun h0 => hne (List.map_eq_nil_iff.1 h0)) hp (by show 10 * (wordsL (textB x)).length + 20 ≤ 699996; omega)
  have hs3 : s3.ws.length = ((wordsL x).map It.d ++ [wS, wE]).length := by rw [← h3]; unfold Sx.ds; rw [List.length_map]
  have hlen : s3.ws.length ≤ 200 := by
    have : ((wordsL (textA x)).map It.d).length ≤ 200 := by rw [List.length_map]; exact hnA
    rw [dA] at this
    rw [hs3]
    simp only [List.length_append, List.length_cons] at this ⊢
    omega
  have hw : OkWs s3.ws := okWs_of_ds (okWs_words _ hA) (fun d hd => by
    have hd : d ∈ s3.ds := hd
    rw [h3] at hd
    rw [dA]
    simp only [List.mem_append, List.mem_cons] at hd ⊢
    rcases hd with hd | hd
    · exact .inr (.inr (.inr (.inl hd)))
    · exact .inr (.inr (.inr (.inr hd)))) (by omega)
  obtain ⟨f1, f2, f3⟩ := (fairE 699996).binary 0 s3 (1000000 * s3.ws.length) hw (Nat.le_refl _) e t3 h4
  obtain ⟨g1, g2⟩ := tree_fair f1 n
  obtain ⟨g3, -⟩ := tree_fair f1 n'
  exact ⟨_, t', h2, rfl, g1, g3, by omega⟩
end Go.Proofs.YtjgpbpmicopemaaGreatDoor
