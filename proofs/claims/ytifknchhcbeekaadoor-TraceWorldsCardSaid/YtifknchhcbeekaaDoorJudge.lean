/-
  trace.Prefix, Same, Leaks, Refines and plumbobref1.Events (all): each answers what the plain functions below say of the lists, for every two runs.
-/
import Derived.Test.YtifknchhcbeekaaDoorEq
namespace Go.Proofs.YtifknchhcbeekaaDoor
open Go.RowKit Go.Lib

/-- a run, as data -/
structure Rn where
  kind : Int
  exit : Int
  evs : List Ev
  lks : List Lk
  steps : Int

def preB (xs ys : List Ev) : Bool := decide (xs = ys.take xs.length)
def sameB (a b : Rn) : Bool := decide (a.kind = b.kind) && decide (a.exit = b.exit) && decide (a.evs = b.evs)
def leaksB (a b : Rn) : Bool := decide (a.kind = b.kind) && decide (a.lks = b.lks)

/-- the value v is the run r; its slices lie below block B -/
def RunIs (w : World) (B : Nat) (v : Value) (r : Rn) : Prop :=
  ∃ (A : Option Addr) (n c : Nat) (A' : Option Addr) (n' c' : Nat), v = .agg #[.int .i64 r.kind, .int .i64 r.exit, .slice A n c, .slice A' n' c', .int .i64 r.steps] ∧
    Evs w B A n r.evs ∧ n ≤ c ∧ c ≤ 9223372036854775807 ∧ Lks w B A' n' r.lks ∧ n' ≤ c' ∧ c' ≤ 9223372036854775807
theorem RunIs.below {w w' : World} {B : Nat} {v : Value} {r : Rn} (h : RunIs w B v r) (hb : Below B w w') : RunIs w' B v r := by
  obtain ⟨A, n, c, A', n', c', hv, h1, h2, h3, h4, h5, h6⟩ := h
  exact ⟨A, n, c, A', n', c', hv, h1.below hb, h2, h3, h4.below hb, h5, h6⟩
theorem RunIs.more {w : World} {B B' : Nat} {v : Value} {r : Rn} (h : RunIs w B v r) (hB : B ≤ B') : RunIs w B' v r := by
  obtain ⟨A, n, c, A', n', c', hv, h1, h2, h3, h4, h5, h6⟩ := h
  exact ⟨A, n, c, A', n', c', hv, h1.more hB, h2, h3, h4.more hB, h5, h6⟩

/-- it answers b; what was there is as it was -/
def BB (b : Bool) (w : World) (e : Ending) (w' : World) : Prop := e = .returned (.bool b) ∧ Below w.heap.size w w'

set_option maxHeartbeats 1000000 in
theorem prefix_any (A1 A2 : Option Addr) (n m c d B : Nat) (xs ys : List Ev) (w : World) (h1 : Evs w B A1 n xs) (h2 : Evs w B A2 m ys) (hd : m ≤ d) (hn : n ≤ 9223372036854775807) (hdd : d ≤ 9223372036854775807) :
    Calls Tryd.prog 12 #[.slice A1 n c, .slice A2 m d] w (BB (preB xs ys) w) := by
  have hm : m ≤ 9223372036854775807 := by omega
  by_cases hnm : n ≤ m
  · have hT : Evs w B A2 n (ys.take n) := h2.take hnm
    have e1 : preB xs ys = decide (xs = ys.take n) := by unfold preB; rw [h1.1]
    rw [e1]
    have H := fun W => eqEvents A1 A2 n n c d B xs (ys.take n) W
    generalize decide (xs = ys.take n) = r at H ⊢
    have H1 := Lib.hid h1
    have H2 := Lib.hid hT
    have H3 := Lib.hid H
    clear h1 h2 hT e1 H
    go_enter Tryd.func12, Tryd.ntmps12
    go_wp2_with fail
    refine (H3.out _ H1.out H2.out hn hn).mono ?_
    rintro e w' ⟨rfl, q, rfl⟩
    go_wp2_with fail
    go_ret
    exact ⟨rfl, below_drewN (Below.refl _ _) _⟩
  · have e1 : preB xs ys = false := by
      unfold preB
      have a := h1.1
      have b := h2.1
      rw [decide_eq_false_iff_not]
      intro e
      have := congrArg List.length e
      simp at this
      omega
    rw [e1]
    clear h1 h2 e1
    go_enter Tryd.func12, Tryd.ntmps12
    go_wp2_with fail
    go_ret
    exact ⟨rfl, Below.refl _ _⟩

set_option maxHeartbeats 1000000 in
theorem same_any (v1 v2 : Value) (a b : Rn) (w : World) (h1 : RunIs w w.heap.size v1 a) (h2 : RunIs w w.heap.size v2 b) :
    Calls Tryd.prog 16 #[v1, v2] w (BB (sameB a b) w) := by
  obtain ⟨A1, n, c, L1, k, p, rfl, e1, hc, hcc, -, hp, hpp⟩ := h1
  obtain ⟨A2, m, d, L2, l, q, rfl, e2, hd, hdd, -, hq, hqq⟩ := h2
  have H3 := Lib.hid (fun W => eqEvents A1 A2 n m c d w.heap.size a.evs b.evs W)
  have H := Lib.hid (And.intro e1 e2)
  obtain ⟨ak, ax, ae, al, aS⟩ := a
  obtain ⟨bk, bx, be, bl, bs⟩ := b
  simp only at H3 H
  clear e1 e2
  by_cases hk : ak = bk
  · by_cases hx : ax = bx
    · subst hk hx
      have e : sameB ⟨ak, ax, ae, al, aS⟩ ⟨ak, ax, be, bl, bs⟩ = decide (ae = be) := by simp [sameB]
      rw [e]
      clear e
      have t1 : (ak == ak) = true := by simp
      have t2 : (ax == ax) = true := by simp
      go_enter Tryd.func16, Tryd.ntmps16
      go_wp2_with fail
      refine (H3.out _ ((H.out.1.alloc (Nat.le_refl _) _).alloc (by simp) _) ((H.out.2.alloc (Nat.le_refl _) _).alloc (by simp) _) (by omega) (by omega)).mono ?_
      rintro e w' ⟨rfl, q, rfl⟩
      go_wp2_with fail
      go_ret
      exact ⟨rfl, below_drewN (((Below.refl _ _).alloc (Nat.le_refl _) _).alloc (by simp) _) _⟩
    · subst hk
      have e : sameB ⟨ak, ax, ae, al, aS⟩ ⟨ak, bx, be, bl, bs⟩ = false := by simp [sameB, hx]
      rw [e]
      clear e
      have t1 : (ak == ak) = true := by simp
      have t2 : (ax == bx) = false := by simpa using hx
      go_enter Tryd.func16, Tryd.ntmps16
      go_wp2_with fail
      go_ret
      exact ⟨rfl, ((Below.refl _ _).alloc (Nat.le_refl _) _).alloc (by simp) _⟩
  · have e : sameB ⟨ak, ax, ae, al, aS⟩ ⟨bk, bx, be, bl, bs⟩ = false := by simp [sameB, hk]
    rw [e]
    clear e
    have t1 : (ak == bk) = false := by simpa using hk
    go_enter Tryd.func16, Tryd.ntmps16
    go_wp2_with fail
    go_ret
    exact ⟨rfl, ((Below.refl _ _).alloc (Nat.le_refl _) _).alloc (by simp) _⟩

set_option maxHeartbeats 1000000 in
theorem leaks_any (v1 v2 : Value) (a b : Rn) (w : World) (h1 : RunIs w w.heap.size v1 a) (h2 : RunIs w w.heap.size v2 b) :
    Calls Tryd.prog 17 #[v1, v2] w (BB (leaksB a b) w) := by
  obtain ⟨A1, n, c, L1, k, p, rfl, -, hc, hcc, e1, hp, hpp⟩ := h1
  obtain ⟨A2, m, d, L2, l, q, rfl, -, hd, hdd, e2, hq, hqq⟩ := h2
  have H3 := Lib.hid (fun W => eqLeaks L1 L2 k l p q w.heap.size a.lks b.lks W)
  have H := Lib.hid (And.intro e1 e2)
  obtain ⟨ak, ax, ae, al, aS⟩ := a
  obtain ⟨bk, bx, be, bl, bs⟩ := b
  simp only at H3 H
  clear e1 e2
  by_cases hk : ak = bk
  · subst hk
    have e : leaksB ⟨ak, ax, ae, al, aS⟩ ⟨ak, bx, be, bl, bs⟩ = decide (al = bl) := by simp [leaksB]
    rw [e]
    clear e
    have t1 : (ak == ak) = true := by simp
    go_enter Tryd.func17, Tryd.ntmps17
    go_wp2_with fail
    refine (H3.out _ ((H.out.1.alloc (Nat.le_refl _) _).alloc (by simp) _) ((H.out.2.alloc (Nat.le_refl _) _).alloc (by simp) _) (by omega) (by omega)).mono ?_
    rintro e w' ⟨rfl, q, rfl⟩
    go_wp2_with fail
    go_ret
    exact ⟨rfl, below_drewN (((Below.refl _ _).alloc (Nat.le_refl _) _).alloc (by simp) _) _⟩
  · have e : leaksB ⟨ak, ax, ae, al, aS⟩ ⟨bk, bx, be, bl, bs⟩ = false := by simp [leaksB, hk]
    rw [e]
    clear e
    have t1 : (ak == bk) = false := by simpa using hk
    go_enter Tryd.func17, Tryd.ntmps17
    go_wp2_with fail
    go_ret
    exact ⟨rfl, ((Below.refl _ _).alloc (Nat.le_refl _) _).alloc (by simp) _⟩
end Go.Proofs.YtifknchhcbeekaaDoor
