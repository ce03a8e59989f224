/-
  TraceOrder answers true, for every three runs, in every world in which strconv's table holds its numbers.
-/
import Derived.Test.YtifknchhcbeekaaDoorRefinesWalk
import Derived.Deep.DeepCutAuto
import Derived.BigQuiet
import Derived.Lib.QuietBelow
namespace Go.Proofs.YtifknchhcbeekaaDoor
open Go.RowKit Go.Lib Go.Sort

/-- the three runs of a law: their blocks, what they are, what has been kept since w0 -/
structure Three (w0 W : World) (g k j : Nat) (a0 a1 a2 a3 a4 b0 b1 b2 b3 b4 c0 c1 c2 c3 c4 : Value) (a b c : Rn) : Prop where
  boxA : Box W g a0 a1 a2 a3 a4
  boxB : Box W k b0 b1 b2 b3 b4
  boxC : Box W j c0 c1 c2 c3 c4
  isA : RunIs W W.heap.size (.agg #[a0, a1, a2, a3, a4]) a
  isB : RunIs W W.heap.size (.agg #[b0, b1, b2, b3, b4]) b
  isC : RunIs W W.heap.size (.agg #[c0, c1, c2, c3, c4]) c
  low : Below w0.heap.size w0 W
section
variable {w0 W W' : World} {g k j : Nat} {a0 a1 a2 a3 a4 b0 b1 b2 b3 b4 c0 c1 c2 c3 c4 : Value} {a b c : Rn}
theorem Three.step (h : Three w0 W g k j a0 a1 a2 a3 a4 b0 b1 b2 b3 b4 c0 c1 c2 c3 c4 a b c) (hb : Below W.heap.size W W') : Three w0 W' g k j a0 a1 a2 a3 a4 b0 b1 b2 b3 b4 c0 c1 c2 c3 c4 a b c :=
  ⟨h.boxA.below hb, h.boxB.below hb, h.boxC.below hb, h.isA.step hb, h.isB.step hb, h.isC.step hb, h.low.trans (hb.mono h.low.size)⟩
theorem Three.start {w : World} (h1 : RunIs w w.heap.size (.agg #[a0, a1, a2, a3, a4]) a) (h2 : RunIs w w.heap.size (.agg #[b0, b1, b2, b3, b4]) b) (h3 : RunIs w w.heap.size (.agg #[c0, c1, c2, c3, c4]) c) :
    Three w (((w.alloc (.cells #[a0, a1, a2, a3, a4] 27)).alloc (.cells #[b0, b1, b2, b3, b4] 27)).alloc (.cells #[c0, c1, c2, c3, c4] 27)) w.heap.size (w.heap.size + 1) (w.heap.size + 1 + 1) a0 a1 a2 a3 a4 b0 b1 b2 b3 b4 c0 c1 c2 c3 c4 a b c := by
  have hb : Below w.heap.size w (((w.alloc (.cells #[a0, a1, a2, a3, a4] 27)).alloc (.cells #[b0, b1, b2, b3, b4] 27)).alloc (.cells #[c0, c1, c2, c3, c4] 27)) := (((Below.refl _ _).alloc (Nat.le_refl _) _).alloc (by simp) _).alloc (by simp; omega) _
  exact ⟨((Box.new w a0 a1 a2 a3 a4 rfl).alloc _).alloc _, (Box.new _ b0 b1 b2 b3 b4 (by simp)).alloc _, Box.new _ c0 c1 c2 c3 c4 (by simp), h1.step hb, h2.step hb, h3.step hb, hb⟩
theorem Three.cells (h : Three w0 W g k j a0 a1 a2 a3 a4 b0 b1 b2 b3 b4 c0 c1 c2 c3 c4 a b c) :
    (W.cell? ⟨g, 0, none⟩ = some a0 ∧ W.cell? ⟨g, 1, none⟩ = some a1 ∧ W.cell? ⟨g, 2, none⟩ = some a2 ∧ W.cell? ⟨g, 3, none⟩ = some a3 ∧ W.cell? ⟨g, 4, none⟩ = some a4) ∧
    (W.cell? ⟨k, 0, none⟩ = some b0 ∧ W.cell? ⟨k, 1, none⟩ = some b1 ∧ W.cell? ⟨k, 2, none⟩ = some b2 ∧ W.cell? ⟨k, 3, none⟩ = some b3 ∧ W.cell? ⟨k, 4, none⟩ = some b4) ∧
    (W.cell? ⟨j, 0, none⟩ = some c0 ∧ W.cell? ⟨j, 1, none⟩ = some c1 ∧ W.cell? ⟨j, 2, none⟩ = some c2 ∧ W.cell? ⟨j, 3, none⟩ = some c3 ∧ W.cell? ⟨j, 4, none⟩ = some c4) :=
  ⟨h.boxA.cells, h.boxB.cells, h.boxC.cells⟩
end
def OrderS (w0 W : World) (g k j : Nat) (a0 a1 a2 a3 a4 b0 b1 b2 b3 b4 c0 c1 c2 c3 c4 : Value) (a b c : Rn) : Prop :=
  W.cell? ⟨g, 0, none⟩ = some a0 ∧ W.cell? ⟨g, 1, none⟩ = some a1 ∧ W.cell? ⟨g, 2, none⟩ = some a2 ∧ W.cell? ⟨g, 3, none⟩ = some a3 ∧ W.cell? ⟨g, 4, none⟩ = some a4 ∧
    W.cell? ⟨k, 0, none⟩ = some b0 ∧ W.cell? ⟨k, 1, none⟩ = some b1 ∧ W.cell? ⟨k, 2, none⟩ = some b2 ∧ W.cell? ⟨k, 3, none⟩ = some b3 ∧ W.cell? ⟨k, 4, none⟩ = some b4 ∧
    W.cell? ⟨j, 0, none⟩ = some c0 ∧ W.cell? ⟨j, 1, none⟩ = some c1 ∧ W.cell? ⟨j, 2, none⟩ = some c2 ∧ W.cell? ⟨j, 3, none⟩ = some c3 ∧ W.cell? ⟨j, 4, none⟩ = some c4 ∧
    Three w0 W g k j a0 a1 a2 a3 a4 b0 b1 b2 b3 b4 c0 c1 c2 c3 c4 a b c
section
variable {w0 W W' : World} {g k j : Nat} {a0 a1 a2 a3 a4 b0 b1 b2 b3 b4 c0 c1 c2 c3 c4 : Value} {a b c : Rn}
theorem OrderS.of (h : Three w0 W g k j a0 a1 a2 a3 a4 b0 b1 b2 b3 b4 c0 c1 c2 c3 c4 a b c) : OrderS w0 W g k j a0 a1 a2 a3 a4 b0 b1 b2 b3 b4 c0 c1 c2 c3 c4 a b c := by
  obtain ⟨⟨q0, q1, q2, q3, q4⟩, ⟨r0, r1, r2, r3, r4⟩, ⟨u0, u1, u2, u3, u4⟩⟩ := h.cells
  exact ⟨q0, q1, q2, q3, q4, r0, r1, r2, r3, r4, u0, u1, u2, u3, u4, h⟩
theorem OrderS.three (h : OrderS w0 W g k j a0 a1 a2 a3 a4 b0 b1 b2 b3 b4 c0 c1 c2 c3 c4 a b c) : Three w0 W g k j a0 a1 a2 a3 a4 b0 b1 b2 b3 b4 c0 c1 c2 c3 c4 a b c := by
  obtain ⟨_, _, _, _, _, _, _, _, _, _, _, _, _, _, _, h⟩ := h
  exact h
theorem OrderS.step (h : OrderS w0 W g k j a0 a1 a2 a3 a4 b0 b1 b2 b3 b4 c0 c1 c2 c3 c4 a b c) (hb : Below W.heap.size W W') : OrderS w0 W' g k j a0 a1 a2 a3 a4 b0 b1 b2 b3 b4 c0 c1 c2 c3 c4 a b c := OrderS.of (h.three.step hb)
end
theorem evs_of {w : World} {v0 v1 v3 v4 : Value} {A : Option Addr} {n c : Nat} {r : Rn} (h : RunIs w w.heap.size (.agg #[v0, v1, .slice A n c, v3, v4]) r) : Evs w w.heap.size A n r.evs := by
  obtain ⟨_, _, _, _, _, _, e, h, _⟩ := h
  simp at e
  obtain ⟨_, _, ⟨rfl, rfl, rfl⟩, _⟩ := e
  exact h
theorem caps_of {w : World} {v0 v1 v3 v4 : Value} {A : Option Addr} {n c : Nat} {r : Rn} (h : RunIs w w.heap.size (.agg #[v0, v1, .slice A n c, v3, v4]) r) : n ≤ c ∧ c ≤ 9223372036854775807 := by
  obtain ⟨_, _, _, _, _, _, e, _, h1, h2, _⟩ := h
  simp at e
  obtain ⟨_, _, ⟨rfl, rfl, rfl⟩, _⟩ := e
  exact ⟨h1, h2⟩
theorem prefix_of {w : World} {v0 v1 v3 v4 u0 u1 u3 u4 : Value} {A B : Option Addr} {n c m d : Nat} {r s : Rn} (h : RunIs w w.heap.size (.agg #[v0, v1, .slice A n c, v3, v4]) r) (h' : RunIs w w.heap.size (.agg #[u0, u1, .slice B m d, u3, u4]) s) :
    Calls Tryd.prog 12 #[.slice A n c, .slice B m d] w (BB (preB r.evs s.evs) w) := by
  have a := caps_of h
  have b := caps_of h'
  exact prefix_any A B n m c d w.heap.size _ _ w (evs_of h) (evs_of h') b.1 (by omega) b.2
theorem preB_trans {x y z : List Ev} (h : preB x y = true) (k : preB y z = true) : preB x z = true := by
  simp only [preB, decide_eq_true_eq] at h k ⊢
  have hle : x.length ≤ y.length := by
    have := congrArg List.length h
    simp at this
    omega
  rw [k, List.take_take, Nat.min_eq_left hle] at h
  exact h
theorem sameB_trans {x y z : Rn} (h : sameB x y = true) (k : sameB y z = true) : sameB x z = true := by
  simp only [sameB, Bool.and_eq_true, decide_eq_true_eq] at h k ⊢
  exact ⟨⟨h.1.1.trans k.1.1, h.1.2.trans k.1.2⟩, h.2.trans k.2⟩
theorem leaksB_trans {x y z : Rn} (h : leaksB x y = true) (k : leaksB y z = true) : leaksB x z = true := by
  simp only [leaksB, Bool.and_eq_true, decide_eq_true_eq] at h k ⊢
  exact ⟨h.1.trans k.1, h.2.trans k.2⟩
theorem sameB_self (x : Rn) : sameB x x = true := by simp [sameB]
theorem leaksB_self (x : Rn) : leaksB x x = true := by simp [leaksB]
theorem sameB_comm (x y : Rn) : sameB x y = sameB y x := by
  simp only [sameB]
  rw [decide_eq_decide.2 (eq_comm (a := x.kind)), decide_eq_decide.2 (eq_comm (a := x.exit)), decide_eq_decide.2 (eq_comm (a := x.evs))]
theorem refB_self (x : Rn) (h1 : 1 ≤ x.kind) (h4 : x.kind ≤ 3) : refB x x = true := by
  unfold refB
  rw [sameB_self, preB_self]
  split
  · rfl
  · split
    · rfl
    · simp; omega

set_option maxHeartbeats 8000000 in
set_option maxRecDepth 100000 in
theorem order_any (v1 v2 v3 : Value) (a b c : Rn) (w : World) (ht : Tab w) (h1 : RunIs w w.heap.size v1 a) (h2 : RunIs w w.heap.size v2 b) (h3 : RunIs w w.heap.size v3 c) :
    Calls Tryd.prog 5 #[v1, v2, v3] w (BB true w) := by
  obtain ⟨ak, ax, ae, al, ag⟩ := a
  obtain ⟨aA, an, ac, aL, am, ap, hva, a1, a2, a3, a4, a5, a6⟩ := h1
  dsimp only at hva a1 a4
  subst hva
  have Ka : RunIs w w.heap.size (.agg #[.int .i64 ak, .int .i64 ax, .slice aA an ac, .slice aL am ap, .int .i64 ag]) ⟨ak, ax, ae, al, ag⟩ := ⟨aA, an, ac, aL, am, ap, rfl, a1, a2, a3, a4, a5, a6⟩
  have Hlena : an ≤ 9223372036854775807 := by omega
  clear a1 a2 a3 a4 a5 a6
  obtain ⟨bk, bx, be, bl, bg⟩ := b
  obtain ⟨bA, bn, bc, bL, bm, bp, hvb, b1, b2, b3, b4, b5, b6⟩ := h2
  dsimp only at hvb b1 b4
  subst hvb
  have Kb : RunIs w w.heap.size (.agg #[.int .i64 bk, .int .i64 bx, .slice bA bn bc, .slice bL bm bp, .int .i64 bg]) ⟨bk, bx, be, bl, bg⟩ := ⟨bA, bn, bc, bL, bm, bp, rfl, b1, b2, b3, b4, b5, b6⟩
  have Hlenb : bn ≤ 9223372036854775807 := by omega
  clear b1 b2 b3 b4 b5 b6
  obtain ⟨ck, cx, ce, cl, cg⟩ := c
  obtain ⟨cA, cn, cc, cL, cm, cp, hvc, c1, c2, c3, c4, c5, c6⟩ := h3
  dsimp only at hvc c1 c4
  subst hvc
  have Kc : RunIs w w.heap.size (.agg #[.int .i64 ck, .int .i64 cx, .slice cA cn cc, .slice cL cm cp, .int .i64 cg]) ⟨ck, cx, ce, cl, cg⟩ := ⟨cA, cn, cc, cL, cm, cp, rfl, c1, c2, c3, c4, c5, c6⟩
  have Hlenc : cn ≤ 9223372036854775807 := by omega
  clear c1 c2 c3 c4 c5 c6
  have T0 := Lib.hid (Three.start Ka Kb Kc)
  have HA := Lib.hid (awake_any _ (ht.below (Three.start Ka Kb Kc).low))
  clear ht Ka Kb Kc
  have Sab := Lib.hid (fun W h h' => same_any (.agg #[.int .i64 ak, .int .i64 ax, .slice aA an ac, .slice aL am ap, .int .i64 ag]) (.agg #[.int .i64 bk, .int .i64 bx, .slice bA bn bc, .slice bL bm bp, .int .i64 bg]) ⟨ak, ax, ae, al, ag⟩ ⟨bk, bx, be, bl, bg⟩ W h h')
  have Sbc := Lib.hid (fun W h h' => same_any (.agg #[.int .i64 bk, .int .i64 bx, .slice bA bn bc, .slice bL bm bp, .int .i64 bg]) (.agg #[.int .i64 ck, .int .i64 cx, .slice cA cn cc, .slice cL cm cp, .int .i64 cg]) ⟨bk, bx, be, bl, bg⟩ ⟨ck, cx, ce, cl, cg⟩ W h h')
  have Sac := Lib.hid (fun W h h' => same_any (.agg #[.int .i64 ak, .int .i64 ax, .slice aA an ac, .slice aL am ap, .int .i64 ag]) (.agg #[.int .i64 ck, .int .i64 cx, .slice cA cn cc, .slice cL cm cp, .int .i64 cg]) ⟨ak, ax, ae, al, ag⟩ ⟨ck, cx, ce, cl, cg⟩ W h h')
  have Sba := Lib.hid (fun W h h' => same_any (.agg #[.int .i64 bk, .int .i64 bx, .slice bA bn bc, .slice bL bm bp, .int .i64 bg]) (.agg #[.int .i64 ak, .int .i64 ax, .slice aA an ac, .slice aL am ap, .int .i64 ag]) ⟨bk, bx, be, bl, bg⟩ ⟨ak, ax, ae, al, ag⟩ W h h')
  have Lab := Lib.hid (fun W h h' => leaks_any (.agg #[.int .i64 ak, .int .i64 ax, .slice aA an ac, .slice aL am ap, .int .i64 ag]) (.agg #[.int .i64 bk, .int .i64 bx, .slice bA bn bc, .slice bL bm bp, .int .i64 bg]) ⟨ak, ax, ae, al, ag⟩ ⟨bk, bx, be, bl, bg⟩ W h h')
  have Lbc := Lib.hid (fun W h h' => leaks_any (.agg #[.int .i64 bk, .int .i64 bx, .slice bA bn bc, .slice bL bm bp, .int .i64 bg]) (.agg #[.int .i64 ck, .int .i64 cx, .slice cA cn cc, .slice cL cm cp, .int .i64 cg]) ⟨bk, bx, be, bl, bg⟩ ⟨ck, cx, ce, cl, cg⟩ W h h')
  have Lac := Lib.hid (fun W h h' => leaks_any (.agg #[.int .i64 ak, .int .i64 ax, .slice aA an ac, .slice aL am ap, .int .i64 ag]) (.agg #[.int .i64 ck, .int .i64 cx, .slice cA cn cc, .slice cL cm cp, .int .i64 cg]) ⟨ak, ax, ae, al, ag⟩ ⟨ck, cx, ce, cl, cg⟩ W h h')
  have Pab := Lib.hid (fun W (h : RunIs W W.heap.size (.agg #[.int .i64 ak, .int .i64 ax, .slice aA an ac, .slice aL am ap, .int .i64 ag]) ⟨ak, ax, ae, al, ag⟩) (h' : RunIs W W.heap.size (.agg #[.int .i64 bk, .int .i64 bx, .slice bA bn bc, .slice bL bm bp, .int .i64 bg]) ⟨bk, bx, be, bl, bg⟩) => prefix_of h h')
  have Pbc := Lib.hid (fun W (h : RunIs W W.heap.size (.agg #[.int .i64 bk, .int .i64 bx, .slice bA bn bc, .slice bL bm bp, .int .i64 bg]) ⟨bk, bx, be, bl, bg⟩) (h' : RunIs W W.heap.size (.agg #[.int .i64 ck, .int .i64 cx, .slice cA cn cc, .slice cL cm cp, .int .i64 cg]) ⟨ck, cx, ce, cl, cg⟩) => prefix_of h h')
  have Pac := Lib.hid (fun W (h : RunIs W W.heap.size (.agg #[.int .i64 ak, .int .i64 ax, .slice aA an ac, .slice aL am ap, .int .i64 ag]) ⟨ak, ax, ae, al, ag⟩) (h' : RunIs W W.heap.size (.agg #[.int .i64 ck, .int .i64 cx, .slice cA cn cc, .slice cL cm cp, .int .i64 cg]) ⟨ck, cx, ce, cl, cg⟩) => prefix_of h h')
  have hS : sameB ⟨ak, ax, ae, al, ag⟩ ⟨bk, bx, be, bl, bg⟩ = true → sameB ⟨bk, bx, be, bl, bg⟩ ⟨ck, cx, ce, cl, cg⟩ = true → sameB ⟨ak, ax, ae, al, ag⟩ ⟨ck, cx, ce, cl, cg⟩ = true := sameB_trans
  have hLk : leaksB ⟨ak, ax, ae, al, ag⟩ ⟨bk, bx, be, bl, bg⟩ = true → leaksB ⟨bk, bx, be, bl, bg⟩ ⟨ck, cx, ce, cl, cg⟩ = true → leaksB ⟨ak, ax, ae, al, ag⟩ ⟨ck, cx, ce, cl, cg⟩ = true := leaksB_trans
  have hP : preB ae be = true → preB be ce = true → preB ae ce = true := preB_trans
  have Saa := Lib.hid (fun W h => call_same ⟨ak, ax, ae, al, ag⟩ ⟨ak, ax, ae, al, ag⟩ true (sameB_self _) (.agg #[.int .i64 ak, .int .i64 ax, .slice aA an ac, .slice aL am ap, .int .i64 ag]) (.agg #[.int .i64 ak, .int .i64 ax, .slice aA an ac, .slice aL am ap, .int .i64 ag]) W h h)
  have Lbb := Lib.hid (fun W h => call_leaks ⟨bk, bx, be, bl, bg⟩ ⟨bk, bx, be, bl, bg⟩ true (leaksB_self _) (.agg #[.int .i64 bk, .int .i64 bx, .slice bA bn bc, .slice bL bm bp, .int .i64 bg]) (.agg #[.int .i64 bk, .int .i64 bx, .slice bA bn bc, .slice bL bm bp, .int .i64 bg]) W h h)
  have Pcc : Hid (∀ W, RunIs W W.heap.size (.agg #[.int .i64 ck, .int .i64 cx, .slice cA cn cc, .slice cL cm cp, .int .i64 cg]) ⟨ck, cx, ce, cl, cg⟩ → Calls Tryd.prog 12 #[.slice cA cn cc, .slice cA cn cc] W (BB true W)) := Lib.hid (fun W h => by have := prefix_of h h; rw [preB_self] at this; exact this)
  have Raa : Hid (1 ≤ ak → ak ≤ 3 → ∀ W, RunIs W W.heap.size (.agg #[.int .i64 ak, .int .i64 ax, .slice aA an ac, .slice aL am ap, .int .i64 ag]) ⟨ak, ax, ae, al, ag⟩ → Calls Tryd.prog 10 #[.agg #[.int .i64 ak, .int .i64 ax, .slice aA an ac, .slice aL am ap, .int .i64 ag], .agg #[.int .i64 ak, .int .i64 ax, .slice aA an ac, .slice aL am ap, .int .i64 ag]] W (BB true W)) := Lib.hid (fun g1 g2 W h => call_ref ⟨ak, ax, ae, al, ag⟩ ⟨ak, ax, ae, al, ag⟩ true (refB_self _ g1 g2) _ _ W h h)
  dsimp only at Pab Pbc Pac
  rw [sameB_comm ⟨bk, bx, be, bl, bg⟩ ⟨ak, ax, ae, al, ag⟩] at Sba
  generalize sameB ⟨ak, ax, ae, al, ag⟩ ⟨bk, bx, be, bl, bg⟩ = sab at Sab Sba hS
  generalize leaksB ⟨ak, ax, ae, al, ag⟩ ⟨bk, bx, be, bl, bg⟩ = lab at Lab hLk
  generalize preB ae be = pab at Pab hP
  generalize sameB ⟨bk, bx, be, bl, bg⟩ ⟨ck, cx, ce, cl, cg⟩ = sbc at Sbc hS
  generalize leaksB ⟨bk, bx, be, bl, bg⟩ ⟨ck, cx, ce, cl, cg⟩ = lbc at Lbc hLk
  generalize preB be ce = pbc at Pbc hP
  generalize sameB ⟨ak, ax, ae, al, ag⟩ ⟨ck, cx, ce, cl, cg⟩ = sac at Sac hS
  generalize leaksB ⟨ak, ax, ae, al, ag⟩ ⟨ck, cx, ce, cl, cg⟩ = lac at Lac hLk
  generalize preB ae ce = pac at Pac hP
  have HS := Lib.hid hS
  have HL := Lib.hid hLk
  have HP := Lib.hid hP
  clear hS hLk hP
  by_cases na : an ≤ 100
  · by_cases nb : bn ≤ 100
    · by_cases nc : cn ≤ 100
      · go_enter Tryd.func5, Tryd.ntmps5
        go_wp2_with fail
        refine HA.out.mono ?_
        rintro e w1 ⟨rfl, hb⟩
        have T1 := Lib.hid (T0.out.step hb)
        clear hb
        obtain ⟨⟨q0, q1, q2, q3, q4⟩, ⟨r0, r1, r2, r3, r4⟩, ⟨u0, u1, u2, u3, u4⟩⟩ := T1.out.cells
        go_upto_region 5 with fail
        go_cut [54] (fun s54 wx => s54 = .bool false ∧ Three w wx w.heap.size (w.heap.size + 1) (w.heap.size + 1 + 1) (.int .i64 ak) (.int .i64 ax) (.slice aA an ac) (.slice aL am ap) (.int .i64 ag) (.int .i64 bk) (.int .i64 bx) (.slice bA bn bc) (.slice bL bm bp) (.int .i64 bg) (.int .i64 ck) (.int .i64 cx) (.slice cA cn cc) (.slice cL cm cp) (.int .i64 cg) ⟨ak, ax, ae, al, ag⟩ ⟨bk, bx, be, bl, bg⟩ ⟨ck, cx, ce, cl, cg⟩)
        case first =>
          go_wp2_with fail
          cases sab
          · refine (Sab.out _ T1.out.isA T1.out.isB).mono ?_
            rintro e V1 ⟨rfl, hb⟩
            have T2 := Lib.hid (T1.out.step hb)
            clear hb q0 q1 q2 q3 q4 r0 r1 r2 r3 r4 u0 u1 u2 u3 u4
            obtain ⟨⟨q0, q1, q2, q3, q4⟩, ⟨r0, r1, r2, r3, r4⟩, ⟨u0, u1, u2, u3, u4⟩⟩ := T2.out.cells
            go_wp2_with fail
            cases lab
            · refine (Lab.out _ T2.out.isA T2.out.isB).mono ?_
              rintro e V2 ⟨rfl, hb⟩
              have T3 := Lib.hid (T2.out.step hb)
              clear hb q0 q1 q2 q3 q4 r0 r1 r2 r3 r4 u0 u1 u2 u3 u4
              obtain ⟨⟨q0, q1, q2, q3, q4⟩, ⟨r0, r1, r2, r3, r4⟩, ⟨u0, u1, u2, u3, u4⟩⟩ := T3.out.cells
              go_wp2_with fail
              go_meet
              exact ⟨rfl, T3.out⟩
            · cases lbc
              · refine (Lab.out _ T2.out.isA T2.out.isB).mono ?_
                rintro e V3 ⟨rfl, hb⟩
                have T4 := Lib.hid (T2.out.step hb)
                clear hb q0 q1 q2 q3 q4 r0 r1 r2 r3 r4 u0 u1 u2 u3 u4
                obtain ⟨⟨q0, q1, q2, q3, q4⟩, ⟨r0, r1, r2, r3, r4⟩, ⟨u0, u1, u2, u3, u4⟩⟩ := T4.out.cells
                go_wp2_with fail
                refine (Lbc.out _ T4.out.isB T4.out.isC).mono ?_
                rintro e V4 ⟨rfl, hb⟩
                have T5 := Lib.hid (T4.out.step hb)
                clear hb q0 q1 q2 q3 q4 r0 r1 r2 r3 r4 u0 u1 u2 u3 u4
                obtain ⟨⟨q0, q1, q2, q3, q4⟩, ⟨r0, r1, r2, r3, r4⟩, ⟨u0, u1, u2, u3, u4⟩⟩ := T5.out.cells
                go_wp2_with fail
                go_meet
                exact ⟨rfl, T5.out⟩
              · obtain rfl : lac = true := HL.out rfl rfl
                refine (Lab.out _ T2.out.isA T2.out.isB).mono ?_
                rintro e V5 ⟨rfl, hb⟩
                have T6 := Lib.hid (T2.out.step hb)
                clear hb q0 q1 q2 q3 q4 r0 r1 r2 r3 r4 u0 u1 u2 u3 u4
                obtain ⟨⟨q0, q1, q2, q3, q4⟩, ⟨r0, r1, r2, r3, r4⟩, ⟨u0, u1, u2, u3, u4⟩⟩ := T6.out.cells
                go_wp2_with fail
                refine (Lbc.out _ T6.out.isB T6.out.isC).mono ?_
                rintro e V6 ⟨rfl, hb⟩
                have T7 := Lib.hid (T6.out.step hb)
                clear hb q0 q1 q2 q3 q4 r0 r1 r2 r3 r4 u0 u1 u2 u3 u4
                obtain ⟨⟨q0, q1, q2, q3, q4⟩, ⟨r0, r1, r2, r3, r4⟩, ⟨u0, u1, u2, u3, u4⟩⟩ := T7.out.cells
                go_wp2_with fail
                refine (Lac.out _ T7.out.isA T7.out.isC).mono ?_
                rintro e V7 ⟨rfl, hb⟩
                have T8 := Lib.hid (T7.out.step hb)
                clear hb q0 q1 q2 q3 q4 r0 r1 r2 r3 r4 u0 u1 u2 u3 u4
                obtain ⟨⟨q0, q1, q2, q3, q4⟩, ⟨r0, r1, r2, r3, r4⟩, ⟨u0, u1, u2, u3, u4⟩⟩ := T8.out.cells
                go_wp2_with fail
                go_meet
                exact ⟨rfl, T8.out⟩
          · cases sbc
            · refine (Sab.out _ T1.out.isA T1.out.isB).mono ?_
              rintro e V8 ⟨rfl, hb⟩
              have T9 := Lib.hid (T1.out.step hb)
              clear hb q0 q1 q2 q3 q4 r0 r1 r2 r3 r4 u0 u1 u2 u3 u4
              obtain ⟨⟨q0, q1, q2, q3, q4⟩, ⟨r0, r1, r2, r3, r4⟩, ⟨u0, u1, u2, u3, u4⟩⟩ := T9.out.cells
              go_wp2_with fail
              refine (Sbc.out _ T9.out.isB T9.out.isC).mono ?_
              rintro e V9 ⟨rfl, hb⟩
              have T10 := Lib.hid (T9.out.step hb)
              clear hb q0 q1 q2 q3 q4 r0 r1 r2 r3 r4 u0 u1 u2 u3 u4
              obtain ⟨⟨q0, q1, q2, q3, q4⟩, ⟨r0, r1, r2, r3, r4⟩, ⟨u0, u1, u2, u3, u4⟩⟩ := T10.out.cells
              go_wp2_with fail
              cases lab
              · refine (Lab.out _ T10.out.isA T10.out.isB).mono ?_
                rintro e V10 ⟨rfl, hb⟩
                have T11 := Lib.hid (T10.out.step hb)
                clear hb q0 q1 q2 q3 q4 r0 r1 r2 r3 r4 u0 u1 u2 u3 u4
                obtain ⟨⟨q0, q1, q2, q3, q4⟩, ⟨r0, r1, r2, r3, r4⟩, ⟨u0, u1, u2, u3, u4⟩⟩ := T11.out.cells
                go_wp2_with fail
                go_meet
                exact ⟨rfl, T11.out⟩
              · cases lbc
                · refine (Lab.out _ T10.out.isA T10.out.isB).mono ?_
                  rintro e V11 ⟨rfl, hb⟩
                  have T12 := Lib.hid (T10.out.step hb)
                  clear hb q0 q1 q2 q3 q4 r0 r1 r2 r3 r4 u0 u1 u2 u3 u4
                  obtain ⟨⟨q0, q1, q2, q3, q4⟩, ⟨r0, r1, r2, r3, r4⟩, ⟨u0, u1, u2, u3, u4⟩⟩ := T12.out.cells
                  go_wp2_with fail
                  refine (Lbc.out _ T12.out.isB T12.out.isC).mono ?_
                  rintro e V12 ⟨rfl, hb⟩
                  have T13 := Lib.hid (T12.out.step hb)
                  clear hb q0 q1 q2 q3 q4 r0 r1 r2 r3 r4 u0 u1 u2 u3 u4
                  obtain ⟨⟨q0, q1, q2, q3, q4⟩, ⟨r0, r1, r2, r3, r4⟩, ⟨u0, u1, u2, u3, u4⟩⟩ := T13.out.cells
                  go_wp2_with fail
                  go_meet
                  exact ⟨rfl, T13.out⟩
                · obtain rfl : lac = true := HL.out rfl rfl
                  refine (Lab.out _ T10.out.isA T10.out.isB).mono ?_
                  rintro e V13 ⟨rfl, hb⟩
                  have T14 := Lib.hid (T10.out.step hb)
                  clear hb q0 q1 q2 q3 q4 r0 r1 r2 r3 r4 u0 u1 u2 u3 u4
                  obtain ⟨⟨q0, q1, q2, q3, q4⟩, ⟨r0, r1, r2, r3, r4⟩, ⟨u0, u1, u2, u3, u4⟩⟩ := T14.out.cells
                  go_wp2_with fail
                  refine (Lbc.out _ T14.out.isB T14.out.isC).mono ?_
                  rintro e V14 ⟨rfl, hb⟩
                  have T15 := Lib.hid (T14.out.step hb)
                  clear hb q0 q1 q2 q3 q4 r0 r1 r2 r3 r4 u0 u1 u2 u3 u4
                  obtain ⟨⟨q0, q1, q2, q3, q4⟩, ⟨r0, r1, r2, r3, r4⟩, ⟨u0, u1, u2, u3, u4⟩⟩ := T15.out.cells
                  go_wp2_with fail
                  refine (Lac.out _ T15.out.isA T15.out.isC).mono ?_
                  rintro e V15 ⟨rfl, hb⟩
                  have T16 := Lib.hid (T15.out.step hb)
                  clear hb q0 q1 q2 q3 q4 r0 r1 r2 r3 r4 u0 u1 u2 u3 u4
                  obtain ⟨⟨q0, q1, q2, q3, q4⟩, ⟨r0, r1, r2, r3, r4⟩, ⟨u0, u1, u2, u3, u4⟩⟩ := T16.out.cells
                  go_wp2_with fail
                  go_meet
                  exact ⟨rfl, T16.out⟩
            · obtain rfl : sac = true := HS.out rfl rfl
              refine (Sab.out _ T1.out.isA T1.out.isB).mono ?_
              rintro e V16 ⟨rfl, hb⟩
              have T17 := Lib.hid (T1.out.step hb)
              clear hb q0 q1 q2 q3 q4 r0 r1 r2 r3 r4 u0 u1 u2 u3 u4
              obtain ⟨⟨q0, q1, q2, q3, q4⟩, ⟨r0, r1, r2, r3, r4⟩, ⟨u0, u1, u2, u3, u4⟩⟩ := T17.out.cells
              go_wp2_with fail
              refine (Sbc.out _ T17.out.isB T17.out.isC).mono ?_
              rintro e V17 ⟨rfl, hb⟩
              have T18 := Lib.hid (T17.out.step hb)
              clear hb q0 q1 q2 q3 q4 r0 r1 r2 r3 r4 u0 u1 u2 u3 u4
              obtain ⟨⟨q0, q1, q2, q3, q4⟩, ⟨r0, r1, r2, r3, r4⟩, ⟨u0, u1, u2, u3, u4⟩⟩ := T18.out.cells
              go_wp2_with fail
              refine (Sac.out _ T18.out.isA T18.out.isC).mono ?_
              rintro e V18 ⟨rfl, hb⟩
              have T19 := Lib.hid (T18.out.step hb)
              clear hb q0 q1 q2 q3 q4 r0 r1 r2 r3 r4 u0 u1 u2 u3 u4
              obtain ⟨⟨q0, q1, q2, q3, q4⟩, ⟨r0, r1, r2, r3, r4⟩, ⟨u0, u1, u2, u3, u4⟩⟩ := T19.out.cells
              go_wp2_with fail
              cases lab
              · refine (Lab.out _ T19.out.isA T19.out.isB).mono ?_
                rintro e V19 ⟨rfl, hb⟩
                have T20 := Lib.hid (T19.out.step hb)
                clear hb q0 q1 q2 q3 q4 r0 r1 r2 r3 r4 u0 u1 u2 u3 u4
                obtain ⟨⟨q0, q1, q2, q3, q4⟩, ⟨r0, r1, r2, r3, r4⟩, ⟨u0, u1, u2, u3, u4⟩⟩ := T20.out.cells
                go_wp2_with fail
                go_meet
                exact ⟨rfl, T20.out⟩
              · cases lbc
                · refine (Lab.out _ T19.out.isA T19.out.isB).mono ?_
                  rintro e V20 ⟨rfl, hb⟩
                  have T21 := Lib.hid (T19.out.step hb)
                  clear hb q0 q1 q2 q3 q4 r0 r1 r2 r3 r4 u0 u1 u2 u3 u4
                  obtain ⟨⟨q0, q1, q2, q3, q4⟩, ⟨r0, r1, r2, r3, r4⟩, ⟨u0, u1, u2, u3, u4⟩⟩ := T21.out.cells
                  go_wp2_with fail
                  refine (Lbc.out _ T21.out.isB T21.out.isC).mono ?_
                  rintro e V21 ⟨rfl, hb⟩
                  have T22 := Lib.hid (T21.out.step hb)
                  clear hb q0 q1 q2 q3 q4 r0 r1 r2 r3 r4 u0 u1 u2 u3 u4
                  obtain ⟨⟨q0, q1, q2, q3, q4⟩, ⟨r0, r1, r2, r3, r4⟩, ⟨u0, u1, u2, u3, u4⟩⟩ := T22.out.cells
                  go_wp2_with fail
                  go_meet
                  exact ⟨rfl, T22.out⟩
                · obtain rfl : lac = true := HL.out rfl rfl
                  refine (Lab.out _ T19.out.isA T19.out.isB).mono ?_
                  rintro e V22 ⟨rfl, hb⟩
                  have T23 := Lib.hid (T19.out.step hb)
                  clear hb q0 q1 q2 q3 q4 r0 r1 r2 r3 r4 u0 u1 u2 u3 u4
                  obtain ⟨⟨q0, q1, q2, q3, q4⟩, ⟨r0, r1, r2, r3, r4⟩, ⟨u0, u1, u2, u3, u4⟩⟩ := T23.out.cells
                  go_wp2_with fail
                  refine (Lbc.out _ T23.out.isB T23.out.isC).mono ?_
                  rintro e V23 ⟨rfl, hb⟩
                  have T24 := Lib.hid (T23.out.step hb)
                  clear hb q0 q1 q2 q3 q4 r0 r1 r2 r3 r4 u0 u1 u2 u3 u4
                  obtain ⟨⟨q0, q1, q2, q3, q4⟩, ⟨r0, r1, r2, r3, r4⟩, ⟨u0, u1, u2, u3, u4⟩⟩ := T24.out.cells
                  go_wp2_with fail
                  refine (Lac.out _ T24.out.isA T24.out.isC).mono ?_
                  rintro e V24 ⟨rfl, hb⟩
                  have T25 := Lib.hid (T24.out.step hb)
                  clear hb q0 q1 q2 q3 q4 r0 r1 r2 r3 r4 u0 u1 u2 u3 u4
                  obtain ⟨⟨q0, q1, q2, q3, q4⟩, ⟨r0, r1, r2, r3, r4⟩, ⟨u0, u1, u2, u3, u4⟩⟩ := T25.out.cells
                  go_wp2_with fail
                  go_meet
                  exact ⟨rfl, T25.out⟩
        case rest =>
          obtain ⟨rfl, hcut⟩ := hcut
          have T9 := Lib.hid hcut
          clear hcut T1 q0 q1 q2 q3 q4 r0 r1 r2 r3 r4 u0 u1 u2 u3 u4
          obtain ⟨⟨q0, q1, q2, q3, q4⟩, ⟨r0, r1, r2, r3, r4⟩, ⟨u0, u1, u2, u3, u4⟩⟩ := T9.out.cells
          go_upto_region 7 with fail
          go_cut [74] (fun s74 wx => s74 = .bool false ∧ Three w wx w.heap.size (w.heap.size + 1) (w.heap.size + 1 + 1) (.int .i64 ak) (.int .i64 ax) (.slice aA an ac) (.slice aL am ap) (.int .i64 ag) (.int .i64 bk) (.int .i64 bx) (.slice bA bn bc) (.slice bL bm bp) (.int .i64 bg) (.int .i64 ck) (.int .i64 cx) (.slice cA cn cc) (.slice cL cm cp) (.int .i64 cg) ⟨ak, ax, ae, al, ag⟩ ⟨bk, bx, be, bl, bg⟩ ⟨ck, cx, ce, cl, cg⟩)
          case first =>
            go_wp2_with fail
            cases pab
            · refine (Pab.out _ T9.out.isA T9.out.isB).mono ?_
              rintro e V25 ⟨rfl, hb⟩
              have T26 := Lib.hid (T9.out.step hb)
              clear hb q0 q1 q2 q3 q4 r0 r1 r2 r3 r4 u0 u1 u2 u3 u4
              obtain ⟨⟨q0, q1, q2, q3, q4⟩, ⟨r0, r1, r2, r3, r4⟩, ⟨u0, u1, u2, u3, u4⟩⟩ := T26.out.cells
              go_wp2_with fail
              go_meet
              exact ⟨rfl, T26.out⟩
            · cases pbc
              · refine (Pab.out _ T9.out.isA T9.out.isB).mono ?_
                rintro e V26 ⟨rfl, hb⟩
                have T27 := Lib.hid (T9.out.step hb)
                clear hb q0 q1 q2 q3 q4 r0 r1 r2 r3 r4 u0 u1 u2 u3 u4
                obtain ⟨⟨q0, q1, q2, q3, q4⟩, ⟨r0, r1, r2, r3, r4⟩, ⟨u0, u1, u2, u3, u4⟩⟩ := T27.out.cells
                go_wp2_with fail
                refine (Pbc.out _ T27.out.isB T27.out.isC).mono ?_
                rintro e V27 ⟨rfl, hb⟩
                have T28 := Lib.hid (T27.out.step hb)
                clear hb q0 q1 q2 q3 q4 r0 r1 r2 r3 r4 u0 u1 u2 u3 u4
                obtain ⟨⟨q0, q1, q2, q3, q4⟩, ⟨r0, r1, r2, r3, r4⟩, ⟨u0, u1, u2, u3, u4⟩⟩ := T28.out.cells
                go_wp2_with fail
                go_meet
                exact ⟨rfl, T28.out⟩
              · obtain rfl : pac = true := HP.out rfl rfl
                refine (Pab.out _ T9.out.isA T9.out.isB).mono ?_
                rintro e V28 ⟨rfl, hb⟩
                have T29 := Lib.hid (T9.out.step hb)
                clear hb q0 q1 q2 q3 q4 r0 r1 r2 r3 r4 u0 u1 u2 u3 u4
                obtain ⟨⟨q0, q1, q2, q3, q4⟩, ⟨r0, r1, r2, r3, r4⟩, ⟨u0, u1, u2, u3, u4⟩⟩ := T29.out.cells
                go_wp2_with fail
                refine (Pbc.out _ T29.out.isB T29.out.isC).mono ?_
                rintro e V29 ⟨rfl, hb⟩
                have T30 := Lib.hid (T29.out.step hb)
                clear hb q0 q1 q2 q3 q4 r0 r1 r2 r3 r4 u0 u1 u2 u3 u4
                obtain ⟨⟨q0, q1, q2, q3, q4⟩, ⟨r0, r1, r2, r3, r4⟩, ⟨u0, u1, u2, u3, u4⟩⟩ := T30.out.cells
                go_wp2_with fail
                refine (Pac.out _ T30.out.isA T30.out.isC).mono ?_
                rintro e V30 ⟨rfl, hb⟩
                have T31 := Lib.hid (T30.out.step hb)
                clear hb q0 q1 q2 q3 q4 r0 r1 r2 r3 r4 u0 u1 u2 u3 u4
                obtain ⟨⟨q0, q1, q2, q3, q4⟩, ⟨r0, r1, r2, r3, r4⟩, ⟨u0, u1, u2, u3, u4⟩⟩ := T31.out.cells
                go_wp2_with fail
                go_meet
                exact ⟨rfl, T31.out⟩
          case rest =>
            obtain ⟨rfl, hcut⟩ := hcut
            have TA := Lib.hid hcut
            clear hcut T9 q0 q1 q2 q3 q4 r0 r1 r2 r3 r4 u0 u1 u2 u3 u4
            obtain ⟨⟨q0, q1, q2, q3, q4⟩, ⟨r0, r1, r2, r3, r4⟩, ⟨u0, u1, u2, u3, u4⟩⟩ := TA.out.cells
            have kq0 := cell_regrown q0
            have kq1 := cell_regrown q1
            have kq2 := cell_regrown q2
            have kq3 := cell_regrown q3
            have kq4 := cell_regrown q4
            have kr0 := cell_regrown r0
            have kr1 := cell_regrown r1
            have kr2 := cell_regrown r2
            have kr3 := cell_regrown r3
            have kr4 := cell_regrown r4
            have ku0 := cell_regrown u0
            have ku1 := cell_regrown u1
            have ku2 := cell_regrown u2
            have ku3 := cell_regrown u3
            have ku4 := cell_regrown u4
            have HT := Lib.hid (fun d os => TA.out.step (below_regrown wc d os))
            have C1 : ∀ d os, Calls Tryd.prog 16 #[.agg #[.int .i64 ak, .int .i64 ax, .slice aA an ac, .slice aL am ap, .int .i64 ag], .agg #[.int .i64 ak, .int .i64 ax, .slice aA an ac, .slice aL am ap, .int .i64 ag]] (grow (redrawn wc d) os) fun e w'' => e = .returned (.bool true) ∧ ∃ p : Regrown, w'' = grow (redrawn wc p.d) p.os := fun d os => Calls.regrown_of (Saa.out _ (HT.out d os).isA)
            have C2 : ∀ d os, Calls Tryd.prog 17 #[.agg #[.int .i64 bk, .int .i64 bx, .slice bA bn bc, .slice bL bm bp, .int .i64 bg], .agg #[.int .i64 bk, .int .i64 bx, .slice bA bn bc, .slice bL bm bp, .int .i64 bg]] (grow (redrawn wc d) os) fun e w'' => e = .returned (.bool true) ∧ ∃ p : Regrown, w'' = grow (redrawn wc p.d) p.os := fun d os => Calls.regrown_of (Lbb.out _ (HT.out d os).isB)
            have C3 : ∀ d os, Calls Tryd.prog 12 #[.slice cA cn cc, .slice cA cn cc] (grow (redrawn wc d) os) fun e w'' => e = .returned (.bool true) ∧ ∃ p : Regrown, w'' = grow (redrawn wc p.d) p.os := fun d os => Calls.regrown_of (Pcc.out _ (HT.out d os).isC)
            have C4 : ∀ d os, Calls Tryd.prog 16 #[.agg #[.int .i64 ak, .int .i64 ax, .slice aA an ac, .slice aL am ap, .int .i64 ag], .agg #[.int .i64 bk, .int .i64 bx, .slice bA bn bc, .slice bL bm bp, .int .i64 bg]] (grow (redrawn wc d) os) fun e w'' => e = .returned (.bool sab) ∧ ∃ p : Regrown, w'' = grow (redrawn wc p.d) p.os := fun d os => Calls.regrown_of (Sab.out _ (HT.out d os).isA (HT.out d os).isB)
            have C5 : ∀ d os, Calls Tryd.prog 16 #[.agg #[.int .i64 bk, .int .i64 bx, .slice bA bn bc, .slice bL bm bp, .int .i64 bg], .agg #[.int .i64 ak, .int .i64 ax, .slice aA an ac, .slice aL am ap, .int .i64 ag]] (grow (redrawn wc d) os) fun e w'' => e = .returned (.bool sab) ∧ ∃ p : Regrown, w'' = grow (redrawn wc p.d) p.os := fun d os => Calls.regrown_of (Sba.out _ (HT.out d os).isB (HT.out d os).isA)
            have D1 := Lib.hid C1
            have D2 := Lib.hid C2
            have D3 := Lib.hid C3
            have D4 := Lib.hid C4
            have D5 := Lib.hid C5
            clear C1 C2 C3 C4 C5
            go_wp2_with fail
            by_cases k4 : ak = 4
            · have e4 : (ak == 4) = true := by simpa using k4
              clear k4
              refine wp_region_quiet_below (by kernel_rfl) (by kernel_rfl) ?_
              repeat (any_goals (first | go_big_quiet_step (first | (with_reducible exact D1.out _ _) | (with_reducible exact D2.out _ _) | (with_reducible exact D3.out _ _) | (with_reducible exact D4.out _ _) | (with_reducible exact D5.out _ _)) | quiet_step (first | (with_reducible exact D1.out _ _) | (with_reducible exact D2.out _ _) | (with_reducible exact D3.out _ _) | (with_reducible exact D4.out _ _) | (with_reducible exact D5.out _ _))))
              refine wpQuiet_nil ?_
              intro _ hw'
              obtain ⟨⟨dq, osq⟩, hw''⟩ := hw'
              subst hw''
              go_wp2_with fail
              go_ret
              exact ⟨by simp, (HT.out dq osq).low⟩
            · have e4 : (ak == 4) = false := by simpa using k4
              by_cases k1 : ak < 1
              · clear k4
                refine wp_region_quiet_below (by kernel_rfl) (by kernel_rfl) ?_
                repeat (any_goals (first | go_big_quiet_step (first | (with_reducible exact D1.out _ _) | (with_reducible exact D2.out _ _) | (with_reducible exact D3.out _ _) | (with_reducible exact D4.out _ _) | (with_reducible exact D5.out _ _)) | quiet_step (first | (with_reducible exact D1.out _ _) | (with_reducible exact D2.out _ _) | (with_reducible exact D3.out _ _) | (with_reducible exact D4.out _ _) | (with_reducible exact D5.out _ _))))
                refine wpQuiet_nil ?_
                intro _ hw'
                obtain ⟨⟨dq, osq⟩, hw''⟩ := hw'
                subst hw''
                go_wp2_with fail
                go_ret
                exact ⟨by simp, (HT.out dq osq).low⟩
              · by_cases k5 : 4 < ak
                · clear k4
                  refine wp_region_quiet_below (by kernel_rfl) (by kernel_rfl) ?_
                  repeat (any_goals (first | go_big_quiet_step (first | (with_reducible exact D1.out _ _) | (with_reducible exact D2.out _ _) | (with_reducible exact D3.out _ _) | (with_reducible exact D4.out _ _) | (with_reducible exact D5.out _ _)) | quiet_step (first | (with_reducible exact D1.out _ _) | (with_reducible exact D2.out _ _) | (with_reducible exact D3.out _ _) | (with_reducible exact D4.out _ _) | (with_reducible exact D5.out _ _))))
                  refine wpQuiet_nil ?_
                  intro _ hw'
                  obtain ⟨⟨dq, osq⟩, hw''⟩ := hw'
                  subst hw''
                  go_wp2_with fail
                  go_ret
                  exact ⟨by simp, (HT.out dq osq).low⟩
                · have b1 : 1 ≤ ak := by omega
                  have b3 : ak ≤ 3 := by omega
                  clear k4
                  have C6 : ∀ d os, Calls Tryd.prog 10 #[.agg #[.int .i64 ak, .int .i64 ax, .slice aA an ac, .slice aL am ap, .int .i64 ag], .agg #[.int .i64 ak, .int .i64 ax, .slice aA an ac, .slice aL am ap, .int .i64 ag]] (grow (redrawn wc d) os) fun e w'' => e = .returned (.bool true) ∧ ∃ p : Regrown, w'' = grow (redrawn wc p.d) p.os := fun d os => Calls.regrown_of (Raa.out b1 b3 _ (HT.out d os).isA)
                  have D6 := Lib.hid C6
                  clear C6
                  refine wp_region_quiet_below (by kernel_rfl) (by kernel_rfl) ?_
                  repeat (any_goals (first | go_big_quiet_step (first | (with_reducible exact D1.out _ _) | (with_reducible exact D2.out _ _) | (with_reducible exact D3.out _ _) | (with_reducible exact D4.out _ _) | (with_reducible exact D5.out _ _) | (with_reducible exact D6.out _ _)) | quiet_step (first | (with_reducible exact D1.out _ _) | (with_reducible exact D2.out _ _) | (with_reducible exact D3.out _ _) | (with_reducible exact D4.out _ _) | (with_reducible exact D5.out _ _) | (with_reducible exact D6.out _ _))))
                  refine wpQuiet_nil ?_
                  intro _ hw'
                  obtain ⟨⟨dq, osq⟩, hw''⟩ := hw'
                  subst hw''
                  go_wp2_with fail
                  go_ret
                  exact ⟨by simp, (HT.out dq osq).low⟩
      · go_enter Tryd.func5, Tryd.ntmps5
        go_wp2_with fail
        refine HA.out.mono ?_
        rintro e w1 ⟨rfl, hb⟩
        have T1 := Lib.hid (T0.out.step hb)
        clear hb
        obtain ⟨⟨q0, q1, q2, q3, q4⟩, ⟨r0, r1, r2, r3, r4⟩, ⟨u0, u1, u2, u3, u4⟩⟩ := T1.out.cells
        go_wp2_with fail
        go_ret
        exact ⟨rfl, T1.out.low⟩
    · go_enter Tryd.func5, Tryd.ntmps5
      go_wp2_with fail
      refine HA.out.mono ?_
      rintro e w1 ⟨rfl, hb⟩
      have T1 := Lib.hid (T0.out.step hb)
      clear hb
      obtain ⟨⟨q0, q1, q2, q3, q4⟩, ⟨r0, r1, r2, r3, r4⟩, ⟨u0, u1, u2, u3, u4⟩⟩ := T1.out.cells
      go_wp2_with fail
      go_ret
      exact ⟨rfl, T1.out.low⟩
  · go_enter Tryd.func5, Tryd.ntmps5
    go_wp2_with fail
    refine HA.out.mono ?_
    rintro e w1 ⟨rfl, hb⟩
    have T1 := Lib.hid (T0.out.step hb)
    clear hb
    obtain ⟨⟨q0, q1, q2, q3, q4⟩, ⟨r0, r1, r2, r3, r4⟩, ⟨u0, u1, u2, u3, u4⟩⟩ := T1.out.cells
    go_wp2_with fail
    go_ret
    exact ⟨rfl, T1.out.low⟩
end Go.Proofs.YtifknchhcbeekaaDoor
