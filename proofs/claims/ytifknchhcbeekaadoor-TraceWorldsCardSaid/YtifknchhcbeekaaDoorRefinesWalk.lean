/-
  TraceRefines answers true, for every two runs, in every world in which strconv's table holds its numbers.
-/
import Derived.Test.YtifknchhcbeekaaDoorKnownWalk
namespace Go.Proofs.YtifknchhcbeekaaDoor
open Go.RowKit Go.Lib

/-- a run's block: its five cells -/
def Box (w : World) (g : Nat) (a b c d e : Value) : Prop := w.heap[g]? = some (.cells #[a, b, c, d, e] 27 (0, 0))
theorem Box.cells {w : World} {g : Nat} {a b c d e : Value} (h : Box w g a b c d e) :
    w.cell? ⟨g, 0, none⟩ = some a ∧ w.cell? ⟨g, 1, none⟩ = some b ∧ w.cell? ⟨g, 2, none⟩ = some c ∧ w.cell? ⟨g, 3, none⟩ = some d ∧ w.cell? ⟨g, 4, none⟩ = some e := by
  refine ⟨?_, ?_, ?_, ?_, ?_⟩ <;> (rw [Lib.cell_of_heap h]; rfl)
theorem Box.below {w w' : World} {g : Nat} {a b c d e : Value} (h : Box w g a b c d e) (hb : Below w.heap.size w w') : Box w' g a b c d e := by
  unfold Box at *
  rw [hb.block g (heap_lt h)]; exact h
theorem Box.new (w : World) {g : Nat} (a b c d e : Value) (hg : g = w.heap.size) : Box (w.alloc (.cells #[a, b, c, d, e] 27)) g a b c d e := heap_alloc_new' w _ hg
theorem Box.alloc {w : World} {g : Nat} {a b c d e : Value} (h : Box w g a b c d e) (o : Obj) : Box (w.alloc o) g a b c d e := by
  unfold Box at *
  rw [Lib.alloc_old _ _ _ (heap_lt h)]; exact h

/-- the two runs of a law: their blocks, what they are, what has been kept since w0; the table -/
structure Two (w0 W : World) (g k : Nat) (a0 a1 a2 a3 a4 b0 b1 b2 b3 b4 : Value) (t s : Rn) : Prop where
  boxT : Box W g a0 a1 a2 a3 a4
  boxS : Box W k b0 b1 b2 b3 b4
  isT : RunIs W W.heap.size (.agg #[a0, a1, a2, a3, a4]) t
  isS : RunIs W W.heap.size (.agg #[b0, b1, b2, b3, b4]) s
  tab : Tab W
  low : Below w0.heap.size w0 W
theorem Two.step {w0 W W' : World} {g k : Nat} {a0 a1 a2 a3 a4 b0 b1 b2 b3 b4 : Value} {t s : Rn} (h : Two w0 W g k a0 a1 a2 a3 a4 b0 b1 b2 b3 b4 t s) (hb : Below W.heap.size W W') : Two w0 W' g k a0 a1 a2 a3 a4 b0 b1 b2 b3 b4 t s :=
  ⟨h.boxT.below hb, h.boxS.below hb, h.isT.step hb, h.isS.step hb, h.tab.below hb, h.low.trans (hb.mono h.low.size)⟩
theorem Two.start {w : World} {a0 a1 a2 a3 a4 b0 b1 b2 b3 b4 : Value} {t s : Rn} (h1 : RunIs w w.heap.size (.agg #[a0, a1, a2, a3, a4]) t) (h2 : RunIs w w.heap.size (.agg #[b0, b1, b2, b3, b4]) s) (ht : Tab w) :
    Two w ((w.alloc (.cells #[a0, a1, a2, a3, a4] 27)).alloc (.cells #[b0, b1, b2, b3, b4] 27)) w.heap.size (w.heap.size + 1) a0 a1 a2 a3 a4 b0 b1 b2 b3 b4 t s := by
  have hb : Below w.heap.size w ((w.alloc (.cells #[a0, a1, a2, a3, a4] 27)).alloc (.cells #[b0, b1, b2, b3, b4] 27)) := ((Below.refl _ _).alloc (Nat.le_refl _) _).alloc (by simp) _
  exact ⟨(Box.new w a0 a1 a2 a3 a4 rfl).alloc _, Box.new _ b0 b1 b2 b3 b4 (by simp), h1.step hb, h2.step hb, ht.below hb, hb⟩

theorem evT {w0 W : World} {g k : Nat} {a0 a1 a3 a4 b0 b1 b2 b3 b4 : Value} {A : Option Addr} {n c : Nat} {t s : Rn} (h : Two w0 W g k a0 a1 (.slice A n c) a3 a4 b0 b1 b2 b3 b4 t s) : Evs W W.heap.size A n t.evs := by
  obtain ⟨_, _, _, _, _, _, e, h, _⟩ := h.isT
  simp at e
  obtain ⟨_, _, ⟨rfl, rfl, rfl⟩, _⟩ := e
  exact h
theorem evS {w0 W : World} {g k : Nat} {a0 a1 a2 a3 a4 b0 b1 b3 b4 : Value} {A : Option Addr} {n c : Nat} {t s : Rn} (h : Two w0 W g k a0 a1 a2 a3 a4 b0 b1 (.slice A n c) b3 b4 t s) : Evs W W.heap.size A n s.evs := by
  obtain ⟨_, _, _, _, _, _, e, h, _⟩ := h.isS
  simp at e
  obtain ⟨_, _, ⟨rfl, rfl, rfl⟩, _⟩ := e
  exact h

theorem preB_self (l : List Ev) : preB l l = true := by simp [preB]

set_option maxHeartbeats 4000000 in
set_option maxRecDepth 100000 in
theorem refinesLaw_any (v1 v2 : Value) (t s : Rn) (w : World) (ht : Tab w) (h1 : RunIs w w.heap.size v1 t) (h2 : RunIs w w.heap.size v2 s) :
    Calls Tryd.prog 7 #[v1, v2] w (BB true w) := by
  obtain ⟨tk, tx, te, tl, tS⟩ := t
  obtain ⟨sk, sx, se, sl, sS⟩ := s
  have hR : refB ⟨tk, tx, te, tl, tS⟩ ⟨sk, sx, se, sl, sS⟩ = if sk = 1 then sameB ⟨tk, tx, te, tl, tS⟩ ⟨sk, sx, se, sl, sS⟩ || ((decide (tk = 2) || decide (tk = 4)) && preB te se)
    else if sk = 2 then preB te se || preB se te else decide (sk = 3) := rfl
  have hS : sameB ⟨tk, tx, te, tl, tS⟩ ⟨sk, sx, se, sl, sS⟩ = true → tk = sk ∧ preB te se = true := fun h => by
    simp only [sameB, Bool.and_eq_true, decide_eq_true_eq] at h
    exact ⟨h.1.1, by rw [h.2]; exact preB_self _⟩
  obtain ⟨A1, n, c, L1, k1, p1, hv1, e1, hc, hcc, f1, hp, hpp⟩ := h1
  obtain ⟨A2, m, d, L2, k2, p2, hv2, e2, hd, hdd, f2, hq, hqq⟩ := h2
  dsimp only at hv1 e1 f1 hv2 e2 f2
  subst hv1 hv2
  have K1 : RunIs w w.heap.size (.agg #[.int .i64 tk, .int .i64 tx, .slice A1 n c, .slice L1 k1 p1, .int .i64 tS]) ⟨tk, tx, te, tl, tS⟩ := ⟨A1, n, c, L1, k1, p1, rfl, e1, hc, hcc, f1, hp, hpp⟩
  have K2 : RunIs w w.heap.size (.agg #[.int .i64 sk, .int .i64 sx, .slice A2 m d, .slice L2 k2 p2, .int .i64 sS]) ⟨sk, sx, se, sl, sS⟩ := ⟨A2, m, d, L2, k2, p2, rfl, e2, hd, hdd, f2, hq, hqq⟩
  have T0 := Lib.hid (Two.start K1 K2 ht)
  have HP := Lib.hid (fun W (h : Evs W W.heap.size A1 n te) (h' : Evs W W.heap.size A2 m se) => prefix_any A1 A2 n m c d W.heap.size _ _ W h h' hd (by omega) hdd)
  have HQ := Lib.hid (fun W (h : Evs W W.heap.size A1 n te) (h' : Evs W W.heap.size A2 m se) => prefix_any A2 A1 m n d c W.heap.size _ _ W h' h hc (by omega) hcc)
  have HR := Lib.hid (fun W h h' => refines_any (.agg #[.int .i64 tk, .int .i64 tx, .slice A1 n c, .slice L1 k1 p1, .int .i64 tS]) (.agg #[.int .i64 sk, .int .i64 sx, .slice A2 m d, .slice L2 k2 p2, .int .i64 sS]) ⟨tk, tx, te, tl, tS⟩ ⟨sk, sx, se, sl, sS⟩ W h h')
  have HS := Lib.hid (fun W h h' => same_any (.agg #[.int .i64 tk, .int .i64 tx, .slice A1 n c, .slice L1 k1 p1, .int .i64 tS]) (.agg #[.int .i64 sk, .int .i64 sx, .slice A2 m d, .slice L2 k2 p2, .int .i64 sS]) ⟨tk, tx, te, tl, tS⟩ ⟨sk, sx, se, sl, sS⟩ W h h')
  clear K1 K2 ht e1 e2 f1 f2
  generalize refB ⟨tk, tx, te, tl, tS⟩ ⟨sk, sx, se, sl, sS⟩ = r at hR HR
  generalize sameB ⟨tk, tx, te, tl, tS⟩ ⟨sk, sx, se, sl, sS⟩ = bs at HS hR hS
  generalize preB te se = bp at HP hR hS
  generalize preB se te = bq at HQ hR
  by_cases hn : n ≤ 100
  · by_cases hm : m ≤ 100
    · by_cases c3 : sk = 3
      · subst c3
        obtain rfl : r = true := by simpa using hR
        clear hR hS
        go_enter Tryd.func7, Tryd.ntmps7
        go_wp2_with fail
        refine (awake_any _ T0.out.tab).mono ?_
        rintro e w1 ⟨rfl, hb⟩
        have T1 := Lib.hid (T0.out.step hb)
        clear hb
        obtain ⟨t0, t1, t2, t3, t4⟩ := T1.out.boxT.cells
        obtain ⟨s0, s1, s2, s3, s4⟩ := T1.out.boxS.cells
        go_wp2_with fail
        refine (HR.out _ T1.out.isT T1.out.isS).mono ?_
        rintro e w2 ⟨rfl, hb⟩
        have T2 := Lib.hid (T1.out.step hb)
        clear hb t0 t1 t2 t3 t4 s0 s1 s2 s3 s4
        obtain ⟨t0, t1, t2, t3, t4⟩ := T2.out.boxT.cells
        obtain ⟨s0, s1, s2, s3, s4⟩ := T2.out.boxS.cells
        go_wp2_with fail
        go_ret
        exact ⟨rfl, T2.out.low⟩
      · by_cases c4 : sk = 4
        · subst c4
          obtain rfl : r = false := by simpa using hR
          clear hR hS c3
          go_enter Tryd.func7, Tryd.ntmps7
          go_wp2_with fail
          refine (awake_any _ T0.out.tab).mono ?_
          rintro e w1 ⟨rfl, hb⟩
          have T1 := Lib.hid (T0.out.step hb)
          clear hb
          obtain ⟨t0, t1, t2, t3, t4⟩ := T1.out.boxT.cells
          obtain ⟨s0, s1, s2, s3, s4⟩ := T1.out.boxS.cells
          go_wp2_with fail
          refine (HR.out _ T1.out.isT T1.out.isS).mono ?_
          rintro e w2 ⟨rfl, hb⟩
          have T2 := Lib.hid (T1.out.step hb)
          clear hb t0 t1 t2 t3 t4 s0 s1 s2 s3 s4
          obtain ⟨t0, t1, t2, t3, t4⟩ := T2.out.boxT.cells
          obtain ⟨s0, s1, s2, s3, s4⟩ := T2.out.boxS.cells
          go_wp2_with fail
          go_ret
          exact ⟨rfl, T2.out.low⟩
        · have e3 : (sk == 3) = false := by simpa using c3
          have e4 : (sk == 4) = false := by simpa using c4
          by_cases c1 : sk = 1
          · subst c1
            simp only [if_true] at hR
            clear c3 c4 e3 e4
            cases r
            · clear hR hS
              go_enter Tryd.func7, Tryd.ntmps7
              go_wp2_with fail
              refine (awake_any _ T0.out.tab).mono ?_
              rintro e w1 ⟨rfl, hb⟩
              have T1 := Lib.hid (T0.out.step hb)
              clear hb
              obtain ⟨t0, t1, t2, t3, t4⟩ := T1.out.boxT.cells
              obtain ⟨s0, s1, s2, s3, s4⟩ := T1.out.boxS.cells
              go_wp2_with fail
              refine (HR.out _ T1.out.isT T1.out.isS).mono ?_
              rintro e w2 ⟨rfl, hb⟩
              have T2 := Lib.hid (T1.out.step hb)
              clear hb t0 t1 t2 t3 t4 s0 s1 s2 s3 s4
              obtain ⟨t0, t1, t2, t3, t4⟩ := T2.out.boxT.cells
              obtain ⟨s0, s1, s2, s3, s4⟩ := T2.out.boxS.cells
              go_wp2_with fail
              go_ret
              exact ⟨rfl, T2.out.low⟩
            · obtain ⟨hbp, hk3, hk⟩ : bp = true ∧ tk ≠ 3 ∧ (tk = 1 → bs = true) := by
                cases bs
                · simp at hR; exact ⟨hR.2, by omega, by omega⟩
                · have := hS rfl; exact ⟨this.2, by omega, fun _ => rfl⟩
              subst hbp
              have e3 : (tk != 3) = true := by simpa using hk3
              clear hR hS hk3
              by_cases d1 : tk = 1
              · subst d1
                obtain rfl := hk rfl
                clear hk
                go_enter Tryd.func7, Tryd.ntmps7
                go_wp2_with fail
                refine (awake_any _ T0.out.tab).mono ?_
                rintro e w1 ⟨rfl, hb⟩
                have T1 := Lib.hid (T0.out.step hb)
                clear hb
                obtain ⟨t0, t1, t2, t3, t4⟩ := T1.out.boxT.cells
                obtain ⟨s0, s1, s2, s3, s4⟩ := T1.out.boxS.cells
                go_wp2_with fail
                refine (HR.out _ T1.out.isT T1.out.isS).mono ?_
                rintro e w2 ⟨rfl, hb⟩
                have T2 := Lib.hid (T1.out.step hb)
                clear hb t0 t1 t2 t3 t4 s0 s1 s2 s3 s4
                obtain ⟨t0, t1, t2, t3, t4⟩ := T2.out.boxT.cells
                obtain ⟨s0, s1, s2, s3, s4⟩ := T2.out.boxS.cells
                go_wp2_with fail
                refine (HP.out _ (evT T2.out) (evS T2.out)).mono ?_
                rintro e w3 ⟨rfl, hb⟩
                have T3 := Lib.hid (T2.out.step hb)
                clear hb t0 t1 t2 t3 t4 s0 s1 s2 s3 s4
                obtain ⟨t0, t1, t2, t3, t4⟩ := T3.out.boxT.cells
                obtain ⟨s0, s1, s2, s3, s4⟩ := T3.out.boxS.cells
                go_wp2_with fail
                refine (HS.out _ T3.out.isT T3.out.isS).mono ?_
                rintro e w4 ⟨rfl, hb⟩
                have T4 := Lib.hid (T3.out.step hb)
                clear hb t0 t1 t2 t3 t4 s0 s1 s2 s3 s4
                obtain ⟨t0, t1, t2, t3, t4⟩ := T4.out.boxT.cells
                obtain ⟨s0, s1, s2, s3, s4⟩ := T4.out.boxS.cells
                go_wp2_with fail
                go_ret
                exact ⟨rfl, T4.out.low⟩
              · have e1 : (tk != 1) = true := by simpa using d1
                clear hk d1
                go_enter Tryd.func7, Tryd.ntmps7
                go_wp2_with fail
                refine (awake_any _ T0.out.tab).mono ?_
                rintro e w1 ⟨rfl, hb⟩
                have T1 := Lib.hid (T0.out.step hb)
                clear hb
                obtain ⟨t0, t1, t2, t3, t4⟩ := T1.out.boxT.cells
                obtain ⟨s0, s1, s2, s3, s4⟩ := T1.out.boxS.cells
                go_wp2_with fail
                refine (HR.out _ T1.out.isT T1.out.isS).mono ?_
                rintro e w2 ⟨rfl, hb⟩
                have T2 := Lib.hid (T1.out.step hb)
                clear hb t0 t1 t2 t3 t4 s0 s1 s2 s3 s4
                obtain ⟨t0, t1, t2, t3, t4⟩ := T2.out.boxT.cells
                obtain ⟨s0, s1, s2, s3, s4⟩ := T2.out.boxS.cells
                go_wp2_with fail
                refine (HP.out _ (evT T2.out) (evS T2.out)).mono ?_
                rintro e w3 ⟨rfl, hb⟩
                have T3 := Lib.hid (T2.out.step hb)
                clear hb t0 t1 t2 t3 t4 s0 s1 s2 s3 s4
                obtain ⟨t0, t1, t2, t3, t4⟩ := T3.out.boxT.cells
                obtain ⟨s0, s1, s2, s3, s4⟩ := T3.out.boxS.cells
                go_wp2_with fail
                go_ret
                exact ⟨rfl, T3.out.low⟩
          · have e1 : (sk == 1) = false := by simpa using c1
            by_cases c2 : sk = 2
            · subst c2
              obtain rfl : r = (bp || bq) := by simpa using hR
              clear hR hS c1 c3 c4 e1 e3 e4
              cases bp
              · cases bq
                · skip
                  go_enter Tryd.func7, Tryd.ntmps7
                  go_wp2_with fail
                  refine (awake_any _ T0.out.tab).mono ?_
                  rintro e w1 ⟨rfl, hb⟩
                  have T1 := Lib.hid (T0.out.step hb)
                  clear hb
                  obtain ⟨t0, t1, t2, t3, t4⟩ := T1.out.boxT.cells
                  obtain ⟨s0, s1, s2, s3, s4⟩ := T1.out.boxS.cells
                  go_wp2_with fail
                  refine (HR.out _ T1.out.isT T1.out.isS).mono ?_
                  rintro e w2 ⟨rfl, hb⟩
                  have T2 := Lib.hid (T1.out.step hb)
                  clear hb t0 t1 t2 t3 t4 s0 s1 s2 s3 s4
                  obtain ⟨t0, t1, t2, t3, t4⟩ := T2.out.boxT.cells
                  obtain ⟨s0, s1, s2, s3, s4⟩ := T2.out.boxS.cells
                  go_wp2_with fail
                  go_ret
                  exact ⟨rfl, T2.out.low⟩
                · skip
                  go_enter Tryd.func7, Tryd.ntmps7
                  go_wp2_with fail
                  refine (awake_any _ T0.out.tab).mono ?_
                  rintro e w1 ⟨rfl, hb⟩
                  have T1 := Lib.hid (T0.out.step hb)
                  clear hb
                  obtain ⟨t0, t1, t2, t3, t4⟩ := T1.out.boxT.cells
                  obtain ⟨s0, s1, s2, s3, s4⟩ := T1.out.boxS.cells
                  go_wp2_with fail
                  refine (HR.out _ T1.out.isT T1.out.isS).mono ?_
                  rintro e w2 ⟨rfl, hb⟩
                  have T2 := Lib.hid (T1.out.step hb)
                  clear hb t0 t1 t2 t3 t4 s0 s1 s2 s3 s4
                  obtain ⟨t0, t1, t2, t3, t4⟩ := T2.out.boxT.cells
                  obtain ⟨s0, s1, s2, s3, s4⟩ := T2.out.boxS.cells
                  go_wp2_with fail
                  refine (HP.out _ (evT T2.out) (evS T2.out)).mono ?_
                  rintro e w3 ⟨rfl, hb⟩
                  have T3 := Lib.hid (T2.out.step hb)
                  clear hb t0 t1 t2 t3 t4 s0 s1 s2 s3 s4
                  obtain ⟨t0, t1, t2, t3, t4⟩ := T3.out.boxT.cells
                  obtain ⟨s0, s1, s2, s3, s4⟩ := T3.out.boxS.cells
                  go_wp2_with fail
                  refine (HQ.out _ (evT T3.out) (evS T3.out)).mono ?_
                  rintro e w4 ⟨rfl, hb⟩
                  have T4 := Lib.hid (T3.out.step hb)
                  clear hb t0 t1 t2 t3 t4 s0 s1 s2 s3 s4
                  obtain ⟨t0, t1, t2, t3, t4⟩ := T4.out.boxT.cells
                  obtain ⟨s0, s1, s2, s3, s4⟩ := T4.out.boxS.cells
                  go_wp2_with fail
                  go_ret
                  exact ⟨rfl, T4.out.low⟩
              · skip
                go_enter Tryd.func7, Tryd.ntmps7
                go_wp2_with fail
                refine (awake_any _ T0.out.tab).mono ?_
                rintro e w1 ⟨rfl, hb⟩
                have T1 := Lib.hid (T0.out.step hb)
                clear hb
                obtain ⟨t0, t1, t2, t3, t4⟩ := T1.out.boxT.cells
                obtain ⟨s0, s1, s2, s3, s4⟩ := T1.out.boxS.cells
                go_wp2_with fail
                refine (HR.out _ T1.out.isT T1.out.isS).mono ?_
                rintro e w2 ⟨rfl, hb⟩
                have T2 := Lib.hid (T1.out.step hb)
                clear hb t0 t1 t2 t3 t4 s0 s1 s2 s3 s4
                obtain ⟨t0, t1, t2, t3, t4⟩ := T2.out.boxT.cells
                obtain ⟨s0, s1, s2, s3, s4⟩ := T2.out.boxS.cells
                go_wp2_with fail
                refine (HP.out _ (evT T2.out) (evS T2.out)).mono ?_
                rintro e w3 ⟨rfl, hb⟩
                have T3 := Lib.hid (T2.out.step hb)
                clear hb t0 t1 t2 t3 t4 s0 s1 s2 s3 s4
                obtain ⟨t0, t1, t2, t3, t4⟩ := T3.out.boxT.cells
                obtain ⟨s0, s1, s2, s3, s4⟩ := T3.out.boxS.cells
                go_wp2_with fail
                go_ret
                exact ⟨rfl, T3.out.low⟩
            · have e2 : (sk == 2) = false := by simpa using c2
              clear hR hS c1 c2 c3 c4
              go_enter Tryd.func7, Tryd.ntmps7
              go_wp2_with fail
              refine (awake_any _ T0.out.tab).mono ?_
              rintro e w1 ⟨rfl, hb⟩
              have T1 := Lib.hid (T0.out.step hb)
              clear hb
              obtain ⟨t0, t1, t2, t3, t4⟩ := T1.out.boxT.cells
              obtain ⟨s0, s1, s2, s3, s4⟩ := T1.out.boxS.cells
              go_wp2_with fail
              refine (HR.out _ T1.out.isT T1.out.isS).mono ?_
              rintro e w2 ⟨rfl, hb⟩
              have T2 := Lib.hid (T1.out.step hb)
              clear hb t0 t1 t2 t3 t4 s0 s1 s2 s3 s4
              obtain ⟨t0, t1, t2, t3, t4⟩ := T2.out.boxT.cells
              obtain ⟨s0, s1, s2, s3, s4⟩ := T2.out.boxS.cells
              go_wp2_with fail
              go_ret
              exact ⟨rfl, T2.out.low⟩
    · clear hR hS
      go_enter Tryd.func7, Tryd.ntmps7
      go_wp2_with fail
      refine (awake_any _ T0.out.tab).mono ?_
      rintro e w1 ⟨rfl, hb⟩
      have T1 := Lib.hid (T0.out.step hb)
      clear hb
      obtain ⟨t0, t1, t2, t3, t4⟩ := T1.out.boxT.cells
      obtain ⟨s0, s1, s2, s3, s4⟩ := T1.out.boxS.cells
      go_wp2_with fail
      go_ret
      exact ⟨rfl, T1.out.low⟩
  · clear hR hS
    go_enter Tryd.func7, Tryd.ntmps7
    go_wp2_with fail
    refine (awake_any _ T0.out.tab).mono ?_
    rintro e w1 ⟨rfl, hb⟩
    have T1 := Lib.hid (T0.out.step hb)
    clear hb
    obtain ⟨t0, t1, t2, t3, t4⟩ := T1.out.boxT.cells
    obtain ⟨s0, s1, s2, s3, s4⟩ := T1.out.boxS.cells
    go_wp2_with fail
    go_ret
    exact ⟨rfl, T1.out.low⟩
end Go.Proofs.YtifknchhcbeekaaDoor
