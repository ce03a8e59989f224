/-
  trace.Refines and plumbobref1.Events (all of the list): what they answer, for every two runs.
-/
import Derived.Test.YtifknchhcbeekaaDoorJudge
namespace Go.Proofs.YtifknchhcbeekaaDoor
open Go.RowKit Go.Lib

def refB (t s : Rn) : Bool :=
  if s.kind = 1 then sameB t s || ((decide (t.kind = 2) || decide (t.kind = 4)) && preB t.evs s.evs)
  else if s.kind = 2 then preB t.evs s.evs || preB s.evs t.evs
  else decide (s.kind = 3)

theorem RunIs.boxed {w : World} {v : Value} {r : Rn} (h : RunIs w w.heap.size v r) (o p : Obj) : RunIs ((w.alloc o).alloc p) ((w.alloc o).alloc p).heap.size v r :=
  (h.below (((Below.refl _ _).alloc (Nat.le_refl _) _).alloc (by simp) _)).more (by simp; omega)

theorem BB.back {b : Bool} {w w' w'' : World} {e : Ending} (hb : Below w.heap.size w w') (h : BB b w' e w'') : BB b w e w'' :=
  ⟨h.1, hb.trans (h.2.mono hb.size)⟩

theorem bcell {W w1 : World} (hb : Below W.heap.size W w1) : (∀ b o, b < W.heap.size → w1.cell? ⟨b, o, none⟩ = W.cell? ⟨b, o, none⟩) ∧ (∀ b o, b < W.heap.size → w1.frozen? ⟨b, o, none⟩ = W.frozen? ⟨b, o, none⟩) :=
  ⟨fun b o h => hb.cell (p := ⟨b, o, none⟩) h, fun b o h => hb.frozen (p := ⟨b, o, none⟩) h⟩

set_option maxHeartbeats 2000000 in
theorem refines_any (v1 v2 : Value) (t s : Rn) (w : World) (h1 : RunIs w w.heap.size v1 t) (h2 : RunIs w w.heap.size v2 s) :
    Calls Tryd.prog 10 #[v1, v2] w (BB (refB t s) w) := by
  have HS := Lib.hid (fun (o p : Obj) => same_any v1 v2 t s _ (h1.boxed o p) (h2.boxed o p))
  have HP : ∀ W : World, Below w.heap.size w W → ∀ A1 A2 n m c d, Evs w w.heap.size A1 n t.evs → Evs w w.heap.size A2 m s.evs → m ≤ d → n ≤ 9223372036854775807 → d ≤ 9223372036854775807 →
      Calls Tryd.prog 12 #[.slice A1 n c, .slice A2 m d] W (BB (preB t.evs s.evs) W) :=
    fun W hb A1 A2 n m c d e1 e2 h3 h4 h5 => prefix_any A1 A2 n m c d w.heap.size _ _ W (e1.below hb) (e2.below hb) h3 h4 h5
  have HQ : ∀ W : World, Below w.heap.size w W → ∀ A1 A2 n m c d, Evs w w.heap.size A1 n s.evs → Evs w w.heap.size A2 m t.evs → m ≤ d → n ≤ 9223372036854775807 → d ≤ 9223372036854775807 →
      Calls Tryd.prog 12 #[.slice A1 n c, .slice A2 m d] W (BB (preB s.evs t.evs) W) :=
    fun W hb A1 A2 n m c d e1 e2 h3 h4 h5 => prefix_any A1 A2 n m c d w.heap.size _ _ W (e1.below hb) (e2.below hb) h3 h4 h5
  obtain ⟨A1, n, c, L1, k, p, rfl, e1, hc, hcc, -, hp, hpp⟩ := h1
  obtain ⟨A2, m, d, L2, l, q, rfl, e2, hd, hdd, -, hq, hqq⟩ := h2
  have HX := Lib.hid (fun W hb => HP W hb A1 A2 n m c d e1 e2 hd (by omega) hdd)
  have HY := Lib.hid (fun W hb => HQ W hb A2 A1 m n d c e2 e1 hc (by omega) hcc)
  clear e1 e2 HP HQ
  have hR : refB t s = if s.kind = 1 then sameB t s || ((decide (t.kind = 2) || decide (t.kind = 4)) && preB t.evs s.evs)
    else if s.kind = 2 then preB t.evs s.evs || preB s.evs t.evs else decide (s.kind = 3) := rfl
  generalize refB t s = r at hR ⊢
  generalize sameB t s = bs at HS hR
  generalize preB t.evs s.evs = bp at HX hR
  generalize preB s.evs t.evs = bq at HY hR
  obtain ⟨tk, tx, te, tl, tS⟩ := t
  obtain ⟨sk, sx, se, sl, sS⟩ := s
  simp only at HS HX HY hR ⊢
  have hw2 : ∀ o p : Obj, Below w.heap.size w ((w.alloc o).alloc p) := fun o p => ((Below.refl _ _).alloc (Nat.le_refl _) _).alloc (by simp) _
  have Hw := Lib.hid hw2
  clear hw2
  by_cases k1 : sk = 1
  · subst k1
    simp only [if_true] at hR
    cases bs
    · by_cases t2 : tk = 2
      · subst t2
        obtain rfl : r = bp := by simpa using hR
        clear hR
        go_enter Tryd.func10, Tryd.ntmps10
        go_wp2_with fail
        refine (HS.out _ _).mono ?_
        rintro e w1 ⟨rfl, hb⟩
        have hb1 := Lib.hid ((Hw.out _ _).trans (hb.mono (by simp; omega)))
        obtain ⟨hcell, -⟩ := bcell hb
        clear hb
        go_wp2_with fail
        refine (HX.out _ hb1.out).mono ?_
        rintro e w2 ⟨rfl, hb2⟩
        go_wp2_with fail
        go_ret
        exact ⟨rfl, hb1.out.trans (hb2.mono hb1.out.size)⟩
      · by_cases t4 : tk = 4
        · subst t4
          obtain rfl : r = bp := by simpa using hR
          clear hR t2
          go_enter Tryd.func10, Tryd.ntmps10
          go_wp2_with fail
          refine (HS.out _ _).mono ?_
          rintro e w1 ⟨rfl, hb⟩
          have hb1 := Lib.hid ((Hw.out _ _).trans (hb.mono (by simp; omega)))
          obtain ⟨hcell, -⟩ := bcell hb
          clear hb
          go_wp2_with fail
          refine (HX.out _ hb1.out).mono ?_
          rintro e w2 ⟨rfl, hb2⟩
          go_wp2_with fail
          go_ret
          exact ⟨rfl, hb1.out.trans (hb2.mono hb1.out.size)⟩
        · obtain rfl : r = false := by simpa [t2, t4] using hR
          have e2 : (tk == 2) = false := by simpa using t2
          have e4 : (tk == 4) = false := by simpa using t4
          clear hR t2 t4
          go_enter Tryd.func10, Tryd.ntmps10
          go_wp2_with fail
          refine (HS.out _ _).mono ?_
          rintro e w1 ⟨rfl, hb⟩
          have hb1 := Lib.hid ((Hw.out _ _).trans (hb.mono (by simp; omega)))
          obtain ⟨hcell, -⟩ := bcell hb
          clear hb
          go_wp2_with fail
          go_ret
          exact ⟨rfl, hb1.out⟩
    · obtain rfl : r = true := by simpa using hR
      clear hR
      go_enter Tryd.func10, Tryd.ntmps10
      go_wp2_with fail
      refine (HS.out _ _).mono ?_
      rintro e w1 ⟨rfl, hb⟩
      have hb1 := Lib.hid ((Hw.out _ _).trans (hb.mono (by simp; omega)))
      obtain ⟨hcell, -⟩ := bcell hb
      clear hb
      go_wp2_with fail
      go_ret
      exact ⟨rfl, hb1.out⟩
  · by_cases k2 : sk = 2
    · subst k2
      obtain rfl : r = (bp || bq) := by simpa using hR
      clear hR k1
      have hw2 := Hw.out
      cases bp
      · go_enter Tryd.func10, Tryd.ntmps10
        go_wp2_with fail
        refine (HX.out _ (Hw.out _ _)).mono ?_
        rintro e w1 ⟨rfl, hb⟩
        have hb1 := Lib.hid ((Hw.out _ _).trans (hb.mono (by simp; omega)))
        obtain ⟨hcell, -⟩ := bcell hb
        clear hb hw2
        go_wp2_with fail
        refine (HY.out _ hb1.out).mono ?_
        rintro e w2 ⟨rfl, hb2⟩
        go_wp2_with fail
        go_ret
        exact ⟨rfl, hb1.out.trans (hb2.mono hb1.out.size)⟩
      · go_enter Tryd.func10, Tryd.ntmps10
        go_wp2_with fail
        refine (HX.out _ (Hw.out _ _)).mono ?_
        rintro e w1 ⟨rfl, hb⟩
        have hb1 := Lib.hid ((Hw.out _ _).trans (hb.mono (by simp; omega)))
        obtain ⟨hcell, -⟩ := bcell hb
        clear hb hw2
        go_wp2_with fail
        go_ret
        exact ⟨rfl, hb1.out⟩
    · have e1 : (sk == 1) = false := by simpa using k1
      have e2 : (sk == 2) = false := by simpa using k2
      by_cases k3 : sk = 3
      · subst k3
        obtain rfl : r = true := by simpa using hR
        clear hR k1 k2 e1 e2
        go_enter Tryd.func10, Tryd.ntmps10
        go_wp2_with fail
        go_ret
        exact ⟨rfl, Hw.out _ _⟩
      · have e3 : (sk == 3) = false := by simpa using k3
        obtain rfl : r = false := by simpa [k1, k2, k3] using hR
        clear hR k1 k2 k3
        go_enter Tryd.func10, Tryd.ntmps10
        go_wp2_with fail
        go_ret
        exact ⟨rfl, Hw.out _ _⟩

set_option maxHeartbeats 1000000 in
set_option maxRecDepth 100000 in
/-- plumbobref1.Events, all of the list -/
theorem refEvents (A1 A2 : Option Addr) (n m c d B : Nat) (xs ys : List Ev) (w : World) (h1 : Evs w B A1 n xs) (h2 : Evs w B A2 m ys) (hn : n ≤ 9223372036854775807) (hm : m ≤ 9223372036854775807) :
    Calls Tryd.prog 18 #[.slice A1 n c, .slice A2 m d, .bool true] w fun e w' => e = .returned (.bool (decide (xs = ys))) ∧ ∃ q, w' = w.drewN q := by
  by_cases hnm : n = m
  · subst hnm
    have hl1 := h1.1
    have hl2 := h2.1
    have HL := Lib.hid (And.intro hl1 hl2)
    clear hl1 hl2
    have H1 := Lib.hid h1
    have H2 := Lib.hid h2
    clear h1 h2
    have hgd := eqGuardEv
    have hne := neqEv
    have tn : ((n : Int) != n) = false := by simp
    go_enter Tryd.func18, Tryd.ntmps18
    go_wp2
    go_loopg [7] n (fun g s13 wr => ∃ kk q : Nat, kk ≤ n ∧ n - kk ≤ g ∧ s13 = .int .i64 kk ∧ wr = w.drewN q ∧ Hid (xs.take kk = ys.take kk))
    case atStart => exact ⟨0, 0, Nat.zero_le _, by omega, rfl, rfl, Lib.hid rfl⟩
    case round =>
      obtain ⟨kk, q, hkk, hg, rfl, rfl, A⟩ := hrel
      by_cases hlt : kk < n
      · obtain ⟨x, hx⟩ : ∃ x, xs[kk]? = some x := ⟨_, List.getElem?_eq_getElem (by have := HL.out.1; omega)⟩
        obtain ⟨y, hy⟩ : ∃ y, ys[kk]? = some y := ⟨_, List.getElem?_eq_getElem (by have := HL.out.2; omega)⟩
        obtain ⟨b1, o1, rfl, _, hc0, hc1⟩ := H1.out.at_ hx
        obtain ⟨b2, o2, rfl, _, hd0, hd1⟩ := H2.out.at_ hy
        have X := Lib.hid (And.intro hx hy)
        clear hx hy
        obtain ⟨x0, x1⟩ := x
        obtain ⟨y0, y1⟩ := y
        simp only at hc0 hc1 hd0 hd1
        cases hxy : (x0 == y0 && x1 == y1)
        · go_wp2_with fail
          go_quiet (fail)
          go_wp2
          go_ret
          refine ⟨?_, q + nq, World.drewN_drewN _ _ _⟩
          have hne : ¬ xs = ys := fun e => by
            have h1 := X.out.1
            rw [e, X.out.2] at h1
            simp at h1
            simp [h1.1, h1.2] at hxy
          simp [hne]
        · have ex : x0 = y0 ∧ x1 = y1 := by simpa using hxy
          have EX := Lib.hid ex
          clear ex
          go_wp2_with fail
          go_quiet (fail)
          go_wp2
          go_roundg (n - (kk + 1))
          case measure => omega
          case rel =>
            refine ⟨kk + 1, q + nq, by omega, by omega, by go_num, rfl, Lib.hid ?_⟩
            rw [take_succ_ _ _ _ X.out.1, take_succ_ _ _ _ X.out.2, A.out, EX.out.1, EX.out.2]
      · obtain rfl : kk = n := by omega
        go_wp2
        go_ret
        refine ⟨?_, q, rfl⟩
        have he : xs = ys := by
          have h := A.out
          rw [List.take_of_length_le (by have := HL.out.1; omega), List.take_of_length_le (by have := HL.out.2; omega)] at h
          exact h
        simp [he]
  · have hnm' : ¬ (n : Int) = (m : Int) := by omega
    have hne : ¬ xs = ys := fun e => by
      have a := h1.1
      have b := h2.1
      rw [e] at a
      omega
    clear h1 h2
    by_cases hgt : m < n
    · go_enter Tryd.func18, Tryd.ntmps18
      go_wp2
      go_ret
      exact ⟨by simp [hne], 0, rfl⟩
    · have tn : ((n : Int) != m) = true := by simpa using hnm'
      go_enter Tryd.func18, Tryd.ntmps18
      go_wp2
      go_ret
      exact ⟨by simp [hne], 0, rfl⟩
end Go.Proofs.YtifknchhcbeekaaDoor
