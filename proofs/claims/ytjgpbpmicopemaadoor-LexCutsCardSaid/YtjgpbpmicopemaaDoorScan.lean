/-
  lex.scan: its iterator's contract.
-/
import Derived.Test.YtjgpbpmicopemaaDoorCuts
import Derived.RangeFuncNested
import Derived.RangeFuncBound
import Derived.RangeFuncCalls
import Derived.RangeFuncLeaves
import Derived.Shelf.Abstract
import Derived.Shelf.RegionOpen
import Derived.WalkKit
import Derived.OwnWalkIn
import Derived.TacticsInMore
import Derived.LoopNIn
import Derived.LoopIn
import Derived.Sort.CutIn
import Derived.Sort.LoopGhostIn
import Derived.RegionIn
import Derived.Scope
import Derived.WalkMore
namespace Go.Proofs.YtjgpbpmicopemaaDoor
open Go.RowKit Go.Shelf
attribute [local go_sem] Oper.semAt_some

section
variable {F : Fence} {n : Nat} {P : Program} {b : Frame} {a : Act} {k : List Item} {cs : List Frame} {w : World} {Q : Exit → Act → World → Prop}
theorem stepR_scope {c : Code} : step P (lone (b.atR a (.code (.scope c) :: k)) cs w) = .next (lone (b.atR a (.code c :: .inScope c :: k)) cs w) :=
  step_lone_go (by simp [stepG, stepG.exec, Frame.atR])
theorem stepR_inScope {c : Code} : step P (lone (b.atR a (.inScope c :: k)) cs w) = .next (lone (b.atR a k) cs w) :=
  step_lone_go (by simp [stepG, stepG.exec, Frame.atR])
theorem wpIn_scope {c : Code} (h : c.wpIn F n P (Exit.noGoto Q) a w) : (Code.scope c).wpIn F n P Q a w := by
  intro b k cs hro hb hr
  have h0 : (lone (b.atR a (.code (.scope c) :: k)) cs w).fenced P F := fenced_calm hb hr rfl
  obtain ⟨e, a₁, w₁, hq, harr⟩ := h b (.inScope c :: k) cs hro hb hr
  cases e with
  | normal => exact ⟨.normal, a₁, w₁, hq, .head h0 stepR_scope (StepsIn.trans harr (.one (fenced_calm hb hr rfl) stepR_inScope))⟩
  | exit id =>
    have hx : exitTo id (.inScope c :: k) = exitTo id k := by simp [exitTo]
    exact ⟨.exit id, a₁, w₁, hq, fun k' hk => .head h0 stepR_scope (harr.1 k' (by rw [hx]; exact hk)),
      fun hr' hk => let ⟨k₁, h1, h2⟩ := harr.2 hr' (by rw [hx]; exact hk); ⟨k₁, h1, .head h0 stepR_scope h2⟩⟩
  | goto l => exact hq.elim
  | ret => exact ⟨_, a₁, w₁, hq, .of_steps (.one h0 stepR_scope) harr⟩
  | panic ch => exact ⟨_, a₁, w₁, hq, .of_steps (.one h0 stepR_scope) harr⟩
  | outgrown => exact ⟨_, a₁, w₁, hq, .of_steps (.one h0 stepR_scope) harr⟩
end

/-- where the iterator stands: what is left to read, from which place; what has come -/
structure Sc (w W : World) (A R : Nat) (l : List UInt8) (J : List It → World → Prop) (f : Nat) (p : Int × Int) (m : List UInt8) (pre : List It) (wr : World) : Prop where
  size : W.heap.size + 2 ≤ wr.heap.size
  plc : PlcAt wr A p
  txt : TxtAt wr R m
  env : Env wr
  held : J pre wr
  all : scanL l = pre ++ scanF f p m
  fuel : m.length < f
  left : m.length ≤ l.length
  few : pre.length + m.length ≤ l.length
  p1 : 0 ≤ p.1 ∧ p.1 ≤ 1 + 2 * (l.length - m.length : Int)
  p2 : 0 ≤ p.2 ∧ p.2 ≤ 1 + 2 * (l.length - m.length : Int)
theorem Env.kept {X : Nat → Prop} {w w' : World} (h : Env w) (m : Kept X w w') (h0 : ¬ X 0) (h1 : ¬ X 1) (h2 : ¬ X 2) : Env w' := by
  have key : ∀ {a : Addr} {v : Value}, w.cell? a = some v → ¬ X a.block → w'.cell? a = some v := by
    intro a v hc hx
    have := m.same a.block (cell_lt hc) hx
    rw [← hc]
    unfold World.cell?
    rw [this]
  obtain ⟨⟨m1, e1⟩, ⟨s, e2, s2⟩, ⟨r, e3, r2⟩⟩ := h
  exact ⟨⟨m1, key e1 h0⟩, ⟨s, key e2 h1, s2⟩, ⟨r, key e3 h2, r2⟩⟩
theorem Sc.next {w W : World} {A R : Nat} {l : List UInt8} {J : List It → World → Prop} {f : Nat} {p : Int × Int} {m : List UInt8} {pre : List It} {wr : World} (S : Sc w W A R l J (f + 1) p m pre wr)
    (k : Nat) (hk1 : 1 ≤ k) (hk : k ≤ m.length) {pre' : List It} (hpre : pre'.length ≤ pre.length + 1) {W4 : World} (hsize : W.heap.size + 2 ≤ W4.heap.size) (hp : PlcAt W4 A (nextP p (m.take k))) (ht : TxtAt W4 R (m.drop k))
    (he : Env W4) (hj : J pre' W4) (hall : scanL l = pre' ++ scanF f (nextP p (m.take k)) (m.drop k)) : Sc w W A R l J f (nextP p (m.take k)) (m.drop k) pre' W4 := by
  obtain ⟨-, -, -, -, -, -, s7, s8, s9, s10, s11⟩ := S
  have hd : (m.drop k).length = m.length - k := List.length_drop ..
  have htk : (m.take k).length = k := by rw [List.length_take]; omega
  have hn := nextP_low (m.take k) p s10.1 s11.1
  rw [htk] at hn
  refine ⟨hsize, hp, ht, he, hj, hall, by omega, by omega, by omega, ⟨by omega, by omega⟩, ⟨by omega, by omega⟩⟩
set_option maxRecDepth 20000 in
set_option maxHeartbeats 4000000 in
theorem scan_run (n : Nat) (hn : 3 ≤ n) (T : Nat) (l : List UInt8) (hl : l.length ≤ 65536) (X : Nat → Prop) (w : World) (hT : TxtAt w T l) (hE : Env w)
    (hX : ∀ k, X k → k < w.heap.size + 2) (hX3 : ¬ X 0 ∧ ¬ X 1 ∧ ¬ X 2) :
    SeqAside Fence.wide n Tryd.prog 21 #[.pointer (some ⟨T, 0, none⟩)] It.encs X 2 (fun xs => xs = scanL l) (fun pre => pre <+: scanL l) (l.length + 1) w := by
  intro J Jx W hbW hsz hJ hJx hY h0
  have hTW : TxtAt W T l := (hbW.block T (heap_lt hT)).trans hT
  have hEW : Env W := hE.below hbW
  obtain ⟨t0, t1⟩ := hTW.cells
  unfold str at t0
  have ta : ∀ o, (W.alloc o).cell? ⟨T, 0, none⟩ = some (.string ⟨l.toArray⟩) := fun o => (((Below.refl W.heap.size W).alloc (Nat.le_refl _) o).cell (cell_lt t0)).trans t0
  have tb : ∀ o o', ((W.alloc o).alloc o').cell? ⟨T, 0, none⟩ = some (.string ⟨l.toArray⟩) := fun o o' => ((((Below.refl W.heap.size W).alloc (Nat.le_refl _) o).alloc (by simp) o').cell (cell_lt t0)).trans t0
  have h1 : 1 ≤ n := by omega
  have h3 : 2 < w.heap.size := by obtain ⟨ev, hv, -⟩ := hE.rng; exact cell_lt hv
  refine callsIn_of_wp Tryd.func21 rfl trivial ?_ rfl
  simp only [Tryd.ntmps21, List.size_toArray, List.length_cons, List.length_nil, Nat.reduceAdd, Nat.reduceSub, Array.replicate_succ, Array.replicate_zero, List.push_toArray, List.append_toArray, List.nil_append, List.cons_append]
  refine wpIn_scope ?_
  gi_upto_region 0 with fail
  gi_cut [3, 4] from 10 (fun s3 s4 wx => ∃ A R : Nat, s3 = .pointer (some ⟨A, 0, none⟩) ∧ s4 = .pointer (some ⟨R, 0, none⟩) ∧ A ≠ R ∧ W.heap.size ≤ A ∧ A < W.heap.size + 2 ∧ W.heap.size ≤ R ∧ R < W.heap.size + 2 ∧ W.heap.size + 2 ≤ wx.heap.size ∧ PlcAt wx A (1, 1) ∧ TxtAt wx R l ∧ Mv (fun _ => False) W wx)
  case first =>
    gi_region
    all_goals gi_wp2
    all_goals gi_meet
    case rel =>
      have hn := two_new W (Obj.cells #[Value.int IntKind.i64 1, Value.int IntKind.i64 1] 25) (Obj.cells #[Value.string { data := l.toArray }] 9)
      exact ⟨_, _, rfl, rfl, by omega, by omega, by omega, by omega, by omega, by simp, by rw [← hsz]; exact hn.1, by rw [← hsz]; exact hn.2, ((Mv.alloc _ _).trans (Mv.alloc _ _)).trans (Mv.drew _)⟩
    case rel =>
      have hn := two_new W (Obj.cells #[Value.string { data := l.toArray }] 9) (Obj.cells #[Value.int IntKind.i64 1, Value.int IntKind.i64 1] 25)
      exact ⟨_, _, rfl, rfl, by omega, by omega, by omega, by omega, by omega, by simp, by rw [← hsz]; exact hn.2, by rw [← hsz]; exact hn.1, ((Mv.alloc _ _).trans (Mv.alloc _ _)).trans (Mv.drew _)⟩
  case rest =>
    obtain ⟨A, R, rfl, rfl, hAR, hA1, hA2, hR1, hR2, hwc, hPA, hTR, hmv⟩ := hcut
    have hSc : Hid (Sc w W A R l J (l.length + 1) (1, 1) l [] wc) := Lib.hid ⟨hwc, hPA, hTR, hEW.mv hmv (fun h => h) (fun h => h) (fun h => h), hJ _ _ _ h0 (hmv.mono fun _ _ h => h.elim), rfl, by omega, Nat.le_refl _, by simp, ⟨by decide, by simp⟩, ⟨by decide, by simp⟩⟩
    have hXA : ¬ X A := fun h => by have := hX _ h; omega
    have hXR : ¬ X R := fun h => by have := hX _ h; omega
    clear hPA hTR hmv t0 t1 ta tb hTW hEW h0
    gi_wp2_with fail
    refine wpIn_label ?_
    gi_wp2_with fail
    gi_loopg [6] (l.length + 1) (fun g s6 wr => ∃ (f : Nat) (p : Int × Int) (m : List UInt8) (pre : List It), m.length ≤ g ∧ Hid (Sc w W A R l J f p m pre wr))
    case atStart => exact ⟨_, _, _, _, by omega, hSc⟩
    case round =>
      obtain ⟨f, p, m, pre, hg, S⟩ := hrel
      obtain ⟨r0, r1⟩ := S.out.txt.cells
      unfold str at r0
      cases m with
      | nil =>
        gi_wp2_with fail
        rw [Exit.noGoto_normal]
        have hall := S.out.all
        have hfl := S.out.fuel
        obtain ⟨f', rfl⟩ : ∃ f', f = f' + 1 := ⟨f - 1, by simp at hfl; omega⟩
        go_end0
        exact ⟨⟨_, rfl⟩, .inl ⟨pre, by rw [hall]; simp [scanF], S.out.held⟩⟩
      | cons c m =>
        gi_wp2_with fail
        gi_loopg [6] (m.length + 1) (fun g s6 wr => ∃ (f : Nat) (p : Int × Int) (c : UInt8) (m' : List UInt8) (pre : List It), m'.length < g ∧ m'.length ≤ m.length ∧ Hid (Sc w W A R l J f p (c :: m') pre wr))
        case atStart => exact ⟨_, _, _, _, _, by omega, Nat.le_refl _, S⟩
        case round =>
          clear S r0 r1
          obtain ⟨f, p, c, m', pre, hg2, hm2, S⟩ := hrel
          obtain ⟨r0, r1⟩ := S.out.txt.cells
          obtain ⟨a0, a1, a2, a3⟩ := S.out.plc.cells
          have hfl := S.out.fuel
          have hlf := S.out.left
          obtain ⟨f, rfl⟩ : ∃ f', f = f' + 1 := ⟨f - 1, by simp at hfl; omega⟩
          have hlen : (c :: m').length ≤ 65536 := Nat.le_trans hlf hl
          have C1 := callsIn_wide (n := n - 1).2 (blank_any c m' hlen wr S.out.env)
          unfold str at r0 C1
          gi_wp2_with fail
          refine ⟨trivial, C1.mono ?_⟩
          rintro e w1 ⟨rfl, rfl⟩
          have hall := S.out.all
          simp only [scanF] at hall
          have hfew := S.out.few
          simp only [List.length_cons] at hfew
          cases hb2 : (blankV (c :: m')).2
          · rw [if_pos hb2] at hall
            obtain ⟨fn, tmps, asg, bod, hy, hRd⟩ := hY pre (itBad p) wr wr S.out.held (Mv.refl _ _) (by omega) S.out.size
            dsimp only [It.encs, itBad, Wd.val, str] at hy
            gi_wp2_with fail
            refine hRd.mono ?_
            rintro e W' (⟨rfl, hJ', hk⟩ | ⟨rfl, hJx'⟩)
            · gi_wp2_with fail
              rw [Exit.noGoto_ret]
              refine bodyPost_ret (results_none rfl _ _ _) rfl ?_
              exact ⟨⟨_, rfl⟩, .inl ⟨_, hall.symm, hJ'⟩⟩
            · gi_wp2_with fail
              rw [Exit.noGoto_ret]
              refine bodyPost_ret (results_none rfl _ _ _) rfl ?_
              exact ⟨⟨_, rfl⟩, .inr ⟨_, ⟨[], by rw [hall]; simp⟩, hJx'⟩⟩
          · rw [if_neg (by rw [hb2]; simp)] at hall
            have hbl := blank_low c m' hb2
            have C2 := callsIn_wide (n := n - 1).2 (word_any c m' hlen wr S.out.env)
            have hwl := word_low c m'
            obtain ⟨k, hk⟩ : ∃ k : Nat, (blankV (c :: m')).1 = k := ⟨(blankV (c :: m')).1.toNat, by omega⟩
            rw [hk] at hall hbl ⊢
            rw [Int.toNat_natCast] at hall
            have hkl : k ≤ m'.length + 1 := by have := hbl.2; simp at this; omega
            clear hbl hk hb2 C1
            by_cases hz : k = 0
            · subst hz
              rw [if_neg (by simp)] at hall
              unfold RWd str at C2
              gi_wp2_with fail
              refine ⟨trivial, C2.mono ?_⟩
              rintro e w2 ⟨⟨dk, dt, dn⟩, rfl, hd, hb⟩
              dsimp only [Wd.val, str]
              have hmb : Mv (fun _ => False) wr w2 := Mv.below hb
              have hpA : PlcAt w2 A p := S.out.plc.mv hmb (fun h => h)
              have hs2 : W.heap.size + 2 ≤ w2.heap.size := Nat.le_trans S.out.size hb.size
              have ta0 : ∀ o, (w2.alloc o).cell? ⟨A, 0, none⟩ = some (.int .i64 p.1) := fun o => (((Below.refl w2.heap.size w2).alloc (Nat.le_refl _) o).cell (cell_lt hpA.cells.1)).trans hpA.cells.1
              have ta1 : ∀ o, (w2.alloc o).cell? ⟨A, 1, none⟩ = some (.int .i64 p.2) := fun o => (((Below.refl w2.heap.size w2).alloc (Nat.le_refl _) o).cell (cell_lt hpA.cells.2.1)).trans hpA.cells.2.1
              clear a0 a1 a2 a3 r0 r1 C2
              cases hw : wordO (c :: m') with
              | none =>
                rw [hw] at hall
                have hmy : Mv (fun k => W.heap.size ≤ k ∧ k < W.heap.size + 2) wr (w2.alloc (.cells #[.int .i64 0, .string ⟨#[]⟩, .int .i64 0, .int .i64 p.1, .int .i64 p.2] 30)) := (hmb.trans (Mv.alloc _ _)).mono fun _ _ h => h.elim
                obtain ⟨fn, tmps, asg, bod, hy, hRd⟩ := hY pre (itBad p) wr _ S.out.held hmy (by omega) S.out.size
                dsimp only [It.encs, itBad, Wd.val, str] at hy
                gi_wp2_with fail
                refine hRd.mono ?_
                rintro e W' (⟨rfl, hJ', hk⟩ | ⟨rfl, hJx'⟩)
                · gi_wp2_with fail
                  rw [Exit.noGoto_ret]
                  refine bodyPost_ret (results_none rfl _ _ _) rfl ?_
                  exact ⟨⟨_, rfl⟩, .inl ⟨_, hall.symm, hJ'⟩⟩
                · gi_wp2_with fail
                  rw [Exit.noGoto_ret]
                  refine bodyPost_ret (results_none rfl _ _ _) rfl ?_
                  exact ⟨⟨_, rfl⟩, .inr ⟨_, ⟨[], by rw [hall]; simp⟩, hJx'⟩⟩
              | some u =>
                have hu := hd u hw
                subst hu
                rw [hw] at hall
                obtain ⟨hk1, hk2⟩ := hwl _ hw
                simp only at hall hk1 hk2
                have hmy : Mv (fun k => W.heap.size ≤ k ∧ k < W.heap.size + 2) wr (w2.alloc (.cells #[.int .i64 dk, .string ⟨dt.toArray⟩, .int .i64 dn, .int .i64 p.1, .int .i64 p.2] 30)) := (hmb.trans (Mv.alloc _ _)).mono fun _ _ h => h.elim
                obtain ⟨fn, tmps, asg, bod, hy, hRd⟩ := hY pre ⟨⟨dk, dt, dn⟩, p, false⟩ wr _ S.out.held hmy (by omega) S.out.size
                dsimp only [It.encs, Wd.val, str] at hy
                gi_wp2_with fail
                refine hRd.mono ?_
                rintro e W3 (⟨rfl, hJ', hk⟩ | ⟨rfl, hJx'⟩)
                · have hXw : ¬ (X w2.heap.size ∨ (W.heap.size + 2 ≤ w2.heap.size ∧ w2.heap.size < wr.heap.size)) := fun h => by
                    rcases h with h | h
                    · have := hX _ h; omega
                    · have := hb.size; omega
                  have hXA' : ¬ (X A ∨ (W.heap.size + 2 ≤ A ∧ A < wr.heap.size)) := fun h => h.elim hXA (fun h => by omega)
                  have hXR' : ¬ (X R ∨ (W.heap.size + 2 ≤ R ∧ R < wr.heap.size)) := fun h => h.elim hXR (fun h => by omega)
                  have hlt : w2.heap.size < (w2.alloc (.cells #[.int .i64 dk, .string ⟨dt.toArray⟩, .int .i64 dn, .int .i64 p.1, .int .i64 p.2] 30)).heap.size := by simp
                  have hbx : W3.heap[w2.heap.size]? = some (.cells #[.int .i64 dk, .string ⟨dt.toArray⟩, .int .i64 dn, .int .i64 p.1, .int .i64 p.2] 30 (0, 0)) := (hk.same _ hlt hXw).trans (heap_alloc_new w2 _)
                  obtain ⟨x0, x1, x2, x3, x4, y0, y1, y2, y3, y4⟩ := box5 hbx
                  have hpA3 : PlcAt W3 A p := (hk.same A (by have := heap_lt hpA; simp; omega) hXA').trans (hpA.mv (X := fun _ => False) (Mv.alloc _ _) (fun h => h))
                  have hR2 : TxtAt w2 R (c :: m') := S.out.txt.mv hmb (fun h => h)
                  have hpR3 : TxtAt W3 R (c :: m') := (hk.same R (by have := heap_lt hR2; simp; omega) hXR').trans (hR2.mv (X := fun _ => False) (Mv.alloc _ _) (fun h => h))
                  have hE3 : Env W3 := ((S.out.env.mv hmb (fun h => h) (fun h => h) (fun h => h)).mv (X := fun _ => False) (Mv.alloc _ _) (fun h => h) (fun h => h) (fun h => h)).kept hk (fun h => h.elim hX3.1 (fun h => by omega)) (fun h => h.elim hX3.2.1 (fun h => by omega)) (fun h => h.elim hX3.2.2 (fun h => by omega))
                  have hs3 : W.heap.size + 2 ≤ W3.heap.size := by have := hk.size; simp at this; omega
                  have q1 := S.out.p1
                  have q2 := S.out.p2
                  have C3 := callsIn_wide (n := n - 1).2 (take_any A R hAR p.1 p.2 (c :: m') dt.length hk2 hlen q1.1 (by omega) q2.1 (by omega) W3 hpA3 hpR3)
                  unfold RTk at C3
                  gi_wp2_with fail
                  refine ⟨trivial, C3.mono ?_⟩
                  rintro e W4 ⟨⟨v, rfl⟩, hA4, hR4, hm4⟩
                  have hN := S.out.next dt.length hk1 hk2 (pre' := pre ++ [⟨⟨dk, dt, dn⟩, p, false⟩]) (W4 := W4) (by simp) (Nat.le_trans hs3 hm4.size) hA4 hR4 (hE3.mv hm4 (by omega) (by omega) (by omega))
                    (hJ _ _ _ hJ' (hm4.mono fun k _ h => by rcases h with rfl | rfl <;> exact ⟨by omega, by omega⟩)) (by rw [hall]; simp)
                  gi_wp2_with fail
                  gi_roundg m.length
                  case measure => simp at hg; omega
                  case rel => exact ⟨_, _, _, _, by simp at hk1 ⊢; omega, Lib.hid hN⟩
                · gi_wp2_with fail
                  rw [Exit.noGoto_ret]
                  refine bodyPost_ret (results_none rfl _ _ _) rfl ?_
                  exact ⟨⟨_, rfl⟩, .inr ⟨_, ⟨scanF f (nextP p (List.take dt.length (c :: m'))) (List.drop dt.length (c :: m')), by rw [hall]; simp⟩, hJx'⟩⟩
            · have hz1 : 1 ≤ k := by omega
              rw [if_pos (by omega)] at hall
              have q1 := S.out.p1
              have q2 := S.out.p2
              have C3 := callsIn_wide (n := n - 1).2 (take_any A R hAR p.1 p.2 (c :: m') k hkl hlen q1.1 (by omega) q2.1 (by omega) wr S.out.plc S.out.txt)
              unfold RTk at C3
              clear r0 r1 a0 a1 a2 a3
              gi_wp2_with fail
              refine ⟨trivial, C3.mono ?_⟩
              rintro e W4 ⟨⟨v, rfl⟩, hA4, hR4, hm4⟩
              have hN := S.out.next k hz1 hkl (pre' := pre) (W4 := W4) (by omega) (Nat.le_trans S.out.size hm4.size) hA4 hR4 (S.out.env.mv hm4 (by omega) (by omega) (by omega))
                (hJ _ _ _ S.out.held (hm4.mono fun k _ h => by rcases h with rfl | rfl <;> exact ⟨by omega, by omega⟩)) hall
              have hdl : ((c :: m').drop k).length = m'.length + 1 - k := by rw [List.length_drop]; rfl
              generalize (c :: m').drop k = md at *
              have hN' := Lib.hid hN
              obtain ⟨z0, z1⟩ := hR4.cells
              unfold str at z0
              cases md with
              | nil =>
                gi_wp2_with fail
                rw [Exit.noGoto_normal]
                go_end0
                refine ⟨⟨_, rfl⟩, .inl ⟨pre, ?_, hN.held⟩⟩
                have hfl2 := hN.fuel
                obtain ⟨f', rfl⟩ : ∃ f', f = f' + 1 := ⟨f - 1, by simp at hfl2; omega⟩
                rw [hN.all]; simp [scanF]
              | cons c2 m2 =>
                clear hN
                gi_wp2_with fail
                gi_roundg m'.length
                case measure => omega
                case rel => exact ⟨_, _, _, _, _, by simp at hdl; omega, by simp at hdl; omega, hN'⟩
end Go.Proofs.YtjgpbpmicopemaaDoor
