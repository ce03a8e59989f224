import Derived.Test.YtjgpbpmicopemaaGreatDoorPb04
import Derived.RangeFuncNested
import Derived.RangeFuncBound
import Derived.RangeFuncCalls
import Derived.RangeFuncLeaves
import Derived.Shelf.Abstract
import Derived.Shelf.RegionOpen
import Derived.WalkKit
import Derived.OwnWalkIn
import Derived.TacticsInMore
import Derived.LoopNIn
import Derived.LoopIn
import Derived.Sort.CutIn
import Derived.Sort.LoopGhostIn
import Derived.RegionIn
import Derived.Scope
import Derived.WalkMore
import Derived.RangeFuncBox
import Derived.Maps.AppendAt

/-
  lex.scan: its iterator's contract.
-/
namespace Go.Proofs.YtjgpbpmicopemaaGreatDoor
open Go.RowKit Go.Shelf
attribute [local go_sem] Oper.semAt_some

section
variable {F : Fence} {n : Nat} {P : Program} {b : Frame} {a : Act} {k : List Item} {cs : List Frame} {w : World} {Q : Exit → Act → World → Prop}
theorem stepR_scope {c : Code} : step P (lone (b.atR a (.code (.scope c) :: k)) cs w) = .next (lone (b.atR a (.code c :: .inScope c :: k)) cs w) :=
  step_lone_go (by simp [stepG, stepG.exec, Frame.atR])
theorem stepR_inScope {c : Code} : step P (lone (b.atR a (.inScope c :: k)) cs w) = .next (lone (b.atR a k) cs w) :=
  step_lone_go (by simp [stepG, stepG.exec, Frame.atR])
theorem wpIn_scope {c : Code} (h : c.wpIn F n P (Exit.noGoto Q) a w) : (Code.scope c).wpIn F n P Q a w := by
  intro b k cs hro hb hr
  have h0 : (lone (b.atR a (.code (.scope c) :: k)) cs w).fenced P F := fenced_calm hb hr rfl
  obtain ⟨e, a₁, w₁, hq, harr⟩ := h b (.inScope c :: k) cs hro hb hr
  cases e with
  | normal => exact ⟨.normal, a₁, w₁, hq, .head h0 stepR_scope (StepsIn.trans harr (.one (fenced_calm hb hr rfl) stepR_inScope))⟩
  | exit id =>
    have hx : exitTo id (.inScope c :: k) = exitTo id k := by simp [exitTo]
    exact ⟨.exit id, a₁, w₁, hq, fun k' hk => .head h0 stepR_scope (harr.1 k' (by rw [hx]; exact hk)),
      fun hr' hk => let ⟨k₁, h1, h2⟩ := harr.2 hr' (by rw [hx]; exact hk); ⟨k₁, h1, .head h0 stepR_scope h2⟩⟩
  | goto l => exact hq.elim
  | ret => exact ⟨_, a₁, w₁, hq, .of_steps (.one h0 stepR_scope) harr⟩
  | panic ch => exact ⟨_, a₁, w₁, hq, .of_steps (.one h0 stepR_scope) harr⟩
  | outgrown => exact ⟨_, a₁, w₁, hq, .of_steps (.one h0 stepR_scope) harr⟩
end

/-- where the iterator stands: what is left to read, from which place; what has come -/
structure Sc (w W : World) (A R : Nat) (l : List UInt8) (J : List It → World → Prop) (f : Nat) (p : Int × Int) (m : List UInt8) (pre : List It) (wr : World) : Prop where
  size : W.heap.size + 2 ≤ wr.heap.size
  plc : PlcAt wr A p
  txt : TxtAt wr R m
  env : Env wr
  held : J pre wr
  all : scanL l = pre ++ scanF f p m
  fuel : m.length < f
  left : m.length ≤ l.length
  few : pre.length + m.length ≤ l.length
  p1 : 0 ≤ p.1 ∧ p.1 ≤ 1 + 2 * (l.length - m.length : Int)
  p2 : 0 ≤ p.2 ∧ p.2 ≤ 1 + 2 * (l.length - m.length : Int)
theorem Env.kept {X : Nat → Prop} {w w' : World} (h : Env w) (m : Kept X w w') (h0 : ¬ X 0) (h1 : ¬ X 2) (h2 : ¬ X 3) : Env w' := by
  have key : ∀ {a : Addr} {v : Value}, w.cell? a = some v → ¬ X a.block → w'.cell? a = some v := by
    intro a v hc hx
    have := m.same a.block (cell_lt hc) hx
    rw [← hc]
    unfold World.cell?
    rw [this]
  obtain ⟨⟨m1, e1⟩, ⟨s, e2, s2⟩, ⟨r, e3, r2⟩⟩ := h
  exact ⟨⟨m1, key e1 h0⟩, ⟨s, key e2 h1, s2⟩, ⟨r, key e3 h2, r2⟩⟩
theorem Sc.next {w W : World} {A R : Nat} {l : List UInt8} {J : List It → World → Prop} {f : Nat} {p : Int × Int} {m : List UInt8} {pre : List It} {wr : World} (S : Sc w W A R l J (f + 1) p m pre wr)
    (k : Nat) (hk1 : 1 ≤ k) (hk : k ≤ m.length) {pre' : List It} (hpre : pre'.length ≤ pre.length + 1) {W4 : World} (hsize : W.heap.size + 2 ≤ W4.heap.size) (hp : PlcAt W4 A (nextP p (m.take k))) (ht : TxtAt W4 R (m.drop k))
    (he : Env W4) (hj : J pre' W4) (hall : scanL l = pre' ++ scanF f (nextP p (m.take k)) (m.drop k)) : Sc w W A R l J f (nextP p (m.take k)) (m.drop k) pre' W4 := by
  obtain ⟨-, -, -, -, -, -, s7, s8, s9, s10, s11⟩ := S
  have hd : (m.drop k).length = m.length - k := List.length_drop ..
  have htk : (m.take k).length = k := by rw [List.length_take]; omega
  have hn := nextP_low (m.take k) p s10.1 s11.1
  rw [htk] at hn
  refine ⟨hsize, hp, ht, he, hj, hall, by omega, by omega, by omega, ⟨by omega, by omega⟩, ⟨by omega, by omega⟩⟩
set_option maxRecDepth 20000 in
set_option maxHeartbeats 4000000 in
theorem scan_run (n : Nat) (hn : 3 ≤ n) (T : Nat) (l : List UInt8) (hl : l.length ≤ 65536) (X : Nat → Prop) (w : World) (hT : TxtAt w T l) (hE : Env w)
    (hX : ∀ k, X k → k < w.heap.size + 2) (hX3 : ¬ X 0 ∧ ¬ X 2 ∧ ¬ X 3) :
    SeqAside Fence.wide n Tryz.prog 72 #[.pointer (some ⟨T, 0, none⟩)] It.encs X 2 (fun xs => xs = scanL l) (fun pre => pre <+: scanL l) (l.length + 1) w := by
  intro J Jx W hbW hsz hJ hJx hY h0
  have hTW : TxtAt W T l := (hbW.block T (heap_lt hT)).trans hT
  have hEW : Env W := hE.below hbW
  obtain ⟨t0, t1⟩ := hTW.cells
  unfold str at t0
  have ta : ∀ o, (W.alloc o).cell? ⟨T, 0, none⟩ = some (.string ⟨l.toArray⟩) := fun o => (((Below.refl W.heap.size W).alloc (Nat.le_refl _) o).cell (cell_lt t0)).trans t0
  have tb : ∀ o o', ((W.alloc o).alloc o').cell? ⟨T, 0, none⟩ = some (.string ⟨l.toArray⟩) := fun o o' => ((((Below.refl W.heap.size W).alloc (Nat.le_refl _) o).alloc (by simp) o').cell (cell_lt t0)).trans t0
  have h1 : 1 ≤ n := by omega
  have h3 : 3 < w.heap.size := by obtain ⟨ev, hv, -⟩ := hE.rng; exact cell_lt hv
  refine callsIn_of_wp Tryz.func72 rfl trivial ?_ rfl
  simp only [Tryz.ntmps72, List.size_toArray, List.length_cons, List.length_nil, Nat.reduceAdd, Nat.reduceSub, Array.replicate_succ, Array.replicate_zero, List.push_toArray, List.append_toArray, List.nil_append, List.cons_append]
  refine wpIn_scope ?_
  gi_upto_region 0 with fail
  gi_cut [3, 4] from 10 (fun s3 s4 wx => ∃ A R : Nat, s3 = .pointer (some ⟨A, 0, none⟩) ∧ s4 = .pointer (some ⟨R, 0, none⟩) ∧ A ≠ R ∧ W.heap.size ≤ A ∧ A < W.heap.size + 2 ∧ W.heap.size ≤ R ∧ R < W.heap.size + 2 ∧ W.heap.size + 2 ≤ wx.heap.size ∧ PlcAt wx A (1, 1) ∧ TxtAt wx R l ∧ Mv (fun _ => False) W wx)
  case first =>
    gi_region
    all_goals gi_wp2
    all_goals gi_meet
    case rel =>
      have hn := two_new W (Obj.cells #[Value.int IntKind.i64 1, Value.int IntKind.i64 1] 26) (Obj.cells #[Value.string { data := l.toArray }] 9)
      exact ⟨_, _, rfl, rfl, by omega, by omega, by omega, by omega, by omega, by simp, by rw [← hsz]; exact hn.1, by rw [← hsz]; exact hn.2, ((Mv.alloc _ _).trans (Mv.alloc _ _)).trans (Mv.drew _)⟩
    case rel =>
      have hn := two_new W (Obj.cells #[Value.string { data := l.toArray }] 9) (Obj.cells #[Value.int IntKind.i64 1, Value.int IntKind.i64 1] 26)
      exact ⟨_, _, rfl, rfl, by omega, by omega, by omega, by omega, by omega, by simp, by rw [← hsz]; exact hn.2, by rw [← hsz]; exact hn.1, ((Mv.alloc _ _).trans (Mv.alloc _ _)).trans (Mv.drew _)⟩
  case rest =>
    obtain ⟨A, R, rfl, rfl, hAR, hA1, hA2, hR1, hR2, hwc, hPA, hTR, hmv⟩ := hcut
    have hSc : Hid (Sc w W A R l J (l.length + 1) (1, 1) l [] wc) := Lib.hid ⟨hwc, hPA, hTR, hEW.mv hmv (fun h => h) (fun h => h) (fun h => h), hJ _ _ _ h0 (hmv.mono fun _ _ h => h.elim), rfl, by omega, Nat.le_refl _, by simp, ⟨by decide, by simp⟩, ⟨by decide, by simp⟩⟩
    have hXA : ¬ X A := fun h => by have := hX _ h; omega
    have hXR : ¬ X R := fun h => by have := hX _ h; omega
    clear hPA hTR hmv t0 t1 ta tb hTW hEW h0
    gi_wp2_with fail
    refine wpIn_label ?_
    gi_wp2_with fail
    gi_loopg [6] (l.length + 1) (fun g s6 wr => ∃ (f : Nat) (p : Int × Int) (m : List UInt8) (pre : List It), m.length ≤ g ∧ Hid (Sc w W A R l J f p m pre wr))
    case atStart => exact ⟨_, _, _, _, by omega, hSc⟩
    case round =>
      obtain ⟨f, p, m, pre, hg, S⟩ := hrel
      obtain ⟨r0, r1⟩ := S.out.txt.cells
      unfold str at r0
      cases m with
      | nil =>
        gi_wp2_with fail
        rw [Exit.noGoto_normal]
        have hall := S.out.all
        have hfl := S.out.fuel
        obtain ⟨f', rfl⟩ : ∃ f', f = f' + 1 := ⟨f - 1, by simp at hfl; omega⟩
        go_end0
        exact ⟨⟨_, rfl⟩, .inl ⟨pre, by rw [hall]; simp [scanF], S.out.held⟩⟩
      | cons c m =>
        gi_wp2_with fail
        gi_loopg [6] (m.length + 1) (fun g s6 wr => ∃ (f : Nat) (p : Int × Int) (c : UInt8) (m' : List UInt8) (pre : List It), m'.length < g ∧ m'.length ≤ m.length ∧ Hid (Sc w W A R l J f p (c :: m') pre wr))
        case atStart => exact ⟨_, _, _, _, _, by omega, Nat.le_refl _, S⟩
        case round =>
          clear S r0 r1
          obtain ⟨f, p, c, m', pre, hg2, hm2, S⟩ := hrel
          obtain ⟨r0, r1⟩ := S.out.txt.cells
          obtain ⟨a0, a1, a2, a3⟩ := S.out.plc.cells
          have hfl := S.out.fuel
          have hlf := S.out.left
          obtain ⟨f, rfl⟩ : ∃ f', f = f' + 1 := ⟨f - 1, by simp at hfl; omega⟩
          have hlen : (c :: m').length ≤ 65536 := Nat.le_trans hlf hl
          have C1 := callsIn_wide (n := n - 1).2 (blank_any c m' hlen wr S.out.env)
          unfold str at r0 C1
          gi_wp2_with fail
          refine ⟨trivial, C1.mono ?_⟩
          rintro e w1 ⟨rfl, rfl⟩
          have hall := S.out.all
          simp only [scanF] at hall
          have hfew := S.out.few
          simp only [List.length_cons] at hfew
          cases hb2 : (blankV (c :: m')).2
          · rw [if_pos hb2] at hall
            obtain ⟨fn, tmps, asg, bod, hy, hRd⟩ := hY pre (itBad p) wr wr S.out.held (Mv.refl _ _) (by omega) S.out.size
            dsimp only [It.encs, itBad, Wd.val, str] at hy
            gi_wp2_with fail
            refine hRd.mono ?_
            rintro e W' (⟨rfl, hJ', hk⟩ | ⟨rfl, hJx'⟩)
            · gi_wp2_with fail
              rw [Exit.noGoto_ret]
              refine bodyPost_ret (results_none rfl _ _ _) rfl ?_
              exact ⟨⟨_, rfl⟩, .inl ⟨_, hall.symm, hJ'⟩⟩
            · gi_wp2_with fail
              rw [Exit.noGoto_ret]
              refine bodyPost_ret (results_none rfl _ _ _) rfl ?_
              exact ⟨⟨_, rfl⟩, .inr ⟨_, ⟨[], by rw [hall]; simp⟩, hJx'⟩⟩
          · rw [if_neg (by rw [hb2]; simp)] at hall
            have hbl := blank_low c m' hb2
            have C2 := callsIn_wide (n := n - 1).2 (word_any c m' hlen wr S.out.env)
            have hwl := word_low c m'
            obtain ⟨k, hk⟩ : ∃ k : Nat, (blankV (c :: m')).1 = k := ⟨(blankV (c :: m')).1.toNat, by omega⟩
            rw [hk] at hall hbl ⊢
            rw [Int.toNat_natCast] at hall
            have hkl : k ≤ m'.length + 1 := by have := hbl.2; simp at this; omega
            clear hbl hk hb2 C1
            by_cases hz : k = 0
            · subst hz
              rw [if_neg (by simp)] at hall
              unfold RWd str at C2
              gi_wp2_with fail
              refine ⟨trivial, C2.mono ?_⟩
              rintro e w2 ⟨⟨dk, dt, dn⟩, rfl, hd, hb⟩
              dsimp only [Wd.val, str]
              have hmb : Mv (fun _ => False) wr w2 := Mv.below hb
              have hpA : PlcAt w2 A p := S.out.plc.mv hmb (fun h => h)
              have hs2 : W.heap.size + 2 ≤ w2.heap.size := Nat.le_trans S.out.size hb.size
              have ta0 : ∀ o, (w2.alloc o).cell? ⟨A, 0, none⟩ = some (.int .i64 p.1) := fun o => (((Below.refl w2.heap.size w2).alloc (Nat.le_refl _) o).cell (cell_lt hpA.cells.1)).trans hpA.cells.1
              have ta1 : ∀ o, (w2.alloc o).cell? ⟨A, 1, none⟩ = some (.int .i64 p.2) := fun o => (((Below.refl w2.heap.size w2).alloc (Nat.le_refl _) o).cell (cell_lt hpA.cells.2.1)).trans hpA.cells.2.1
              clear a0 a1 a2 a3 r0 r1 C2
              cases hw : wordO (c :: m') with
              | none =>
                rw [hw] at hall
                have hmy : Mv (fun k => W.heap.size ≤ k ∧ k < W.heap.size + 2) wr (w2.alloc (.cells #[.int .i64 0, .string ⟨#[]⟩, .int .i64 0, .int .i64 p.1, .int .i64 p.2] 114)) := (hmb.trans (Mv.alloc _ _)).mono fun _ _ h => h.elim
                obtain ⟨fn, tmps, asg, bod, hy, hRd⟩ := hY pre (itBad p) wr _ S.out.held hmy (by omega) S.out.size
                dsimp only [It.encs, itBad, Wd.val, str] at hy
                gi_wp2_with fail
                refine hRd.mono ?_
                rintro e W' (⟨rfl, hJ', hk⟩ | ⟨rfl, hJx'⟩)
                · gi_wp2_with fail
                  rw [Exit.noGoto_ret]
                  refine bodyPost_ret (results_none rfl _ _ _) rfl ?_
                  exact ⟨⟨_, rfl⟩, .inl ⟨_, hall.symm, hJ'⟩⟩
                · gi_wp2_with fail
                  rw [Exit.noGoto_ret]
                  refine bodyPost_ret (results_none rfl _ _ _) rfl ?_
                  exact ⟨⟨_, rfl⟩, .inr ⟨_, ⟨[], by rw [hall]; simp⟩, hJx'⟩⟩
              | some u =>
                have hu := hd u hw
                subst hu
                rw [hw] at hall
                obtain ⟨hk1, hk2⟩ := hwl _ hw
                simp only at hall hk1 hk2
                have hmy : Mv (fun k => W.heap.size ≤ k ∧ k < W.heap.size + 2) wr (w2.alloc (.cells #[.int .i64 dk, .string ⟨dt.toArray⟩, .int .i64 dn, .int .i64 p.1, .int .i64 p.2] 114)) := (hmb.trans (Mv.alloc _ _)).mono fun _ _ h => h.elim
                obtain ⟨fn, tmps, asg, bod, hy, hRd⟩ := hY pre ⟨⟨dk, dt, dn⟩, p, false⟩ wr _ S.out.held hmy (by omega) S.out.size
                dsimp only [It.encs, Wd.val, str] at hy
                gi_wp2_with fail
                refine hRd.mono ?_
                rintro e W3 (⟨rfl, hJ', hk⟩ | ⟨rfl, hJx'⟩)
                · have hXw : ¬ (X w2.heap.size ∨ (W.heap.size + 2 ≤ w2.heap.size ∧ w2.heap.size < wr.heap.size)) := fun h => by
                    rcases h with h | h
                    · have := hX _ h; omega
                    · have := hb.size; omega
                  have hXA' : ¬ (X A ∨ (W.heap.size + 2 ≤ A ∧ A < wr.heap.size)) := fun h => h.elim hXA (fun h => by omega)
                  have hXR' : ¬ (X R ∨ (W.heap.size + 2 ≤ R ∧ R < wr.heap.size)) := fun h => h.elim hXR (fun h => by omega)
                  have hlt : w2.heap.size < (w2.alloc (.cells #[.int .i64 dk, .string ⟨dt.toArray⟩, .int .i64 dn, .int .i64 p.1, .int .i64 p.2] 114)).heap.size := by simp
                  have hbx : W3.heap[w2.heap.size]? = some (.cells #[.int .i64 dk, .string ⟨dt.toArray⟩, .int .i64 dn, .int .i64 p.1, .int .i64 p.2] 114 (0, 0)) := (hk.same _ hlt hXw).trans (heap_alloc_new w2 _)
                  obtain ⟨x0, x1, x2, x3, x4, y0, y1, y2, y3, y4⟩ := box5 hbx
                  have hpA3 : PlcAt W3 A p := (hk.same A (by have := heap_lt hpA; simp; omega) hXA').trans (hpA.mv (X := fun _ => False) (Mv.alloc _ _) (fun h => h))
                  have hR2 : TxtAt w2 R (c :: m') := S.out.txt.mv hmb (fun h => h)
                  have hpR3 : TxtAt W3 R (c :: m') := (hk.same R (by have := heap_lt hR2; simp; omega) hXR').trans (hR2.mv (X := fun _ => False) (Mv.alloc _ _) (fun h => h))
                  have hE3 : Env W3 := ((S.out.env.mv hmb (fun h => h) (fun h => h) (fun h => h)).mv (X := fun _ => False) (Mv.alloc _ _) (fun h => h) (fun h => h) (fun h => h)).kept hk (fun h => h.elim hX3.1 (fun h => by omega)) (fun h => h.elim hX3.2.1 (fun h => by omega)) (fun h => h.elim hX3.2.2 (fun h => by omega))
                  have hs3 : W.heap.size + 2 ≤ W3.heap.size := by have := hk.size; simp at this; omega
                  have q1 := S.out.p1
                  have q2 := S.out.p2
                  have C3 := callsIn_wide (n := n - 1).2 (take_any A R hAR p.1 p.2 (c :: m') dt.length hk2 hlen q1.1 (by omega) q2.1 (by omega) W3 hpA3 hpR3)
                  unfold RTk at C3
                  gi_wp2_with fail
                  refine ⟨trivial, C3.mono ?_⟩
                  rintro e W4 ⟨⟨v, rfl⟩, hA4, hR4, hm4⟩
                  have hN := S.out.next dt.length hk1 hk2 (pre' := pre ++ [⟨⟨dk, dt, dn⟩, p, false⟩]) (W4 := W4) (by simp) (Nat.le_trans hs3 hm4.size) hA4 hR4 (hE3.mv hm4 (by omega) (by omega) (by omega))
                    (hJ _ _ _ hJ' (hm4.mono fun k _ h => by rcases h with rfl | rfl <;> exact ⟨by omega, by omega⟩)) (by rw [hall]; simp)
                  gi_wp2_with fail
                  gi_roundg m.length
                  case measure => simp at hg; omega
                  case rel => exact ⟨_, _, _, _, by simp at hk1 ⊢; omega, Lib.hid hN⟩
                · gi_wp2_with fail
                  rw [Exit.noGoto_ret]
                  refine bodyPost_ret (results_none rfl _ _ _) rfl ?_
                  exact ⟨⟨_, rfl⟩, .inr ⟨_, ⟨scanF f (nextP p (List.take dt.length (c :: m'))) (List.drop dt.length (c :: m')), by rw [hall]; simp⟩, hJx'⟩⟩
            · have hz1 : 1 ≤ k := by omega
              rw [if_pos (by omega)] at hall
              have q1 := S.out.p1
              have q2 := S.out.p2
              have C3 := callsIn_wide (n := n - 1).2 (take_any A R hAR p.1 p.2 (c :: m') k hkl hlen q1.1 (by omega) q2.1 (by omega) wr S.out.plc S.out.txt)
              unfold RTk at C3
              clear r0 r1 a0 a1 a2 a3
              gi_wp2_with fail
              refine ⟨trivial, C3.mono ?_⟩
              rintro e W4 ⟨⟨v, rfl⟩, hA4, hR4, hm4⟩
              have hN := S.out.next k hz1 hkl (pre' := pre) (W4 := W4) (by omega) (Nat.le_trans S.out.size hm4.size) hA4 hR4 (S.out.env.mv hm4 (by omega) (by omega) (by omega))
                (hJ _ _ _ S.out.held (hm4.mono fun k _ h => by rcases h with rfl | rfl <;> exact ⟨by omega, by omega⟩)) hall
              have hdl : ((c :: m').drop k).length = m'.length + 1 - k := by rw [List.length_drop]; rfl
              generalize (c :: m').drop k = md at *
              have hN' := Lib.hid hN
              obtain ⟨z0, z1⟩ := hR4.cells
              unfold str at z0
              cases md with
              | nil =>
                gi_wp2_with fail
                rw [Exit.noGoto_normal]
                go_end0
                refine ⟨⟨_, rfl⟩, .inl ⟨pre, ?_, hN.held⟩⟩
                have hfl2 := hN.fuel
                obtain ⟨f', rfl⟩ : ∃ f', f = f' + 1 := ⟨f - 1, by simp at hfl2; omega⟩
                rw [hN.all]; simp [scanF]
              | cons c2 m2 =>
                clear hN
                gi_wp2_with fail
                gi_roundg m'.length
                case measure => omega
                case rel => exact ⟨_, _, _, _, _, by simp at hdl; omega, by simp at hdl; omega, hN'⟩
end Go.Proofs.YtjgpbpmicopemaaGreatDoor

/-
  lex.read: what it answers, for every text.
-/
namespace Go.Proofs.YtjgpbpmicopemaaGreatDoor
open Go.RowKit Go.Shelf
attribute [local go_sem] Oper.semAt_some

theorem scan_any (l : List UInt8) (w : World) : Calls Tryz.prog 47 #[str l] w fun e w' => e = .returned (.func (.func 72) #[] #[.pointer (some ⟨w.heap.size, 0, none⟩)]) ∧ w' = w.alloc (.cells #[str l] 9) := by
  unfold str
  go_enter Tryz.func47, Tryz.ntmps47
  go_wp2
  go_ret
  exact ⟨rfl, rfl⟩
/-- a word's cells in a slice's row -/
def It.cells (x : It) : List Value := [.int .i64 x.d.k, str x.d.t, .int .i64 x.d.n, .int .i64 x.p.1, .int .i64 x.p.2]
/-- the words ahead of a fault, and the fault's place -/
def goods (l : List UInt8) : List It := (scanL l).takeWhile (fun x => !x.bad)
def faultO (l : List UInt8) : Option It := (scanL l).find? (fun x => x.bad)
def faultP (l : List UInt8) : Int × Int := match faultO l with
  | some x => x.p
  | none => (0, 0)
def SlAt (W : World) (g : Nat) (v : Value) : Prop := W.heap[g]? = some (.cells #[v] 49 (0, 0))
def BlAt (W : World) (g : Nat) (b : Bool) : Prop := W.heap[g]? = some (.cells #[.bool b] 4 (0, 0))
def RRd (l : List UInt8) (w : World) (e : Ending) (w' : World) : Prop := ∃ v, e = .returned (.tuple #[v, .agg #[.int .i64 (faultP l).1, .int .i64 (faultP l).2], .bool (faultO l).isSome]) ∧
  w'.ownsRow w.heap.size 114 5 v (goods l).length ((goods l).flatMap It.cells) ∧ Below w.heap.size w w'
theorem goods_all (l : List UInt8) (h : ∀ x ∈ scanL l, x.bad = false) : goods l = scanL l ∧ faultO l = none := by
  unfold goods faultO
  constructor
  · generalize scanL l = xs at h
    induction xs with
    | nil => rfl
    | cons x xs ih =>
      rw [List.takeWhile_cons, h x (by simp)]
      simp only [Bool.not_false, if_true]
      rw [ih (fun y hy => h y (by simp [hy]))]
  · rw [List.find?_eq_none]
    intro x hx
    simp [h x hx]
theorem goods_some (l : List UInt8) (pre r : List It) (x : It) (e : pre ++ [x] ++ r = scanL l) (h : ∀ y ∈ pre, y.bad = false) (hx : x.bad = true) : goods l = pre ∧ faultO l = some x := by
  unfold goods faultO
  rw [← e]
  clear e
  induction pre with
  | nil => simp [hx]
  | cons y pre ih =>
    obtain ⟨h1, h2⟩ := ih (fun z hz => h z (by simp [hz]))
    have hy := h y (by simp)
    constructor
    · rw [List.cons_append, List.cons_append, List.takeWhile_cons, hy]
      simp only [Bool.not_false, if_true]
      rw [h1]
    · rw [List.cons_append, List.cons_append, List.find?_cons, hy]
      exact h2
theorem ownsRow_base {W : World} {B B' : Nat} {v : Value} {n : Nat} {xs : List Value} (h : W.ownsRow B 114 5 v n xs) (hb : B' ≤ B) : W.ownsRow B' 114 5 v n xs := by
  obtain ⟨h1, h2 | ⟨g, cap, cur, e1, e2, e3⟩⟩ := h
  · exact ⟨h1, .inl h2⟩
  · exact ⟨h1, .inr ⟨g, cap, cur, e1, Nat.le_trans hb e2, e3⟩⟩
theorem info30 : (Tryz.prog.info? 114).map (fun i => (i.zero, i.size, i.bytes)) = some (some (.agg #[.int .i64 0, .string ⟨#[]⟩, .int .i64 0, .int .i64 0, .int .i64 0]), 5, 48) := by kernel_rfl

/-- what read keeps between two rounds -/
structure Rd (w0 : World) (B : Nat) (v : Value) (pre : List It) (p : Int × Int) (b : Bool) (W : World) : Prop where
  sl : SlAt W w0.heap.size v
  plc : PlcAt W (w0.heap.size + 1) p
  bl : BlAt W (w0.heap.size + 1 + 1) b
  row : W.ownsRow B 114 5 v pre.length (pre.flatMap It.cells)
  low : Below w0.heap.size w0 W
theorem cell_five_new (W : World) (a b c d e : Value) (t : TypeId) : ∀ j u, [a, b, c, d, e][j]? = some u → (W.alloc (.cells #[a, b, c, d, e] t)).cell? ((⟨W.heap.size, 0, none⟩ : Addr).add j) = some u := by
  intro j u hj
  have h : (W.alloc (.cells #[a, b, c, d, e] t)).heap[W.heap.size]? = some (.cells #[a, b, c, d, e] t (0, 0)) := heap_alloc_new W (.cells #[a, b, c, d, e] t)
  have key : ∀ i, (W.alloc (.cells #[a, b, c, d, e] t)).cell? ⟨W.heap.size, i, none⟩ = #[a, b, c, d, e][i]? := fun i => by simp only [World.cell?, h]; rfl
  have e0 : (⟨W.heap.size, 0, none⟩ : Addr).add j = ⟨W.heap.size, j, none⟩ := by cases j <;> simp [Addr.add]
  rw [e0, key]
  simpa using hj
theorem slice_of_row {W : World} {B : Nat} {v : Value} {n : Nat} {xs : List Value} (h : W.ownsRow B 114 5 v n xs) : ∃ b m c, v = .slice b m c := by
  obtain ⟨-, ⟨rfl, -⟩ | ⟨g, cap, cur, rfl, -⟩⟩ := h
  · exact ⟨_, _, _, rfl⟩
  · exact ⟨_, _, _, rfl⟩
theorem row_in {W : World} {B : Nat} {v : Value} {n : Nat} {xs : List Value} (h : W.ownsRow B 114 5 v n xs) : ∀ g, v.ownBlock = some g → B ≤ g ∧ g < W.heap.size := by
  obtain ⟨-, ⟨rfl, -⟩ | ⟨g, cap, cur, rfl, e2, e3, -⟩⟩ := h
  · intro g hg; cases hg
  · intro g' hg
    have : g = g' := Option.some.inj hg
    subst this
    exact ⟨e2, heap_lt e3⟩
theorem not_cells_kept {A B : World} {row : Option Nat} (h : A.grownBy B row) (hr : ∀ r, row = some r → ∃ o : Obj, A.heap[r]? = some o ∧ o.isCells = true) : KeepsOthers A B :=
  ⟨h.size, fun k o hk ho => by
    rw [h.block k (Array.getElem?_eq_some_iff.1 hk).1 (fun e => by
      obtain ⟨o', ho', hc⟩ := hr k e.symm
      rw [hk] at ho'; cases ho'; rw [ho] at hc; cases hc)]
    exact hk⟩
theorem four_new (W : World) (o1 o2 o3 o4 : Obj) : ((((W.alloc o1).alloc o2).alloc o3).alloc o4).heap[W.heap.size]? = some o1 ∧ ((((W.alloc o1).alloc o2).alloc o3).alloc o4).heap[W.heap.size + 1]? = some o2 ∧
    ((((W.alloc o1).alloc o2).alloc o3).alloc o4).heap[W.heap.size + 1 + 1]? = some o3 ∧ ((((W.alloc o1).alloc o2).alloc o3).alloc o4).heap[W.heap.size + 1 + 1 + 1]? = some o4 := by
  have h1 := heap_alloc_new W o1
  have h2 := heap_alloc_new (W.alloc o1) o2
  have h3 := heap_alloc_new ((W.alloc o1).alloc o2) o3
  have h4 := heap_alloc_new (((W.alloc o1).alloc o2).alloc o3) o4
  simp only [World.size_alloc] at h2 h3 h4
  refine ⟨?_, ?_, ?_, h4⟩
  · rw [Below.heap_alloc _ _ _ (by simp only [World.size_alloc]; omega), Below.heap_alloc _ _ _ (by simp only [World.size_alloc]; omega), Below.heap_alloc _ _ _ (by simp only [World.size_alloc]; omega)]; exact h1
  · rw [Below.heap_alloc _ _ _ (by simp only [World.size_alloc]; omega), Below.heap_alloc _ _ _ (by simp only [World.size_alloc]; omega)]; exact h2
  · rw [Below.heap_alloc _ _ _ (by simp)]; exact h3
theorem Kept.below {X : Nat → Prop} {A B : World} (h : Below A.heap.size A B) : Kept X A B := ⟨h.size, fun k hk _ => h.block k hk⟩
theorem Kept.setCell {X : Nat → Prop} (W : World) {g i : Nat} (v : Value) (h : X g) : Kept X W (W.setCell ⟨g, i, none⟩ v) := ⟨by simp, fun k _ hx => set_other (fun e => hx (e ▸ h))⟩
theorem Rd.cells {w0 : World} {B : Nat} {v : Value} {pre : List It} {p : Int × Int} {b : Bool} {W : World} (h : Rd w0 B v pre p b W) :
    W.cell? ⟨w0.heap.size, 0, none⟩ = some v ∧ W.cell? ⟨w0.heap.size + 1, 0, none⟩ = some (.int .i64 p.1) ∧ W.cell? ⟨w0.heap.size + 1, 1, none⟩ = some (.int .i64 p.2) ∧ W.cell? ⟨w0.heap.size + 1 + 1, 0, none⟩ = some (.bool b) ∧
    W.frozen? ⟨w0.heap.size, 0, none⟩ = false ∧ W.frozen? ⟨w0.heap.size + 1, 0, none⟩ = false ∧ W.frozen? ⟨w0.heap.size + 1, 1, none⟩ = false ∧ W.frozen? ⟨w0.heap.size + 1 + 1, 0, none⟩ = false := by
  have h1 := h.sl
  have h2 := h.plc
  have h3 := h.bl
  unfold SlAt at h1
  unfold PlcAt at h2
  unfold BlAt at h3
  refine ⟨?_, ?_, ?_, ?_, ?_, ?_, ?_, ?_⟩ <;> simp [World.cell?, World.frozen?, h1, h2, h3]
theorem ownsRow_same {W W' : World} {B : Nat} {v : Value} {n : Nat} {xs : List Value} (h : W.ownsRow B 114 5 v n xs) (hs : ∀ g o, B ≤ g → W.heap[g]? = some o → W'.heap[g]? = some o) : W'.ownsRow B 114 5 v n xs := by
  obtain ⟨h1, h2⟩ := h
  refine ⟨h1, ?_⟩
  rcases h2 with h2 | ⟨g, cap, cur, e1, e2, e3, e4⟩
  · exact .inl h2
  · exact .inr ⟨g, cap, cur, e1, e2, hs g _ e2 e3, e4⟩
theorem Rd.mv {w0 : World} {B : Nat} {v : Value} {pre : List It} {p : Int × Int} {b : Bool} {W W' : World} {X : Nat → Prop} (h : Rd w0 B v pre p b W) (m : Mv X W W') (hX : ∀ k, X k → w0.heap.size + 3 ≤ k ∧ k < B) : Rd w0 B v pre p b W' := by
  have key : ∀ {g : Nat} {o : Obj}, W.heap[g]? = some o → ¬ X g → W'.heap[g]? = some o := fun hg hx => (m.same _ (heap_lt hg) hx).trans hg
  refine ⟨key h.sl (fun hx => by have := hX _ hx; omega), key h.plc (fun hx => by have := hX _ hx; omega), key h.bl (fun hx => by have := hX _ hx; omega), ownsRow_same h.row (fun g o hB hg => key hg (fun hx => by have := hX _ hx; omega)), ?_⟩
  exact ⟨m.os.trans h.low.os, m.tape.trans h.low.tape, m.output.trans h.low.output, Nat.le_trans h.low.size m.size, fun k hk => (m.same k (Nat.lt_of_lt_of_le hk h.low.size) (fun hx => by have := hX _ hx; omega)).trans (h.low.block k hk)⟩
theorem Rd.appended {w0 : World} {B : Nat} {v : Value} {pre : List It} {W2 : World} (R : Rd w0 B v pre (0, 0) false W2) (hB : w0.heap.size + 3 ≤ B) (x : It) {tmp : Obj} {w1 : World} {v' : Value}
    (hown : w1.ownsRow B 114 5 v' (pre.length + 1) (pre.flatMap It.cells ++ x.cells)) (hgrow : (W2.alloc tmp).grownBy w1 v.ownBlock) :
    (w1.cell? ⟨w0.heap.size, 0, none⟩ = some v ∧ w1.frozen? ⟨w0.heap.size, 0, none⟩ = false) ∧ Rd w0 B v' (pre ++ [x]) (0, 0) false (w1.setCell ⟨w0.heap.size, 0, none⟩ v') ∧ KeepsOthers W2 (w1.setCell ⟨w0.heap.size, 0, none⟩ v') ∧
    Kept (fun k => k = w0.heap.size ∨ v.ownBlock = some k) W2 (w1.setCell ⟨w0.heap.size, 0, none⟩ v') := by
  have hrow := row_in R.row
  have hm : Mv (fun k => v.ownBlock = some k) W2 w1 := (Mv.alloc W2 tmp).trans (Mv.of_grown hgrow (fun r h => h))
  have key : ∀ {g : Nat} {o : Obj}, W2.heap[g]? = some o → g < B → w1.heap[g]? = some o := fun hg hlt => (hm.same _ (heap_lt hg) (fun h => by have := hrow _ h; omega)).trans hg
  have hs : SlAt w1 w0.heap.size v := key R.sl (by omega)
  have hs' := hs
  unfold SlAt at hs'
  refine ⟨⟨by simp [World.cell?, hs'], by simp [World.frozen?, hs']⟩, ⟨set_same hs, (set_other (by omega)).trans (key R.plc (by omega)), (set_other (by omega)).trans (key R.bl (by omega)), ?_, ?_⟩, ?_, ?_⟩
  · have : (pre ++ [x]).flatMap It.cells = pre.flatMap It.cells ++ x.cells := by simp
    rw [this, List.length_append]
    exact ownsRow_same hown (fun g o hg ho => (set_other (by omega)).trans ho)
  · have h1 : Below w0.heap.size w0 w1 := ⟨hm.os.trans R.low.os, hm.tape.trans R.low.tape, hm.output.trans R.low.output, Nat.le_trans R.low.size hm.size, fun k hk => (hm.same k (Nat.lt_of_lt_of_le hk R.low.size) (fun h => by have := hrow _ h; omega)).trans (R.low.block k hk)⟩
    exact h1.setCell (p := ⟨w0.heap.size, 0, none⟩) (Nat.le_refl _) _
  · refine ((KeepsOthers.alloc W2 tmp).trans (not_cells_kept hgrow ?_)).trans (KeepsOthers.setCell _ _ _)
    intro r hr
    obtain ⟨-, ⟨rfl, -⟩ | ⟨g, cap, cur, rfl, e2, e3, -⟩⟩ := R.row
    · cases hr
    · have : g = r := Option.some.inj hr
      subst this
      exact ⟨_, (Below.heap_alloc W2 tmp g (heap_lt e3)).trans e3, rfl⟩
  · exact ⟨by simp; exact hm.size, fun k hk hx => (set_other (fun e => hx (.inl e))).trans (hm.same k hk (fun h => hx (.inr h)))⟩
theorem Rd.drew {w0 : World} {B : Nat} {v : Value} {pre : List It} {W : World} {p : Int × Int} {b : Bool} (h : Rd w0 B v pre p b W) : Rd w0 B v pre p b W.drew :=
  ⟨h.sl, h.plc, h.bl, h.row, ⟨h.low.os, h.low.tape, h.low.output, h.low.size, h.low.block⟩⟩
theorem Rd.told {w0 : World} {B : Nat} {v : Value} {pre : List It} {W2 : World} {p0 : Int × Int} {b0 : Bool} (R : Rd w0 B v pre p0 b0 W2) (hB : w0.heap.size + 3 ≤ B) (p q : Int) (b : Bool) :
    KeepsOthers W2 ((((W2.setCell ⟨w0.heap.size, 0, none⟩ v).setCell ⟨w0.heap.size + 1, 0, none⟩ (.int .i64 p)).setCell ⟨w0.heap.size + 1, 1, none⟩ (.int .i64 q)).setCell ⟨w0.heap.size + 1 + 1, 0, none⟩ (.bool b)) ∧
    Rd w0 B v pre (p, q) b ((((W2.setCell ⟨w0.heap.size, 0, none⟩ v).setCell ⟨w0.heap.size + 1, 0, none⟩ (.int .i64 p)).setCell ⟨w0.heap.size + 1, 1, none⟩ (.int .i64 q)).setCell ⟨w0.heap.size + 1 + 1, 0, none⟩ (.bool b)) := by
  have h1 := R.sl
  have h2 := R.plc
  have h3 := R.bl
  unfold SlAt at h1
  unfold PlcAt at h2
  unfold BlAt at h3
  have n1 : w0.heap.size ≠ w0.heap.size + 1 := by omega
  have n2 : w0.heap.size ≠ w0.heap.size + 1 + 1 := by omega
  have n3 : w0.heap.size + 1 ≠ w0.heap.size + 1 + 1 := by omega
  refine ⟨(((KeepsOthers.setCell _ _ _).trans (KeepsOthers.setCell _ _ _)).trans (KeepsOthers.setCell _ _ _)).trans (KeepsOthers.setCell _ _ _), ?_, ?_, ?_, ?_, ?_⟩
  · unfold SlAt
    rw [set_other n2, set_other n1, set_other n1, set_same h1]
    rfl
  · unfold PlcAt
    rw [set_other n3, set_same (set_same ((set_other n1.symm).trans h2))]
    rfl
  · unfold BlAt
    rw [set_same ((set_other n3.symm).trans ((set_other n3.symm).trans ((set_other n2.symm).trans h3)))]
    rfl
  · exact ownsRow_same R.row (fun g o hg ho => (set_other (by omega)).trans ((set_other (by omega)).trans ((set_other (by omega)).trans ((set_other (by omega)).trans ho))))
  · exact (((R.low.setCell (p := ⟨w0.heap.size, 0, none⟩) (Nat.le_refl _) v).setCell (p := ⟨w0.heap.size + 1, 0, none⟩) (by simp) (.int .i64 p)).setCell (p := ⟨w0.heap.size + 1, 1, none⟩) (by simp) (.int .i64 q)).setCell (p := ⟨w0.heap.size + 1 + 1, 0, none⟩) (by simp; omega) (.bool b)
set_option maxRecDepth 20000 in
set_option maxHeartbeats 4000000 in
theorem read_any (l : List UInt8) (hl : l.length ≤ 65536) (w : World) (hE : Env w) : Calls Tryz.prog 28 #[str l] w (RRd l w) := by
  refine (callsIn_wide (n := 5)).1 ?_
  have h3 : 3 < w.heap.size := by obtain ⟨ev, hv, -⟩ := hE.rng; exact cell_lt hv
  have C1 := fun W => callsIn_wide (n := 4).2 (scan_any l W)
  unfold str at *
  refine callsIn_of_wp_marks Tryz.func28 rfl trivial ?_ rfl
  simp only [Tryz.ntmps28, List.size_toArray, List.length_cons, List.length_nil, Nat.reduceAdd, Nat.reduceSub, Array.replicate_succ, Array.replicate_zero, List.push_toArray, List.append_toArray, List.nil_append, List.cons_append]
  gi_wp2_with fail
  refine ⟨trivial, (C1 _).mono ?_⟩
  rintro e w1 ⟨rfl, rfl⟩
  gi_wp2_with fail
  have hR0 : Rd w (w.heap.size + 8) (.slice none 0 0) [] (0, 0) false ((((w.alloc (.cells #[.slice none 0 0] 49)).alloc (.cells #[.int .i64 0, .int .i64 0] 26)).alloc (.cells #[.bool false] 4)).alloc (.cells #[.string ⟨l.toArray⟩] 9)) := by
    have hf := four_new w (.cells #[.slice none 0 0] 49) (.cells #[.int .i64 0, .int .i64 0] 26) (.cells #[.bool false] 4) (.cells #[.string ⟨l.toArray⟩] 9)
    exact ⟨hf.1, hf.2.1, hf.2.2.1, ⟨rfl, .inl ⟨rfl, rfl⟩⟩, ((((Below.refl w.heap.size w).alloc (Nat.le_refl _) _).alloc (by simp) _).alloc (by simp; omega) _).alloc (by simp; omega) _⟩
  have hT0 : TxtAt ((((w.alloc (.cells #[.slice none 0 0] 49)).alloc (.cells #[.int .i64 0, .int .i64 0] 26)).alloc (.cells #[.bool false] 4)).alloc (.cells #[.string ⟨l.toArray⟩] 9)) (w.heap.size + 1 + 1 + 1) l := (four_new w (.cells #[.slice none 0 0] 49) (.cells #[.int .i64 0, .int .i64 0] 26) (.cells #[.bool false] 4) (.cells #[.string ⟨l.toArray⟩] 9)).2.2.2
  have hs0 : ((((w.alloc (.cells #[.slice none 0 0] 49)).alloc (.cells #[.int .i64 0, .int .i64 0] 26)).alloc (.cells #[.bool false] 4)).alloc (.cells #[.string ⟨l.toArray⟩] 9)).heap.size = w.heap.size + 4 := by simp
  have hE0 := hE.below hR0.low
  generalize ((((w.alloc (.cells #[.slice none 0 0] 49)).alloc (.cells #[.int .i64 0, .int .i64 0] 26)).alloc (.cells #[.bool false] 4)).alloc (.cells #[.string ⟨l.toArray⟩] 9)) = wL at *
  refine range_aside (encs := It.encs) (X := fun k => k = w.heap.size ∨ k = w.heap.size + 1 ∨ k = w.heap.size + 1 + 1 ∨ k = wL.heap.size + 1) rfl (by omega) (gf := 72) (lb := #[.pointer (some ⟨w.heap.size + 1 + 1 + 1, 0, none⟩)]) rfl trivial (enters_of Tryz.func72 (by kernel_rfl) rfl)
    (scan_run 4 (by omega) (w.heap.size + 1 + 1 + 1) l hl _ wL hT0 hE0 ?hX ?hX3) (.inr (.inr (.inr rfl))) (fun _ => rfl)
    (fun pre W => (∃ v, Rd w (w.heap.size + 8) v pre (0, 0) false W) ∧ ∀ x ∈ pre, x.bad = false)
    (fun pre W => ∃ pre' x v, pre = pre' ++ [x] ∧ x.bad = true ∧ (∀ y ∈ pre', y.bad = false) ∧ Rd w (w.heap.size + 8) v pre' x.p true W)
    ?hI ?hIx ⟨⟨_, hR0⟩, by simp⟩ ?round ?done ?stop
  case hX => rintro k (h | h | h | h) <;> omega
  case hX3 => exact ⟨by omega, by omega, by omega⟩
  case hI =>
    rintro s A B ⟨⟨v, h⟩, hg⟩ m
    exact ⟨⟨v, h.mv m (fun k hk => by omega)⟩, hg⟩
  case hIx =>
    rintro s A B ⟨pre', x, v, h1, h2, h3, h⟩ m
    exact ⟨pre', x, v, h1, h2, h3, h.mv m (fun k hk => by omega)⟩
  case round =>
    rintro pre ⟨⟨dk, dt, dn⟩, p, bad⟩ Wp W ⟨⟨v, hRp⟩, hg⟩ hmv hlen hsz
    have hR : Rd w (w.heap.size + 8) v pre (0, 0) false W := hRp.mv hmv (fun k hk => by omega)
    have hWs : w.heap.size + 8 ≤ W.heap.size := by have := hmv.size; omega
    dsimp only [It.encs, Wd.val, str]
    simp only [show ∀ a b : Value, (#[9, 10] : Array Tmp).zip #[a, b] = #[(9, a), (10, b)] from fun _ _ => by simp only [List.zip_toArray]; rfl, List.size_toArray, List.length_cons, List.length_nil, List.foldl_toArray', List.foldl_cons, List.foldl_nil, List.setIfInBounds_toArray, List.set_cons_succ, List.set_cons_zero]
    gi_wp2
    refine ⟨KeepsOthers.alloc _ _, Kept.below ((Below.refl _ _).alloc (Nat.le_refl _) _), fun W2 hm2 => ?_⟩
    have hR2 : Rd w (w.heap.size + 8) v pre (0, 0) false W2 := (hR.mv (X := fun _ => False) (Mv.alloc _ _) (fun k h => h.elim)).mv hm2 (fun k hk => by omega)
    have hbx : W2.heap[W.heap.size]? = some (.cells #[.int .i64 dk, .string ⟨dt.toArray⟩, .int .i64 dn, .int .i64 p.1, .int .i64 p.2] 114 (0, 0)) := (hm2.same _ (by simp) (by omega)).trans (heap_alloc_new W _)
    obtain ⟨x0, x1, x2, x3, x4, y0, y1, y2, y3, y4⟩ := box5 hbx
    obtain ⟨z0, z1, z2, z3, f0, f1, f2, f3⟩ := hR2.cells
    have R2 := Lib.hid hR2
    have hrow := row_in hRp.row
    clear hR hRp hR2
    cases bad with
    | true =>
      obtain ⟨vb, vm, vc, rfl⟩ := slice_of_row R2.out.row
      gi_wp2
      gi_region
      all_goals gi_wp2
      all_goals
        obtain ⟨hko, hRn⟩ := R2.out.told (by omega) p.1 p.2 true
        exact ⟨hko.trans (KeepsOthers.drew _), pre, ⟨⟨dk, dt, dn⟩, p, true⟩, _, rfl, rfl, hg, hRn.drew⟩
    | false =>
      obtain ⟨i0, hi, hz0, hz1, hz2⟩ := info_parts info30
      have hrow2 := R2.out.row
      gi_wp2_with (gi_at_builtin; refine wpListIn_append_own _ rfl _ _ 49 rfl (w.heap.size + 8) 114 i0 _ 5 48 Tryz.underlying49 hi hz0 hz1 hz2 rfl (by decide) v pre.length _ rfl (hrow2.alloc _) ⟨W2.heap.size, 0, none⟩ 1 1 (It.cells ⟨⟨dk, dt, dn⟩, p, false⟩) rfl rfl (cell_five_new _ _ _ _ _ _ _) (by simp [It.cells, str, Value.oneCell']) (by unfold maxLen; omega) (by omega) (by simp; have := hm2.size; simp at this; omega) ?_; intro v' w1 hown' hgrow hnil; obtain ⟨⟨c0, c1⟩, hRn, hko, hkp⟩ := R2.out.appended (by omega) ⟨⟨dk, dt, dn⟩, p, false⟩ hown' hgrow; obtain ⟨g', cap', rfl⟩ := ownsRow_succ hown')
      refine ⟨hko, ⟨hkp.size, fun k hk hx => hkp.same k hk ?_⟩, ⟨_, hRn⟩, fun y hy => ?_⟩
      · rintro (h | h)
        · exact hx (.inl (.inl h))
        · have := hrow _ h; exact hx (.inr ⟨by omega, by omega⟩)
      · rcases List.mem_append.1 hy with hy | hy
        · exact hg y hy
        · rw [List.mem_singleton.1 hy]
  case done =>
    rintro xs W rfl ⟨⟨v, hR⟩, hg⟩ hD
    obtain ⟨z0, z1, z2, z3, f0, f1, f2, f3⟩ := hR.cells
    obtain ⟨vb, vm, vc, rfl⟩ := slice_of_row hR.row
    gi_wp2
    obtain ⟨hko, hRn⟩ := hR.told (by omega) 0 0 false
    have hD' := hko.same _ _ hD rfl
    rw [hs0] at hD'
    refine ⟨by simp, .inl ⟨_, _, rfl, run_takeDeferred hD', ?_⟩⟩
    have hR5 := hRn.mv (Mv.putObj _ (Obj.deferred none) (X := fun k => k = w.heap.size + 4) rfl) (fun k hk => by omega)
    obtain ⟨u0, u1, u2, u3, -⟩ := hR5.cells
    obtain ⟨g1, g2⟩ := goods_all l hg
    refine ⟨.tuple #[.slice vb vm vc, .agg #[.int .i64 0, .int .i64 0], .bool false], by simp [results, Tryz.results28, go_sem, u0, u1, u2, u3], ?_⟩
    refine ⟨.slice vb vm vc, ?_, ?_, hR5.low⟩
    · unfold faultP
      rw [g2]
      rfl
    · rw [g1]
      exact ownsRow_base hR5.row (by omega)
  case stop =>
    rintro pre W hpre ⟨pre', x, v, rfl, hx, hg, hR⟩ hD
    gi_wp2
    rw [hs0] at hD
    refine ⟨by simp, .inl ⟨_, _, rfl, run_takeDeferred (by rw [hs0]; exact hD), ?_⟩⟩
    have hR5 := hR.mv (Mv.putObj _ (Obj.deferred none) (X := fun k => k = wL.heap.size) rfl) (fun k hk => by omega)
    obtain ⟨u0, u1, u2, u3, -⟩ := hR5.cells
    obtain ⟨r, hr⟩ := hpre
    obtain ⟨g1, g2⟩ := goods_some l pre' r x hr hg hx
    refine ⟨.tuple #[v, .agg #[.int .i64 x.p.1, .int .i64 x.p.2], .bool true], by simp [results, Tryz.results28, go_sem, u0, u1, u2, u3], ?_⟩
    refine ⟨v, ?_, ?_, hR5.low⟩
    · unfold faultP
      rw [g2]
      rfl
    · rw [g1]
      exact ownsRow_base hR5.row (by omega)
end Go.Proofs.YtjgpbpmicopemaaGreatDoor

/-
  lex.Words: what it answers, for every text.
-/
namespace Go.Proofs.YtjgpbpmicopemaaGreatDoor
open Go.RowKit

/-- what a text's words are, where a fault is, the error -/
def wordsL (l : List UInt8) : List It := if 65536 < l.length then [] else if (faultO l).isSome then [] else goods l
def wordsP (l : List UInt8) : Int × Int := if 65536 < l.length then (0, 0) else if (faultO l).isSome then faultP l else (0, 0)
def wordsE (l : List UInt8) : Int := if 65536 < l.length then 2 else if (faultO l).isSome then 3 else 0
def RWs (l : List UInt8) (w : World) (e : Ending) (w' : World) : Prop := ∃ v, e = .returned (.tuple #[v, .agg #[.int .i64 (wordsP l).1, .int .i64 (wordsP l).2], .int .i64 (wordsE l)]) ∧
  w'.ownsRow w.heap.size 114 5 v (wordsL l).length ((wordsL l).flatMap It.cells) ∧ Below w.heap.size w w'
theorem nil_row (w : World) (B : Nat) : w.ownsRow B 114 5 (.slice none 0 0) 0 [] := ⟨rfl, .inl ⟨rfl, rfl⟩⟩
set_option maxRecDepth 20000 in
set_option maxHeartbeats 4000000 in
theorem words_any (l : List UInt8) (hl : l.length ≤ 9223372036854775807) (w : World) (hE : Env w) : Calls Tryz.prog 15 #[str l] w (RWs l w) := by
  by_cases h : 65536 < l.length
  · unfold RWs wordsP wordsE wordsL
    simp only [if_pos h]
    unfold str
    go_enter Tryz.func15, Tryz.ntmps15
    go_wp2_with fail
    exact bodyPost_ret (v := .tuple #[.slice none 0 0, .agg #[.int .i64 0, .int .i64 0], .int .i64 2]) (by simp [results, Tryz.results15, go_sem]) rfl ⟨.slice none 0 0, rfl, nil_row _ _, (Below.refl _ _).alloc (Nat.le_refl _) _⟩
  · have hl2 : l.length ≤ 65536 := by omega
    have C := fun W (hW : Env W) => read_any l hl2 W hW
    unfold RWs wordsP wordsE wordsL
    simp only [if_neg h]
    unfold RRd str at *
    go_enter Tryz.func15, Tryz.ntmps15
    go_wp2_with fail
    have hal : Below w.heap.size w (w.alloc (.cells #[.int .i64 0, .int .i64 0] 26)) := (Below.refl _ _).alloc (Nat.le_refl _) _
    refine (C _ (hE.below hal)).mono ?_
    rintro e w1 ⟨v, rfl, hrow, hb⟩
    have hbx : PlcAt w1 w.heap.size (0, 0) := (hb.block _ (by simp)).trans (heap_alloc_new w _)
    have hq : ∀ o, PlcAt (w1.alloc o) w.heap.size (0, 0) := fun o => (Below.heap_alloc w1 o _ (heap_lt hbx)).trans hbx
    have q0 := fun o => (hq o).cells.1
    have q1 := fun o => (hq o).cells.2.1
    have q2 := fun o => (hq o).cells.2.2.1
    have q3 := fun o => (hq o).cells.2.2.2
    simp only at q0 q1
    have fin : ∀ (p q : Int) (o : Obj), PlcAt (((w1.alloc o).setCell ⟨w.heap.size, 0, none⟩ (.int .i64 p)).setCell ⟨w.heap.size, 1, none⟩ (.int .i64 q)) w.heap.size (p, q) ∧
        (∀ (v : Value) (n : Nat) (xs : List Value), w1.ownsRow (w.heap.size + 1) 114 5 v n xs → (((w1.alloc o).setCell ⟨w.heap.size, 0, none⟩ (.int .i64 p)).setCell ⟨w.heap.size, 1, none⟩ (.int .i64 q)).ownsRow w.heap.size 114 5 v n xs) ∧
        Below w.heap.size w (((w1.alloc o).setCell ⟨w.heap.size, 0, none⟩ (.int .i64 p)).setCell ⟨w.heap.size, 1, none⟩ (.int .i64 q)) := fun p q o =>
      ⟨set_same (set_same (hq o)), fun v n xs h => ownsRow_base (ownsRow_same h (fun g o' hg ho => (set_other (by omega)).trans ((set_other (by omega)).trans ((Below.heap_alloc w1 o g (heap_lt ho)).trans ho)))) (by omega),
        (((hal.trans (hb.mono hal.size)).alloc (by have := (hal.trans (hb.mono hal.size)).size; exact this) o).setCell (p := ⟨w.heap.size, 0, none⟩) (Nat.le_refl _) _).setCell (p := ⟨w.heap.size, 1, none⟩) (Nat.le_refl _) _⟩
    rw [World.size_alloc] at hrow
    obtain ⟨vb, vm, vc, rfl⟩ := slice_of_row hrow
    cases hf : (faultO l).isSome
    · go_wp2_with fail
      all_goals
        obtain ⟨hP, hrw, hlow⟩ := fin 0 0 (.cells #[.int .i64 (faultP l).1, .int .i64 (faultP l).2] 26)
        obtain ⟨u0, u1, -⟩ := hP.cells
        exact bodyPost_ret (v := .tuple #[.slice vb vm vc, .agg #[.int .i64 0, .int .i64 0], .int .i64 0]) (by simp [results, Tryz.results15, go_sem, u0, u1]) rfl ⟨.slice vb vm vc, rfl, hrw _ _ _ hrow, hlow⟩
    · go_wp2_with fail
      go_region
      all_goals go_wp2_with fail
      all_goals
        obtain ⟨hP, hrw, hlow⟩ := fin (faultP l).1 (faultP l).2 (.cells #[.int .i64 (faultP l).1, .int .i64 (faultP l).2] 26)
        have hP' : PlcAt _ w.heap.size ((faultP l).1, (faultP l).2) := hP.mv (Mv.drew (X := fun _ => False) _) (fun h => h)
        obtain ⟨u0, u1, -⟩ := hP'.cells
        exact bodyPost_ret (v := .tuple #[.slice none 0 0, .agg #[.int .i64 (faultP l).1, .int .i64 (faultP l).2], .int .i64 3]) (by simp [results, Tryz.results15, go_sem, u0, u1]) rfl ⟨.slice none 0 0, rfl, nil_row _ _, below_drewN hlow 1⟩
end Go.Proofs.YtjgpbpmicopemaaGreatDoor

/-
  Slices of words in memory, their cells at hand.
-/
namespace Go.Proofs.YtjgpbpmicopemaaGreatDoor
open Go.RowKit Go.Shelf

theorem flat_len (xs : List It) : (xs.flatMap It.cells).length = 5 * xs.length := by
  induction xs with
  | nil => rfl
  | cons x xs ih => rw [List.flatMap_cons, List.length_append, ih]; show 5 + _ = _; simp; omega
theorem flat_get : ∀ (xs : List It) (i r : Nat) (h : i < xs.length), r < 5 → (xs.flatMap It.cells)[5 * i + r]? = (xs[i]).cells[r]?
  | [], i, _, h, _ => absurd h (by simp)
  | x :: xs, 0, r, _, hr => by
    rw [List.flatMap_cons, List.getElem?_append_left (by show _ < 5; omega)]
    simp
  | x :: xs, i + 1, r, h, hr => by
    rw [List.flatMap_cons, List.getElem?_append_right (by show 5 ≤ _; omega)]
    have e : 5 * (i + 1) + r - x.cells.length = 5 * i + r := by show 5 * (i + 1) + r - 5 = _; omega
    rw [e, flat_get xs i r (by simpa using h) hr]
    rfl
theorem ownsRow_at {W W' : World} {B : Nat} {v : Value} {n : Nat} {xs : List Value} (h : W.ownsRow B 114 5 v n xs) (hs : ∀ g, v.ownBlock = some g → W'.heap[g]? = W.heap[g]?) : W'.ownsRow B 114 5 v n xs := by
  obtain ⟨h1, h2 | ⟨g, cap, cur, rfl, e2, e3, e4⟩⟩ := h
  · exact ⟨h1, .inl h2⟩
  · exact ⟨h1, .inr ⟨g, cap, cur, rfl, e2, (hs g rfl).trans e3, e4⟩⟩
/-- a slice of words in memory -/
theorem row_slice {W : World} {B : Nat} {v : Value} {xs : List It} (h : W.ownsRow B 114 5 v xs.length (xs.flatMap It.cells)) :
    ∃ b c, v = .slice b xs.length c ∧ xs.length ≤ c ∧ c ≤ maxLen ∧ (0 < xs.length → ∃ g, b = some ⟨g, 0, none⟩ ∧ B ≤ g ∧ g < W.heap.size ∧
      ∀ (i : Nat) (hi : i < xs.length) (r : Nat), r < 5 → W.cell? ⟨g, i * 5 + r, none⟩ = (xs[i]).cells[r]?) := by
  obtain ⟨h1, ⟨rfl, h2⟩ | ⟨g, cap, cur, rfl, e2, e3, e4, e5, e6, e7⟩⟩ := h
  · refine ⟨none, 0, by rw [h2], by omega, by decide, fun h => by omega⟩
  · refine ⟨_, _, rfl, e4, e5, fun _ => ⟨g, rfl, e2, heap_lt e3, fun i hi r hr => ?_⟩⟩
    rw [← flat_get xs i r hi hr, ← e7, List.getElem?_take, if_pos (by omega), Nat.mul_comm 5 i]
    simp only [World.cell?, e3]
    simp
theorem str_join (a b : List UInt8) : (⟨a.toArray⟩ : ByteArray) ++ ⟨#[10]⟩ ++ ⟨b.toArray⟩ = ⟨(a ++ 10 :: b).toArray⟩ := by
  apply ByteArray.ext
  simp [ByteArray.data_append]
/-- a slice of words in memory, its cells at hand -/
def SlRow (W : World) (v : Value) (xs : List It) : Prop := ∃ b c, v = .slice b xs.length c ∧ xs.length ≤ c ∧ c ≤ maxLen ∧ (0 < xs.length → ∃ g, b = some ⟨g, 0, none⟩ ∧ g < W.heap.size ∧
  ∀ (i : Nat) (hi : i < xs.length) (r : Nat), r < 5 → W.cell? ⟨g, i * 5 + r, none⟩ = (xs[i]).cells[r]?)
theorem row_sl {W : World} {B : Nat} {v : Value} {xs : List It} (h : W.ownsRow B 114 5 v xs.length (xs.flatMap It.cells)) : SlRow W v xs := by
  obtain ⟨b, c, rfl, h1, h2, h3⟩ := row_slice h
  refine ⟨b, c, rfl, h1, h2, fun h0 => ?_⟩
  obtain ⟨g, e1, -, e3, e4⟩ := h3 h0
  exact ⟨g, e1, e3, e4⟩
theorem SlRow.below {W W' : World} {v : Value} {xs : List It} (h : SlRow W v xs) (hb : Below W.heap.size W W') : SlRow W' v xs := by
  obtain ⟨b, c, rfl, h1, h2, h3⟩ := h
  refine ⟨b, c, rfl, h1, h2, fun h0 => ?_⟩
  obtain ⟨g, e1, e3, e4⟩ := h3 h0
  exact ⟨g, e1, Nat.lt_of_lt_of_le e3 hb.size, fun i hi r hr => (hb.cell e3).trans (e4 i hi r hr)⟩
/-- one word's cells -/
theorem SlRow.at {W : World} {vb : Option Addr} {n vc : Nat} {xs : List It} (h : SlRow W (.slice vb n vc) xs) (k : Nat) (hk : k < xs.length) : ∃ g, vb = some ⟨g, 0, none⟩ ∧ g < W.heap.size ∧
    ∀ x, xs[k] = x → W.cell? ⟨g, k * 5, none⟩ = some (.int .i64 x.d.k) ∧ W.cell? ⟨g, k * 5 + 1, none⟩ = some (.string ⟨x.d.t.toArray⟩) ∧ W.cell? ⟨g, k * 5 + 2, none⟩ = some (.int .i64 x.d.n) ∧ W.cell? ⟨g, k * 5 + 3, none⟩ = some (.int .i64 x.p.1) ∧ W.cell? ⟨g, k * 5 + 4, none⟩ = some (.int .i64 x.p.2) := by
  obtain ⟨b, c, e, h1, h2, h3⟩ := h
  obtain ⟨g, e1, e3, e4⟩ := h3 (by omega)
  injection e with a1 a2 a3
  refine ⟨g, a1.trans e1, e3, ?_⟩
  rintro x rfl
  exact ⟨e4 k hk 0 (by omega), e4 k hk 1 (by omega), e4 k hk 2 (by omega), e4 k hk 3 (by omega), e4 k hk 4 (by omega)⟩
theorem PlcAt.below {W W' : World} {g : Nat} {p : Int × Int} (h : PlcAt W g p) (hb : Below W.heap.size W W') : PlcAt W' g p := (hb.block g (heap_lt h)).trans h
theorem belowAlloc (W : World) (o : Obj) : Below W.heap.size W (W.alloc o) := (Below.refl _ _).alloc (Nat.le_refl _) o
theorem below_sym {w a b : World} (h : Below w.heap.size w a) (g : Below a.heap.size a b) : Below w.heap.size w b := h.trans (g.mono h.size)
end Go.Proofs.YtjgpbpmicopemaaGreatDoor
