/-
  run, trace.Outs, trace.New, Next, Used: what they make.
-/
import Derived.Test.YtifknchhcbeekaaDoorText
namespace Go.Proofs.YtifknchhcbeekaaDoor
open Go.RowKit Go.Lib

/-- a run that halted, newly made -/
def Made (r : Rn) (w : World) (e : Ending) (w' : World) : Prop := ∃ v, e = .returned v ∧ RunIs w' w'.heap.size v r ∧ Below w.heap.size w w'

theorem rd_block {w : World} {B size n g : Nat} {cs : Array Value} {T : TypeId} {fr : Nat × Nat} {xs : List Value} (h : w.heap[g]? = some (.cells cs T fr)) (hx : xs = cs.toList) (hn : xs.length = n * size) (hg : g < B) :
    Rd w B size (some ⟨g, 0, none⟩) n xs :=
  ⟨hn, fun _ => ⟨g, 0, rfl, hg, fun j u hu => by rw [Lib.cell_of_heap h, Nat.zero_add, ← hu, hx, Array.getElem?_toList]⟩⟩
theorem heap_alloc_new' (w : World) (o : Obj) {g : Nat} (hg : g = w.heap.size) : (w.alloc o).heap[g]? = some o := by
  subst hg
  exact heap_alloc_new w o

set_option maxHeartbeats 1000000 in
theorem run_any (x y : Int) (w : World) : Calls Tryd.prog 11 #[.int .i64 x, .int .i64 y] w (Made ⟨1, x, [(2, y)], [(1, 1, 0)], 0⟩ w) := by
  go_enter Tryd.func11, Tryd.ntmps11
  go_wp2
  refine bodyPost_ret (v := .agg #[.int .i64 1, .int .i64 x, .slice (some ⟨w.heap.size + 1, 0, none⟩) 1 1, .slice (some ⟨w.heap.size + 1 + 1, 0, none⟩) 1 1, .int .i64 0]) (by simp [results, Tryd.results11, go_sem]) rfl ⟨_, rfl, ⟨_, 1, 1, _, 1, 1, rfl, ⟨rfl, ?_⟩, Nat.le_refl _, by omega, ⟨rfl, ?_⟩, Nat.le_refl _, by omega⟩, ?_⟩
  · exact rd_block (cs := #[.int .i64 2, .int .i64 y]) (T := 39) (fr := (0, 0)) (by rw [Lib.alloc_old _ _ _ (by simp)]; exact heap_alloc_new' _ _ (by simp)) rfl rfl (by simp)
  · exact rd_block (cs := #[.int .i64 1, .int .i64 1, .int .i64 0]) (T := 53) (fr := (0, 0)) (heap_alloc_new' _ _ (by simp)) rfl rfl (by simp)
  · exact (((Below.refl _ _).alloc (Nat.le_refl _) _).alloc (by simp) _).alloc (by simp; omega) _

set_option maxHeartbeats 1000000 in
theorem used_any (b : Nat) (n : Int) (w : World) (h : w.cell? ⟨b, 1, none⟩ = some (.int .i64 n)) :
    Calls Tryd.prog 14 #[.pointer (some ⟨b, 0, none⟩)] w fun e w' => e = .returned (.int .i64 n) ∧ w = w' := by
  go_enter Tryd.func14, Tryd.ntmps14
  go_wp2
  go_ret
  exact ⟨rfl, rfl⟩

/-- a world of numbers, made by New: block b; it tells l, and has been asked k times; its row lies from block B on -/
def WorldAt (w : World) (B b : Nat) (l : List Int) (k : Nat) : Prop :=
  ∃ v, w.heap[b]? = some (.cells #[v, .int .i64 k] 56 (0, 0)) ∧ B ≤ b ∧ w.ownsRow B 2 1 v l.length (l.map (Value.int .i64)) ∧ v.ownBlock ≠ some b

def NewIs (l : List Int) (w : World) (e : Ending) (w' : World) : Prop := ∃ b, e = .returned (.pointer (some ⟨b, 0, none⟩)) ∧ WorldAt w' w.heap.size b l 0 ∧ Below w.heap.size w w'
theorem info2 : (Tryd.prog.info? 2).map (fun i => (i.zero, i.size, i.bytes)) = some (some (.int .i64 0), 1, 8) := by kernel_rfl

theorem own_form {w : World} {B : Nat} {t : TypeId} {size n : Nat} {v : Value} {xs : List Value} (h : w.ownsRow B t size v n xs) : ∃ ao cap, v = .slice ao n cap := by
  rcases h.2 with ⟨hv, h0⟩ | ⟨g, cap, cur, hv, _⟩
  · exact ⟨none, 0, by rw [hv, h0]⟩
  · exact ⟨_, _, hv⟩

theorem clone_any (A : Option Addr) (n c : Nat) (l : List Int) (w : World) (hA : A = none ∨ ∃ b o, A = some ⟨b, o, none⟩) (hl : l.length = n) (hn : n ≤ 100000) (h : Rd w w.heap.size 1 A n (l.map (Value.int .i64))) :
    Calls Tryd.prog 24 #[.slice A n c] w fun e w' => ∃ v', e = .returned v' ∧ w'.ownsRow w.heap.size 2 1 v' l.length (l.map (Value.int .i64)) ∧ Below w.heap.size w w' := by
  obtain ⟨i0, hi, hz0, hz1, hz2⟩ := info_parts info2
  rcases hA with rfl | ⟨b, o, rfl⟩
  · have hn0 : n = 0 := by
      rcases Nat.eq_zero_or_pos n with h0 | h0
      · exact h0
      · obtain ⟨_, _, e, _⟩ := h.2 h0
        cases e
    refine (Tryd.slices_Clone_nil n c w).mono ?_
    rintro e w' ⟨rfl, rfl⟩
    have : l = [] := List.eq_nil_of_length_eq_zero (by omega)
    subst this
    exact ⟨_, rfl, World.ownsRow_nil _ _ _ _, Below.refl _ _⟩
  · refine (Tryd.slices_Clone i0 (.int .i64 0) 1 8 hi hz0 hz1 hz2 rfl (by decide) Tryd.sizeOf2 b o n c (l.map (Value.int .i64)) w (by simp [hl]) (by unfold maxLen; omega) (by omega) ?_ ?_).mono ?_
    · intro j u hu
      have hj : j < n := by have := (List.getElem?_eq_some_iff.1 hu).1; simp at this; omega
      obtain ⟨b', o', e, _, hc⟩ := h.2 (by omega)
      injection e with e
      injection e with e1 e2
      subst e1 e2
      exact hc j u hu
    · intro u hu
      obtain ⟨z, _, rfl⟩ := List.mem_map.1 hu
      rfl
    · rintro e w' ⟨v', rfl, hown, -, hb⟩
      rw [hl]
      exact ⟨_, rfl, hown, hb⟩

set_option maxHeartbeats 1000000 in
theorem new_any (A : Option Addr) (n c : Nat) (l : List Int) (w : World) (hA : A = none ∨ ∃ b o, A = some ⟨b, o, none⟩) (hl : l.length = n) (hn : n ≤ 100000) (h : Rd w w.heap.size 1 A n (l.map (Value.int .i64))) :
    Calls Tryd.prog 13 #[.slice A n c] w (NewIs l w) := by
  have HH := Lib.hid (clone_any A n c l w hA hl hn h)
  have HL := Lib.hid hl
  clear h hA hl
  go_enter Tryd.func13, Tryd.ntmps13
  go_wp2_with fail
  refine HH.out.mono ?_
  rintro e w1 ⟨v, rfl, hown, hb⟩
  obtain ⟨ao, cap, rfl⟩ := own_form hown
  go_wp2_with fail
  go_ret
  refine ⟨w1.heap.size, rfl, ⟨_, heap_alloc_new' _ _ rfl, hb.size, own_below hown ((Below.refl _ _).alloc (Nat.le_refl _) _), ?_⟩, hb.alloc hb.size _⟩
  exact fun e => by
    have := (hown.lt _ e).2
    omega

theorem WorldAt.below {w w' : World} {B b k : Nat} {l : List Int} (h : WorldAt w B b l k) (hb : Below w.heap.size w w') : WorldAt w' B b l k := by
  obtain ⟨v, h1, h2, h3, h4⟩ := h
  exact ⟨v, by rw [hb.block b (heap_lt h1)]; exact h1, h2, own_below h3 hb, h4⟩

/-- what it tells -/
def tells (l : List Int) (k : Nat) : Int := l.getD k 0
def NextIs (B b : Nat) (l : List Int) (k : Nat) (w : World) (e : Ending) (w' : World) : Prop :=
  e = .returned (.int .i64 (tells l k)) ∧ WorldAt w' B b l (k + 1) ∧ Below B w w' ∧ w.heap.size = w'.heap.size

set_option maxHeartbeats 1000000 in
theorem next_any (B b : Nat) (l : List Int) (k : Nat) (w : World) (h : WorldAt w B b l k) (hk : k ≤ 100000) :
    Calls Tryd.prog 15 #[.pointer (some ⟨b, 0, none⟩)] w (NextIs B b l k w) := by
  obtain ⟨v, hbk, hB, hown, hne⟩ := h
  obtain ⟨ao, cap, rfl⟩ := own_form hown
  have c0 : w.cell? ⟨b, 0, none⟩ = some (.slice ao l.length cap) := by rw [Lib.cell_of_heap hbk]; rfl
  have c1 : w.cell? ⟨b, 1, none⟩ = some (.int .i64 k) := by rw [Lib.cell_of_heap hbk]; rfl
  have f1 : w.frozen? ⟨b, 1, none⟩ = false := Lib.frozen_of_heap hbk 1
  have hlt := heap_lt hbk
  have hW1 : ∀ q, WorldAt ((w.setCell ⟨b, 1, none⟩ (.int .i64 (k + 1))).drewN q) B b l (k + 1) := fun q => by
    refine ⟨.slice ao l.length cap, ?_, hB, ?_, hne⟩
    · show (w.setCell ⟨b, 1, none⟩ (.int .i64 (k + 1))).heap[b]? = _
      simp [World.setCell, Array.getElem?_modify, hbk]
    · have := hown.kept (row := some b) (w' := w.setCell ⟨b, 1, none⟩ (.int .i64 (k + 1))) ⟨rfl, rfl, rfl, by simp [World.setCell], fun j _ hj => Below.heap_setCell _ _ _ _ (fun e => hj (by simp [e]))⟩ (Or.inr hne)
      exact this
  have hBel : ∀ q, Below B w ((w.setCell ⟨b, 1, none⟩ (.int .i64 (k + 1))).drewN q) := fun q => below_drewN ((Below.refl _ _).setCell (p := ⟨b, 1, none⟩) hB _) q
  have hSz : ∀ q, w.heap.size = ((w.setCell ⟨b, 1, none⟩ (.int .i64 (k + 1))).drewN q).heap.size := fun q => by
    show w.heap.size = (w.setCell ⟨b, 1, none⟩ (.int .i64 (k + 1))).heap.size
    simp [World.setCell]
  have HF := Lib.hid (fun q => And.intro (hW1 q) (And.intro (hBel q) (hSz q)))
  have HO := Lib.hid (And.intro hown hne)
  clear hW1 hBel hSz hown hne hbk
  by_cases hlk : k < l.length
  · obtain ⟨x, hx⟩ : ∃ x, l[k]? = some x := ⟨_, List.getElem?_eq_getElem hlk⟩
    have htl : tells l k = x := by simp [tells, List.getD, hx]
    obtain ⟨g, rfl, hgb, hcx⟩ : ∃ g, ao = some ⟨g, 0, none⟩ ∧ g ≠ b ∧ w.cell? ⟨g, k, none⟩ = some (.int .i64 x) := by
      obtain ⟨hown, hne⟩ := HO.out
      rcases hown.2 with ⟨hv, h0⟩ | ⟨g, cap', cur, hv, hg, hh, r⟩
      · omega
      · injection hv with hv1 hv2 hv3
        subst hv1
        refine ⟨g, rfl, fun e => hne (by simp [Value.ownBlock, e]), ?_⟩
        have := hown.cells (g := g) rfl k (.int .i64 x) (by simp [hx])
        rw [Go.WideShapes.add_plain, Nat.zero_add] at this
        exact this
    have HT := Lib.hid htl
    clear hx htl
    go_enter Tryd.func15, Tryd.ntmps15
    go_wp2_with fail
    go_quiet (fail)
    go_wp2_with fail
    have hD := World.cell?_setCell_other w ⟨b, 1, none⟩ ⟨g, k, none⟩ (.int .i64 (k + 1)) (by intro e; injection e with e _ _; exact hgb e.symm)
    rw [hcx] at hD
    go_quiet (fail)
    go_wp2_with fail
    go_ret
    refine ⟨by rw [HT.out]; rfl, ?_⟩
    simpa using HF.out _
  · have htl : tells l k = 0 := by simp [tells, List.getD, List.getElem?_eq_none (by omega : l.length ≤ k)]
    have HT := Lib.hid htl
    clear htl
    go_enter Tryd.func15, Tryd.ntmps15
    go_wp2_with fail
    go_quiet (fail)
    go_wp2_with fail
    go_ret
    refine ⟨by rw [HT.out]; rfl, HF.out _⟩
end Go.Proofs.YtifknchhcbeekaaDoor
