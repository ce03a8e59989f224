/-
  lex.Each: the iterator that it hands back, and what that one does.
-/
import Derived.Test.YtjgpbpmicopemaaDoorWords
namespace Go.Proofs.YtjgpbpmicopemaaDoor
open Go.RowKit Go.Shelf
attribute [local go_sem] Oper.semAt_some

/-- the words that Each tells -/
def eachL (l : List UInt8) : List It := if 65536 < l.length then [] else goods l
def REa (l : List UInt8) (w : World) (e : Ending) (w' : World) : Prop := ∃ v, e = .returned (.func (.func 18) #[] #[.pointer (some ⟨w.heap.size, 0, none⟩)]) ∧ SlAt w' w.heap.size v ∧
  w'.ownsRow (w.heap.size + 1) 30 5 v (eachL l).length ((eachL l).flatMap It.cells) ∧ Below w.heap.size w w'
set_option maxRecDepth 20000 in
set_option maxHeartbeats 4000000 in
theorem each_any (l : List UInt8) (hl : l.length ≤ 9223372036854775807) (w : World) (hE : Env w) : Calls Tryd.prog 11 #[str l] w (REa l w) := by
  have hal : Below w.heap.size w (w.alloc (.cells #[.slice none 0 0] 23)) := (Below.refl _ _).alloc (Nat.le_refl _) _
  by_cases h : 65536 < l.length
  · unfold REa eachL
    simp only [if_pos h]
    unfold str
    go_enter Tryd.func11, Tryd.ntmps11
    go_wp2_with fail
    go_ret
    exact ⟨.slice none 0 0, rfl, heap_alloc_new w _, nil_row _ _, hal⟩
  · have hl2 : l.length ≤ 65536 := by omega
    have C := fun W (hW : Env W) => read_any l hl2 W hW
    unfold REa eachL
    simp only [if_neg h]
    unfold RRd str at *
    go_enter Tryd.func11, Tryd.ntmps11
    go_wp2_with fail
    refine (C _ (hE.below hal)).mono ?_
    rintro e w1 ⟨v, rfl, hrow, hb⟩
    rw [World.size_alloc] at hrow
    have hs : SlAt w1 w.heap.size (.slice none 0 0) := (hb.block _ (by simp)).trans (heap_alloc_new w _)
    have hs' := hs
    unfold SlAt at hs'
    have c0 : w1.cell? ⟨w.heap.size, 0, none⟩ = some (.slice none 0 0) := by simp [World.cell?, hs']
    have c1 : w1.frozen? ⟨w.heap.size, 0, none⟩ = false := by simp [World.frozen?, hs']
    obtain ⟨vb, vm, vc, rfl⟩ := slice_of_row hrow
    go_wp2_with fail
    go_ret
    exact ⟨.slice vb vm vc, rfl, set_same hs, ownsRow_same hrow (fun g o hg ho => (set_other (by omega)).trans ho), (hal.trans (hb.mono hal.size)).setCell (p := ⟨w.heap.size, 0, none⟩) (Nat.le_refl _) _⟩
theorem flat_len (xs : List It) : (xs.flatMap It.cells).length = 5 * xs.length := by
  induction xs with
  | nil => rfl
  | cons x xs ih => rw [List.flatMap_cons, List.length_append, ih]; show 5 + _ = _; simp; omega
theorem flat_get : ∀ (xs : List It) (i r : Nat) (h : i < xs.length), r < 5 → (xs.flatMap It.cells)[5 * i + r]? = (xs[i]).cells[r]?
  | [], i, _, h, _ => absurd h (by simp)
  | x :: xs, 0, r, _, hr => by
    rw [List.flatMap_cons, List.getElem?_append_left (by show _ < 5; omega)]
    simp
  | x :: xs, i + 1, r, h, hr => by
    rw [List.flatMap_cons, List.getElem?_append_right (by show 5 ≤ _; omega)]
    have e : 5 * (i + 1) + r - x.cells.length = 5 * i + r := by show 5 * (i + 1) + r - 5 = _; omega
    rw [e, flat_get xs i r (by simpa using h) hr]
    rfl
theorem ownsRow_at {W W' : World} {B : Nat} {v : Value} {n : Nat} {xs : List Value} (h : W.ownsRow B 30 5 v n xs) (hs : ∀ g, v.ownBlock = some g → W'.heap[g]? = W.heap[g]?) : W'.ownsRow B 30 5 v n xs := by
  obtain ⟨h1, h2 | ⟨g, cap, cur, rfl, e2, e3, e4⟩⟩ := h
  · exact ⟨h1, .inl h2⟩
  · exact ⟨h1, .inr ⟨g, cap, cur, rfl, e2, (hs g rfl).trans e3, e4⟩⟩
/-- a slice of words in memory -/
theorem row_slice {W : World} {B : Nat} {v : Value} {xs : List It} (h : W.ownsRow B 30 5 v xs.length (xs.flatMap It.cells)) :
    ∃ b c, v = .slice b xs.length c ∧ xs.length ≤ c ∧ c ≤ maxLen ∧ (0 < xs.length → ∃ g, b = some ⟨g, 0, none⟩ ∧ B ≤ g ∧ g < W.heap.size ∧
      ∀ (i : Nat) (hi : i < xs.length) (r : Nat), r < 5 → W.cell? ⟨g, i * 5 + r, none⟩ = (xs[i]).cells[r]?) := by
  obtain ⟨h1, ⟨rfl, h2⟩ | ⟨g, cap, cur, rfl, e2, e3, e4, e5, e6, e7⟩⟩ := h
  · refine ⟨none, 0, by rw [h2], by omega, by decide, fun h => by omega⟩
  · refine ⟨_, _, rfl, e4, e5, fun _ => ⟨g, rfl, e2, heap_lt e3, fun i hi r hr => ?_⟩⟩
    rw [← flat_get xs i r hi hr, ← e7, List.getElem?_take, if_pos (by omega), Nat.mul_comm 5 i]
    simp only [World.cell?, e3]
    simp
/-- a word with its number, as it comes -/
def encsE (x : Nat × It) : Array Value := #[.int .i64 x.1, x.2.d.val x.2.p.1 x.2.p.2]
def numbered (xs : List It) : List (Nat × It) := (List.range xs.length).zip xs
set_option maxRecDepth 20000 in
set_option maxHeartbeats 4000000 in
theorem each_in (n : Nat) (hn : 3 ≤ n) (L : Nat) (v : Value) (xs : List It) (B : Nat) (X : Nat → Prop) (w : World) (hL : SlAt w L v) (hrow : w.ownsRow B 30 5 v xs.length (xs.flatMap It.cells)) (hlen : xs.length ≤ 65536)
    (hX2 : ∀ k, B ≤ k → k < w.heap.size → ¬ X k) :
    SeqAside Fence.wide n Tryd.prog 18 #[.pointer (some ⟨L, 0, none⟩)] encsE X 0 (fun ys => ys = numbered xs) (fun pre => pre <+: numbered xs) (xs.length + 1) w := by
  intro J Jx W hbW hsz hJ hJx hY h0
  have hLW : SlAt W L v := (hbW.block L (heap_lt hL)).trans hL
  have h1 : 1 ≤ n := by omega
  have hrW : W.ownsRow B 30 5 v xs.length (xs.flatMap It.cells) := ownsRow_same hrow (fun g o hg ho => (hbW.block g (heap_lt ho)).trans ho)
  obtain ⟨vb, vc, rfl, hvc, hvm, -⟩ := row_slice hrow
  have hs' := hLW
  unfold SlAt at hs'
  have c0 : W.cell? ⟨L, 0, none⟩ = some (.slice vb xs.length vc) := by simp [World.cell?, hs']
  have hrg := row_in hrow
  refine callsIn_of_wp Tryd.func18 rfl trivial ?_ rfl
  simp only [Tryd.ntmps18, List.size_toArray, List.length_cons, List.length_nil, Nat.reduceAdd, Nat.reduceSub, Array.replicate_succ, Array.replicate_zero, List.push_toArray, List.append_toArray, List.nil_append, List.cons_append]
  gi_wp2_with fail
  gi_loopg [7] xs.length (fun g s7 wr => ∃ k : Nat, s7 = .int .i64 k ∧ k ≤ xs.length ∧ xs.length - k ≤ g ∧ Hid (J ((numbered xs).take k) wr ∧ W.heap.size ≤ wr.heap.size ∧ ∀ k, k < w.heap.size → ¬ X k → wr.heap[k]? = W.heap[k]?))
  case atStart => exact ⟨0, rfl, Nat.zero_le _, by omega, Lib.hid ⟨h0, Nat.le_refl _, fun _ _ _ => rfl⟩⟩
  case round =>
    obtain ⟨k, rfl, hk, hg, S⟩ := hrel
    have hnl : (numbered xs).length = xs.length := by simp [numbered]
    by_cases hlt : k < xs.length
    · have hrr : wr.ownsRow B 30 5 (.slice vb xs.length vc) xs.length (xs.flatMap It.cells) := ownsRow_at hrW (fun g hg => S.out.2.2 g (hrg g hg).2 (hX2 g (hrg g hg).1 (hrg g hg).2))
      obtain ⟨b', c', e1, -, -, e3⟩ := row_slice hrr
      obtain ⟨g', rfl, e4, e5, e6⟩ := e3 (by omega)
      obtain ⟨rfl, -, rfl⟩ : some ⟨g', 0, none⟩ = vb ∧ True ∧ c' = vc := by injection e1 with a1 a2 a3; exact ⟨a1.symm, trivial, a3.symm⟩
      generalize hx : xs[k] = x
      obtain ⟨⟨dk, dt, dn⟩, p, bad⟩ := x
      have q0 : wr.cell? ⟨g', k * 5, none⟩ = some (.int .i64 dk) := by have := e6 k hlt 0 (by omega); rw [hx] at this; exact this
      have q1 : wr.cell? ⟨g', k * 5 + 1, none⟩ = some (.string ⟨dt.toArray⟩) := by rw [e6 k hlt 1 (by omega), hx]; rfl
      have q2 : wr.cell? ⟨g', k * 5 + 2, none⟩ = some (.int .i64 dn) := by rw [e6 k hlt 2 (by omega), hx]; rfl
      have q3 : wr.cell? ⟨g', k * 5 + 3, none⟩ = some (.int .i64 p.1) := by rw [e6 k hlt 3 (by omega), hx]; rfl
      have q4 : wr.cell? ⟨g', k * 5 + 4, none⟩ = some (.int .i64 p.2) := by rw [e6 k hlt 4 (by omega), hx]; rfl
      clear e6
      have hnk : (numbered xs).take (k + 1) = (numbered xs).take k ++ [(k, ⟨⟨dk, dt, dn⟩, p, bad⟩)] := by
        rw [← List.take_append_getElem (by rw [hnl]; exact hlt)]
        congr 2
        simp [numbered, hx]
      have hmy : Mv (fun k => W.heap.size ≤ k ∧ k < W.heap.size + 0) wr (wr.alloc (.cells #[.int .i64 dk, .string ⟨dt.toArray⟩, .int .i64 dn, .int .i64 p.1, .int .i64 p.2] 30)) := Mv.alloc _ _
      obtain ⟨fn, tmps, asg, bod, hy, hRd⟩ := hY ((numbered xs).take k) (k, ⟨⟨dk, dt, dn⟩, p, bad⟩) wr _ S.out.1 hmy (by rw [List.length_take]; omega) (by have := S.out.2.1; omega)
      dsimp only [encsE, Wd.val, str] at hy
      gi_wp2_with fail
      refine hRd.mono ?_
      rintro e W3 (⟨rfl, hJ', hk'⟩ | ⟨rfl, hJx'⟩)
      · gi_wp2_with fail
        gi_roundg (xs.length - (k + 1))
        case measure => omega
        case rel =>
          refine ⟨k + 1, by simp, hlt, by omega, Lib.hid ⟨by rw [hnk]; exact hJ', ?_, fun j hj hx => ?_⟩⟩
          · have := hk'.size
            simp at this
            have := S.out.2.1
            omega
          · have h2 := S.out.2.1
            rw [hk'.same j (by simp; omega) (fun h => h.elim hx (fun h => by omega)), Below.heap_alloc wr _ j (by omega)]
            exact S.out.2.2 j hj hx
      · gi_wp2_with fail
        refine bodyPost_ret (results_none rfl _ _ _) rfl ?_
        exact ⟨⟨_, rfl⟩, .inr ⟨_, ⟨(numbered xs).drop (k + 1), by rw [← hnk, List.take_append_drop]⟩, hJx'⟩⟩
    · have hke : k = xs.length := by omega
      subst hke
      gi_wp2_with fail
      go_end0
      refine ⟨⟨_, rfl⟩, .inl ⟨_, rfl, ?_⟩⟩
      have := S.out.1
      rwa [← hnl, List.take_length] at this
end Go.Proofs.YtjgpbpmicopemaaDoor
