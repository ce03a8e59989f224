/-
  How words come out of a text, one by one, as plain functions; bounds.
-/
import Derived.Test.YtjgpbpmicopemaaDoorTake
import Derived.Lib.IndexMore
namespace Go.Proofs.YtjgpbpmicopemaaDoor
open Go.RowKit

/-- a word that comes, at its place; or a fault at a place -/
structure It where
  d : Wd
  p : Int × Int
  bad : Bool
def It.encs (x : It) : Array Value := #[x.d.val x.p.1 x.p.2, .bool x.bad]
def itBad (p : Int × Int) : It := ⟨⟨0, [], 0⟩, p, true⟩
/-- the words of a text, one by one, as long as there is fuel -/
def scanF : Nat → Int × Int → List UInt8 → List It
  | 0, _, _ => []
  | _ + 1, _, [] => []
  | f + 1, p, c :: l =>
    if (blankV (c :: l)).2 = false then [itBad p]
    else if (blankV (c :: l)).1 ≠ 0 then scanF f (nextP p ((c :: l).take (blankV (c :: l)).1.toNat)) ((c :: l).drop (blankV (c :: l)).1.toNat)
    else match wordO (c :: l) with
      | none => [itBad p]
      | some d => ⟨d, p, false⟩ :: scanF f (nextP p ((c :: l).take d.t.length)) ((c :: l).drop d.t.length)
def scanL (l : List UInt8) : List It := scanF (l.length + 1) (1, 1) l
theorem prefix_len : ∀ (a b : List UInt8), Lib.hasPrefix a b = true → b.length ≤ a.length := by
  intro a b h
  have : b.isPrefixOf a = true := h
  exact (List.isPrefixOf_iff_prefix.1 this).length_le
theorem blank_low (c : UInt8) (l : List UInt8) (h : (blankV (c :: l)).2 = true) : 0 ≤ (blankV (c :: l)).1 ∧ (blankV (c :: l)).1 ≤ (c :: l).length := by
  unfold blankV at h ⊢
  split
  · exact ⟨by decide, by show (1 : Int) ≤ _; simp; omega⟩
  · split
    · have h1 := indexByte_le 10 (c :: l)
      show 0 ≤ (if 0 ≤ Lib.indexByte (c :: l) 10 then _ else _) ∧ _
      split
      · exact ⟨by assumption, h1⟩
      · exact ⟨by omega, Int.le_refl _⟩
    · split
      · rename_i h3 h2 h1
        rw [if_neg h3, if_neg h2, if_pos h1] at h
        have h0 : 0 ≤ Lib.index ((c :: l).drop 2) [42, 47] := by simpa using h
        refine ⟨by show 0 ≤ _ + 4; omega, ?_⟩
        show Lib.index ((c :: l).drop 2) [42, 47] + 4 ≤ _
        rcases Lib.index_spec ((c :: l).drop 2) [42, 47] with ⟨h4, -⟩ | ⟨i, h4, h5, h6, -⟩
        · omega
        · rw [h4]
          have h7 := prefix_len (((c :: l).drop 2).drop i) [42, 47] h6
          simp at h7 ⊢
          omega
      · exact ⟨Int.le_refl _, by show (0 : Int) ≤ _; omega⟩
theorem word_low (c : UInt8) (l : List UInt8) (d : Wd) (h : wordO (c :: l) = some d) : 1 ≤ d.t.length ∧ d.t.length ≤ (c :: l).length := by
  have hn := nameN_le (c :: l)
  unfold wordO at h
  split at h
  · rename_i hs
    split at h
    · injection h with h
      subst h
      have h1 : 1 ≤ nameN (c :: l) := by
        unfold nameN
        have : goesC c = true := by
          show (startsI c.toNat || digitI c.toNat) = true
          have : startsI c.toNat = true := hs
          rw [this]; rfl
        rw [List.takeWhile_cons, this]
        simp
      show 1 ≤ ((c :: l).take _).length ∧ ((c :: l).take _).length ≤ _
      rw [List.length_take]
      omega
    · cases h
  · split at h
    · rename_i hn1
      cases hv : numV ((c :: l).take (nameN (c :: l))) with
      | none => rw [hv] at h; cases h
      | some v =>
        rw [hv] at h
        injection h with h
        subst h
        show 1 ≤ ((c :: l).take _).length ∧ ((c :: l).take _).length ≤ _
        rw [List.length_take]
        omega
    · split at h
      · rename_i hm
        injection h with h
        subst h
        show 1 ≤ ((c :: l).take _).length ∧ ((c :: l).take _).length ≤ _
        have : 1 ≤ (c :: l).length := by simp
        rw [List.length_take]
        omega
      · cases h
theorem two_new (W : World) (o1 o2 : Obj) : ((W.alloc o1).alloc o2).drew.heap[W.heap.size]? = some o1 ∧ ((W.alloc o1).alloc o2).drew.heap[W.heap.size + 1]? = some o2 := by
  have h2 := heap_alloc_new (W.alloc o1) o2
  rw [World.size_alloc] at h2
  exact ⟨(Below.heap_alloc (W.alloc o1) o2 _ (by simp)).trans (heap_alloc_new W o1), h2⟩
theorem Env.mv {X : Nat → Prop} {w w' : World} (h : Env w) (m : Mv X w w') (h0 : ¬ X 0) (h1 : ¬ X 1) (h2 : ¬ X 2) : Env w' := by
  have key : ∀ {a : Addr} {v : Value}, w.cell? a = some v → ¬ X a.block → w'.cell? a = some v := by
    intro a v hc hx
    have := m.same a.block (cell_lt hc) hx
    rw [← hc]
    unfold World.cell?
    rw [this]
  obtain ⟨⟨m1, e1⟩, ⟨s, e2, s2⟩, ⟨r, e3, r2⟩⟩ := h
  exact ⟨⟨m1, key e1 h0⟩, ⟨s, key e2 h1, s2⟩, ⟨r, key e3 h2, r2⟩⟩
end Go.Proofs.YtjgpbpmicopemaaDoor
