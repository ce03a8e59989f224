/-
  Words without their places: what stands behind a word's end does not matter; no program in sight.
-/
import Derived.Test.YtjgpbpmicopemaaDoorPlaces
namespace Go.Proofs.YtjgpbpmicopemaaDoor
open Go.RowKit

deriving instance DecidableEq for Wd
/-- the words of a text without their places; none: a fault -/
def scanW : Nat → List UInt8 → List (Option Wd)
  | 0, _ => []
  | _ + 1, [] => []
  | f + 1, c :: l =>
    if (blankV (c :: l)).2 = false then [none]
    else if (blankV (c :: l)).1 ≠ 0 then scanW f ((c :: l).drop (blankV (c :: l)).1.toNat)
    else match wordO (c :: l) with
      | none => [none]
      | some d => some d :: scanW f ((c :: l).drop d.t.length)
theorem scanW_cons (f : Nat) (c : UInt8) (l : List UInt8) : scanW (f + 1) (c :: l) = if (blankV (c :: l)).2 = false then [none]
    else if (blankV (c :: l)).1 ≠ 0 then scanW f ((c :: l).drop (blankV (c :: l)).1.toNat)
    else match wordO (c :: l) with
      | none => [none]
      | some d => some d :: scanW f ((c :: l).drop d.t.length) := rfl
def wordsW (l : List UInt8) : List (Option Wd) := scanW (l.length + 1) l
def It.bare (x : It) : Option Wd := if x.bad then none else some x.d
theorem scanF_bare : ∀ (f : Nat) (p : Int × Int) (l : List UInt8), (scanF f p l).map It.bare = scanW f l
  | 0, _, _ => rfl
  | _ + 1, _, [] => rfl
  | f + 1, p, c :: l => by
    unfold scanF scanW
    split
    · rfl
    · split
      · exact scanF_bare f _ _
      · cases wordO (c :: l) with
        | none => rfl
        | some d =>
          simp only [List.map_cons]
          rw [scanF_bare f]
          rfl
theorem scanW_fuel : ∀ (f g : Nat) (l : List UInt8), l.length < f → l.length < g → scanW f l = scanW g l
  | 0, _, _, h, _ => absurd h (by omega)
  | _, 0, _, _, h => absurd h (by omega)
  | f + 1, g + 1, [], _, _ => rfl
  | f + 1, g + 1, c :: l, h1, h2 => by
    simp only [List.length_cons] at h1 h2
    unfold scanW
    split
    · rfl
    · rename_i hb
      obtain ⟨hlo, hhi⟩ := blank_low c l (by simpa using hb)
      split
      · rename_i hn
        exact scanW_fuel f g _ (by rw [List.length_drop, List.length_cons]; omega) (by rw [List.length_drop, List.length_cons]; omega)
      · cases hw : wordO (c :: l) with
        | none => rfl
        | some d =>
          obtain ⟨w1, -⟩ := word_low c l d hw
          simp only
          rw [scanW_fuel f g _ (by rw [List.length_drop, List.length_cons]; omega) (by rw [List.length_drop, List.length_cons]; omega)]
theorem wordsW_nil : wordsW [] = [] := rfl
theorem wordsW_fuel (l : List UInt8) (g : Nat) (h : l.length < g) : scanW g l = wordsW l := scanW_fuel _ _ _ h (by omega)
theorem wordsW_blank (c : UInt8) (l : List UInt8) (h1 : (blankV (c :: l)).2 = true) (h2 : (blankV (c :: l)).1 ≠ 0) : wordsW (c :: l) = wordsW ((c :: l).drop (blankV (c :: l)).1.toNat) := by
  obtain ⟨hlo, hhi⟩ := blank_low c l h1
  have e : wordsW (c :: l) = scanW (c :: l).length ((c :: l).drop (blankV (c :: l)).1.toNat) := by
    show scanW ((c :: l).length + 1) (c :: l) = _
    rw [scanW_cons, if_neg (by rw [h1]; simp), if_pos h2]
  rw [e]
  exact wordsW_fuel _ _ (by rw [List.length_drop]; simp only [List.length_cons]; omega)
theorem wordsW_word (c : UInt8) (l : List UInt8) (d : Wd) (h1 : blankV (c :: l) = (0, true)) (h2 : wordO (c :: l) = some d) : wordsW (c :: l) = some d :: wordsW ((c :: l).drop d.t.length) := by
  obtain ⟨w1, -⟩ := word_low c l d h2
  have e : wordsW (c :: l) = some d :: scanW (c :: l).length ((c :: l).drop d.t.length) := by
    show scanW ((c :: l).length + 1) (c :: l) = _
    rw [scanW_cons, if_neg (by rw [h1]; simp), if_neg (by rw [h1]; simp), h2]
  rw [e, wordsW_fuel _ _ (by rw [List.length_drop]; simp only [List.length_cons]; omega)]
/-- how a text begins: with a fault, a blank, or a word -/
theorem wordsW_parts (c : UInt8) (l : List UInt8) (h : none ∉ wordsW (c :: l)) :
    ((blankV (c :: l)).2 = true ∧ (blankV (c :: l)).1 ≠ 0) ∨ ∃ d, blankV (c :: l) = (0, true) ∧ wordO (c :: l) = some d := by
  unfold wordsW scanW at h
  split at h
  · simp at h
  · rename_i hb
    have hb : (blankV (c :: l)).2 = true := by simpa using hb
    split at h
    · rename_i hn
      exact .inl ⟨hb, hn⟩
    · rename_i hn
      cases hw : wordO (c :: l) with
      | none => rw [hw] at h; simp at h
      | some d => exact .inr ⟨d, Prod.ext (by simpa using hn) hb, rfl⟩
/-! ### what stands behind -/
/-- behind a word: nothing, or a blank -/
def Gap (r : List UInt8) : Prop := r = [] ∨ ∃ x r', r = x :: r' ∧ (x = 32 ∨ x = 9 ∨ x = 10)
theorem gap_not (x : UInt8) (h : x = 32 ∨ x = 9 ∨ x = 10) : goesC x = false ∧ x ≠ 47 ∧ x ≠ 42 ∧ (∀ c, twos.contains [c, x] = false) ∧ [32, 9, 13, 10].contains x = true := by
  rcases h with rfl | rfl | rfl <;> exact ⟨by decide, by decide, by decide, fun c => by simp [twos], by decide⟩
theorem tw_join (p : UInt8 → Bool) (x : UInt8) (r : List UInt8) (hx : p x = false) : ∀ l : List UInt8, (l ++ x :: r).takeWhile p = l.takeWhile p
  | [] => by simp [hx]
  | c :: l => by
    rw [List.cons_append, List.takeWhile_cons, List.takeWhile_cons, tw_join p x r hx l]
theorem nameN_join (l r : List UInt8) (hr : Gap r) : nameN (l ++ r) = nameN l := by
  rcases hr with rfl | ⟨x, r', rfl, hx⟩
  · rw [List.append_nil]
  · unfold nameN
    rw [tw_join goesC x r' (gap_not x hx).1]
theorem markN_join (c : UInt8) (l r : List UInt8) (hr : Gap r) : markN (c :: l ++ r) = markN (c :: l) := by
  rcases hr with rfl | ⟨x, r', rfl, hx⟩
  · rw [List.append_nil]
  · cases l with
    | nil =>
      have h1 := (gap_not x hx).2.2.2.1 c
      have h2 : (decide (2 ≤ ([c] ++ x :: r').length) && twos.contains (([c] ++ x :: r').take 2)) = false := by
        rw [show ([c] ++ x :: r').take 2 = [c, x] from rfl, h1, Bool.and_false]
      unfold markN
      rw [h2]
      rfl
    | cons d l =>
      unfold markN
      simp
theorem take_join (l r : List UInt8) (n : Nat) (h : n ≤ l.length) : (l ++ r).take n = l.take n := by
  rw [List.take_append_of_le_length h]
theorem markN_le (l : List UInt8) (h : 0 < l.length) : markN l ≤ l.length := by
  unfold markN
  split
  · rename_i h1
    simp at h1
    omega
  · split <;> omega
theorem word_join (c : UInt8) (l r : List UInt8) (hr : Gap r) : wordO (c :: l ++ r) = wordO (c :: l) := by
  have h1 := nameN_join (c :: l) r hr
  have h2 := markN_join c l r hr
  have h3 := take_join (c :: l) r (nameN (c :: l)) (nameN_le _)
  have h4 := take_join (c :: l) r (markN (c :: l)) (markN_le _ (by simp))
  unfold wordO
  rw [h1, h2, h3, h4]
  rfl
theorem hasP (a : List UInt8) (x y : UInt8) : Lib.hasPrefix a [x, y] = (decide (2 ≤ a.length) && (a.take 2 == [x, y])) := by
  match a with
  | [] => rfl
  | [c] => simp [Lib.hasPrefix, List.isPrefixOf]
  | c :: d :: a =>
    simp only [Lib.hasPrefix, List.isPrefixOf, Bool.and_true, List.take_succ_cons, List.take_zero]
    rw [show decide (2 ≤ (c :: d :: a).length) = true from by simp, Bool.true_and, Bool.eq_iff_iff]
    simp only [Bool.and_eq_true, beq_iff_eq, List.cons.injEq, and_true]
    constructor <;> rintro ⟨rfl, rfl⟩ <;> exact ⟨rfl, rfl⟩
theorem hasP_join (c : UInt8) (l r : List UInt8) (hr : Gap r) (y : UInt8) (hy : y = 47 ∨ y = 42) : Lib.hasPrefix (c :: l ++ r) [47, y] = Lib.hasPrefix (c :: l) [47, y] := by
  rcases hr with rfl | ⟨x, r', rfl, hx⟩
  · rw [List.append_nil]
  · have hxy : x ≠ y := by
      obtain ⟨-, h1, h2, -⟩ := gap_not x hx
      rcases hy with rfl | rfl <;> assumption
    rw [hasP, hasP]
    cases l with
    | nil => simp [hxy]
    | cons d l => simp
theorem blank_zero (c : UInt8) (l : List UInt8) : blankV (c :: l) = (0, true) ↔ ([32, 9, 13, 10].contains c = false ∧ Lib.hasPrefix (c :: l) [47, 47] = false ∧ Lib.hasPrefix (c :: l) [47, 42] = false) := by
  constructor
  · intro h
    unfold blankV at h
    split at h
    · exact absurd (congrArg Prod.fst h) (by simp)
    · rename_i h1
      split at h
      · rename_i h2
        exfalso
        have h3 := congrArg Prod.fst h
        simp only at h3
        rw [hasP] at h2
        have hc : c = 47 := by
          cases l with
          | nil => simp at h2
          | cons d l => simp at h2; exact h2.1
        subst hc
        have hz : Lib.indexByte (47 :: l) 10 ≠ 0 := by
          have := Lib.indexByte_ge l 10
          unfold Lib.indexByte
          rw [show ((47 : UInt8) == 10) = false from by decide]
          simp only [Bool.false_eq_true, if_false]
          split <;> rename_i h5
          · decide
          · simp at h5; omega
        split at h3
        · exact hz h3
        · simp at h3; omega
      · rename_i h2
        split at h
        · have h3 := congrArg Prod.fst h
          have := Lib.index_ge ((c :: l).drop 2) [42, 47]
          simp only at h3
          omega
        · rename_i h3
          exact ⟨by simpa using h1, by simpa using h2, by simpa using h3⟩
  · rintro ⟨h1, h2, h3⟩
    unfold blankV
    rw [List.headD_cons, h1, h2, h3]
    rfl
theorem blank_join (c : UInt8) (l r : List UInt8) (hr : Gap r) (h : blankV (c :: l) = (0, true)) : blankV (c :: l ++ r) = (0, true) := by
  obtain ⟨h1, h2, h3⟩ := (blank_zero c l).1 h
  refine (blank_zero c (l ++ r)).2 ⟨h1, ?_, ?_⟩
  · have := hasP_join c l r hr 47 (.inl rfl)
    rw [List.cons_append] at this
    rw [this, h2]
  · have := hasP_join c l r hr 42 (.inr rfl)
    rw [List.cons_append] at this
    rw [this, h3]
end Go.Proofs.YtjgpbpmicopemaaDoor
