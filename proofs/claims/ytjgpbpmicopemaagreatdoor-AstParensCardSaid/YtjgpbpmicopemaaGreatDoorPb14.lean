import Derived.Test.YtjgpbpmicopemaaGreatDoorPb13
import Derived.Test.YtjgpbpmicopemaaGreatDoorPb06
import Derived.Lib.ParseIntBTie
import Derived.Test.YtjgpbpmicopemaaGreatDoorPb02
import Derived.Lib.Builder
import Derived.Lib.AppendStr
import Derived.Laws.Externs
import Derived.Lib.OthersKept
import Derived.Lib.RuneBytes

/-
  Words without their places: what stands behind a word's end does not matter; no program in sight.
-/
namespace Go.Proofs.YtjgpbpmicopemaaGreatDoor
open Go.RowKit

deriving instance DecidableEq for Wd
/-- the words of a text without their places; none: a fault -/
def scanW : Nat → List UInt8 → List (Option Wd)
  | 0, _ => []
  | _ + 1, [] => []
  | f + 1, c :: l =>
    if (blankV (c :: l)).2 = false then [none]
    else if (blankV (c :: l)).1 ≠ 0 then scanW f ((c :: l).drop (blankV (c :: l)).1.toNat)
    else match wordO (c :: l) with
      | none => [none]
      | some d => some d :: scanW f ((c :: l).drop d.t.length)
theorem scanW_cons (f : Nat) (c : UInt8) (l : List UInt8) : scanW (f + 1) (c :: l) = if (blankV (c :: l)).2 = false then [none]
    else if (blankV (c :: l)).1 ≠ 0 then scanW f ((c :: l).drop (blankV (c :: l)).1.toNat)
    else match wordO (c :: l) with
      | none => [none]
      | some d => some d :: scanW f ((c :: l).drop d.t.length) := rfl
def wordsW (l : List UInt8) : List (Option Wd) := scanW (l.length + 1) l
def It.bare (x : It) : Option Wd := if x.bad then none else some x.d
theorem scanF_bare : ∀ (f : Nat) (p : Int × Int) (l : List UInt8), (scanF f p l).map It.bare = scanW f l
  | 0, _, _ => rfl
  | _ + 1, _, [] => rfl
  | f + 1, p, c :: l => by
    unfold scanF scanW
    split
    · rfl
    · split
      · exact scanF_bare f _ _
      · cases wordO (c :: l) with
        | none => rfl
        | some d =>
          simp only [List.map_cons]
          rw [scanF_bare f]
          rfl
theorem scanW_fuel : ∀ (f g : Nat) (l : List UInt8), l.length < f → l.length < g → scanW f l = scanW g l
  | 0, _, _, h, _ => absurd h (by omega)
  | _, 0, _, _, h => absurd h (by omega)
  | f + 1, g + 1, [], _, _ => rfl
  | f + 1, g + 1, c :: l, h1, h2 => by
    simp only [List.length_cons] at h1 h2
    unfold scanW
    split
    · rfl
    · rename_i hb
      obtain ⟨hlo, hhi⟩ := blank_low c l (by simpa using hb)
      split
      · rename_i hn
        exact scanW_fuel f g _ (by rw [List.length_drop, List.length_cons]; omega) (by rw [List.length_drop, List.length_cons]; omega)
      · cases hw : wordO (c :: l) with
        | none => rfl
        | some d =>
          obtain ⟨w1, -⟩ := word_low c l d hw
          simp only
          rw [scanW_fuel f g _ (by rw [List.length_drop, List.length_cons]; omega) (by rw [List.length_drop, List.length_cons]; omega)]
theorem wordsW_nil : wordsW [] = [] := rfl
theorem wordsW_fuel (l : List UInt8) (g : Nat) (h : l.length < g) : scanW g l = wordsW l := scanW_fuel _ _ _ h (by omega)
theorem wordsW_blank (c : UInt8) (l : List UInt8) (h1 : (blankV (c :: l)).2 = true) (h2 : (blankV (c :: l)).1 ≠ 0) : wordsW (c :: l) = wordsW ((c :: l).drop (blankV (c :: l)).1.toNat) := by
  obtain ⟨hlo, hhi⟩ := blank_low c l h1
  have e : wordsW (c :: l) = scanW (c :: l).length ((c :: l).drop (blankV (c :: l)).1.toNat) := by
    show scanW ((c :: l).length + 1) (c :: l) = _
    rw [scanW_cons, if_neg (by rw [h1]; simp), if_pos h2]
  rw [e]
  exact wordsW_fuel _ _ (by rw [List.length_drop]; simp only [List.length_cons]; omega)
theorem wordsW_word (c : UInt8) (l : List UInt8) (d : Wd) (h1 : blankV (c :: l) = (0, true)) (h2 : wordO (c :: l) = some d) : wordsW (c :: l) = some d :: wordsW ((c :: l).drop d.t.length) := by
  obtain ⟨w1, -⟩ := word_low c l d h2
  have e : wordsW (c :: l) = some d :: scanW (c :: l).length ((c :: l).drop d.t.length) := by
    show scanW ((c :: l).length + 1) (c :: l) = _
    rw [scanW_cons, if_neg (by rw [h1]; simp), if_neg (by rw [h1]; simp), h2]
  rw [e, wordsW_fuel _ _ (by rw [List.length_drop]; simp only [List.length_cons]; omega)]
/-- how a text begins: with a fault, a blank, or a word -/
theorem wordsW_parts (c : UInt8) (l : List UInt8) (h : none ∉ wordsW (c :: l)) :
    ((blankV (c :: l)).2 = true ∧ (blankV (c :: l)).1 ≠ 0) ∨ ∃ d, blankV (c :: l) = (0, true) ∧ wordO (c :: l) = some d := by
  unfold wordsW scanW at h
  split at h
  · simp at h
  · rename_i hb
    have hb : (blankV (c :: l)).2 = true := by simpa using hb
    split at h
    · rename_i hn
      exact .inl ⟨hb, hn⟩
    · rename_i hn
      cases hw : wordO (c :: l) with
      | none => rw [hw] at h; simp at h
      | some d => exact .inr ⟨d, Prod.ext (by simpa using hn) hb, rfl⟩
/-! ### what stands behind -/
/-- behind a word: nothing, or a blank -/
def Gap (r : List UInt8) : Prop := r = [] ∨ ∃ x r', r = x :: r' ∧ (x = 32 ∨ x = 9 ∨ x = 10)
theorem gap_not (x : UInt8) (h : x = 32 ∨ x = 9 ∨ x = 10) : goesC x = false ∧ x ≠ 47 ∧ x ≠ 42 ∧ (∀ c, twos.contains [c, x] = false) ∧ [32, 9, 13, 10].contains x = true := by
  rcases h with rfl | rfl | rfl <;> exact ⟨by decide, by decide, by decide, fun c => by simp [twos], by decide⟩
theorem tw_join (p : UInt8 → Bool) (x : UInt8) (r : List UInt8) (hx : p x = false) : ∀ l : List UInt8, (l ++ x :: r).takeWhile p = l.takeWhile p
  | [] => by simp [hx]
  | c :: l => by
    rw [List.cons_append, List.takeWhile_cons, List.takeWhile_cons, tw_join p x r hx l]
theorem nameN_join (l r : List UInt8) (hr : Gap r) : nameN (l ++ r) = nameN l := by
  rcases hr with rfl | ⟨x, r', rfl, hx⟩
  · rw [List.append_nil]
  · unfold nameN
    rw [tw_join goesC x r' (gap_not x hx).1]
theorem markN_join (c : UInt8) (l r : List UInt8) (hr : Gap r) : markN (c :: l ++ r) = markN (c :: l) := by
  rcases hr with rfl | ⟨x, r', rfl, hx⟩
  · rw [List.append_nil]
  · cases l with
    | nil =>
      have h1 := (gap_not x hx).2.2.2.1 c
      have h2 : (decide (2 ≤ ([c] ++ x :: r').length) && twos.contains (([c] ++ x :: r').take 2)) = false := by
        rw [show ([c] ++ x :: r').take 2 = [c, x] from rfl, h1, Bool.and_false]
      unfold markN
      rw [h2]
      rfl
    | cons d l =>
      unfold markN
      simp
theorem take_join (l r : List UInt8) (n : Nat) (h : n ≤ l.length) : (l ++ r).take n = l.take n := by
  rw [List.take_append_of_le_length h]
theorem markN_le (l : List UInt8) (h : 0 < l.length) : markN l ≤ l.length := by
  unfold markN
  split
  · rename_i h1
    simp at h1
    omega
  · split <;> omega
theorem word_join (c : UInt8) (l r : List UInt8) (hr : Gap r) : wordO (c :: l ++ r) = wordO (c :: l) := by
  have h1 := nameN_join (c :: l) r hr
  have h2 := markN_join c l r hr
  have h3 := take_join (c :: l) r (nameN (c :: l)) (nameN_le _)
  have h4 := take_join (c :: l) r (markN (c :: l)) (markN_le _ (by simp))
  unfold wordO
  rw [h1, h2, h3, h4]
  rfl
theorem hasP (a : List UInt8) (x y : UInt8) : Lib.hasPrefix a [x, y] = (decide (2 ≤ a.length) && (a.take 2 == [x, y])) := by
  match a with
  | [] => rfl
  | [c] => simp [Lib.hasPrefix, List.isPrefixOf]
  | c :: d :: a =>
    simp only [Lib.hasPrefix, List.isPrefixOf, Bool.and_true, List.take_succ_cons, List.take_zero]
    rw [show decide (2 ≤ (c :: d :: a).length) = true from by simp, Bool.true_and, Bool.eq_iff_iff]
    simp only [Bool.and_eq_true, beq_iff_eq, List.cons.injEq, and_true]
    constructor <;> rintro ⟨rfl, rfl⟩ <;> exact ⟨rfl, rfl⟩
theorem hasP_join (c : UInt8) (l r : List UInt8) (hr : Gap r) (y : UInt8) (hy : y = 47 ∨ y = 42) : Lib.hasPrefix (c :: l ++ r) [47, y] = Lib.hasPrefix (c :: l) [47, y] := by
  rcases hr with rfl | ⟨x, r', rfl, hx⟩
  · rw [List.append_nil]
  · have hxy : x ≠ y := by
      obtain ⟨-, h1, h2, -⟩ := gap_not x hx
      rcases hy with rfl | rfl <;> assumption
    rw [hasP, hasP]
    cases l with
    | nil => simp [hxy]
    | cons d l => simp
theorem blank_zero (c : UInt8) (l : List UInt8) : blankV (c :: l) = (0, true) ↔ ([32, 9, 13, 10].contains c = false ∧ Lib.hasPrefix (c :: l) [47, 47] = false ∧ Lib.hasPrefix (c :: l) [47, 42] = false) := by
  constructor
  · intro h
    unfold blankV at h
    split at h
    · exact absurd (congrArg Prod.fst h) (by simp)
    · rename_i h1
      split at h
      · rename_i h2
        exfalso
        have h3 := congrArg Prod.fst h
        simp only at h3
        rw [hasP] at h2
        have hc : c = 47 := by
          cases l with
          | nil => simp at h2
          | cons d l => simp at h2; exact h2.1
        subst hc
        have hz : Lib.indexByte (47 :: l) 10 ≠ 0 := by
          have := Lib.indexByte_ge l 10
          unfold Lib.indexByte
          rw [show ((47 : UInt8) == 10) = false from by decide]
          simp only [Bool.false_eq_true, if_false]
          split <;> rename_i h5
          · decide
          · simp at h5; omega
        split at h3
        · exact hz h3
        · simp at h3; omega
      · rename_i h2
        split at h
        · have h3 := congrArg Prod.fst h
          have := Lib.index_ge ((c :: l).drop 2) [42, 47]
          simp only at h3
          omega
        · rename_i h3
          exact ⟨by simpa using h1, by simpa using h2, by simpa using h3⟩
  · rintro ⟨h1, h2, h3⟩
    unfold blankV
    rw [List.headD_cons, h1, h2, h3]
    rfl
theorem blank_join (c : UInt8) (l r : List UInt8) (hr : Gap r) (h : blankV (c :: l) = (0, true)) : blankV (c :: l ++ r) = (0, true) := by
  obtain ⟨h1, h2, h3⟩ := (blank_zero c l).1 h
  refine (blank_zero c (l ++ r)).2 ⟨h1, ?_, ?_⟩
  · have := hasP_join c l r hr 47 (.inl rfl)
    rw [List.cons_append] at this
    rw [this, h2]
  · have := hasP_join c l r hr 42 (.inr rfl)
    rw [List.cons_append] at this
    rw [this, h3]
end Go.Proofs.YtjgpbpmicopemaaGreatDoor

/-
  Two texts, a line between: their words; no program in sight.
-/
namespace Go.Proofs.YtjgpbpmicopemaaGreatDoor
open Go.RowKit

theorem bare_words (l : List UInt8) : (scanL l).map It.bare = wordsW l := scanF_bare _ _ _
theorem fault_iff (l : List UInt8) : (faultO l).isSome = true ↔ none ∈ wordsW l := by
  rw [← bare_words]
  unfold faultO
  rw [List.find?_isSome]
  simp only [List.mem_map]
  constructor
  · rintro ⟨x, hx, hb⟩
    exact ⟨x, hx, by simp [It.bare, hb]⟩
  · rintro ⟨x, hx, hb⟩
    refine ⟨x, hx, ?_⟩
    cases h : x.bad
    · simp [It.bare, h] at hb
    · rfl
theorem wordsE_zero (l : List UInt8) (hl : l.length ≤ 65536) : wordsE l = if none ∈ wordsW l then 3 else 0 := by
  unfold wordsE
  rw [if_neg (by omega)]
  by_cases h : none ∈ wordsW l
  · rw [if_pos ((fault_iff l).2 h), if_pos h]
  · rw [if_neg (fun h' => h ((fault_iff l).1 h')), if_neg h]
theorem wordsE_none (l : List UInt8) (h : wordsE l = 0) : none ∉ wordsW l := by
  obtain ⟨-, h2, -, -⟩ := words_ok l h
  intro hn
  rw [(fault_iff l).2 hn] at h2
  cases h2
theorem words_bare (l : List UInt8) (h : wordsE l = 0) : (wordsL l).map (fun x => some x.d) = wordsW l := by
  obtain ⟨-, -, h2, h3⟩ := words_ok l h
  rw [← bare_words, h2]
  refine List.map_congr_left fun x hx => ?_
  simp [It.bare, h3 x hx]
theorem index_join (r sub : List UInt8) (hs : sub ≠ []) : ∀ s : List UInt8, 0 ≤ Lib.index s sub → Lib.index (s ++ r) sub = Lib.index s sub
  | [], h => by
    cases sub with
    | nil => exact absurd rfl hs
    | cons x sub => simp [Lib.index] at h
  | b :: s, h => by
    have hge := Lib.index_ge s sub
    rw [List.cons_append]
    unfold Lib.index at h ⊢
    by_cases hp : sub.isPrefixOf (b :: s) = true
    · rw [if_pos hp]
      have : sub.isPrefixOf (b :: (s ++ r)) = true := by
        rw [List.isPrefixOf_iff_prefix] at hp ⊢
        exact hp.trans (List.prefix_append (b :: s) r)
      rw [if_pos this]
    · rw [if_neg hp] at h ⊢
      have h0 : 0 ≤ Lib.index s sub := by
        split at h
        · simp at h
        · rename_i h1; simp at h1; omega
      have hl : sub.length ≤ s.length := by
        rcases Lib.index_spec s sub with ⟨h4, -⟩ | ⟨i, h4, h5, h6, -⟩
        · omega
        · have : sub.isPrefixOf (s.drop i) = true := h6
          have := (List.isPrefixOf_iff_prefix.1 this).length_le
          rw [List.length_drop] at this
          omega
      have hn : ¬ sub.isPrefixOf (b :: (s ++ r)) = true := by
        rw [List.isPrefixOf_iff_prefix] at hp ⊢
        intro h1
        apply hp
        have h2 : sub <+: (b :: s) ++ r := h1
        exact List.prefix_of_prefix_length_le h2 (List.prefix_append (b :: s) r) (by simp; omega)
      rw [if_neg hn, index_join r sub hs s h0]
theorem indexByte_join (b : List UInt8) : ∀ a : List UInt8, Lib.indexByte (a ++ 10 :: b) 10 = if 0 ≤ Lib.indexByte a 10 then Lib.indexByte a 10 else a.length
  | [] => by simp [Lib.indexByte]
  | c :: a => by
    have h1 := Lib.indexByte_ge a 10
    have ih := indexByte_join b a
    rw [List.cons_append]
    unfold Lib.indexByte
    by_cases hc : (c == 10) = true
    · simp only [hc, if_true]; simp
    · rw [if_neg hc, ih]
      by_cases h0 : 0 ≤ Lib.indexByte a 10
      · rw [if_pos h0]
        have h2 : (Lib.indexByte a 10 == -1) = false := by rw [beq_eq_false_iff_ne]; omega
        simp only [hc, h2, Bool.false_eq_true, if_false]
        rw [if_pos (by omega)]
      · rw [if_neg h0]
        have h2 : Lib.indexByte a 10 = -1 := by omega
        have h3 : ((a.length : Int) == -1) = false := by rw [beq_eq_false_iff_ne]; omega
        simp only [hc, h2, h3, Bool.false_eq_true, if_false, beq_self_eq_true, if_true]
        simp
theorem blank_line (c : UInt8) (l b : List UInt8) (h : (blankV (c :: l)).2 = true) : blankV (c :: l ++ 10 :: b) = blankV (c :: l) := by
  have hg : Gap (10 :: b) := .inr ⟨10, b, rfl, .inr (.inr rfl)⟩
  have e1 := hasP_join c l (10 :: b) hg 47 (.inl rfl)
  have e2 := hasP_join c l (10 :: b) hg 42 (.inr rfl)
  have e3 := indexByte_join b (c :: l)
  unfold blankV at h ⊢
  rw [e1, e2, e3]
  rw [show ((c :: l) ++ 10 :: b).headD 0 = (c :: l).headD 0 from rfl]
  by_cases h1 : [32, 9, 13, 10].contains ((c :: l).headD 0) = true
  · rw [if_pos h1, if_pos h1]
  · rw [if_neg h1] at h
    rw [if_neg h1, if_neg h1]
    by_cases h2 : Lib.hasPrefix (c :: l) [47, 47] = true
    · rw [if_pos h2, if_pos h2]
      congr 1
      by_cases h4 : 0 ≤ Lib.indexByte (c :: l) 10
      · rw [if_pos h4, if_pos h4]
      · rw [if_neg h4, if_pos (by omega)]
    · rw [if_neg h2] at h
      rw [if_neg h2, if_neg h2]
      by_cases h3 : Lib.hasPrefix (c :: l) [47, 42] = true
      · rw [if_pos h3] at h
        rw [if_pos h3, if_pos h3]
        have h5 : 0 ≤ Lib.index ((c :: l).drop 2) [42, 47] := by simpa using h
        have h6 := prefix_len (c :: l) [47, 42] h3
        have h7 : ((c :: l) ++ 10 :: b).drop 2 = (c :: l).drop 2 ++ 10 :: b := List.drop_append_of_le_length (by simpa using h6)
        rw [h7, index_join _ _ (by simp) _ h5]
      · rw [if_neg h3, if_neg h3]
theorem drop_join (l r : List UInt8) (n : Nat) (h : n ≤ l.length) : (l ++ r).drop n = l.drop n ++ r := List.drop_append_of_le_length h
theorem joinW (b : List UInt8) : ∀ (n : Nat) (a : List UInt8), a.length ≤ n → none ∉ wordsW a → wordsW (a ++ 10 :: b) = wordsW a ++ wordsW b
  | _, [], _, _ => by
    rw [List.nil_append, wordsW_nil, List.nil_append, wordsW_blank 10 b (by simp [blankV]) (by simp [blankV])]
    simp [blankV]
  | 0, _ :: _, h, _ => absurd h (by simp)
  | n + 1, c :: l, hn, h => by
    simp only [List.length_cons] at hn
    rcases wordsW_parts c l h with ⟨h1, h2⟩ | ⟨d, h1, h2⟩
    · obtain ⟨hlo, hhi⟩ := blank_low c l h1
      have hb := blank_line c l b h1
      rw [List.cons_append] at hb
      have e1 := wordsW_blank c l h1 h2
      have e2 := wordsW_blank c (l ++ 10 :: b) (by rw [hb]; exact h1) (by rw [hb]; exact h2)
      rw [hb, ← List.cons_append, drop_join _ _ _ (by omega)] at e2
      rw [e1] at h ⊢
      rw [e2]
      exact joinW b n _ (by rw [List.length_drop, List.length_cons]; omega) h
    · obtain ⟨w1, w2⟩ := word_low c l d h2
      have hg : Gap (10 :: b) := .inr ⟨10, b, rfl, .inr (.inr rfl)⟩
      have hb := blank_join c l (10 :: b) hg h1
      have hw := word_join c l (10 :: b) hg
      rw [List.cons_append] at hb hw
      have e1 := wordsW_word c l d h1 h2
      have e2 := wordsW_word c (l ++ 10 :: b) d hb (hw.trans h2)
      rw [← List.cons_append, drop_join _ _ _ w2] at e2
      rw [e1] at h ⊢
      rw [e2, List.cons_append, joinW b n _ (by rw [List.length_drop, List.length_cons]; omega) (fun hx => h (List.mem_cons_of_mem _ hx))]
/-- the law -/
theorem joins_law (a b : List UInt8) (ha : a.length ≤ 3000) (hb : b.length ≤ 3000) (h : wordsE a = 0) :
    wordsE (a ++ 10 :: b) = wordsE b ∧ (wordsE b = 0 → (wordsL (a ++ 10 :: b)).map It.d = (wordsL a).map It.d ++ (wordsL b).map It.d) := by
  have hn := wordsE_none a h
  have hj := joinW b a.length a (Nat.le_refl _) hn
  have hlen : (a ++ 10 :: b).length ≤ 65536 := by simp; omega
  have he : wordsE (a ++ 10 :: b) = wordsE b := by
    rw [wordsE_zero _ hlen, wordsE_zero b (by omega), hj]
    simp [hn]
  refine ⟨he, fun h0 => ?_⟩
  have e1 := words_bare _ (he.trans h0)
  rw [hj, ← words_bare a h, ← words_bare b h0, ← List.map_append] at e1
  have e2 := congrArg (List.filterMap id) e1
  have key : ∀ xs : List It, (xs.map (fun x => some x.d)).filterMap id = xs.map It.d := fun xs => by
    induction xs with
    | nil => rfl
    | cons x xs ih => simp [ih]
  rwa [key, key, List.map_append] at e2
theorem joins_fault (l : List UInt8) (h : l.length ≤ 65536) : wordsE l = 0 ∨ wordsE l = 3 := by
  rw [wordsE_zero l h]
  split
  · exact .inr rfl
  · exact .inl rfl
end Go.Proofs.YtjgpbpmicopemaaGreatDoor

/-
  Words, a gap ahead of each, are cut again as the same words; no program in sight.
-/
namespace Go.Proofs.YtjgpbpmicopemaaGreatDoor
open Go.RowKit

/-- what stands ahead of a word -/
def gaps : List (List UInt8) := [[32], [10], [9, 32], [32, 47, 42, 32, 120, 32, 42, 47], [32, 47, 47, 32, 121, 10]]
def gapG (k : Nat) : List UInt8 := match k % 5 with
  | 0 => [32]
  | 1 => [10]
  | 2 => [9, 32]
  | 3 => [32, 47, 42, 32, 120, 32, 42, 47]
  | _ => [32, 47, 47, 32, 121, 10]
def backS : Nat → List Wd → List UInt8
  | _, [] => []
  | k, d :: ds => gapG k ++ (d.t ++ backS (k + 1) ds)
theorem gapG_cases (k : Nat) : gapG k = [32] ∨ gapG k = [10] ∨ gapG k = [9, 32] ∨ gapG k = [32, 47, 42, 32, 120, 32, 42, 47] ∨ gapG k = [32, 47, 47, 32, 121, 10] := by
  unfold gapG
  split <;> simp
theorem gapG_len (k : Nat) : (gapG k).length ≤ 8 := by
  rcases gapG_cases k with h | h | h | h | h <;> rw [h] <;> decide
theorem gapG_gap (k : Nat) (m : List UInt8) : Gap (gapG k ++ m) := by
  rcases gapG_cases k with h | h | h | h | h <;> rw [h] <;> exact .inr ⟨_, _, rfl, by decide⟩
theorem backS_gap : ∀ (k : Nat) (ds : List Wd), Gap (backS k ds)
  | _, [] => .inl rfl
  | k, _ :: _ => gapG_gap k _
theorem skip1 (x : UInt8) (m : List UInt8) (hx : [32, 9, 13, 10].contains x = true) : wordsW (x :: m) = wordsW m := by
  have e : blankV (x :: m) = (1, true) := by
    unfold blankV
    rw [List.headD_cons, hx]
    rfl
  rw [wordsW_blank x m (by rw [e]) (by rw [e]; decide), e]
  rfl
theorem skip_gap (k : Nat) (m : List UInt8) : wordsW (gapG k ++ m) = wordsW m := by
  rcases gapG_cases k with h | h | h | h | h <;> rw [h]
  · exact skip1 _ _ (by decide)
  · exact skip1 _ _ (by decide)
  · show wordsW (9 :: 32 :: m) = _
    rw [skip1 _ _ (by decide), skip1 _ _ (by decide)]
  · show wordsW (32 :: 47 :: 42 :: 32 :: 120 :: 32 :: 42 :: 47 :: m) = _
    rw [skip1 _ _ (by decide)]
    have e : blankV (47 :: 42 :: 32 :: 120 :: 32 :: 42 :: 47 :: m) = (7, true) := by
      simp [blankV, Lib.hasPrefix, Lib.index, List.isPrefixOf]
    rw [wordsW_blank _ _ (by rw [e]) (by rw [e]; decide), e]
    rfl
  · show wordsW (32 :: 47 :: 47 :: 32 :: 121 :: 10 :: m) = _
    rw [skip1 _ _ (by decide)]
    have e : blankV (47 :: 47 :: 32 :: 121 :: 10 :: m) = (4, true) := by
      simp [blankV, Lib.hasPrefix, Lib.indexByte, List.isPrefixOf]
    rw [wordsW_blank _ _ (by rw [e]) (by rw [e]; decide), e]
    exact skip1 _ _ (by decide)
/-- a word that is cut as itself ahead of any gap -/
def Cut (d : Wd) : Prop := d.t ≠ [] ∧ ∀ r, Gap r → blankV (d.t ++ r) = (0, true) ∧ wordO (d.t ++ r) = some d
theorem tw_tw (p : UInt8 → Bool) : ∀ l : List UInt8, (l.takeWhile p).takeWhile p = l.takeWhile p
  | [] => rfl
  | c :: l => by
    rw [List.takeWhile_cons]
    cases h : p c
    · simp
    · simp only [if_true, List.takeWhile_cons, h]
      rw [tw_tw p l]
theorem take_nameN (l : List UInt8) : l.take (nameN l) = l.takeWhile goesC := (List.prefix_iff_eq_take.1 (List.takeWhile_prefix goesC)).symm
theorem nameN_take (l : List UInt8) : nameN (l.take (nameN l)) = nameN l := by
  rw [take_nameN]
  unfold nameN
  rw [tw_tw]
theorem starts_goes (c : UInt8) (h : startsC c = true) : goesC c = true := by
  show (startsI c.toNat || digitI c.toNat) = true
  have : startsI c.toNat = true := h
  rw [this]; rfl
theorem nameN_cons (c : UInt8) (l : List UInt8) : nameN (c :: l) = if goesC c = true then nameN l + 1 else 0 := by
  unfold nameN
  rw [List.takeWhile_cons]
  split <;> simp
theorem markN_take (c : UInt8) (l : List UInt8) (h : 0 < markN (c :: l)) : markN ((c :: l).take (markN (c :: l))) = markN (c :: l) := by
  unfold markN at h ⊢
  split
  · rename_i h1
    have h1' := h1
    rw [Bool.and_eq_true, decide_eq_true_eq] at h1
    have h2 : 2 ≤ ((c :: l).take 2).length := by rw [List.length_take]; omega
    rw [List.take_take, Nat.min_self, h1.2, decide_eq_true h2]
    rfl
  · rename_i h1
    rw [if_neg h1] at h
    split
    · rename_i h2
      rw [List.headD_cons] at h2
      show (if (decide (2 ≤ [c].length) && twos.contains [c]) = true then 2 else if ones.contains c = true then 1 else 0) = 1
      rw [h2]
      rfl
    · rename_i h2
      rw [if_neg h2] at h
      exact absurd h (by decide)
theorem hasP_take (l : List UInt8) (n : Nat) (x y : UInt8) (h : Lib.hasPrefix l [x, y] = false) : Lib.hasPrefix (l.take n) [x, y] = false := by
  cases h1 : Lib.hasPrefix (l.take n) [x, y]
  · rfl
  · have h2 : [x, y].isPrefixOf (l.take n) = true := h1
    have h3 : [x, y].isPrefixOf l = true := List.isPrefixOf_iff_prefix.2 ((List.isPrefixOf_iff_prefix.1 h2).trans (List.take_prefix n l))
    have h4 : Lib.hasPrefix l [x, y] = true := h3
    rw [h4] at h
    cases h
theorem word_self (c : UInt8) (l : List UInt8) (d : Wd) (h : wordO (c :: l) = some d) : wordO d.t = some d := by
  obtain ⟨w1, w2⟩ := word_low c l d h
  unfold wordO at h
  rw [List.headD_cons] at h
  split at h
  · rename_i hs
    have hg := starts_goes c hs
    split at h
    · rename_i hn
      injection h with h
      have ht : d.t = (c :: l).take (nameN (c :: l)) := by rw [← h]
      have e0 : d.t.headD 0 = c := by rw [ht, nameN_cons, if_pos hg]; rfl
      have e1 : nameN d.t = nameN (c :: l) := by rw [ht, nameN_take]
      have e2 : d.t.take (nameN (c :: l)) = d.t := by rw [ht, List.take_take, Nat.min_self]
      unfold wordO
      rw [e0, hs, e1, e2, if_pos rfl, if_pos hn, ← h]
    · cases h
  · rename_i hs
    split at h
    · rename_i hn
      have hg : goesC c = true := by
        rw [nameN_cons] at hn
        split at hn
        · assumption
        · omega
      cases hv : numV ((c :: l).take (nameN (c :: l))) with
      | none => rw [hv] at h; cases h
      | some v =>
        rw [hv] at h
        injection h with h
        have ht : d.t = (c :: l).take (nameN (c :: l)) := by rw [← h]
        have e0 : d.t.headD 0 = c := by rw [ht, nameN_cons, if_pos hg]; rfl
        have e1 : nameN d.t = nameN (c :: l) := by rw [ht, nameN_take]
        have e2 : d.t.take (nameN (c :: l)) = d.t := by rw [ht, List.take_take, Nat.min_self]
        unfold wordO
        rw [e0, if_neg hs, e1, e2, if_pos hn, ht, hv, ← h]
        rfl
    · rename_i hn
      have hg : goesC c = false := by
        rw [nameN_cons] at hn
        cases hc : goesC c
        · rfl
        · rw [hc] at hn; simp at hn
      split at h
      · rename_i hm
        injection h with h
        have ht : d.t = (c :: l).take (markN (c :: l)) := by rw [← h]
        obtain ⟨k, hk⟩ : ∃ k, markN (c :: l) = k + 1 := ⟨markN (c :: l) - 1, by omega⟩
        have e0 : d.t = c :: l.take k := by rw [ht, hk]; rfl
        have e1 : nameN d.t = 0 := by rw [e0, nameN_cons, if_neg (by rw [hg]; simp)]
        have e2 : markN d.t = markN (c :: l) := by rw [ht, markN_take c l hm]
        have e3 : d.t.take (markN (c :: l)) = d.t := by rw [ht, List.take_take, Nat.min_self]
        have e4 : d.t.headD 0 = c := by rw [e0]; rfl
        unfold wordO
        rw [e4, if_neg hs, e1, e2, e3, if_neg (by omega), if_pos hm, ← h]
      · cases h
theorem word_cut (c : UInt8) (l : List UInt8) (d : Wd) (hb : blankV (c :: l) = (0, true)) (h : wordO (c :: l) = some d) : Cut d := by
  obtain ⟨w1, w2⟩ := word_low c l d h
  have ht := word_text c l d h
  have hs := word_self c l d h
  obtain ⟨b1, b2, b3⟩ := (blank_zero c l).1 hb
  obtain ⟨k, hk⟩ : ∃ k, d.t.length = k + 1 := ⟨d.t.length - 1, by omega⟩
  have e0 : d.t = c :: l.take k := by rw [hk] at ht; exact ht
  have e2 := hasP_take (c :: l) d.t.length 47 47 b2
  have e3 := hasP_take (c :: l) d.t.length 47 42 b3
  rw [← ht, e0] at e2 e3
  rw [e0] at hs
  refine ⟨fun h => by rw [h] at w1; simp at w1, fun r hr => ?_⟩
  rw [e0]
  exact ⟨blank_join c (l.take k) r hr ((blank_zero c (l.take k)).2 ⟨b1, e2, e3⟩), (word_join c (l.take k) r hr).trans hs⟩
theorem cut_scan : ∀ (f : Nat) (l : List UInt8) (d : Wd), some d ∈ scanW f l → Cut d
  | 0, _, _, h => by simp [scanW] at h
  | _ + 1, [], _, h => by simp [scanW] at h
  | f + 1, c :: l, d, h => by
    rw [scanW_cons] at h
    split at h
    · simp at h
    · rename_i hb
      split at h
      · exact cut_scan f _ d h
      · rename_i hn
        have hbz : blankV (c :: l) = (0, true) := Prod.ext (by simpa using hn) (by simpa using hb)
        cases hw : wordO (c :: l) with
        | none => rw [hw] at h; simp at h
        | some u =>
          rw [hw] at h
          simp only at h
          rcases List.mem_cons.1 h with h1 | h1
          · injection h1 with h1
            subst h1
            exact word_cut c l d hbz hw
          · exact cut_scan f _ d h1
theorem cut_words (l : List UInt8) (h : wordsE l = 0) : ∀ d ∈ (wordsL l).map It.d, Cut d := by
  intro d hd
  obtain ⟨x, hx, rfl⟩ := List.mem_map.1 hd
  have e := words_bare l h
  refine cut_scan (l.length + 1) l x.d ?_
  show some x.d ∈ wordsW l
  rw [← e]
  exact List.mem_map.2 ⟨x, hx, rfl⟩
theorem backW : ∀ (ds : List Wd) (k : Nat), (∀ d ∈ ds, Cut d) → wordsW (backS k ds) = ds.map some
  | [], _, _ => rfl
  | d :: ds, k, h => by
    obtain ⟨hne, hc⟩ := h d (by simp)
    obtain ⟨h1, h2⟩ := hc (backS (k + 1) ds) (backS_gap _ _)
    show wordsW (gapG k ++ (d.t ++ backS (k + 1) ds)) = _
    rw [skip_gap]
    cases ht : d.t with
    | nil => exact absurd ht hne
    | cons c t =>
      rw [ht] at h1 h2
      rw [List.cons_append] at h1 h2 ⊢
      rw [wordsW_word c _ d h1 h2, ht, ← List.cons_append, List.drop_left, backW ds (k + 1) (fun u hu => h u (by simp [hu]))]
      rfl
theorem back_len (l : List UInt8) : ∀ (xs : List It) (k j : Nat), Stands l k xs → k ≤ l.length → (backS j (xs.map It.d)).length + 9 * k ≤ 9 * l.length
  | [], k, _, _, hk => by simp [backS]; omega
  | x :: xs, k, j, ⟨i, h1, h2, h3, h4, h5, h6⟩, _ => by
    have ih := back_len l xs (i + x.d.t.length) (j + 1) h6 h4
    have hg := gapG_len j
    simp only [List.map_cons, backS, List.length_append]
    omega
theorem map_some_inj : ∀ {xs ys : List Wd}, xs.map some = ys.map some → xs = ys
  | [], [], _ => rfl
  | [], _ :: _, h => by simp at h
  | _ :: _, [], h => by simp at h
  | x :: xs, y :: ys, h => by
    simp only [List.map_cons, List.cons.injEq, Option.some.injEq] at h
    rw [h.1, map_some_inj h.2]
/-- the law -/
theorem back_law (l : List UInt8) (j : Nat) (h : wordsE l = 0) (hl : l.length ≤ 5000) :
    (backS j ((wordsL l).map It.d)).length ≤ 45000 ∧ wordsE (backS j ((wordsL l).map It.d)) = 0 ∧ (wordsL (backS j ((wordsL l).map It.d))).map It.d = (wordsL l).map It.d := by
  have hlen := back_len l (wordsL l) 0 j (stands_words l h) (Nat.zero_le _)
  have hw := backW _ j (cut_words l h)
  have hle : (backS j ((wordsL l).map It.d)).length ≤ 45000 := by omega
  have he : wordsE (backS j ((wordsL l).map It.d)) = 0 := by
    rw [wordsE_zero _ (by omega), hw, if_neg]
    simp
  refine ⟨hle, he, ?_⟩
  have e1 := words_bare _ he
  rw [hw] at e1
  refine map_some_inj ?_
  rw [← e1, List.map_map]
  rfl
theorem backS_snoc : ∀ (ds : List Wd) (k : Nat) (d : Wd), backS k (ds ++ [d]) = backS k ds ++ (gapG (k + ds.length) ++ d.t)
  | [], k, d => by simp [backS]
  | u :: ds, k, d => by
    rw [List.cons_append]
    show gapG k ++ (u.t ++ backS (k + 1) (ds ++ [d])) = (gapG k ++ (u.t ++ backS (k + 1) ds)) ++ _
    rw [backS_snoc ds (k + 1) d, List.length_cons, show k + 1 + ds.length = k + (ds.length + 1) from by omega]
    simp only [List.append_assoc]
theorem backS_take (ds : List Wd) (k i : Nat) (h : i < ds.length) : backS k (ds.take (i + 1)) = backS k (ds.take i) ++ (gapG (k + i) ++ (ds[i]).t) := by
  rw [← List.take_append_getElem h, backS_snoc, List.length_take, Nat.min_eq_left (by omega)]
theorem backS_le : ∀ (ds : List Wd) (k i : Nat), (backS k (ds.take i)).length ≤ (backS k ds).length
  | [], _, _ => by simp [backS]
  | d :: ds, k, 0 => by simp [backS]
  | d :: ds, k, i + 1 => by
    have := backS_le ds (k + 1) i
    simp only [List.take_succ_cons, backS, List.length_append]
    omega
theorem gaps_get (k : Nat) (h : k % 5 < gaps.length) : gaps[k % 5] = gapG k := by
  have h5 : k % 5 < 5 := Nat.mod_lt _ (by decide)
  unfold gapG
  match hk : k % 5, h, h5 with
  | 0, _, _ => rfl
  | 1, _, _ => rfl
  | 2, _, _ => rfl
  | 3, _, _ => rfl
  | 4, _, _ => rfl
end Go.Proofs.YtjgpbpmicopemaaGreatDoor

/-
  What words have that are cut from a text: letters of seven bits, numbers of 64.
-/
namespace Go.Proofs.YtjgpbpmicopemaaGreatDoor
open Go.RowKit

theorem starts_low {c : UInt8} (h : startsC c = true) : c.toNat < 128 := by
  unfold startsC startsI at h
  simp only [Bool.or_eq_true, Bool.and_eq_true, decide_eq_true_eq] at h
  omega
theorem goes_low {c : UInt8} (h : goesC c = true) : c.toNat < 128 := by
  unfold goesC goesI startsI digitI at h
  simp only [Bool.or_eq_true, Bool.and_eq_true, decide_eq_true_eq] at h
  omega
theorem tw_mem (p : UInt8 → Bool) : ∀ (l : List UInt8) (c : UInt8), c ∈ l.takeWhile p → p c = true
  | [], c, h => by simp at h
  | x :: l, c, h => by
    rw [List.takeWhile_cons] at h
    split at h
    · rename_i hx
      rcases List.mem_cons.1 h with rfl | h
      · exact hx
      · exact tw_mem p l c h
    · simp at h
theorem name_low (l : List UInt8) : ∀ c ∈ l.take (nameN l), c.toNat < 128 := by
  rw [take_nameN]
  intro c hc
  exact goes_low (tw_mem goesC l c hc)
theorem twos_low : ∀ t ∈ twos, ∀ c ∈ t, c.toNat < 128 := by decide
theorem ones_low : ∀ c ∈ ones, c.toNat < 128 := by decide
theorem mark_low (l : List UInt8) (hl : l ≠ []) : ∀ c ∈ l.take (markN l), c.toNat < 128 := by
  unfold markN
  split
  · rename_i h
    simp only [Bool.and_eq_true, List.contains_iff_mem] at h
    exact twos_low _ h.2
  · split
    · rename_i h
      rw [List.contains_iff_mem] at h
      cases l with
      | nil => exact absurd rfl hl
      | cons x l =>
        intro c hc
        simp at hc
        subst hc
        exact ones_low _ (by simpa using h)
    · intro c hc; simp at hc
theorem dec_low {l : List UInt8} {v : Int} (h : decV l = some v) : -9223372036854775808 ≤ v ∧ v ≤ 9223372036854775807 := by
  unfold decV at h
  cases hp : Lib.parseIntB 64 l with
  | ok u =>
    rw [hp] at h
    cases h
    have := Lib.parseIntB_bounds hp
    have e : (2 : Nat) ^ (64 - 1) = 9223372036854775808 := by decide
    rw [e] at this
    omega
  | _ => rw [hp] at h; cases h
theorem hex_low {l : List UInt8} (h : (hexW l).isOk = true) : -9223372036854775808 ≤ (hexW l).val ∧ (hexW l).val ≤ 9223372036854775807 := by
  unfold hexW at h ⊢
  split
  · rename_i h0; rw [if_pos h0] at h; cases h
  · rename_i h0
    rw [if_neg h0] at h
    cases hr : hexR 0 l with
    | ok n =>
      have := hexR_low l 0 n (by omega) (by omega) hr
      show _ ≤ n ∧ n ≤ _
      omega
    | _ => rw [hr] at h; cases h
theorem numW_low {l : List UInt8} {v : Int} (h : numV l = some v) : -9223372036854775808 ≤ v ∧ v ≤ 9223372036854775807 := by
  unfold numV at h
  split at h
  · split at h
    · rename_i h1
      cases h
      simp only [Bool.and_eq_true] at h1
      exact hex_low h1.1
    · cases h
  · split at h
    · cases h
    · exact dec_low h
theorem word_low2 {l : List UInt8} {d : Wd} (hl : l ≠ []) (h : wordO l = some d) : (-9223372036854775808 ≤ d.n ∧ d.n ≤ 9223372036854775807) ∧ ∀ c ∈ d.t, c.toNat < 128 := by
  unfold wordO at h
  split at h
  · split at h
    · cases h; exact ⟨by simp only; omega, name_low l⟩
    · cases h
  · split at h
    · cases hv : numV (l.take (nameN l)) with
      | none => rw [hv] at h; cases h
      | some v => rw [hv] at h; cases h; exact ⟨numW_low hv, name_low l⟩
    · split at h
      · cases h; exact ⟨by simp only; omega, mark_low l hl⟩
      · cases h
theorem stands_text {l : List UInt8} : ∀ {xs : List It} {k : Nat}, Stands l k xs → ∀ x ∈ xs, x.d.t.length ≤ l.length
  | y :: xs, k, ⟨j, h1, h2, h3, h4, h5, h6⟩, x, hx => by
    rcases List.mem_cons.1 hx with rfl | hx
    · omega
    · exact stands_text h6 x hx
theorem okWs_words (l : List UInt8) (h : wordsE l = 0) : OkWs (wordsL l) := by
  obtain ⟨hl, -, -, -⟩ := words_ok l h
  have hs := stands_words l h
  have hlen := stands_len hs (Nat.zero_le _)
  refine ⟨by omega, fun x hx => ?_⟩
  obtain ⟨hne, hc⟩ := cut_words l h x.d (List.mem_map_of_mem hx)
  have hw := (hc [] (.inl rfl)).2
  rw [List.append_nil] at hw
  obtain ⟨⟨n1, n2⟩, ha⟩ := word_low2 hne hw
  exact ⟨n1, n2, Nat.le_trans (stands_text hs x hx) hl, ha⟩
end Go.Proofs.YtjgpbpmicopemaaGreatDoor

/-
  The examples' texts, reckoned.
-/
namespace Go.Proofs.YtjgpbpmicopemaaGreatDoor
open Go.RowKit

theorem okWs_all (l : List UInt8) : OkWs (wordsL l) := by
  by_cases h : wordsE l = 0
  · exact okWs_words l h
  · have : wordsL l = [] := by
      unfold wordsE at h
      unfold wordsL
      split
      · rfl
      · rename_i h1
        rw [if_neg h1] at h
        split
        · rfl
        · rename_i h2
          rw [if_neg h2] at h
          exact absurd rfl h
    rw [this]
    exact ⟨by simp, fun x hx => by cases hx⟩
/-- a text is a program of this text, these functions, more than three nodes -/
def runOk (t txt : Bs) (fns : List Bs) : Bool :=
  match programP fuelP (begS t) with
  | .ok pg s => !s.over && (textP pg == txt) && pg.items.all okI && (functionsP pg == fns) && decide (3 < pg.nodes) && decide (pg.items.length ≤ 10)
  | _ => false
def runBad (t : Bs) (p : Int × Int) : Bool :=
  match programP fuelP (begS t) with
  | .bad s => decide (posOf (nextP (1, 1) t) s.ws = p)
  | _ => false
theorem runOk_of {t txt : Bs} {fns : List Bs} (h : runOk t txt fns = true) : ∃ pg s, programP fuelP (begS t) = .ok pg s ∧ s.over = false ∧ textP pg = txt ∧ (∀ i ∈ pg.items, okI i = true) ∧ functionsP pg = fns ∧ 3 < pg.nodes ∧ pg.items.length ≤ 10 := by
  unfold runOk at h
  cases x : programP fuelP (begS t) with
  | out => rw [x] at h; cases h
  | bad s => rw [x] at h; cases h
  | ok pg s =>
    rw [x] at h
    simp only [Bool.and_eq_true, Bool.not_eq_true', beq_iff_eq, List.all_eq_true, decide_eq_true_eq] at h
    exact ⟨pg, s, rfl, h.1.1.1.1.1, h.1.1.1.1.2, h.1.1.1.2, h.1.1.2, h.1.2, h.2⟩
theorem runBad_of {t : Bs} {p : Int × Int} (h : runBad t p = true) : ∃ s, programP fuelP (begS t) = .bad s ∧ posOf (nextP (1, 1) t) s.ws = p := by
  unfold runBad at h
  cases x : programP fuelP (begS t) with
  | out => rw [x] at h; cases h
  | ok pg s => rw [x] at h; cases h
  | bad s => rw [x] at h; exact ⟨s, rfl, by simpa using h⟩
abbrev t1 : Bs := [105, 110, 116, 32, 102, 40, 105, 110, 116, 32, 97, 41, 123, 114, 101, 116, 117, 114, 110, 32, 97, 43, 50, 42, 51, 59, 125]
abbrev x1 : Bs := [105, 110, 116, 32, 102, 32, 40, 32, 105, 110, 116, 32, 97, 32, 41, 32, 123, 32, 114, 101, 116, 117, 114, 110, 32, 40, 32, 97, 32, 43, 32, 40, 32, 50, 32, 42, 32, 51, 32, 41, 32, 41, 32, 59, 32, 125]
abbrev t2 : Bs := [105, 110, 116, 32, 102, 40]
abbrev t3 : Bs := [105, 110, 116, 32, 120, 32, 64]
abbrev t4 : Bs := [115, 116, 114, 117, 99, 116, 32, 115, 123, 99, 104, 97, 114, 42, 97, 91, 51, 93, 59, 125, 59, 105, 110, 116, 32, 120, 59, 118, 111, 105, 100, 32, 102, 40, 112, 117, 98, 108, 105, 99, 32, 108, 111, 110, 103, 32, 98, 41, 123, 105, 102, 40, 120, 41, 105, 102, 40, 98, 41, 120, 61, 49, 59, 101, 108, 115, 101, 59, 125]
abbrev x4 : Bs := [115, 116, 114, 117, 99, 116, 32, 115, 32, 123, 32, 99, 104, 97, 114, 32, 42, 32, 97, 32, 91, 32, 51, 32, 93, 32, 59, 32, 125, 32, 59, 32, 105, 110, 116, 32, 120, 32, 59, 32, 118, 111, 105, 100, 32, 102, 32, 40, 32, 112, 117, 98, 108, 105, 99, 32, 108, 111, 110, 103, 32, 98, 32, 41, 32, 123, 32, 105, 102, 32, 40, 32, 120, 32, 41, 32, 123, 32, 105, 102, 32, 40, 32, 98, 32, 41, 32, 123, 32, 120, 32, 61, 32, 49, 32, 59, 32, 125, 32, 101, 108, 115, 101, 32, 123, 32, 59, 32, 125, 32, 125, 32, 125]
theorem run1 : runOk t1 x1 [[102]] = true := by kernel_rfl
theorem run2 : runBad t2 (1, 7) = true := by kernel_rfl
theorem run4 : runOk t4 x4 [[102]] = true := by kernel_rfl
theorem err1 : wordsE t1 = 0 := by kernel_rfl
theorem err2 : wordsE t2 = 0 := by kernel_rfl
theorem err3 : wordsE t3 = 3 ∧ wordsP t3 = (1, 7) := ⟨by kernel_rfl, by kernel_rfl⟩
theorem err4 : wordsE t4 = 0 := by kernel_rfl
end Go.Proofs.YtjgpbpmicopemaaGreatDoor

/-
  strings.Builder in this program: copyCheck, WriteString on a builder that the call has made.
-/
namespace Go.Proofs.YtjgpbpmicopemaaGreatDoor
open Go.RowKit Go.Lib
set_option maxRecDepth 20000

theorem infoBld : (Tryz.prog.info? 94).map (·.size) = some 2 := by kernel_rfl
theorem liesBld : liesAt Tryz.prog Tryz.prog.depth 94 (2 / Tryz.prog.cellsOf 94) 0 94 1 = true := by kernel_rfl
theorem infoByte : (Tryz.prog.info? 5).map (fun i => (i.zero, i.size, i.bytes)) = some (some (.int .u8 0), 1, 1) := by kernel_rfl

theorem copyCheck_used (b : Nat) (w : World) (h0 : w.cell? ⟨b, 0, none⟩ = some (.pointer (some ⟨b, 0, none⟩))) :
    Calls Tryz.prog 64 #[.pointer (some ⟨b, 0, none⟩)] w fun e w' => e = .returned (.tuple #[]) ∧ w' = w := by
  obtain ⟨j, hj, _⟩ := Option.map_eq_some_iff.1 infoBld
  go_enter Tryz.func64, Tryz.ntmps64
  go_wp2
  rw [Lib.run_neq_ptr_same w _ Tryz.underlying91 hj]
  go_wp2
  go_end0
  exact ⟨rfl, rfl⟩

theorem copyCheck_fresh (b : Nat) (w : World) (h0 : w.cell? ⟨b, 0, none⟩ = some (.pointer none)) (hsh : w.shape? b = some (94, 2)) (hfz : w.frozen? ⟨b, 0, none⟩ = false) :
    Calls Tryz.prog 64 #[.pointer (some ⟨b, 0, none⟩)] w fun e w' => e = .returned (.tuple #[]) ∧ w' = w.setCell ⟨b, 0, none⟩ (.pointer (some ⟨b, 0, none⟩)) := by
  obtain ⟨j, hj, hjs⟩ := Option.map_eq_some_iff.1 infoBld
  go_enter Tryz.func64, Tryz.ntmps64
  go_wp2
  rw [Lib.run_to_unsafe w ⟨b, 0, none⟩ Tryz.underlying91 Tryz.underlying144 hj (by rw [hjs]; decide) hsh (Nat.zero_lt_succ 1)]
  simp only [Result.andThen]
  rw [Oper.upon_value]
  go_wp2
  rw [run_callFunc_extern Tryz.func89 (by kernel_rfl) (by kernel_rfl) (by kernel_rfl) (e := Extern.AbiNoEscape.same) (by kernel_rfl)]
  rw [Lib.run_noEscape]
  simp only [Result.andThen]
  rw [Oper.upon_value]
  go_wp2
  rw [Lib.run_from_unsafe w ⟨b, 0, none⟩ Tryz.underlying144 Tryz.underlying91 hj hsh liesBld]
  simp only [Result.andThen]
  rw [Oper.upon_value]
  go_wp2
  go_end0
  exact ⟨rfl, rfl⟩

theorem own_kind {w : World} {B e n : Nat} {v : Value} {xs : List Value} (h : w.ownsRow B e 1 v n xs) : ∀ g, v.ownBlock = some g → ∃ c fz, w.heap[g]? = some (.cells c e fz) := by
  intro g hg
  rcases h.2 with ⟨rfl, _⟩ | ⟨g', cap, cur, rfl, _, hgg, _⟩
  · simp [Value.ownBlock] at hg
  · simp [Value.ownBlock] at hg
    subst hg
    exact ⟨cur, _, hgg⟩
theorem builderAt_iter {T e : TypeId} {B b : Nat} {p : Value} {bs : List Value} {w : World} (h : BuilderAt T e B b p bs w) {k : Nat} {s : ByteArray} {pos : Nat} (hk : w.heap[k]? = some (.stringIter s pos)) (pos' : Nat) :
    BuilderAt T e B b p bs (w.iterAt k s pos') := by
  obtain ⟨hB, v, hb, hown, hne⟩ := h
  have hkb : b ≠ k := by
    intro e1
    rw [e1, hk] at hb
    cases hb
  refine ⟨hB, v, (iterAt_other w k b s pos' hkb).trans hb, ⟨hown.1, ?_⟩, hne⟩
  rcases hown.2 with hn | ⟨g, cap, cur, hv, hbg, hg, rest⟩
  · exact .inl hn
  · have hkg : g ≠ k := by
      intro e1
      rw [e1, hk] at hg
      cases hg
    exact .inr ⟨g, cap, cur, hv, hbg, (iterAt_other w k g s pos' hkg).trans hg, rest⟩
theorem isBuilder_iter {T e : TypeId} {B b : Nat} {bs : List Value} {w : World} (h : IsBuilder T e B b bs w) {k : Nat} {s : ByteArray} {pos : Nat} (hk : w.heap[k]? = some (.stringIter s pos)) (pos' : Nat) :
    IsBuilder T e B b bs (w.iterAt k s pos') :=
  h.elim (fun x => .inl (builderAt_iter x hk pos')) (fun x => .inr (builderAt_iter x hk pos'))
theorem copyCheck_any (B b : Nat) (bs : List Value) (w : World) (h : Lib.IsBuilder 94 5 B b bs w) :
    Calls Tryz.prog 64 #[.pointer (some ⟨b, 0, none⟩)] w fun e w' => e = .returned (.tuple #[]) ∧ (Lib.BuilderAt 94 5 B b (.pointer (some ⟨b, 0, none⟩)) bs w' ∧ Below B w w' ∧ OthersKept 5 (some b) w w') := by
  rcases h with h | h
  · refine (copyCheck_fresh b w h.cell0 h.shape h.frozen0).mono ?_
    rintro e w' ⟨rfl, rfl⟩
    exact ⟨rfl, h.used _, (Below.refl B w).setCell (p := ⟨b, 0, none⟩) h.1 _, (OthersKept.refl _ _ _).setCell ⟨b, 0, none⟩ rfl _⟩
  · refine (copyCheck_used b w h.cell0).mono ?_
    rintro e w' ⟨rfl, rfl⟩
    exact ⟨rfl, h, Below.refl B _, OthersKept.refl _ _ _⟩

set_option maxHeartbeats 2000000 in
set_option maxRecDepth 100000 in
theorem write_any (B b : Nat) (bs : List Value) (s : ByteArray) (w : World) (h : Lib.IsBuilder 94 5 B b bs w) (hlen : bs.length + s.size ≤ 140737488355328) (hBw : B ≤ w.heap.size) :
    Calls Tryz.prog 38 #[.pointer (some ⟨b, 0, none⟩), .string s] w fun e w' => e = .returned (.tuple #[.int .i64 s.size, .nilIface]) ∧ (Lib.BuilderAt 94 5 B b (.pointer (some ⟨b, 0, none⟩)) (bs ++ Lib.strCells s) w' ∧ Below B w w' ∧ OthersKept 5 (some b) w w') := by
  obtain ⟨i0, hi, hz0, hz1, hz2⟩ := info_parts infoByte
  go_enter Tryz.func38, Tryz.ntmps38
  go_wp2_with (go_at_call 64; refine (copyCheck_any B b bs _ h).mono ?_)
  rintro e w1 ⟨rfl, h1, hb1, ho1⟩
  obtain ⟨hB, v, hbk, hown, hne⟩ := h1
  have c0 : w1.cell? ⟨b, 0, none⟩ = some (.pointer (some ⟨b, 0, none⟩)) := by rw [Lib.cell_of_heap hbk]; rfl
  have c1 : w1.cell? ⟨b, 1, none⟩ = some v := by rw [Lib.cell_of_heap hbk]; rfl
  go_wp2_with (at_builtin; refine Lib.wpList_append_own_string _ rfl _ _ 92 9 rfl B 5 i0 Tryz.underlying92 Tryz.underlying9 hi hz0 hz1 hz2 _ _ _ rfl hown s rfl ?c3 ?c4 ?c5 ?_)
  case c3 => unfold maxLen; omega
  case c4 => omega
  case c5 => have := hb1.size; omega
  intro v' w2 hown' hgrow _
  have hlt : b < w1.heap.size := by
    rcases Nat.lt_or_ge b w1.heap.size with h' | h'
    · exact h'
    · simp [Array.getElem?_eq_none h'] at hbk
  have hb2 : w2.heap[b]? = some (.cells #[.pointer (some ⟨b, 0, none⟩), v] 94 (0, 0)) := by
    rw [hgrow.block b hlt (fun e => hne e.symm)]
    exact hbk
  have d0 : w2.cell? ⟨b, 0, none⟩ = some (.pointer (some ⟨b, 0, none⟩)) := by rw [Lib.cell_of_heap hb2]; rfl
  have d1 : w2.cell? ⟨b, 1, none⟩ = some v := by rw [Lib.cell_of_heap hb2]; rfl
  have f1 : w2.frozen? ⟨b, 1, none⟩ = false := Lib.frozen_of_heap hb2 1
  obtain ⟨ao, n', cap, rfl⟩ : ∃ ao n' cap, v' = .slice ao n' cap := by
    rcases hown'.2 with ⟨hv, _⟩ | ⟨g, cap, cur, hv, _⟩
    · exact ⟨_, _, _, hv⟩
    · exact ⟨_, _, _, hv⟩
  go_wp2
  go_ret2
  refine ⟨rfl, ?_, ?_, (ho1.grown hgrow (own_kind hown)).setCell ⟨b, 1, none⟩ rfl _⟩
  · exact Lib.BuilderAt.put (T := 94) (e := 5) hB hb2 (bs' := bs ++ Lib.strCells s) (by simpa [Lib.strCells_length] using hown') (by decide)
  · exact (hb1.grown hgrow (by have := hb1.size; omega) (fun k hk => (hown.lt k hk).1)).setCell (p := ⟨b, 1, none⟩) hB _
set_option maxHeartbeats 2000000 in
set_option maxRecDepth 100000 in
theorem rune_any (B b : Nat) (bs : List Value) (x : UInt8) (hx : x.toNat < 128) (w : World) (h : Lib.IsBuilder 94 5 B b bs w) (hlen : bs.length + 4 ≤ 140737488355328) (hBw : B ≤ w.heap.size) :
    Calls Tryz.prog 61 #[.pointer (some ⟨b, 0, none⟩), .int .i32 x.toNat] w fun e w' => (∃ v, e = .returned v) ∧ (Lib.BuilderAt 94 5 B b (.pointer (some ⟨b, 0, none⟩)) (bs ++ [.int .u8 x.toNat]) w' ∧ Below B w w' ∧ OthersKept 5 (some b) w w') := by
  have hcr : Lib.runeCells (x.toNat : Int) = [.int .u8 x.toNat] := by unfold Lib.runeCells; rw [Lib.encodeRuneZ_one (by omega) (by omega)]; rfl
  go_enter Tryz.func61, Tryz.ntmps61
  go_wp2_with (go_at_call 64; refine (copyCheck_any B b bs _ h).mono ?_)
  rintro e w1 ⟨rfl, h1, hb1, ho1⟩
  obtain ⟨hB, v, hbk, hown, hne⟩ := h1
  have c0 : w1.cell? ⟨b, 0, none⟩ = some (.pointer (some ⟨b, 0, none⟩)) := by rw [Lib.cell_of_heap hbk]; rfl
  have c1 : w1.cell? ⟨b, 1, none⟩ = some v := by rw [Lib.cell_of_heap hbk]; rfl
  have hlt : b < w1.heap.size := by
    rcases Nat.lt_or_ge b w1.heap.size with h' | h'
    · exact h'
    · simp [Array.getElem?_eq_none h'] at hbk
  obtain ⟨ao, n, cap, rfl⟩ : ∃ ao n cap, v = .slice ao n cap := by
    rcases hown.2 with ⟨hv, _⟩ | ⟨g, cap, cur, hv, _⟩
    · exact ⟨_, _, _, hv⟩
    · exact ⟨_, _, _, hv⟩
  have C := Tryz.utf8_AppendRune_plain B (.slice ao n cap) bs.length bs x.toNat (by omega) (by omega) w1 hown hlen (by have := hb1.size; omega)
  rw [hcr] at C
  go_wp2_with fail
  refine C.mono ?_
  rintro e w2 ⟨v', rfl, hown', o, hgrow⟩
  have hb2 : w2.heap[b]? = some (.cells #[.pointer (some ⟨b, 0, none⟩), .slice ao n cap] 94 (0, 0)) := by
    rw [hgrow.block b (by simp; omega) (fun e => hne e.symm)]
    exact at_alloc hbk o
  have d0 : w2.cell? ⟨b, 0, none⟩ = some (.pointer (some ⟨b, 0, none⟩)) := by rw [Lib.cell_of_heap hb2]; rfl
  have d1 : w2.cell? ⟨b, 1, none⟩ = some (.slice ao n cap) := by rw [Lib.cell_of_heap hb2]; rfl
  have f1 : w2.frozen? ⟨b, 1, none⟩ = false := Lib.frozen_of_heap hb2 1
  obtain ⟨ao', n', cap', rfl⟩ : ∃ ao n' cap, v' = .slice ao n' cap := by
    rcases hown'.2 with ⟨hv, _⟩ | ⟨g, cap, cur, hv, _⟩
    · exact ⟨_, _, _, hv⟩
    · exact ⟨_, _, _, hv⟩
  go_wp2_with fail
  go_ret2
  refine ⟨⟨_, rfl⟩, ?_, ?_, ((ho1.alloc o).grown hgrow (fun g hg => ?_)).setCell ⟨b, 1, none⟩ rfl _⟩
  · exact Lib.BuilderAt.put (T := 94) (e := 5) hB hb2 (bs' := bs ++ [.int .u8 x.toNat]) (by simpa using hown') (by decide)
  · exact ((hb1.alloc (by have := hb1.size; omega) o).grown hgrow (by have := hb1.size; simp; omega) (fun k hk => (hown.lt k hk).1)).setCell (p := ⟨b, 1, none⟩) hB _
  · obtain ⟨c, fz, hc⟩ := own_kind hown g hg
    exact ⟨c, fz, at_alloc hc o⟩
end Go.Proofs.YtjgpbpmicopemaaGreatDoor
