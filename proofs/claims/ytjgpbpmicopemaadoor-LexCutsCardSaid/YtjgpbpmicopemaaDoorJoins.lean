/-
  Two texts, a line between: their words; no program in sight.
-/
import Derived.Test.YtjgpbpmicopemaaDoorLaws
namespace Go.Proofs.YtjgpbpmicopemaaDoor
open Go.RowKit

theorem bare_words (l : List UInt8) : (scanL l).map It.bare = wordsW l := scanF_bare _ _ _
theorem fault_iff (l : List UInt8) : (faultO l).isSome = true ↔ none ∈ wordsW l := by
  rw [← bare_words]
  unfold faultO
  rw [List.find?_isSome]
  simp only [List.mem_map]
  constructor
  · rintro ⟨x, hx, hb⟩
    exact ⟨x, hx, by simp [It.bare, hb]⟩
  · rintro ⟨x, hx, hb⟩
    refine ⟨x, hx, ?_⟩
    cases h : x.bad
    · simp [It.bare, h] at hb
    · rfl
theorem wordsE_zero (l : List UInt8) (hl : l.length ≤ 65536) : wordsE l = if none ∈ wordsW l then 3 else 0 := by
  unfold wordsE
  rw [if_neg (by omega)]
  by_cases h : none ∈ wordsW l
  · rw [if_pos ((fault_iff l).2 h), if_pos h]
  · rw [if_neg (fun h' => h ((fault_iff l).1 h')), if_neg h]
theorem wordsE_none (l : List UInt8) (h : wordsE l = 0) : none ∉ wordsW l := by
  obtain ⟨-, h2, -, -⟩ := words_ok l h
  intro hn
  rw [(fault_iff l).2 hn] at h2
  cases h2
theorem words_bare (l : List UInt8) (h : wordsE l = 0) : (wordsL l).map (fun x => some x.d) = wordsW l := by
  obtain ⟨-, -, h2, h3⟩ := words_ok l h
  rw [← bare_words, h2]
  refine List.map_congr_left fun x hx => ?_
  simp [It.bare, h3 x hx]
theorem index_join (r sub : List UInt8) (hs : sub ≠ []) : ∀ s : List UInt8, 0 ≤ Lib.index s sub → Lib.index (s ++ r) sub = Lib.index s sub
  | [], h => by
    cases sub with
    | nil => exact absurd rfl hs
    | cons x sub => simp [Lib.index] at h
  | b :: s, h => by
    have hge := Lib.index_ge s sub
    rw [List.cons_append]
    unfold Lib.index at h ⊢
    by_cases hp : sub.isPrefixOf (b :: s) = true
    · rw [if_pos hp]
      have : sub.isPrefixOf (b :: (s ++ r)) = true := by
        rw [List.isPrefixOf_iff_prefix] at hp ⊢
        exact hp.trans (List.prefix_append (b :: s) r)
      rw [if_pos this]
    · rw [if_neg hp] at h ⊢
      have h0 : 0 ≤ Lib.index s sub := by
        split at h
        · simp at h
        · rename_i h1; simp at h1; omega
      have hl : sub.length ≤ s.length := by
        rcases Lib.index_spec s sub with ⟨h4, -⟩ | ⟨i, h4, h5, h6, -⟩
        · omega
        · have : sub.isPrefixOf (s.drop i) = true := h6
          have := (List.isPrefixOf_iff_prefix.1 this).length_le
          rw [List.length_drop] at this
          omega
      have hn : ¬ sub.isPrefixOf (b :: (s ++ r)) = true := by
        rw [List.isPrefixOf_iff_prefix] at hp ⊢
        intro h1
        apply hp
        have h2 : sub <+: (b :: s) ++ r := h1
        exact List.prefix_of_prefix_length_le h2 (List.prefix_append (b :: s) r) (by simp; omega)
      rw [if_neg hn, index_join r sub hs s h0]
theorem indexByte_join (b : List UInt8) : ∀ a : List UInt8, Lib.indexByte (a ++ 10 :: b) 10 = if 0 ≤ Lib.indexByte a 10 then Lib.indexByte a 10 else a.length
  | [] => by simp [Lib.indexByte]
  | c :: a => by
    have h1 := Lib.indexByte_ge a 10
    have ih := indexByte_join b a
    rw [List.cons_append]
    unfold Lib.indexByte
    by_cases hc : (c == 10) = true
    · simp only [hc, if_true]; simp
    · rw [if_neg hc, ih]
      by_cases h0 : 0 ≤ Lib.indexByte a 10
      · rw [if_pos h0]
        have h2 : (Lib.indexByte a 10 == -1) = false := by rw [beq_eq_false_iff_ne]; omega
        simp only [hc, h2, Bool.false_eq_true, if_false]
        rw [if_pos (by omega)]
      · rw [if_neg h0]
        have h2 : Lib.indexByte a 10 = -1 := by omega
        have h3 : ((a.length : Int) == -1) = false := by rw [beq_eq_false_iff_ne]; omega
        simp only [hc, h2, h3, Bool.false_eq_true, if_false, beq_self_eq_true, if_true]
        simp
theorem blank_line (c : UInt8) (l b : List UInt8) (h : (blankV (c :: l)).2 = true) : blankV (c :: l ++ 10 :: b) = blankV (c :: l) := by
  have hg : Gap (10 :: b) := .inr ⟨10, b, rfl, .inr (.inr rfl)⟩
  have e1 := hasP_join c l (10 :: b) hg 47 (.inl rfl)
  have e2 := hasP_join c l (10 :: b) hg 42 (.inr rfl)
  have e3 := indexByte_join b (c :: l)
  unfold blankV at h ⊢
  rw [e1, e2, e3]
  rw [show ((c :: l) ++ 10 :: b).headD 0 = (c :: l).headD 0 from rfl]
  by_cases h1 : [32, 9, 13, 10].contains ((c :: l).headD 0) = true
  · rw [if_pos h1, if_pos h1]
  · rw [if_neg h1] at h
    rw [if_neg h1, if_neg h1]
    by_cases h2 : Lib.hasPrefix (c :: l) [47, 47] = true
    · rw [if_pos h2, if_pos h2]
      congr 1
      by_cases h4 : 0 ≤ Lib.indexByte (c :: l) 10
      · rw [if_pos h4, if_pos h4]
      · rw [if_neg h4, if_pos (by omega)]
    · rw [if_neg h2] at h
      rw [if_neg h2, if_neg h2]
      by_cases h3 : Lib.hasPrefix (c :: l) [47, 42] = true
      · rw [if_pos h3] at h
        rw [if_pos h3, if_pos h3]
        have h5 : 0 ≤ Lib.index ((c :: l).drop 2) [42, 47] := by simpa using h
        have h6 := prefix_len (c :: l) [47, 42] h3
        have h7 : ((c :: l) ++ 10 :: b).drop 2 = (c :: l).drop 2 ++ 10 :: b := List.drop_append_of_le_length (by simpa using h6)
        rw [h7, index_join _ _ (by simp) _ h5]
      · rw [if_neg h3, if_neg h3]
theorem drop_join (l r : List UInt8) (n : Nat) (h : n ≤ l.length) : (l ++ r).drop n = l.drop n ++ r := List.drop_append_of_le_length h
theorem joinW (b : List UInt8) : ∀ (n : Nat) (a : List UInt8), a.length ≤ n → none ∉ wordsW a → wordsW (a ++ 10 :: b) = wordsW a ++ wordsW b
  | _, [], _, _ => by
    rw [List.nil_append, wordsW_nil, List.nil_append, wordsW_blank 10 b (by simp [blankV]) (by simp [blankV])]
    simp [blankV]
  | 0, _ :: _, h, _ => absurd h (by simp)
  | n + 1, c :: l, hn, h => by
    simp only [List.length_cons] at hn
    rcases wordsW_parts c l h with ⟨h1, h2⟩ | ⟨d, h1, h2⟩
    · obtain ⟨hlo, hhi⟩ := blank_low c l h1
      have hb := blank_line c l b h1
      rw [List.cons_append] at hb
      have e1 := wordsW_blank c l h1 h2
      have e2 := wordsW_blank c (l ++ 10 :: b) (by rw [hb]; exact h1) (by rw [hb]; exact h2)
      rw [hb, ← List.cons_append, drop_join _ _ _ (by omega)] at e2
      rw [e1] at h ⊢
      rw [e2]
      exact joinW b n _ (by rw [List.length_drop, List.length_cons]; omega) h
    · obtain ⟨w1, w2⟩ := word_low c l d h2
      have hg : Gap (10 :: b) := .inr ⟨10, b, rfl, .inr (.inr rfl)⟩
      have hb := blank_join c l (10 :: b) hg h1
      have hw := word_join c l (10 :: b) hg
      rw [List.cons_append] at hb hw
      have e1 := wordsW_word c l d h1 h2
      have e2 := wordsW_word c (l ++ 10 :: b) d hb (hw.trans h2)
      rw [← List.cons_append, drop_join _ _ _ w2] at e2
      rw [e1] at h ⊢
      rw [e2, List.cons_append, joinW b n _ (by rw [List.length_drop, List.length_cons]; omega) (fun hx => h (List.mem_cons_of_mem _ hx))]
/-- the law -/
theorem joins_law (a b : List UInt8) (ha : a.length ≤ 3000) (hb : b.length ≤ 3000) (h : wordsE a = 0) :
    wordsE (a ++ 10 :: b) = wordsE b ∧ (wordsE b = 0 → (wordsL (a ++ 10 :: b)).map It.d = (wordsL a).map It.d ++ (wordsL b).map It.d) := by
  have hn := wordsE_none a h
  have hj := joinW b a.length a (Nat.le_refl _) hn
  have hlen : (a ++ 10 :: b).length ≤ 65536 := by simp; omega
  have he : wordsE (a ++ 10 :: b) = wordsE b := by
    rw [wordsE_zero _ hlen, wordsE_zero b (by omega), hj]
    simp [hn]
  refine ⟨he, fun h0 => ?_⟩
  have e1 := words_bare _ (he.trans h0)
  rw [hj, ← words_bare a h, ← words_bare b h0, ← List.map_append] at e1
  have e2 := congrArg (List.filterMap id) e1
  have key : ∀ xs : List It, (xs.map (fun x => some x.d)).filterMap id = xs.map It.d := fun xs => by
    induction xs with
    | nil => rfl
    | cons x xs ih => simp [ih]
  rwa [key, key, List.map_append] at e2
theorem joins_fault (l : List UInt8) (h : l.length ≤ 65536) : wordsE l = 0 ∨ wordsE l = 3 := by
  rw [wordsE_zero l h]
  split
  · exact .inr rfl
  · exact .inl rfl
end Go.Proofs.YtjgpbpmicopemaaDoor
