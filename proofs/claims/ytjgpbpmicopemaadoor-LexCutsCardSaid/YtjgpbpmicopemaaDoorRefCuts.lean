/-
  A text cut byte by byte: each step is one of the words' own; no program in sight.
-/
import Derived.Test.YtjgpbpmicopemaaDoorLaws
namespace Go.Proofs.YtjgpbpmicopemaaDoor
open Go.RowKit

/-- the words reached at a byte -/
def Rs (s : List UInt8) (i : Nat) (pre : List It) : Prop :=
  i ≤ s.length ∧ (∀ x ∈ pre, x.bad = false) ∧ ∃ f, s.length - i < f ∧ scanL s = pre ++ scanF f (nextP (1, 1) (s.take i)) (s.drop i)
theorem Rs.start (s : List UInt8) : Rs s 0 [] := ⟨Nat.zero_le _, by simp, s.length + 1, by omega, rfl⟩
theorem Rs.over {s : List UInt8} {pre : List It} (h : Rs s s.length pre) : goods s = pre ∧ faultO s = none := by
  obtain ⟨-, h2, f, h3, h4⟩ := h
  obtain ⟨f, rfl⟩ : ∃ g, f = g + 1 := ⟨f - 1, by omega⟩
  rw [List.drop_length] at h4
  have h5 : scanL s = pre := by rw [h4]; simp [scanF]
  have := goods_all s (by rw [h5]; exact h2)
  exact ⟨this.1.trans h5, this.2⟩
theorem Rs.unf {s : List UInt8} {i : Nat} {pre : List It} (h : Rs s i pre) (hi : i < s.length) : ∃ f, s.length - i < f + 1 ∧ scanL s = pre ++ (if (blankV (s.drop i)).2 = false then [itBad (nextP (1, 1) (s.take i))]
    else if (blankV (s.drop i)).1 ≠ 0 then scanF f (nextP (nextP (1, 1) (s.take i)) ((s.drop i).take (blankV (s.drop i)).1.toNat)) ((s.drop i).drop (blankV (s.drop i)).1.toNat)
    else match wordO (s.drop i) with
      | none => [itBad (nextP (1, 1) (s.take i))]
      | some d => ⟨d, nextP (1, 1) (s.take i), false⟩ :: scanF f (nextP (nextP (1, 1) (s.take i)) ((s.drop i).take d.t.length)) ((s.drop i).drop d.t.length)) := by
  obtain ⟨-, h2, f, h3, h4⟩ := h
  obtain ⟨f, rfl⟩ : ∃ g, f = g + 1 := ⟨f - 1, by omega⟩
  refine ⟨f, h3, ?_⟩
  rw [h4]
  congr 1
  rw [List.drop_eq_getElem_cons hi]
  rfl
theorem pos_add (s : List UInt8) (i k : Nat) : nextP (nextP (1, 1) (s.take i)) ((s.drop i).take k) = nextP (1, 1) (s.take (i + k)) := by
  rw [← nextP_append, ← List.take_add]
theorem Rs.skip {s : List UInt8} {i k : Nat} {pre : List It} (h : Rs s i pre) (hi : i < s.length) (hb : blankV (s.drop i) = ((k : Int), true)) (hk : 1 ≤ k) : i + k ≤ s.length ∧ Rs s (i + k) pre := by
  obtain ⟨f, h3, h4⟩ := h.unf hi
  have hle : i + k ≤ s.length := by
    have e := List.drop_eq_getElem_cons hi
    have := (blank_low s[i] (s.drop (i + 1)) (by rw [← e, hb])).2
    rw [← e, hb, List.length_drop] at this
    simp only at this
    omega
  rw [hb, if_neg (by simp), if_pos (by show (k : Int) ≠ 0; omega), Int.toNat_natCast, pos_add, List.drop_drop] at h4
  exact ⟨hle, hle, h.2.1, f, by omega, h4⟩
theorem Rs.open {s : List UInt8} {i : Nat} {pre : List It} (h : Rs s i pre) (hi : i < s.length) (hb : (blankV (s.drop i)).2 = false) : goods s = pre ∧ faultO s = some (itBad (nextP (1, 1) (s.take i))) := by
  obtain ⟨f, h3, h4⟩ := h.unf hi
  rw [if_pos hb] at h4
  exact goods_some s pre [] (itBad (nextP (1, 1) (s.take i))) (by rw [h4]; simp) h.2.1 rfl
theorem Rs.none {s : List UInt8} {i : Nat} {pre : List It} (h : Rs s i pre) (hi : i < s.length) (hb : blankV (s.drop i) = (0, true)) (hw : wordO (s.drop i) = none) : goods s = pre ∧ faultO s = some (itBad (nextP (1, 1) (s.take i))) := by
  obtain ⟨f, h3, h4⟩ := h.unf hi
  rw [hb, if_neg (by simp), if_neg (by simp), hw] at h4
  exact goods_some s pre [] (itBad (nextP (1, 1) (s.take i))) (by rw [h4]; simp) h.2.1 rfl
theorem Rs.word {s : List UInt8} {i : Nat} {pre : List It} {d : Wd} (h : Rs s i pre) (hi : i < s.length) (hb : blankV (s.drop i) = (0, true)) (hw : wordO (s.drop i) = some d) :
    i + d.t.length ≤ s.length ∧ 1 ≤ d.t.length ∧ Rs s (i + d.t.length) (pre ++ [⟨d, nextP (1, 1) (s.take i), false⟩]) := by
  obtain ⟨f, h3, h4⟩ := h.unf hi
  have e := List.drop_eq_getElem_cons hi
  have hlow := word_low s[i] (s.drop (i + 1)) d (by rw [← e, hw])
  rw [← e, List.length_drop] at hlow
  have hle : i + d.t.length ≤ s.length := by omega
  rw [hb, if_neg (by simp), if_neg (by simp), hw] at h4
  simp only at h4
  rw [pos_add, List.drop_drop] at h4
  refine ⟨hle, hlow.1, hle, ?_, f, by omega, by rw [h4]; simp⟩
  intro x hx
  rcases List.mem_append.1 hx with hx | hx
  · exact h.2.1 x hx
  · rw [List.mem_singleton.1 hx]
/-! ### blanks and remarks -/
theorem hp2 {s : List UInt8} {i : Nat} (hi : i < s.length) (x y : UInt8) : Lib.hasPrefix (s.drop i) [x, y] = true ↔ s[i] = x ∧ ∃ h1 : i + 1 < s.length, s[i + 1] = y := by
  rw [List.drop_eq_getElem_cons hi]
  by_cases h1 : i + 1 < s.length
  · rw [List.drop_eq_getElem_cons h1]
    simp only [Lib.hasPrefix, List.isPrefixOf, Bool.and_true, Bool.and_eq_true, beq_iff_eq]
    exact ⟨fun h => ⟨h.1.symm, h1, h.2.symm⟩, fun ⟨h, _, h'⟩ => ⟨h.symm, h'.symm⟩⟩
  · rw [List.drop_eq_nil_of_le (show s.length ≤ i + 1 by omega)]
    simp [Lib.hasPrefix, List.isPrefixOf, h1]
theorem ws_blank {s : List UInt8} {i : Nat} (hi : i < s.length) (h : [32, 9, 13, 10].contains s[i] = true) : blankV (s.drop i) = (((1 : Nat) : Int), true) := by
  rw [List.drop_eq_getElem_cons hi]
  unfold blankV
  rw [List.headD_cons, if_pos h]
  rfl
/-- how many bytes to a line's end -/
def lineN (s : List UInt8) (i : Nat) : Nat := ((s.drop i).takeWhile (· != 10)).length
theorem lineN_index : ∀ m : List UInt8, (if 0 ≤ Lib.indexByte m 10 then Lib.indexByte m 10 else (m.length : Int)) = ((m.takeWhile (· != 10)).length : Nat)
  | [] => rfl
  | c :: m => by
    have ih := lineN_index m
    have h1 := Lib.indexByte_ge m 10
    rw [List.takeWhile_cons]
    by_cases hc : c = 10
    · subst hc
      simp [Lib.indexByte]
    · have h2 : (c == 10) = false := beq_eq_false_iff_ne.2 hc
      have h3 : (c != 10) = true := by simp [bne, h2]
      have e : Lib.indexByte (c :: m) 10 = if Lib.indexByte m 10 = -1 then -1 else Lib.indexByte m 10 + 1 := by
        show (if (c == 10) = true then (0 : Int) else if (Lib.indexByte m 10 == -1) = true then -1 else Lib.indexByte m 10 + 1) = _
        rw [h2]
        simp
      rw [e, h3]
      simp only [if_true, List.length_cons]
      by_cases h0 : 0 ≤ Lib.indexByte m 10
      · rw [if_pos h0] at ih
        rw [if_neg (show ¬ Lib.indexByte m 10 = -1 by omega), if_pos (by omega)]
        omega
      · rw [if_neg h0] at ih
        rw [if_pos (show Lib.indexByte m 10 = -1 by omega), if_neg (by omega)]
        omega
theorem line_blank {s : List UInt8} {i : Nat} (hi : i < s.length) (h0 : s[i] = 47) (h1 : i + 1 < s.length) (h2 : s[i + 1] = 47) : blankV (s.drop i) = (((lineN s i : Nat) : Int), true) ∧ 1 ≤ lineN s i := by
  have hp := (hp2 hi 47 47).2 ⟨h0, h1, h2⟩
  have e := List.drop_eq_getElem_cons hi
  have hh : (s.drop i).headD 0 = 47 := by rw [e, h0]; rfl
  refine ⟨?_, ?_⟩
  · unfold blankV lineN
    rw [hh, if_neg (by decide), if_pos hp, lineN_index]
  · unfold lineN
    rw [e, h0, List.takeWhile_cons]
    simp
theorem lineN_le (s : List UInt8) (i : Nat) (hi : i ≤ s.length) : i + lineN s i ≤ s.length := by
  have := (List.takeWhile_sublist (· != 10) (l := s.drop i)).length_le
  rw [List.length_drop] at this
  unfold lineN
  omega
theorem lineN_go {s : List UInt8} {i n : Nat} (hn : n ≤ lineN s i) (h : i + n < s.length) (hc : s[i + n] ≠ 10) : n + 1 ≤ lineN s i := by
  rcases Nat.lt_or_eq_of_le hn with h1 | h1
  · exact h1
  · exfalso
    have hl : ((s.drop i).takeWhile (· != 10)).length < (s.drop i).length := by
      rw [List.length_drop]
      unfold lineN at h1
      omega
    have := tw_at (· != 10) (s.drop i) hl
    unfold lineN at h1
    simp only [← h1, List.getElem_drop] at this
    simp at this
    exact hc this
theorem lineN_stop {s : List UInt8} {i n : Nat} (hn : n ≤ lineN s i) (h : i + n < s.length) (hc : s[i + n] = 10) : lineN s i = n := by
  rcases Nat.lt_or_eq_of_le hn with h1 | h1
  · have := tw_before (· != 10) (s.drop i) n (by rw [List.length_drop]; omega) h1
    rw [List.getElem_drop, hc] at this
    simp at this
  · exact h1.symm
theorem lineN_end {s : List UInt8} {i n : Nat} (hi : i ≤ s.length) (hn : n ≤ lineN s i) (h : ¬ i + n < s.length) : lineN s i = n := by
  have := lineN_le s i hi
  omega
/-- no remark's end ahead -/
def NoEnd (s : List UInt8) (i n : Nat) : Prop := ∀ j, j + 3 < n → (h : i + j + 3 < s.length) → ¬ (s[i + j + 2] = 42 ∧ s[i + j + 3] = 47)
theorem occ_iff {s : List UInt8} {i j : Nat} (h : i + j + 3 < s.length) : Lib.occAt ((s.drop i).drop 2) [42, 47] j = true ↔ (s[i + j + 2] = 42 ∧ s[i + j + 3] = 47) := by
  have e : Lib.occAt ((s.drop i).drop 2) [42, 47] j = Lib.hasPrefix (s.drop (i + j + 2)) [42, 47] := by
    unfold Lib.occAt Lib.hasPrefix
    rw [List.drop_drop, List.drop_drop, show i + (2 + j) = i + j + 2 from by omega]
  rw [e, hp2 (by omega)]
  exact ⟨fun ⟨a, _, b⟩ => ⟨a, b⟩, fun ⟨a, b⟩ => ⟨a, h, b⟩⟩
theorem occ_room {s : List UInt8} {i j : Nat} (h : Lib.occAt ((s.drop i).drop 2) [42, 47] j = true) : i + j + 3 < s.length := by
  unfold Lib.occAt at h
  have := (List.isPrefixOf_iff_prefix.1 h).length_le
  rw [List.drop_drop, List.drop_drop, List.length_drop] at this
  simp at this
  omega
theorem star_head {s : List UInt8} {i : Nat} (hi : i < s.length) (h0 : s[i] = 47) (h1 : i + 1 < s.length) (h2 : s[i + 1] = 42) :
    blankV (s.drop i) = (Lib.index ((s.drop i).drop 2) [42, 47] + 4, decide (0 ≤ Lib.index ((s.drop i).drop 2) [42, 47])) := by
  have hp := (hp2 hi 47 42).2 ⟨h0, h1, h2⟩
  have hp' : Lib.hasPrefix (s.drop i) [47, 47] = false := by
    cases h : Lib.hasPrefix (s.drop i) [47, 47]
    · rfl
    · obtain ⟨-, _, h3⟩ := (hp2 hi 47 47).1 h
      rw [h2] at h3
      exact absurd h3 (by decide)
  have hh : (s.drop i).headD 0 = 47 := by rw [List.drop_eq_getElem_cons hi, h0]; rfl
  unfold blankV
  rw [hh, if_neg (by decide), hp', if_neg (by simp), if_pos hp]
theorem star_open {s : List UInt8} {i : Nat} (hi : i < s.length) (h0 : s[i] = 47) (h1 : i + 1 < s.length) (h2 : s[i + 1] = 42) (hn : NoEnd s i (s.length - i)) : (blankV (s.drop i)).2 = false := by
  rw [star_head hi h0 h1 h2]
  show decide _ = false
  rw [decide_eq_false_iff_not]
  rcases Lib.index_spec ((s.drop i).drop 2) [42, 47] with ⟨h, -⟩ | ⟨j, -, -, h, -⟩
  · omega
  · have hr := occ_room h
    exact absurd ((occ_iff hr).1 h) (hn j (by omega) hr)
theorem star_shut {s : List UInt8} {i n : Nat} (hi : i < s.length) (h0 : s[i] = 47) (h1 : i + 1 < s.length) (h2 : s[i + 1] = 42) (hn : NoEnd s i n) (h3 : 3 ≤ n) (h4 : i + n < s.length) (h5 : s[i + n] = 47) (h6 : s[i + n - 1]'(by omega) = 42) :
    blankV (s.drop i) = (((n + 1 : Nat) : Int), true) := by
  rw [star_head hi h0 h1 h2]
  obtain ⟨j, rfl⟩ : ∃ j, n = j + 3 := ⟨n - 3, by omega⟩
  have hoc : Lib.occAt ((s.drop i).drop 2) [42, 47] j = true := (occ_iff h4).2 ⟨h6, h5⟩
  have e : Lib.index ((s.drop i).drop 2) [42, 47] = j := by
    rcases Lib.index_spec ((s.drop i).drop 2) [42, 47] with ⟨-, h⟩ | ⟨k, e, h7, h8, h9⟩
    · have := h j (by rw [List.drop_drop, List.length_drop]; omega)
      rw [hoc] at this
      cases this
    · rw [e]
      rcases Nat.lt_trichotomy k j with h | h | h
      · have hr := occ_room h8
        exact absurd ((occ_iff hr).1 h8) (hn k (by omega) hr)
      · rw [h]
      · have := h9 j h
        rw [hoc] at this
        cases this
  rw [e]
  refine Prod.ext ?_ ?_
  · show (j : Int) + 4 = _
    omega
  · exact decide_eq_true (show (0 : Int) ≤ j by omega)
theorem NoEnd.start (s : List UInt8) (i : Nat) : NoEnd s i 2 := fun j h => absurd h (by omega)
theorem NoEnd.go {s : List UInt8} {i n : Nat} (h : NoEnd s i n) (hn : i + n < s.length) (hc : n < 3 ∨ s[i + n] ≠ 47 ∨ s[i + n - 1]'(by omega) ≠ 42) : NoEnd s i (n + 1) := by
  intro j hj hr
  rcases Nat.lt_or_eq_of_le (show j + 3 ≤ n by omega) with h1 | h1
  · exact h j h1 hr
  · subst h1
    rintro ⟨a, b⟩
    rcases hc with hc | hc | hc
    · omega
    · exact hc b
    · exact hc a
/-- none of the blanks -/
theorem no_blank {s : List UInt8} {i : Nat} (hi : i < s.length) (h1 : [32, 9, 13, 10].contains s[i] = false) (h2 : ¬ (s[i] = 47 ∧ ∃ h1 : i + 1 < s.length, s[i + 1] = 47)) (h3 : ¬ (s[i] = 47 ∧ ∃ h1 : i + 1 < s.length, s[i + 1] = 42)) : blankV (s.drop i) = (0, true) := by
  have a2 := fun h => h2 ((hp2 hi 47 47).1 h)
  have a3 := fun h => h3 ((hp2 hi 47 42).1 h)
  rw [List.drop_eq_getElem_cons hi] at a2 a3 ⊢
  exact (blank_zero _ _).2 ⟨h1, by simpa using a2, by simpa using a3⟩
end Go.Proofs.YtjgpbpmicopemaaDoor
