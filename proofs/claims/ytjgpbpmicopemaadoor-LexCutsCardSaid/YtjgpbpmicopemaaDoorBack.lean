/-
  Words, a gap ahead of each, are cut again as the same words; no program in sight.
-/
import Derived.Test.YtjgpbpmicopemaaDoorJoins
namespace Go.Proofs.YtjgpbpmicopemaaDoor
open Go.RowKit

/-- what stands ahead of a word -/
def gaps : List (List UInt8) := [[32], [10], [9, 32], [32, 47, 42, 32, 120, 32, 42, 47], [32, 47, 47, 32, 121, 10]]
def gapG (k : Nat) : List UInt8 := match k % 5 with
  | 0 => [32]
  | 1 => [10]
  | 2 => [9, 32]
  | 3 => [32, 47, 42, 32, 120, 32, 42, 47]
  | _ => [32, 47, 47, 32, 121, 10]
def backS : Nat → List Wd → List UInt8
  | _, [] => []
  | k, d :: ds => gapG k ++ (d.t ++ backS (k + 1) ds)
theorem gapG_cases (k : Nat) : gapG k = [32] ∨ gapG k = [10] ∨ gapG k = [9, 32] ∨ gapG k = [32, 47, 42, 32, 120, 32, 42, 47] ∨ gapG k = [32, 47, 47, 32, 121, 10] := by
  unfold gapG
  split <;> simp
theorem gapG_len (k : Nat) : (gapG k).length ≤ 8 := by
  rcases gapG_cases k with h | h | h | h | h <;> rw [h] <;> decide
theorem gapG_gap (k : Nat) (m : List UInt8) : Gap (gapG k ++ m) := by
  rcases gapG_cases k with h | h | h | h | h <;> rw [h] <;> exact .inr ⟨_, _, rfl, by decide⟩
theorem backS_gap : ∀ (k : Nat) (ds : List Wd), Gap (backS k ds)
  | _, [] => .inl rfl
  | k, _ :: _ => gapG_gap k _
theorem skip1 (x : UInt8) (m : List UInt8) (hx : [32, 9, 13, 10].contains x = true) : wordsW (x :: m) = wordsW m := by
  have e : blankV (x :: m) = (1, true) := by
    unfold blankV
    rw [List.headD_cons, hx]
    rfl
  rw [wordsW_blank x m (by rw [e]) (by rw [e]; decide), e]
  rfl
theorem skip_gap (k : Nat) (m : List UInt8) : wordsW (gapG k ++ m) = wordsW m := by
  rcases gapG_cases k with h | h | h | h | h <;> rw [h]
  · exact skip1 _ _ (by decide)
  · exact skip1 _ _ (by decide)
  · show wordsW (9 :: 32 :: m) = _
    rw [skip1 _ _ (by decide), skip1 _ _ (by decide)]
  · show wordsW (32 :: 47 :: 42 :: 32 :: 120 :: 32 :: 42 :: 47 :: m) = _
    rw [skip1 _ _ (by decide)]
    have e : blankV (47 :: 42 :: 32 :: 120 :: 32 :: 42 :: 47 :: m) = (7, true) := by
      simp [blankV, Lib.hasPrefix, Lib.index, List.isPrefixOf]
    rw [wordsW_blank _ _ (by rw [e]) (by rw [e]; decide), e]
    rfl
  · show wordsW (32 :: 47 :: 47 :: 32 :: 121 :: 10 :: m) = _
    rw [skip1 _ _ (by decide)]
    have e : blankV (47 :: 47 :: 32 :: 121 :: 10 :: m) = (4, true) := by
      simp [blankV, Lib.hasPrefix, Lib.indexByte, List.isPrefixOf]
    rw [wordsW_blank _ _ (by rw [e]) (by rw [e]; decide), e]
    exact skip1 _ _ (by decide)
/-- a word that is cut as itself ahead of any gap -/
def Cut (d : Wd) : Prop := d.t ≠ [] ∧ ∀ r, Gap r → blankV (d.t ++ r) = (0, true) ∧ wordO (d.t ++ r) = some d
theorem tw_tw (p : UInt8 → Bool) : ∀ l : List UInt8, (l.takeWhile p).takeWhile p = l.takeWhile p
  | [] => rfl
  | c :: l => by
    rw [List.takeWhile_cons]
    cases h : p c
    · simp
    · simp only [if_true, List.takeWhile_cons, h]
      rw [tw_tw p l]
theorem take_nameN (l : List UInt8) : l.take (nameN l) = l.takeWhile goesC := (List.prefix_iff_eq_take.1 (List.takeWhile_prefix goesC)).symm
theorem nameN_take (l : List UInt8) : nameN (l.take (nameN l)) = nameN l := by
  rw [take_nameN]
  unfold nameN
  rw [tw_tw]
theorem starts_goes (c : UInt8) (h : startsC c = true) : goesC c = true := by
  show (startsI c.toNat || digitI c.toNat) = true
  have : startsI c.toNat = true := h
  rw [this]; rfl
theorem nameN_cons (c : UInt8) (l : List UInt8) : nameN (c :: l) = if goesC c = true then nameN l + 1 else 0 := by
  unfold nameN
  rw [List.takeWhile_cons]
  split <;> simp
theorem markN_take (c : UInt8) (l : List UInt8) (h : 0 < markN (c :: l)) : markN ((c :: l).take (markN (c :: l))) = markN (c :: l) := by
  unfold markN at h ⊢
  split
  · rename_i h1
    have h1' := h1
    rw [Bool.and_eq_true, decide_eq_true_eq] at h1
    have h2 : 2 ≤ ((c :: l).take 2).length := by rw [List.length_take]; omega
    rw [List.take_take, Nat.min_self, h1.2, decide_eq_true h2]
    rfl
  · rename_i h1
    rw [if_neg h1] at h
    split
    · rename_i h2
      rw [List.headD_cons] at h2
      show (if (decide (2 ≤ [c].length) && twos.contains [c]) = true then 2 else if ones.contains c = true then 1 else 0) = 1
      rw [h2]
      rfl
    · rename_i h2
      rw [if_neg h2] at h
      exact absurd h (by decide)
theorem hasP_take (l : List UInt8) (n : Nat) (x y : UInt8) (h : Lib.hasPrefix l [x, y] = false) : Lib.hasPrefix (l.take n) [x, y] = false := by
  cases h1 : Lib.hasPrefix (l.take n) [x, y]
  · rfl
  · have h2 : [x, y].isPrefixOf (l.take n) = true := h1
    have h3 : [x, y].isPrefixOf l = true := List.isPrefixOf_iff_prefix.2 ((List.isPrefixOf_iff_prefix.1 h2).trans (List.take_prefix n l))
    have h4 : Lib.hasPrefix l [x, y] = true := h3
    rw [h4] at h
    cases h
theorem word_self (c : UInt8) (l : List UInt8) (d : Wd) (h : wordO (c :: l) = some d) : wordO d.t = some d := by
  obtain ⟨w1, w2⟩ := word_low c l d h
  unfold wordO at h
  rw [List.headD_cons] at h
  split at h
  · rename_i hs
    have hg := starts_goes c hs
    split at h
    · rename_i hn
      injection h with h
      have ht : d.t = (c :: l).take (nameN (c :: l)) := by rw [← h]
      have e0 : d.t.headD 0 = c := by rw [ht, nameN_cons, if_pos hg]; rfl
      have e1 : nameN d.t = nameN (c :: l) := by rw [ht, nameN_take]
      have e2 : d.t.take (nameN (c :: l)) = d.t := by rw [ht, List.take_take, Nat.min_self]
      unfold wordO
      rw [e0, hs, e1, e2, if_pos rfl, if_pos hn, ← h]
    · cases h
  · rename_i hs
    split at h
    · rename_i hn
      have hg : goesC c = true := by
        rw [nameN_cons] at hn
        split at hn
        · assumption
        · omega
      cases hv : numV ((c :: l).take (nameN (c :: l))) with
      | none => rw [hv] at h; cases h
      | some v =>
        rw [hv] at h
        injection h with h
        have ht : d.t = (c :: l).take (nameN (c :: l)) := by rw [← h]
        have e0 : d.t.headD 0 = c := by rw [ht, nameN_cons, if_pos hg]; rfl
        have e1 : nameN d.t = nameN (c :: l) := by rw [ht, nameN_take]
        have e2 : d.t.take (nameN (c :: l)) = d.t := by rw [ht, List.take_take, Nat.min_self]
        unfold wordO
        rw [e0, if_neg hs, e1, e2, if_pos hn, ht, hv, ← h]
        rfl
    · rename_i hn
      have hg : goesC c = false := by
        rw [nameN_cons] at hn
        cases hc : goesC c
        · rfl
        · rw [hc] at hn; simp at hn
      split at h
      · rename_i hm
        injection h with h
        have ht : d.t = (c :: l).take (markN (c :: l)) := by rw [← h]
        obtain ⟨k, hk⟩ : ∃ k, markN (c :: l) = k + 1 := ⟨markN (c :: l) - 1, by omega⟩
        have e0 : d.t = c :: l.take k := by rw [ht, hk]; rfl
        have e1 : nameN d.t = 0 := by rw [e0, nameN_cons, if_neg (by rw [hg]; simp)]
        have e2 : markN d.t = markN (c :: l) := by rw [ht, markN_take c l hm]
        have e3 : d.t.take (markN (c :: l)) = d.t := by rw [ht, List.take_take, Nat.min_self]
        have e4 : d.t.headD 0 = c := by rw [e0]; rfl
        unfold wordO
        rw [e4, if_neg hs, e1, e2, e3, if_neg (by omega), if_pos hm, ← h]
      · cases h
theorem word_cut (c : UInt8) (l : List UInt8) (d : Wd) (hb : blankV (c :: l) = (0, true)) (h : wordO (c :: l) = some d) : Cut d := by
  obtain ⟨w1, w2⟩ := word_low c l d h
  have ht := word_text c l d h
  have hs := word_self c l d h
  obtain ⟨b1, b2, b3⟩ := (blank_zero c l).1 hb
  obtain ⟨k, hk⟩ : ∃ k, d.t.length = k + 1 := ⟨d.t.length - 1, by omega⟩
  have e0 : d.t = c :: l.take k := by rw [hk] at ht; exact ht
  have e2 := hasP_take (c :: l) d.t.length 47 47 b2
  have e3 := hasP_take (c :: l) d.t.length 47 42 b3
  rw [← ht, e0] at e2 e3
  rw [e0] at hs
  refine ⟨fun h => by rw [h] at w1; simp at w1, fun r hr => ?_⟩
  rw [e0]
  exact ⟨blank_join c (l.take k) r hr ((blank_zero c (l.take k)).2 ⟨b1, e2, e3⟩), (word_join c (l.take k) r hr).trans hs⟩
theorem cut_scan : ∀ (f : Nat) (l : List UInt8) (d : Wd), some d ∈ scanW f l → Cut d
  | 0, _, _, h => by simp [scanW] at h
  | _ + 1, [], _, h => by simp [scanW] at h
  | f + 1, c :: l, d, h => by
    rw [scanW_cons] at h
    split at h
    · simp at h
    · rename_i hb
      split at h
      · exact cut_scan f _ d h
      · rename_i hn
        have hbz : blankV (c :: l) = (0, true) := Prod.ext (by simpa using hn) (by simpa using hb)
        cases hw : wordO (c :: l) with
        | none => rw [hw] at h; simp at h
        | some u =>
          rw [hw] at h
          simp only at h
          rcases List.mem_cons.1 h with h1 | h1
          · injection h1 with h1
            subst h1
            exact word_cut c l d hbz hw
          · exact cut_scan f _ d h1
theorem cut_words (l : List UInt8) (h : wordsE l = 0) : ∀ d ∈ (wordsL l).map It.d, Cut d := by
  intro d hd
  obtain ⟨x, hx, rfl⟩ := List.mem_map.1 hd
  have e := words_bare l h
  refine cut_scan (l.length + 1) l x.d ?_
  show some x.d ∈ wordsW l
  rw [← e]
  exact List.mem_map.2 ⟨x, hx, rfl⟩
theorem backW : ∀ (ds : List Wd) (k : Nat), (∀ d ∈ ds, Cut d) → wordsW (backS k ds) = ds.map some
  | [], _, _ => rfl
  | d :: ds, k, h => by
    obtain ⟨hne, hc⟩ := h d (by simp)
    obtain ⟨h1, h2⟩ := hc (backS (k + 1) ds) (backS_gap _ _)
    show wordsW (gapG k ++ (d.t ++ backS (k + 1) ds)) = _
    rw [skip_gap]
    cases ht : d.t with
    | nil => exact absurd ht hne
    | cons c t =>
      rw [ht] at h1 h2
      rw [List.cons_append] at h1 h2 ⊢
      rw [wordsW_word c _ d h1 h2, ht, ← List.cons_append, List.drop_left, backW ds (k + 1) (fun u hu => h u (by simp [hu]))]
      rfl
theorem back_len (l : List UInt8) : ∀ (xs : List It) (k j : Nat), Stands l k xs → k ≤ l.length → (backS j (xs.map It.d)).length + 9 * k ≤ 9 * l.length
  | [], k, _, _, hk => by simp [backS]; omega
  | x :: xs, k, j, ⟨i, h1, h2, h3, h4, h5, h6⟩, _ => by
    have ih := back_len l xs (i + x.d.t.length) (j + 1) h6 h4
    have hg := gapG_len j
    simp only [List.map_cons, backS, List.length_append]
    omega
theorem map_some_inj : ∀ {xs ys : List Wd}, xs.map some = ys.map some → xs = ys
  | [], [], _ => rfl
  | [], _ :: _, h => by simp at h
  | _ :: _, [], h => by simp at h
  | x :: xs, y :: ys, h => by
    simp only [List.map_cons, List.cons.injEq, Option.some.injEq] at h
    rw [h.1, map_some_inj h.2]
/-- the law -/
theorem back_law (l : List UInt8) (j : Nat) (h : wordsE l = 0) (hl : l.length ≤ 5000) :
    (backS j ((wordsL l).map It.d)).length ≤ 45000 ∧ wordsE (backS j ((wordsL l).map It.d)) = 0 ∧ (wordsL (backS j ((wordsL l).map It.d))).map It.d = (wordsL l).map It.d := by
  have hlen := back_len l (wordsL l) 0 j (stands_words l h) (Nat.zero_le _)
  have hw := backW _ j (cut_words l h)
  have hle : (backS j ((wordsL l).map It.d)).length ≤ 45000 := by omega
  have he : wordsE (backS j ((wordsL l).map It.d)) = 0 := by
    rw [wordsE_zero _ (by omega), hw, if_neg]
    simp
  refine ⟨hle, he, ?_⟩
  have e1 := words_bare _ he
  rw [hw] at e1
  refine map_some_inj ?_
  rw [← e1, List.map_map]
  rfl
theorem backS_snoc : ∀ (ds : List Wd) (k : Nat) (d : Wd), backS k (ds ++ [d]) = backS k ds ++ (gapG (k + ds.length) ++ d.t)
  | [], k, d => by simp [backS]
  | u :: ds, k, d => by
    rw [List.cons_append]
    show gapG k ++ (u.t ++ backS (k + 1) (ds ++ [d])) = (gapG k ++ (u.t ++ backS (k + 1) ds)) ++ _
    rw [backS_snoc ds (k + 1) d, List.length_cons, show k + 1 + ds.length = k + (ds.length + 1) from by omega]
    simp only [List.append_assoc]
theorem backS_take (ds : List Wd) (k i : Nat) (h : i < ds.length) : backS k (ds.take (i + 1)) = backS k (ds.take i) ++ (gapG (k + i) ++ (ds[i]).t) := by
  rw [← List.take_append_getElem h, backS_snoc, List.length_take, Nat.min_eq_left (by omega)]
theorem backS_le : ∀ (ds : List Wd) (k i : Nat), (backS k (ds.take i)).length ≤ (backS k ds).length
  | [], _, _ => by simp [backS]
  | d :: ds, k, 0 => by simp [backS]
  | d :: ds, k, i + 1 => by
    have := backS_le ds (k + 1) i
    simp only [List.take_succ_cons, backS, List.length_append]
    omega
theorem gaps_get (k : Nat) (h : k % 5 < gaps.length) : gaps[k % 5] = gapG k := by
  have h5 : k % 5 < 5 := Nat.mod_lt _ (by decide)
  unfold gapG
  match hk : k % 5, h, h5 with
  | 0, _, _ => rfl
  | 1, _, _ => rfl
  | 2, _, _ => rfl
  | 3, _, _ => rfl
  | 4, _, _ => rfl
end Go.Proofs.YtjgpbpmicopemaaDoor
