/-
  The places of the words: where each word stands; no program in sight.
-/
import Derived.Test.YtjgpbpmicopemaaDoorWords
namespace Go.Proofs.YtjgpbpmicopemaaDoor
open Go.RowKit

/-- the words stand in the text, each behind the one ahead of it, from a byte on -/
def Stands (l : List UInt8) : Nat → List It → Prop
  | _, [] => True
  | k, x :: xs => ∃ j, k ≤ j ∧ x.p = nextP (1, 1) (l.take j) ∧ 1 ≤ x.d.t.length ∧ j + x.d.t.length ≤ l.length ∧ x.d.t = (l.drop j).take x.d.t.length ∧ Stands l (j + x.d.t.length) xs
theorem Stands.less {l : List UInt8} : ∀ {xs : List It} {k m : Nat}, Stands l k xs → m ≤ k → Stands l m xs
  | [], _, _, _, _ => trivial
  | _ :: _, _, _, ⟨j, h1, h2⟩, hm => ⟨j, Nat.le_trans hm h1, h2⟩
theorem stands_len {l : List UInt8} : ∀ {xs : List It} {k : Nat}, Stands l k xs → k ≤ l.length → k + xs.length ≤ l.length
  | [], _, _, hk => by simpa using hk
  | x :: xs, k, ⟨j, h1, h2, h3, h4, h5, h6⟩, _ => by
    have := stands_len h6 h4
    simp only [List.length_cons]
    omega
theorem word_text (c : UInt8) (l : List UInt8) (d : Wd) (h : wordO (c :: l) = some d) : d.t = (c :: l).take d.t.length := by
  unfold wordO at h
  split at h
  · split at h
    · injection h with h
      subst h
      show (c :: l).take _ = (c :: l).take ((c :: l).take _).length
      rw [List.length_take, Nat.min_eq_left (nameN_le _)]
    · cases h
  · split at h
    · cases hv : numV ((c :: l).take (nameN (c :: l))) with
      | none => rw [hv] at h; cases h
      | some v =>
        rw [hv] at h
        injection h with h
        subst h
        show (c :: l).take _ = (c :: l).take ((c :: l).take _).length
        rw [List.length_take, Nat.min_eq_left (nameN_le _)]
    · split at h
      · injection h with h
        subst h
        show (c :: l).take _ = (c :: l).take ((c :: l).take _).length
        rw [List.length_take, ← List.take_take, List.take_length]
      · cases h
theorem stands_scan (l : List UInt8) : ∀ (f k : Nat), k ≤ l.length → (∀ x ∈ scanF f (nextP (1, 1) (l.take k)) (l.drop k), x.bad = false) → Stands l k (scanF f (nextP (1, 1) (l.take k)) (l.drop k))
  | 0, _, _, _ => trivial
  | f + 1, k, hk, h => by
    cases hd : l.drop k with
    | nil => exact trivial
    | cons c r =>
      have hlen : (l.drop k).length = (c :: r).length := by rw [hd]
      rw [List.length_drop] at hlen
      rw [hd] at h
      have go : ∀ n : Nat, n ≤ (c :: r).length → nextP (nextP (1, 1) (l.take k)) ((c :: r).take n) = nextP (1, 1) (l.take (k + n)) ∧ (c :: r).drop n = l.drop (k + n) := fun n _ => by
        rw [← hd, ← nextP_append, ← List.take_add, List.drop_drop]
        exact ⟨rfl, rfl⟩
      unfold scanF at h ⊢
      split at h
      · exact absurd (h (itBad _) (List.mem_singleton_self _)) (by simp [itBad])
      · rename_i hb
        rw [if_neg hb]
        have hb' : (blankV (c :: r)).2 = true := by simpa using hb
        obtain ⟨hlo, hhi⟩ := blank_low c r hb'
        split at h
        · rename_i hn
          rw [if_pos hn]
          have hle : (blankV (c :: r)).1.toNat ≤ (c :: r).length := by omega
          obtain ⟨e1, e2⟩ := go _ hle
          rw [e1, e2] at h ⊢
          exact (stands_scan l f (k + (blankV (c :: r)).1.toNat) (by omega) h).less (by omega)
        · rename_i hn
          rw [if_neg hn]
          cases hw : wordO (c :: r) with
          | none => rw [hw] at h; exact absurd (h (itBad _) (List.mem_singleton_self _)) (by simp [itBad])
          | some d =>
            rw [hw] at h
            obtain ⟨w1, w2⟩ := word_low c r d hw
            obtain ⟨e1, e2⟩ := go _ w2
            simp only at h ⊢
            rw [e1, e2] at h ⊢
            exact ⟨k, Nat.le_refl _, rfl, w1, by show k + d.t.length ≤ _; omega, by rw [hd]; exact word_text c r d hw, stands_scan l f (k + d.t.length) (by omega) (fun x hx => h x (by simp [hx]))⟩
theorem goods_scan (l : List UInt8) (h : (faultO l).isSome = false) : goods l = scanL l ∧ ∀ x ∈ scanL l, x.bad = false := by
  have h1 : ∀ x ∈ scanL l, x.bad = false := by
    unfold faultO at h
    intro x hx
    have := List.find?_eq_none.1 (Option.not_isSome_iff_eq_none.1 (by rw [h]; simp)) x hx
    simpa using this
  exact ⟨(goods_all l h1).1, h1⟩
theorem words_ok (l : List UInt8) (h : wordsE l = 0) : l.length ≤ 65536 ∧ (faultO l).isSome = false ∧ wordsL l = scanL l ∧ ∀ x ∈ scanL l, x.bad = false := by
  unfold wordsE at h
  split at h
  · cases h
  · rename_i h1
    split at h
    · cases h
    · rename_i h2
      have h2' : (faultO l).isSome = false := by simpa using h2
      unfold wordsL
      rw [if_neg h1, if_neg h2]
      exact ⟨by omega, h2', (goods_scan l h2').1, (goods_scan l h2').2⟩
theorem stands_words (l : List UInt8) (h : wordsE l = 0) : Stands l 0 (wordsL l) := by
  obtain ⟨-, -, h2, h3⟩ := words_ok l h
  rw [h2]
  have := stands_scan l (l.length + 1) 0 (Nat.zero_le _)
  exact this h3
/-- places rise -/
def Ahead (p q : Int × Int) : Prop := p.1 < q.1 ∨ p.1 = q.1 ∧ p.2 < q.2
theorem ahead_step (p : Int × Int) (c : UInt8) : Ahead p (if c = 10 then (p.1 + 1, 1) else (p.1, p.2 + 1)) := by
  unfold Ahead
  split
  · left; show p.1 < p.1 + 1; omega
  · right; exact ⟨rfl, by show p.2 < p.2 + 1; omega⟩
theorem ahead_trans {p q r : Int × Int} (h : Ahead p q) (g : Ahead q r) : Ahead p r := by
  unfold Ahead at *
  omega
theorem ahead_pos (l : List UInt8) (i : Nat) : ∀ n, i + n + 1 ≤ l.length → Ahead (nextP (1, 1) (l.take i)) (nextP (1, 1) (l.take (i + n + 1)))
  | 0, h => by
    rw [← List.take_append_getElem (show i + 0 < l.length by omega), nextP_snoc]
    exact ahead_step _ _
  | n + 1, h => by
    refine ahead_trans (ahead_pos l i n (by omega)) ?_
    rw [show i + (n + 1) + 1 = (i + n + 1) + 1 from rfl, ← List.take_append_getElem (show i + n + 1 < l.length by omega), nextP_snoc]
    exact ahead_step _ _
theorem pos_inj (l : List UInt8) (i j : Nat) (hij : i ≤ j) (hj : j ≤ l.length) (h : nextP (1, 1) (l.take j) = nextP (1, 1) (l.take i)) : j = i := by
  rcases Nat.eq_or_lt_of_le hij with e | e
  · exact e.symm
  · exfalso
    have := ahead_pos l i (j - i - 1) (by omega)
    rw [show i + (j - i - 1) + 1 = j from by omega, h] at this
    unfold Ahead at this
    omega
/-- the word at hand stands here, or stands further on -/
theorem stands_here {l : List UInt8} {x : It} {xs : List It} {i : Nat} (h : Stands l i (x :: xs)) (hp : x.p = nextP (1, 1) (l.take i)) :
    1 ≤ x.d.t.length ∧ i + x.d.t.length ≤ l.length ∧ x.d.t = (l.drop i).take x.d.t.length ∧ Stands l (i + 1) xs := by
  obtain ⟨j, h1, h2, h3, h4, h5, h6⟩ := h
  have : j = i := pos_inj l i j h1 (by omega) (h2.symm.trans hp)
  subst this
  exact ⟨h3, h4, h5, h6.less (by omega)⟩
theorem stands_on {l : List UInt8} {x : It} {xs : List It} {i : Nat} (h : Stands l i (x :: xs)) (hp : x.p ≠ nextP (1, 1) (l.take i)) : Stands l (i + 1) (x :: xs) := by
  obtain ⟨j, h1, h2, h3⟩ := h
  rcases Nat.eq_or_lt_of_le h1 with e | e
  · subst e; exact absurd h2 hp
  · exact ⟨j, e, h2, h3⟩
theorem stands_end {l : List UInt8} {x : It} {xs : List It} {i : Nat} (h : Stands l i (x :: xs)) : i < l.length := by
  obtain ⟨j, h1, h2, h3, h4, -⟩ := h
  omega
end Go.Proofs.YtjgpbpmicopemaaDoor
