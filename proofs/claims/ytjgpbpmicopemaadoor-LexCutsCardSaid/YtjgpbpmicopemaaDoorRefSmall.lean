/-
  plumbobref4's letter, digit, Key, mark: what they answer, for every byte and text.
-/
import Derived.Test.YtjgpbpmicopemaaDoorSmall
namespace Go.Proofs.YtjgpbpmicopemaaDoor
open Go.RowKit

theorem rdigit_any (c : Int) (w : World) : Calls Tryd.prog 14 #[.int .u8 c] w (BB (digitI c) w) := by
  go_enter Tryd.func14, Tryd.ntmps14
  go_wp2
  all_goals (go_ret; exact ⟨by congr 2; unfold digitI; by_cases h1 : 48 ≤ c <;> by_cases h2 : c ≤ 57 <;> simp [h1, h2] <;> omega, rfl⟩)
theorem rletter_any (c : Int) (w : World) : Calls Tryd.prog 13 #[.int .u8 c] w (BB (startsI c) w) := by
  go_enter Tryd.func13, Tryd.ntmps13
  go_wp2
  all_goals (go_ret; exact ⟨by congr 2; unfold startsI; by_cases h1 : 97 ≤ c <;> by_cases h2 : c ≤ 122 <;> by_cases h3 : 65 ≤ c <;> by_cases h4 : c ≤ 90 <;> by_cases h5 : c = 95 <;> simp [h1, h2, h3, h4, h5] <;> omega, rfl⟩)
/-- the strings of a list, as cells -/
def strs (l : List (List UInt8)) : Array Value := (l.map str).toArray
theorem strs_cell {W : World} {g : Nat} {L : List (List UInt8)} {t : TypeId} (h : W.heap[g]? = some (.cells (strs L) t (0, 0))) (i : Nat) (hi : i < L.length) : W.cell? ⟨g, i, none⟩ = some (.string ⟨(L[i]).toArray⟩) := by
  simp only [World.cell?, h, strs]
  simp [hi, str]
theorem below_new (w : World) (o : Obj) : Below w.heap.size w (w.alloc o) := (Below.refl _ _).alloc (Nat.le_refl _) o
theorem below_drew {B : Nat} {a w : World} (h : Below B a w) (n : Nat) : Below B a (w.drewN n) := ⟨h.os, h.tape, h.output, h.size, h.block⟩
theorem contains_snoc (L : List (List UInt8)) (l : List UInt8) (k : Nat) (hk : k < L.length) (h : ∀ j (hj : j < L.length), j < k → L[j] ≠ l) (hn : L[k] ≠ l) : ∀ j (hj : j < L.length), j < k + 1 → L[j] ≠ l := fun j hj h' => by
  rcases Nat.lt_or_eq_of_le (Nat.le_of_lt_succ h') with e | e
  · exact h j hj e
  · subst e; exact hn
theorem contains_none (L : List (List UInt8)) (l : List UInt8) (h : ∀ j (hj : j < L.length), j < L.length → L[j] ≠ l) : L.contains l = false := by
  cases hc : L.contains l
  · rfl
  · have := List.contains_iff_mem.1 hc
    obtain ⟨j, hj, e⟩ := List.getElem_of_mem this
    exact absurd e (h j hj hj)
theorem contains_at (L : List (List UInt8)) (l : List UInt8) (k : Nat) (hk : k < L.length) (h : L[k] = l) : L.contains l = true := List.contains_iff_mem.2 (h ▸ List.getElem_mem hk)
set_option maxHeartbeats 4000000 in
theorem rkey_any (l : List UInt8) (w : World) : Calls Tryd.prog 16 #[str l] w (fun e w' => e = .returned (.bool (keyB l)) ∧ Below w.heap.size w w') := by
  have hK : keyB l = keys.contains l := rfl
  rw [hK]
  clear hK
  obtain ⟨L, hL⟩ : ∃ L, L = keys := ⟨_, rfl⟩
  rw [← hL]
  unfold str
  go_enter Tryd.func16, Tryd.ntmps16
  go_wp2_with fail
  have hw := below_new w (.cells (strs keys) 9)
  have hc := strs_cell (heap_alloc_new w (.cells (strs keys) 9))
  have hN : keys.length = 15 := rfl
  change Code.wp _ _ _ _ (w.alloc (.cells (strs keys) 9))
  generalize w.alloc (.cells (strs keys) 9) = W at *
  rw [← hL] at hc hN
  clear hL
  go_loopg [4] 15 (fun g s4 wr => ∃ k : Nat, k ≤ 15 ∧ 15 - k ≤ g ∧ s4 = .int .i64 k ∧ (∀ j (hj : j < L.length), j < k → L[j] ≠ l) ∧ ∃ d, wr = W.drewN d)
  case atStart => exact ⟨0, Nat.zero_le _, by omega, rfl, fun j _ h => absurd h (by omega), 0, rfl⟩
  case round =>
    obtain ⟨k, hk, hg, rfl, hno, d, rfl⟩ := hrel
    by_cases hlt : k < 15
    · have hck := hc k (by omega)
      generalize hx : L[k]'(by omega) = x at *
      by_cases he : x = l
      · subst he
        go_wp2_with fail
        go_ret
        exact ⟨by rw [contains_at L x k (by omega) hx]; rfl, below_drew hw _⟩
      · have hne : (x == l) = false := beq_eq_false_iff_ne.2 he
        go_wp2_with fail
        go_roundg (15 - (k + 1))
        case measure => omega
        case rel => exact ⟨k + 1, by omega, by omega, by simp, contains_snoc L l k (by omega) hno (by rw [hx]; exact he), _, rfl⟩
    · have hk15 : k = 15 := by omega
      subst hk15
      go_wp2_with fail
      go_ret
      exact ⟨by rw [contains_none L l (fun j hj h => hno j hj (by omega))]; rfl, below_drew hw _⟩
theorem twos_two : ∀ x ∈ twos, x.length = 2 := by decide
set_option maxHeartbeats 4000000 in
theorem rmark_any (c : UInt8) (r : List UInt8) (hl : (c :: r).length ≤ 65536) (w : World) : Calls Tryd.prog 17 #[str (c :: r)] w (fun e w' => e = .returned (str ((c :: r).take (markN (c :: r)))) ∧ Below w.heap.size w w') := by
  have hl' : r.length ≤ 65535 := by simpa using hl
  have hx := cut_upto (c :: r) 2
  have h1 := cut_upto (c :: r) 1
  have h22 := twos_two
  obtain ⟨L, hL⟩ : ∃ L, L = twos := ⟨_, rfl⟩
  obtain ⟨O, hO⟩ : ∃ O, O = ones := ⟨_, rfl⟩
  obtain ⟨R, hR⟩ : ∃ R, R = (c :: r).take (markN (c :: r)) := ⟨_, rfl⟩
  rw [← hR]
  have hM : markN (c :: r) = if decide (2 ≤ (c :: r).length) && L.contains ((c :: r).take 2) then 2 else if O.contains c then 1 else 0 := by rw [hL, hO]; rfl
  have hR2 : 1 ≤ r.length → L.contains ((c :: r).take 2) = true → (⟨R.toArray⟩ : ByteArray) = ⟨((c :: r).take 2).toArray⟩ := fun a b => by
    rw [hR, hM, if_pos]
    rw [b, Bool.and_true, decide_eq_true_eq]
    simp only [List.length_cons]; omega
  have hR1 : (1 ≤ r.length → L.contains ((c :: r).take 2) = false) → (⟨R.toArray⟩ : ByteArray) = if O.contains c then ⟨#[c]⟩ else ⟨#[]⟩ := fun a => by
    rw [hR, hM, if_neg]
    · split <;> simp
    · by_cases h : 1 ≤ r.length
      · rw [a h]; simp
      · rw [decide_eq_false (by simp only [List.length_cons]; omega)]; simp
  clear hM hR
  have hR2 := Lib.hid hR2
  have hR1 := Lib.hid hR1
  rw [← hL] at h22
  unfold str
  go_enter Tryd.func17, Tryd.ntmps17
  go_wp2_with fail
  have hw := below_new w (.cells (strs twos) 9)
  have hc := strs_cell (heap_alloc_new w (.cells (strs twos) 9))
  have hN : twos.length = 9 := rfl
  change Code.wp _ _ _ _ (w.alloc (.cells (strs twos) 9))
  generalize w.alloc (.cells (strs twos) 9) = W at *
  rw [← hL] at hc hN
  clear hL
  generalize htt : (c :: r).take 2 = tt at *
  go_loopg [4] 9 (fun g s4 wr => ∃ k : Nat, k ≤ 9 ∧ 9 - k ≤ g ∧ s4 = .int .i64 k ∧ (∀ j (hj : j < L.length), j < k → 1 ≤ r.length → L[j] ≠ tt) ∧ ∃ d, wr = W.drewN d)
  case atStart => exact ⟨0, Nat.zero_le _, by omega, rfl, fun j _ h => absurd h (by omega), 0, rfl⟩
  case round =>
    obtain ⟨k, hk, hg, rfl, hno, d, rfl⟩ := hrel
    by_cases hlt : k < 9
    · have hck := hc k (by omega)
      generalize hx : L[k]'(by omega) = x at *
      by_cases hr : 1 ≤ r.length
      · have hr2 : 2 ≤ (r.length : Int) + 1 := by omega
        by_cases he : tt = x
        · subst he
          go_wp2_with fail
          go_quiet (fail)
          go_wp2_with fail
          go_ret
          exact ⟨by rw [hR2.out hr (contains_at L tt k (by omega) hx)]; rfl, below_drew hw _⟩
        · have hne : (tt == x) = false := beq_eq_false_iff_ne.2 he
          go_wp2_with fail
          go_quiet (fail)
          go_wp2_with fail
          go_roundg (9 - (k + 1))
          case measure => omega
          case rel => exact ⟨k + 1, by omega, by omega, by simp, fun j hj hjk h1 => contains_snoc L tt k (by omega) (fun j hj h => hno j hj h h1) (by rw [hx]; exact Ne.symm he) j hj hjk, _, rfl⟩
      · go_wp2_with fail
        have nx1 : ¬ 2 ≤ (r.length : Int) + 1 := by omega
        go_quiet (fail)
        go_wp2_with fail
        go_roundg (9 - (k + 1))
        case measure => omega
        case rel => exact ⟨k + 1, by omega, by omega, by simp, fun j hj hjk h1 => absurd h1 hr, _, rfl⟩
    · have hk15 : k = 9 := by omega
      subst hk15
      have hR3 := Lib.hid (hR1.out (fun hr => contains_none L tt (fun j hj h => hno j hj (by omega) hr)))
      have hL22 : O.length = 22 := by rw [hO]; rfl
      have hOO : (#[40, 41, 123, 125, 91, 93, 59, 44, 46, 61, 60, 62, 43, 45, 42, 47, 37, 38, 124, 94, 126, 33] : Array UInt8) = O.toArray := by rw [hO]; rfl
      clear hO hno hc hN h22 hR1 hR2
      go_wp2_with fail
      simp only [hOO]
      go_loopg [6] 22 (fun g s6 wr => ∃ k : Nat, k ≤ 22 ∧ 22 - k ≤ g ∧ s6 = .int .i64 k ∧ (∀ j (hj : j < O.length), j < k → O[j] ≠ c) ∧ ∃ d, wr = W.drewN d)
      case atStart => exact ⟨0, Nat.zero_le _, by omega, rfl, fun j _ h => absurd h (by omega), _, rfl⟩
      case round =>
        obtain ⟨k, hk, hg, rfl, hno, d, rfl⟩ := hrel
        by_cases hlt : k < 22
        · by_cases he : O[k]'(by omega) = c
          · have hcc : O.contains c = true := List.contains_iff_mem.2 (he ▸ List.getElem_mem _)
            rw [hcc] at hR3
            simp only [if_true] at hR3
            have hcb : ((((({ data := (c :: r).toArray } : ByteArray)[0]'(by show 0 < (c :: r).toArray.size; simp)).toNat : Int)) == ((({ data := O.toArray } : ByteArray)[k]'(by show k < O.toArray.size; simp; omega)).toNat : Int)) = true := by
              show ((c.toNat : Int) == ((O[k]'(by omega)).toNat : Int)) = true
              rw [he, beq_self_eq_true]
            go_wp2_with fail
            go_quiet (fail)
            go_wp2_with fail
            go_ret
            exact ⟨by rw [hR3.out]; rfl, below_drew hw _⟩
          · have hcb : ((((({ data := (c :: r).toArray } : ByteArray)[0]'(by show 0 < (c :: r).toArray.size; simp)).toNat : Int)) == ((({ data := O.toArray } : ByteArray)[k]'(by show k < O.toArray.size; simp; omega)).toNat : Int)) = false := by
              show ((c.toNat : Int) == ((O[k]'(by omega)).toNat : Int)) = false
              exact beq_eq_false_iff_ne.2 fun h => he (UInt8.toNat.inj (by show (O[k]'(by omega)).toNat = c.toNat; omega))
            go_wp2_with fail
            go_quiet (fail)
            go_wp2_with fail
            go_roundg (22 - (k + 1))
            case measure => omega
            case rel => exact ⟨k + 1, by omega, by omega, by simp, fun j hj hjk => (Nat.lt_or_eq_of_le (Nat.le_of_lt_succ hjk)).elim (hno j hj) (fun e => by subst e; exact he), _, rfl⟩
        · have hcc : O.contains c = false := by
            cases hc2 : O.contains c
            · rfl
            · obtain ⟨j, hj, e⟩ := List.getElem_of_mem (List.contains_iff_mem.1 hc2)
              exact absurd e (hno j hj (by omega))
          rw [hcc] at hR3
          go_wp2_with fail
          go_ret
          exact ⟨by rw [hR3.out]; rfl, below_drew hw _⟩
end Go.Proofs.YtjgpbpmicopemaaDoor
