import Derived.Test.YtjgpbpmicopemaaGreatDoorPb01
import Derived.Test.YtjgpbpmicopemaaGreatDoorPb03

namespace Go.Proofs.YtjgpbpmicopemaaGreatDoor
open Go.RowKit
theorem rdigit_any (c : Int) (w : World) : Calls Tryz.prog 20 #[.int .u8 c] w (BB (digitI c) w) := by
  go_enter Tryz.func20, Tryz.ntmps20
  go_wp2
  all_goals (go_ret; exact ⟨by congr 2; unfold digitI; by_cases h1 : 48 ≤ c <;> by_cases h2 : c ≤ 57 <;> simp [h1, h2] <;> omega, rfl⟩)
theorem rletter_any (c : Int) (w : World) : Calls Tryz.prog 19 #[.int .u8 c] w (BB (startsI c) w) := by
  go_enter Tryz.func19, Tryz.ntmps19
  go_wp2
  all_goals (go_ret; exact ⟨by congr 2; unfold startsI; by_cases h1 : 97 ≤ c <;> by_cases h2 : c ≤ 122 <;> by_cases h3 : 65 ≤ c <;> by_cases h4 : c ≤ 90 <;> by_cases h5 : c = 95 <;> simp [h1, h2, h3, h4, h5] <;> omega, rfl⟩)
def strs (l : List (List UInt8)) : Array Value := (l.map str).toArray
theorem strs_cell {W : World} {g : Nat} {L : List (List UInt8)} {t : TypeId} (h : W.heap[g]? = some (.cells (strs L) t (0, 0))) (i : Nat) (hi : i < L.length) : W.cell? ⟨g, i, none⟩ = some (.string ⟨(L[i]).toArray⟩) := by
  simp only [World.cell?, h, strs]
  simp [hi, str]
theorem below_new (w : World) (o : Obj) : Below w.heap.size w (w.alloc o) := (Below.refl _ _).alloc (Nat.le_refl _) o
theorem below_drew {B : Nat} {a w : World} (h : Below B a w) (n : Nat) : Below B a (w.drewN n) := ⟨h.os, h.tape, h.output, h.size, h.block⟩
theorem contains_snoc (L : List (List UInt8)) (l : List UInt8) (k : Nat) (hk : k < L.length) (h : ∀ j (hj : j < L.length), j < k → L[j] ≠ l) (hn : L[k] ≠ l) : ∀ j (hj : j < L.length), j < k + 1 → L[j] ≠ l := fun j hj h' => by
  rcases Nat.lt_or_eq_of_le (Nat.le_of_lt_succ h') with e | e
  · exact h j hj e
  · subst e; exact hn
theorem contains_none (L : List (List UInt8)) (l : List UInt8) (h : ∀ j (hj : j < L.length), j < L.length → L[j] ≠ l) : L.contains l = false := by
  cases hc : L.contains l
  · rfl
  · have := List.contains_iff_mem.1 hc
    obtain ⟨j, hj, e⟩ := List.getElem_of_mem this
    exact absurd e (h j hj hj)
theorem contains_at (L : List (List UInt8)) (l : List UInt8) (k : Nat) (hk : k < L.length) (h : L[k] = l) : L.contains l = true := List.contains_iff_mem.2 (h ▸ List.getElem_mem hk)
set_option maxHeartbeats 4000000 in
theorem rkey_any (l : List UInt8) (w : World) : Calls Tryz.prog 22 #[str l] w (fun e w' => e = .returned (.bool (keyB l)) ∧ Below w.heap.size w w') := by
  have hK : keyB l = keys.contains l := rfl
  rw [hK]
  clear hK
  obtain ⟨L, hL⟩ : ∃ L, L = keys := ⟨_, rfl⟩
  rw [← hL]
  unfold str
  go_enter Tryz.func22, Tryz.ntmps22
  go_wp2_with fail
  have hw := below_new w (.cells (strs keys) 9)
  have hc := strs_cell (heap_alloc_new w (.cells (strs keys) 9))
  have hN : keys.length = 15 := rfl
  change Code.wp _ _ _ _ (w.alloc (.cells (strs keys) 9))
  generalize w.alloc (.cells (strs keys) 9) = W at *
  rw [← hL] at hc hN
  clear hL
  go_loopg [4] 15 (fun g s4 wr => ∃ k : Nat, k ≤ 15 ∧ 15 - k ≤ g ∧ s4 = .int .i64 k ∧ (∀ j (hj : j < L.length), j < k → L[j] ≠ l) ∧ ∃ d, wr = W.drewN d)
  case atStart => exact ⟨0, Nat.zero_le _, by omega, rfl, fun j _ h => absurd h (by omega), 0, rfl⟩
  case round =>
    obtain ⟨k, hk, hg, rfl, hno, d, rfl⟩ := hrel
    by_cases hlt : k < 15
    · have hck := hc k (by omega)
      generalize hx : L[k]'(by omega) = x at *
      by_cases he : x = l
      · subst he
        go_wp2_with fail
        go_ret
        exact ⟨by rw [contains_at L x k (by omega) hx]; rfl, below_drew hw _⟩
      · have hne : (x == l) = false := beq_eq_false_iff_ne.2 he
        go_wp2_with fail
        go_roundg (15 - (k + 1))
        case measure => omega
        case rel => exact ⟨k + 1, by omega, by omega, by simp, contains_snoc L l k (by omega) hno (by rw [hx]; exact he), _, rfl⟩
    · have hk15 : k = 15 := by omega
      subst hk15
      go_wp2_with fail
      go_ret
      exact ⟨by rw [contains_none L l (fun j hj h => hno j hj (by omega))]; rfl, below_drew hw _⟩
theorem twos_two : ∀ x ∈ twos, x.length = 2 := by decide
set_option maxHeartbeats 4000000 in
theorem rmark_any (c : UInt8) (r : List UInt8) (hl : (c :: r).length ≤ 65536) (w : World) : Calls Tryz.prog 23 #[str (c :: r)] w (fun e w' => e = .returned (str ((c :: r).take (markN (c :: r)))) ∧ Below w.heap.size w w') := by
  have hl' : r.length ≤ 65535 := by simpa using hl
  have hx := cut_upto (c :: r) 2
  have h1 := cut_upto (c :: r) 1
  have h22 := twos_two
  obtain ⟨L, hL⟩ : ∃ L, L = twos := ⟨_, rfl⟩
  obtain ⟨O, hO⟩ : ∃ O, O = ones := ⟨_, rfl⟩
  obtain ⟨R, hR⟩ : ∃ R, R = (c :: r).take (markN (c :: r)) := ⟨_, rfl⟩
  rw [← hR]
  have hM : markN (c :: r) = if decide (2 ≤ (c :: r).length) && L.contains ((c :: r).take 2) then 2 else if O.contains c then 1 else 0 := by rw [hL, hO]; rfl
  have hR2 : 1 ≤ r.length → L.contains ((c :: r).take 2) = true → (⟨R.toArray⟩ : ByteArray) = ⟨((c :: r).take 2).toArray⟩ := fun a b => by
    rw [hR, hM, if_pos]
    rw [b, Bool.and_true, decide_eq_true_eq]
    simp only [List.length_cons]; omega
  have hR1 : (1 ≤ r.length → L.contains ((c :: r).take 2) = false) → (⟨R.toArray⟩ : ByteArray) = if O.contains c then ⟨#[c]⟩ else ⟨#[]⟩ := fun a => by
    rw [hR, hM, if_neg]
    · split <;> simp
    · by_cases h : 1 ≤ r.length
      · rw [a h]; simp
      · rw [decide_eq_false (by simp only [List.length_cons]; omega)]; simp
  clear hM hR
  have hR2 := Lib.hid hR2
  have hR1 := Lib.hid hR1
  rw [← hL] at h22
  unfold str
  go_enter Tryz.func23, Tryz.ntmps23
  go_wp2_with fail
  have hw := below_new w (.cells (strs twos) 9)
  have hc := strs_cell (heap_alloc_new w (.cells (strs twos) 9))
  have hN : twos.length = 9 := rfl
  change Code.wp _ _ _ _ (w.alloc (.cells (strs twos) 9))
  generalize w.alloc (.cells (strs twos) 9) = W at *
  rw [← hL] at hc hN
  clear hL
  generalize htt : (c :: r).take 2 = tt at *
  go_loopg [4] 9 (fun g s4 wr => ∃ k : Nat, k ≤ 9 ∧ 9 - k ≤ g ∧ s4 = .int .i64 k ∧ (∀ j (hj : j < L.length), j < k → 1 ≤ r.length → L[j] ≠ tt) ∧ ∃ d, wr = W.drewN d)
  case atStart => exact ⟨0, Nat.zero_le _, by omega, rfl, fun j _ h => absurd h (by omega), 0, rfl⟩
  case round =>
    obtain ⟨k, hk, hg, rfl, hno, d, rfl⟩ := hrel
    by_cases hlt : k < 9
    · have hck := hc k (by omega)
      generalize hx : L[k]'(by omega) = x at *
      by_cases hr : 1 ≤ r.length
      · have hr2 : 2 ≤ (r.length : Int) + 1 := by omega
        by_cases he : tt = x
        · subst he
          go_wp2_with fail
          go_quiet (fail)
          go_wp2_with fail
          go_ret
          exact ⟨by rw [hR2.out hr (contains_at L tt k (by omega) hx)]; rfl, below_drew hw _⟩
        · have hne : (tt == x) = false := beq_eq_false_iff_ne.2 he
          go_wp2_with fail
          go_quiet (fail)
          go_wp2_with fail
          go_roundg (9 - (k + 1))
          case measure => omega
          case rel => exact ⟨k + 1, by omega, by omega, by simp, fun j hj hjk h1 => contains_snoc L tt k (by omega) (fun j hj h => hno j hj h h1) (by rw [hx]; exact Ne.symm he) j hj hjk, _, rfl⟩
      · go_wp2_with fail
        have nx1 : ¬ 2 ≤ (r.length : Int) + 1 := by omega
        go_quiet (fail)
        go_wp2_with fail
        go_roundg (9 - (k + 1))
        case measure => omega
        case rel => exact ⟨k + 1, by omega, by omega, by simp, fun j hj hjk h1 => absurd h1 hr, _, rfl⟩
    · have hk15 : k = 9 := by omega
      subst hk15
      have hR3 := Lib.hid (hR1.out (fun hr => contains_none L tt (fun j hj h => hno j hj (by omega) hr)))
      have hL22 : O.length = 22 := by rw [hO]; rfl
      have hOO : (#[40, 41, 123, 125, 91, 93, 59, 44, 46, 61, 60, 62, 43, 45, 42, 47, 37, 38, 124, 94, 126, 33] : Array UInt8) = O.toArray := by rw [hO]; rfl
      clear hO hno hc hN h22 hR1 hR2
      go_wp2_with fail
      simp only [hOO]
      go_loopg [6] 22 (fun g s6 wr => ∃ k : Nat, k ≤ 22 ∧ 22 - k ≤ g ∧ s6 = .int .i64 k ∧ (∀ j (hj : j < O.length), j < k → O[j] ≠ c) ∧ ∃ d, wr = W.drewN d)
      case atStart => exact ⟨0, Nat.zero_le _, by omega, rfl, fun j _ h => absurd h (by omega), _, rfl⟩
      case round =>
        obtain ⟨k, hk, hg, rfl, hno, d, rfl⟩ := hrel
        by_cases hlt : k < 22
        · by_cases he : O[k]'(by omega) = c
          · have hcc : O.contains c = true := List.contains_iff_mem.2 (he ▸ List.getElem_mem _)
            rw [hcc] at hR3
            simp only [if_true] at hR3
            have hcb : ((((({ data := (c :: r).toArray } : ByteArray)[0]'(by show 0 < (c :: r).toArray.size; simp)).toNat : Int)) == ((({ data := O.toArray } : ByteArray)[k]'(by show k < O.toArray.size; simp; omega)).toNat : Int)) = true := by
              show ((c.toNat : Int) == ((O[k]'(by omega)).toNat : Int)) = true
              rw [he, beq_self_eq_true]
            go_wp2_with fail
            go_quiet (fail)
            go_wp2_with fail
            go_ret
            exact ⟨by rw [hR3.out]; rfl, below_drew hw _⟩
          · have hcb : ((((({ data := (c :: r).toArray } : ByteArray)[0]'(by show 0 < (c :: r).toArray.size; simp)).toNat : Int)) == ((({ data := O.toArray } : ByteArray)[k]'(by show k < O.toArray.size; simp; omega)).toNat : Int)) = false := by
              show ((c.toNat : Int) == ((O[k]'(by omega)).toNat : Int)) = false
              exact beq_eq_false_iff_ne.2 fun h => he (UInt8.toNat.inj (by show (O[k]'(by omega)).toNat = c.toNat; omega))
            go_wp2_with fail
            go_quiet (fail)
            go_wp2_with fail
            go_roundg (22 - (k + 1))
            case measure => omega
            case rel => exact ⟨k + 1, by omega, by omega, by simp, fun j hj hjk => (Nat.lt_or_eq_of_le (Nat.le_of_lt_succ hjk)).elim (hno j hj) (fun e => by subst e; exact he), _, rfl⟩
        · have hcc : O.contains c = false := by
            cases hc2 : O.contains c
            · rfl
            · obtain ⟨j, hj, e⟩ := List.getElem_of_mem (List.contains_iff_mem.1 hc2)
              exact absurd e (hno j hj (by omega))
          rw [hcc] at hR3
          go_wp2_with fail
          go_ret
          exact ⟨by rw [hR3.out]; rfl, below_drew hw _⟩
end Go.Proofs.YtjgpbpmicopemaaGreatDoor

namespace Go.Proofs.YtjgpbpmicopemaaGreatDoor
open Go.RowKit
def hexK (c : UInt8) : Int := if digitC c then c.toNat - 48 else if 97 ≤ (c.toNat : Int) ∧ (c.toNat : Int) ≤ 102 then c.toNat - 87 else if 65 ≤ (c.toNat : Int) ∧ (c.toNat : Int) ≤ 70 then c.toNat - 55 else -1
theorem bytes_all {p : UInt8 → Bool} (h : (List.range 256).all (fun n => p (UInt8.ofNat n)) = true) (c : UInt8) : p c = true := by
  have := List.all_eq_true.1 h c.toNat (List.mem_range.2 c.toNat_lt)
  rwa [UInt8.ofNat_toNat] at this
theorem hexK_low (c : UInt8) : -1 ≤ hexK c ∧ hexK c ≤ 15 := by
  have := bytes_all (p := fun c => decide (-1 ≤ hexK c ∧ hexK c ≤ 15)) (by kernel_rfl) c
  exact of_decide_eq_true this
theorem hexD_K (c : UInt8) : hexD c = if 0 ≤ hexK c then some (hexK c) else none := by
  have := bytes_all (p := fun c => decide (hexD c = if 0 ≤ hexK c then some (hexK c) else none)) (by kernel_rfl) c
  exact of_decide_eq_true this
theorem hexes_K (c : UInt8) : hexes.contains c = decide (0 ≤ hexK c) := by
  have := bytes_all (p := fun c => hexes.contains c == decide (0 ≤ hexK c)) (by kernel_rfl) c
  exact eq_of_beq this
theorem tens_C (c : UInt8) : tens.contains c = digitC c := by
  have := bytes_all (p := fun c => tens.contains c == digitC c) (by kernel_rfl) c
  exact eq_of_beq this
def allH (l : List UInt8) : Bool := l.all (fun c => decide (0 ≤ hexK c))
def vH : Int → List UInt8 → Int
  | a, [] => a
  | a, c :: l => vH (a * 16 + hexK c) l
theorem vH_snoc (c : UInt8) : ∀ (l : List UInt8) (a : Int), vH a (l ++ [c]) = vH a l * 16 + hexK c
  | [], _ => rfl
  | _ :: l, _ => vH_snoc c l _
theorem allH_cons (c : UInt8) (l : List UInt8) : allH (c :: l) = (decide (0 ≤ hexK c) && allH l) := rfl
theorem vH_ge : ∀ (l : List UInt8) (a : Int), 0 ≤ a → allH l = true → a ≤ vH a l
  | [], a, _, _ => Int.le_refl a
  | c :: l, a, ha, h => by
    rw [allH_cons, Bool.and_eq_true, decide_eq_true_eq] at h
    have := vH_ge l (a * 16 + hexK c) (by omega) h.2
    show a ≤ vH (a * 16 + hexK c) l
    omega
theorem vH_lt : ∀ (l : List UInt8) (a : Int), 0 ≤ a → allH l = true → vH a l < (a + 1) * 16 ^ l.length
  | [], a, _, _ => by simp [vH]; omega
  | c :: l, a, ha, h => by
    rw [allH_cons, Bool.and_eq_true, decide_eq_true_eq] at h
    have h1 := (hexK_low c).2
    have ih := vH_lt l (a * 16 + hexK c) (by omega) h.2
    show vH (a * 16 + hexK c) l < _
    have h2 : (a * 16 + hexK c + 1) * 16 ^ l.length ≤ ((a + 1) * 16) * 16 ^ l.length := Int.mul_le_mul_of_nonneg_right (by omega) (Int.pow_nonneg (by decide))
    rw [List.length_cons, Int.pow_succ, Int.mul_comm (16 ^ l.length) 16, ← Int.mul_assoc]
    omega
theorem vH_fits (l : List UInt8) (h : allH l = true) (n : Nat) (hl : l.length ≤ n) : 0 ≤ vH 0 l ∧ vH 0 l < 16 ^ n := by
  refine ⟨vH_ge l 0 (by decide) h, ?_⟩
  have h1 := vH_lt l 0 (by decide) h
  have h2 : (16 : Int) ^ l.length ≤ 16 ^ n := by exact_mod_cast Nat.pow_le_pow_right (by decide : 0 < 16) hl
  omega
theorem hexR_all : ∀ (l : List UInt8) (a : Int), 0 ≤ a → a ≤ 9223372036854775807 → allH l = true → hexR a l = if vH a l ≤ 9223372036854775807 then .ok (vH a l) else .much
  | [], a, _, h1, _ => by
    show HexEnd.ok a = if a ≤ _ then _ else _
    rw [if_pos h1]
    rfl
  | c :: l, a, h0, h1, h => by
    rw [allH_cons, Bool.and_eq_true, decide_eq_true_eq] at h
    have hge := vH_ge l (a * 16 + hexK c) (by omega) h.2
    have hD : hexD c = some (hexK c) := by rw [hexD_K, if_pos h.1]
    show (match hexD c with | none => HexEnd.wrong | some d => if 1152921504606846976 ≤ a then .much else if 9223372036854775807 < a * 16 + d then .much else hexR (a * 16 + d) l) = if vH (a * 16 + hexK c) l ≤ _ then .ok (vH (a * 16 + hexK c) l) else .much
    rw [hD]
    show (if 1152921504606846976 ≤ a then HexEnd.much else if 9223372036854775807 < a * 16 + hexK c then .much else hexR (a * 16 + hexK c) l) = _
    by_cases c1 : 1152921504606846976 ≤ a
    · rw [if_pos c1, if_neg (by omega)]
    · rw [if_neg c1]
      by_cases c2 : 9223372036854775807 < a * 16 + hexK c
      · rw [if_pos c2, if_neg (by omega)]
      · rw [if_neg c2]
        exact hexR_all l _ (by omega) (by omega) h.2
theorem dw_all {p : UInt8 → Bool} : ∀ m : List UInt8, (∀ x ∈ m.dropWhile p, p x = true) → ∀ x ∈ m, p x = true
  | [], _ => by simp
  | c :: m, h => by
    by_cases hc : p c = true
    · rw [List.dropWhile_cons_of_pos hc] at h
      intro x hx
      rcases List.mem_cons.1 hx with rfl | hx
      · exact hc
      · exact dw_all m h x hx
    · rw [List.dropWhile_cons_of_neg hc] at h
      exact absurd (h c (by simp)) hc
theorem dw_nil {p : UInt8 → Bool} : ∀ m : List UInt8, m.dropWhile p = [] ↔ ∀ x ∈ m, p x = true
  | [] => by simp
  | c :: m => by
    by_cases hc : p c = true
    · rw [List.dropWhile_cons_of_pos hc, dw_nil m]
      simp [hc]
    · rw [List.dropWhile_cons_of_neg hc]
      simp [hc]
theorem trimS_all (l cs : List UInt8) : (Lib.trimS l cs == []) = l.all (fun c => cs.contains c) := by
  have key : Lib.trimS l cs = [] ↔ ∀ x ∈ l, cs.contains x = true := by
    unfold Lib.trimS Lib.trimLeftS Lib.trimRightS
    rw [dw_nil]
    constructor
    · intro h x hx
      exact dw_all l.reverse (fun y hy => h y (List.mem_reverse.2 hy)) x (List.mem_reverse.2 hx)
    · intro h x hx
      exact h x (List.mem_reverse.1 ((List.dropWhile_sublist _).subset (List.mem_reverse.1 hx)))
  rw [Bool.eq_iff_iff, beq_iff_eq, key, List.all_eq_true]
def addD (v : Nat) (c : UInt8) : Nat := v * 10 + (c.toNat - 48)
def vD (a : Nat) (l : List UInt8) : Nat := l.foldl addD a
theorem vD_nil (a : Nat) : vD a [] = a := rfl
theorem vD_cons (a : Nat) (c : UInt8) (l : List UInt8) : vD a (c :: l) = vD (addD a c) l := List.foldl_cons ..
theorem vD_snoc (c : UInt8) (l : List UInt8) (a : Nat) : vD a (l ++ [c]) = vD a l * 10 + (c.toNat - 48) := by
  unfold vD
  rw [List.foldl_append]
  rfl
theorem digit_low {c : UInt8} (h : digitC c = true) : 48 ≤ c.toNat ∧ c.toNat ≤ 57 := by
  have h' : (decide (48 ≤ (c.toNat : Int)) && decide ((c.toNat : Int) ≤ 57)) = true := h
  rw [Bool.and_eq_true, decide_eq_true_eq, decide_eq_true_eq] at h'
  omega
theorem vD_step (a d n : Nat) : a * 10 ^ (n + 1) ≤ (a * 10 + d) * 10 ^ n := by
  rw [Nat.pow_succ, Nat.mul_comm (10 ^ n) 10, ← Nat.mul_assoc]
  exact Nat.mul_le_mul_right _ (Nat.le_add_right _ _)
theorem vD_ge : ∀ (l : List UInt8) (a : Nat), a * 10 ^ l.length ≤ vD a l
  | [], a => by simp [vD_nil]
  | c :: l, a => by
    rw [vD_cons, List.length_cons]
    exact Nat.le_trans (vD_step a (c.toNat - 48) l.length) (vD_ge l (addD a c))
theorem vD_step2 (a d n : Nat) (h : d ≤ 9) : (a * 10 + d + 1) * 10 ^ n ≤ (a + 1) * 10 ^ (n + 1) := by
  rw [Nat.pow_succ, Nat.mul_comm (10 ^ n) 10, ← Nat.mul_assoc]
  exact Nat.mul_le_mul_right _ (by omega)
theorem vD_lt : ∀ (l : List UInt8) (a : Nat), l.all digitC = true → vD a l < (a + 1) * 10 ^ l.length
  | [], a, _ => by simp [vD_nil]
  | c :: l, a, h => by
    rw [List.all_cons, Bool.and_eq_true] at h
    have h1 := digit_low h.1
    rw [vD_cons, List.length_cons]
    exact Nat.lt_of_lt_of_le (vD_lt l (addD a c) h.2) (vD_step2 a (c.toNat - 48) l.length (by omega))
theorem vD_fits (l : List UInt8) (h : l.all digitC = true) (n : Nat) (hl : l.length ≤ n) : vD 0 l < 10 ^ n := by
  have h1 := vD_lt l 0 h
  have h2 : (10 : Nat) ^ l.length ≤ 10 ^ n := Nat.pow_le_pow_right (by decide) hl
  omega
theorem parse_all (M : Nat) (hM : M < 18446744073709551620) : ∀ (l : List UInt8) (a : Nat), a ≤ M → l.all digitC = true → Lib.parseUintM M a l = if vD a l ≤ M then .ok (vD a l) else .range
  | [], a, h1, _ => by
    show Lib.NumEnd.ok a = if a ≤ M then _ else _
    rw [if_pos h1]
    rfl
  | c :: l, a, h1, h => by
    rw [List.all_cons, Bool.and_eq_true] at h
    have hd := digit_low h.1
    have hge : addD a c ≤ vD (addD a c) l := Nat.le_trans (Nat.le_mul_of_pos_right _ (Nat.pow_pos (by decide))) (vD_ge l _)
    have hadd : addD a c = a * 10 + (c.toNat - 48) := rfl
    rw [vD_cons]
    show (if 48 ≤ c.toNat ∧ c.toNat ≤ 57 then if 1844674407370955162 ≤ a then Lib.NumEnd.range else if M < a * 10 + (c.toNat - 48) then .range else Lib.parseUintM M (addD a c) l else Lib.NumEnd.syntax) = if vD (addD a c) l ≤ M then .ok (vD (addD a c) l) else .range
    rw [if_pos hd]
    by_cases c1 : 1844674407370955162 ≤ a
    · rw [if_pos c1, if_neg (by omega)]
    · rw [if_neg c1]
      by_cases c2 : M < a * 10 + (c.toNat - 48)
      · rw [if_pos c2, if_neg (by omega)]
      · rw [if_neg c2]
        exact parse_all M hM l _ (by omega) h.2
theorem decV_all (c : UInt8) (r : List UInt8) (h : (c :: r).all digitC = true) : decV (c :: r) = if vD 0 (c :: r) < 9223372036854775808 then some ((vD 0 (c :: r) : Nat) : Int) else none := by
  have hd := digit_low (List.all_eq_true.1 h c (by simp))
  unfold decV
  rw [Lib.parseIntB_plain 64 c r (by omega) (by omega)]
  have e : Lib.parseUintB 64 (c :: r) = Lib.parseUintM 18446744073709551615 0 (c :: r) := by
    unfold Lib.parseUintB
    rw [if_neg (by simp)]
  rw [e, parse_all _ (by decide) _ 0 (by decide) h]
  generalize vD 0 (c :: r) = v
  by_cases h1 : v < 9223372036854775808
  · rw [if_pos (by omega), if_pos h1]
    show (match (if (2 ^ 63 : Nat) ≤ v then Lib.NumEnd.range else .ok (v : Int)) with | .ok v => some v | _ => none) = _
    rw [if_neg (by omega)]
  · rw [if_neg h1]
    by_cases h2 : v ≤ 18446744073709551615
    · rw [if_pos h2]
      show (match (if (2 ^ 63 : Nat) ≤ v then Lib.NumEnd.range else .ok (v : Int)) with | .ok v => some v | _ => none) = _
      rw [if_pos (by omega)]
    · rw [if_neg h2]
      rfl
theorem num_hex (l : List UInt8) (hp : Lib.hasPrefix l [48, 120] = true) (h2 : 2 < l.length) :
    numV l = if allH (l.drop 2) && (decide (l.length ≤ 18) && decide (vH 0 (l.drop 2) < 9223372036854775808)) then some (vH 0 (l.drop 2)) else none := by
  unfold numV
  rw [if_pos hp, trimS_all]
  have e1 : (l.drop 2).all (fun c => hexes.contains c) = allH (l.drop 2) := by
    unfold allH
    congr 1
    funext c
    exact hexes_K c
  have e2 : decide ((l.drop 2).length ≤ 16) = decide (l.length ≤ 18) := by
    rw [List.length_drop]
    exact decide_eq_decide.2 ⟨fun h => by omega, fun h => by omega⟩
  rw [e1, e2]
  have hne : l.drop 2 ≠ [] := fun h => by
    have := congrArg List.length h
    rw [List.length_drop] at this
    simp at this
    omega
  cases ha : allH (l.drop 2)
  · simp
  · have e3 : hexW (l.drop 2) = if vH 0 (l.drop 2) ≤ 9223372036854775807 then .ok (vH 0 (l.drop 2)) else .much := by
      unfold hexW
      rw [if_neg hne, hexR_all _ 0 (by decide) (by decide) ha]
    rw [e3]
    by_cases h3 : vH 0 (l.drop 2) ≤ 9223372036854775807
    · rw [if_pos h3, decide_eq_true (show vH 0 (l.drop 2) < 9223372036854775808 by omega)]
      simp [HexEnd.isOk, HexEnd.val]
    · rw [if_neg h3, decide_eq_false (show ¬ vH 0 (l.drop 2) < 9223372036854775808 by omega)]
      simp [HexEnd.isOk]
theorem tens_all (l : List UInt8) : (Lib.trimS l tens != []) = !l.all digitC := by
  have := trimS_all l tens
  rw [bne, this]
  congr 2
  funext c
  exact tens_C c
theorem num_dec (c : UInt8) (r : List UInt8) (hp : ¬ (Lib.hasPrefix (c :: r) [48, 120] = true ∧ 2 < (c :: r).length)) :
    numV (c :: r) = if (c :: r).all digitC && (decide ((c :: r).length ≤ 19) && ((c != 48 || decide ((c :: r).length = 1)) && decide (vD 0 (c :: r) < 9223372036854775808))) then some ((vD 0 (c :: r) : Nat) : Int) else none := by
  by_cases hx : Lib.hasPrefix (c :: r) [48, 120] = true
  · have hl : (c :: r).length = 2 := by
      have h1 : ([48, 120] : List UInt8).isPrefixOf (c :: r) = true := hx
      have := (List.isPrefixOf_iff_prefix.1 h1).length_le
      simp at this ⊢
      have : ¬ 2 < (c :: r).length := fun h => hp ⟨hx, h⟩
      simp at this
      omega
    have h1 : ([48, 120] : List UInt8).isPrefixOf (c :: r) = true := hx
    have h2 := (List.isPrefixOf_iff_prefix.1 h1).eq_of_length (by rw [hl]; rfl)
    injection h2 with h3 h4
    subst h3
    subst h4
    decide
  · unfold numV
    rw [if_neg hx, tens_all, List.headD_cons]
    cases hd : (c :: r).all digitC
    · simp
    · rw [decV_all c r hd]
      by_cases h1 : c = 48
      · subst h1
        by_cases h2 : r = []
        · subst h2
          simp [vD, addD]
        · have h3 : 1 < ((48 : UInt8) :: r).length := by
            cases r with
            | nil => exact absurd rfl h2
            | cons _ _ => simp
          rw [decide_eq_true h3, decide_eq_false (show ¬ ((48 : UInt8) :: r).length = 1 by omega)]
          simp
      · have h2 : (c == 48) = false := beq_eq_false_iff_ne.2 h1
        have hdc := digit_low (List.all_eq_true.1 hd c (by simp))
        have hc1 : 1 ≤ c.toNat - 48 := by
          have : c.toNat ≠ 48 := fun h => h1 (UInt8.toNat.inj h)
          omega
        have h4 : vD 0 (c :: r) < 9223372036854775808 → (c :: r).length ≤ 19 := fun h => by
          by_cases h5 : (c :: r).length ≤ 19
          · exact h5
          · exfalso
            have h6 := vD_ge r (addD 0 c)
            have h0 : addD 0 c = 0 * 10 + (c.toNat - 48) := rfl
            have h7 : (10 : Nat) ^ 19 ≤ 10 ^ r.length := Nat.pow_le_pow_right (by decide) (by simp at h5; omega)
            have h8 : 1 * 10 ^ r.length ≤ addD 0 c * 10 ^ r.length := Nat.mul_le_mul_right _ (by omega)
            have h9 : vD 0 (c :: r) = vD (addD 0 c) r := vD_cons _ _ _
            have : (10 : Nat) ^ 19 = 10000000000000000000 := by decide
            omega
        rw [h2, Bool.and_false, Bool.false_or, bne, h2]
        by_cases h5 : vD 0 (c :: r) < 9223372036854775808
        · rw [if_pos h5, decide_eq_true h5, decide_eq_true (h4 h5)]
          simp
        · rw [if_neg h5, decide_eq_false h5]
          simp
end Go.Proofs.YtjgpbpmicopemaaGreatDoor
