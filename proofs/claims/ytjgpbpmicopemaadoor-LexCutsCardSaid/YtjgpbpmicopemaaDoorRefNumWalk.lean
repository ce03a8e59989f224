/-
  plumbobref4's hex, number: what they answer, for every byte and text.
-/
import Derived.Test.YtjgpbpmicopemaaDoorRefSmall
import Derived.Test.YtjgpbpmicopemaaDoorRefNum
import Derived.Laws.BitsLemmas
namespace Go.Proofs.YtjgpbpmicopemaaDoor
open Go.RowKit

theorem hexK_digit {c : UInt8} (h : digitC c = true) : hexK c = c.toNat - 48 := by unfold hexK; rw [if_pos h]
theorem digit_int (c : UInt8) : digitI (c.toNat : Int) = digitC c := rfl
theorem rhex_any (c : UInt8) (w : World) : Calls Tryd.prog 20 #[.int .u8 (c.toNat : Int)] w (RN (hexK c) w) := by
  have hc := c.toNat_lt
  have hD := rdigit_any (c.toNat : Int)
  unfold hexK
  rw [digit_int] at hD
  cases hd : digitC c
  · rw [hd] at hD
    simp only [Bool.false_eq_true, if_false]
    by_cases h1 : 97 ≤ (c.toNat : Int) ∧ (c.toNat : Int) ≤ 102
    · rw [if_pos h1]
      obtain ⟨h1, h2⟩ := h1
      go_enter Tryd.func20, Tryd.ntmps20
      go_wp2_with fail
      refine (hD _).mono ?_
      rintro e w1 ⟨rfl, rfl⟩
      go_wp2_with fail
      go_ret
      exact ⟨by rw [show (c.toNat : Int) - 87 = c.toNat - 97 + 10 by omega]; rfl, rfl⟩
    · rw [if_neg h1]
      have h1' : (c.toNat : Int) < 97 ∨ 102 < (c.toNat : Int) := by omega
      clear h1
      by_cases h2 : 65 ≤ (c.toNat : Int) ∧ (c.toNat : Int) ≤ 70
      · rw [if_pos h2]
        obtain ⟨h3, h4⟩ := h2
        have h5 : (c.toNat : Int) < 97 := by omega
        go_enter Tryd.func20, Tryd.ntmps20
        go_wp2_with fail
        refine (hD _).mono ?_
        rintro e w1 ⟨rfl, rfl⟩
        go_wp2_with fail
        go_ret
        exact ⟨by rw [show (c.toNat : Int) - 55 = c.toNat - 65 + 10 by omega]; rfl, rfl⟩
      · rw [if_neg h2]
        have h2' : (c.toNat : Int) < 65 ∨ 70 < (c.toNat : Int) := by omega
        clear h2
        rcases h1' with h3 | h3 <;> rcases h2' with h4 | h4
        all_goals
          go_enter Tryd.func20, Tryd.ntmps20
          go_wp2_with fail
          refine (hD _).mono ?_
          rintro e w1 ⟨rfl, rfl⟩
          go_wp2_with fail
          all_goals first | (exfalso; omega) | (go_ret; exact ⟨rfl, rfl⟩)
  · rw [hd] at hD
    rw [if_pos rfl]
    have := digit_low hd
    go_enter Tryd.func20, Tryd.ntmps20
    go_wp2_with fail
    refine (hD _).mono ?_
    rintro e w1 ⟨rfl, rfl⟩
    go_wp2_with fail
    go_ret
    exact ⟨rfl, rfl⟩
theorem or_hex (v h : Int) (hv : 0 ≤ v ∧ v < 16 ^ 15) (h0 : 0 ≤ h) (h1 : h ≤ 15) : bits .or .u64 (IntKind.u64.wrap (v * 16)) h = v * 16 + h := by
  obtain ⟨v0, v1⟩ := hv
  have v1 : v < 1152921504606846976 := v1
  have e : IntKind.u64.wrap (v * 16) = v * 16 := by rw [IntKind.wrap_u64]; omega
  rw [e]
  refine bits_join .u64 64 (by decide) (fun n a b => ?_) 4 _ _ (by omega) ?_ ?_ h0 ?_ ?_
  · rw [IntKind.wrap_u64]
    have b : n < 18446744073709551616 := b
    omega
  · show v * 16 % 16 = 0
    omega
  · show v * 16 < 18446744073709551616
    omega
  · show h < 16
    omega
  · show h < 18446744073709551616
    omega
theorem dec_step (v : Nat) (c : UInt8) (hv : v < 10 ^ 18) (hc : 48 ≤ c.toNat ∧ c.toNat ≤ 57) : IntKind.u64.wrap (IntKind.u64.wrap ((v : Int) * 10) + ((c.toNat : Int) - 48)) = ((v * 10 + (c.toNat - 48) : Nat) : Int) := by
  have hv : v < 1000000000000000000 := hv
  rw [IntKind.wrap_u64, IntKind.wrap_u64]
  omega
/-- what number answers -/
def RNb (l : List UInt8) (w : World) (e : Ending) (w' : World) : Prop := ∃ v, e = .returned (.tuple #[.int .i64 v, .bool (numV l).isSome]) ∧ (∀ u, numV l = some u → u = v) ∧ Below w.heap.size w w'
set_option maxRecDepth 20000 in
set_option maxHeartbeats 4000000 in
theorem rnumber_any (c : UInt8) (r : List UInt8) (hl : (c :: r).length ≤ 65536) (w : World) : Calls Tryd.prog 15 #[str (c :: r)] w (RNb (c :: r) w) := by
  have hl' : r.length ≤ 65535 := by simpa using hl
  have hcb := c.toNat_lt
  by_cases hh : Lib.hasPrefix (c :: r) [48, 120] = true ∧ 2 < (c :: r).length
  · obtain ⟨hp, h2⟩ := hh
    have hnum := num_hex (c :: r) hp h2
    have hp' : ([48, 120] : List UInt8).isPrefixOf (c :: r) = true := hp
    obtain ⟨m, hm⟩ := List.isPrefixOf_iff_prefix.1 hp'
    have hcr : c :: r = 48 :: 120 :: m := hm.symm
    have hrl : r.length = m.length + 1 := by have := congrArg List.length hcr; simpa using this
    rw [hcr] at hnum ⊢
    clear hm hp hp' hcb hl
    simp only [List.length_cons] at h2
    have e2 : (48 :: 120 :: m).drop 2 = m := rfl
    rw [e2] at hnum
    have hnum := Lib.hid hnum
    unfold str
    go_enter Tryd.func15, Tryd.ntmps15
    go_wp2_with fail
    go_loopg [4, 5] (m.length + 2) (fun g s4 s5 wr => ∃ (k : Nat) (V : Int), s4 = .int .u64 V ∧ s5 = .int .i64 k ∧ 2 ≤ k ∧ k ≤ m.length + 2 ∧ m.length + 2 - k ≤ g ∧ wr = w ∧ Hid (allH (m.take (k - 2)) = true ∧ (m.length ≤ 16 → V = vH 0 (m.take (k - 2)))))
    case atStart => exact ⟨2, 0, rfl, rfl, Nat.le_refl _, by omega, by omega, rfl, Lib.hid ⟨rfl, fun _ => rfl⟩⟩
    case round =>
      obtain ⟨k, V, rfl, rfl, hk2, hk, hg, rfl, S⟩ := hrel
      by_cases hlt : k < m.length + 2
      · have hj : k - 2 < m.length := by omega
        have htk : m.take (k - 2 + 1) = m.take (k - 2) ++ [m[k - 2]] := (List.take_append_getElem hj).symm
        have hbyte : ({ data := (48 :: 120 :: m).toArray } : ByteArray)[k]'(by show k < (48 :: 120 :: m).toArray.size; simp; omega) = m[k - 2] := by
          obtain ⟨j, rfl⟩ : ∃ j, k = j + 2 := ⟨k - 2, by omega⟩
          rfl
        have C := rhex_any (m[k - 2])
        have hlow := hexK_low (m[k - 2])
        generalize hcj : m[k - 2] = cj at *
        by_cases hneg : hexK cj < 0
        · have hno : numV (48 :: 120 :: m) = none := by
            rw [hnum.out, if_neg]
            have : allH m = false := by
              cases ha : allH m
              · rfl
              · exfalso
                have := List.all_eq_true.1 ha cj (hcj ▸ List.getElem_mem hj)
                simp at this
                omega
            rw [this]
            simp
          go_wp2_with fail
          refine (C _).mono ?_
          rintro e w1 ⟨rfl, rfl⟩
          go_wp2_with fail
          go_ret2
          exact ⟨_, by rw [hno]; rfl, fun u hu => (by rw [hno] at hu; cases hu), Below.refl _ _⟩
        · have hu : IntKind.u64.wrap (hexK cj) = hexK cj := by rw [IntKind.wrap_u64]; omega
          go_wp2_with fail
          refine (C _).mono ?_
          rintro e w1 ⟨rfl, rfl⟩
          go_wp2_with fail
          refine (C _).mono ?_
          rintro e w1 ⟨rfl, rfl⟩
          go_wp2_with fail
          go_roundg (m.length + 2 - (k + 1))
          case measure => omega
          case rel =>
            refine ⟨k + 1, _, rfl, by simp, by omega, hlt, by omega, rfl, Lib.hid ⟨?_, fun hm => ?_⟩⟩
            · rw [show k + 1 - 2 = k - 2 + 1 by omega, htk]
              have := S.out.1
              unfold allH at this ⊢
              rw [List.all_append, this]
              simp
              omega
            · rw [show k + 1 - 2 = k - 2 + 1 by omega, htk, vH_snoc, S.out.2 hm]
              exact or_hex _ _ (vH_fits (m.take (k - 2)) S.out.1 15 (by rw [List.length_take]; omega)) (by omega) hlow.2
      · have hkm : k = m.length + 2 := by omega
        subst hkm
        have S' := S.out
        rw [show m.length + 2 - 2 = m.length by omega, List.take_length] at S'
        obtain ⟨s1, s2⟩ := S'
        have hN := hnum.out
        rw [s1, Bool.true_and] at hN
        clear hnum S
        by_cases h18 : m.length ≤ 16
        · have hv := s2 h18
          have hd : decide ((48 :: 120 :: m).length ≤ 18) = true := decide_eq_true (by simp; omega)
          rw [hd, Bool.true_and] at hN
          obtain ⟨f1, f2⟩ := vH_fits m s1 16 h18
          rw [← hv] at hN f1 f2
          clear s2 hv hd
          have h18' : (m.length : Int) + 1 + 1 ≤ 18 := by omega
          by_cases hV : V < 9223372036854775808
          · rw [decide_eq_true hV, if_pos rfl] at hN
            have hw64 : wrap64 V = V := by unfold wrap64; omega
            have hN := Lib.hid hN
            go_wp2_with fail
            go_ret2
            exact ⟨V, by rw [hN.out]; rfl, fun u hu => by rw [hN.out] at hu; exact (Option.some.inj hu).symm, Below.refl _ _⟩
          · rw [decide_eq_false hV, if_neg (by simp)] at hN
            have hN := Lib.hid hN
            go_wp2_with fail
            go_ret2
            exact ⟨_, by rw [hN.out]; rfl, fun u hu => (by rw [hN.out] at hu; cases hu), Below.refl _ _⟩
        · have hd : decide ((48 :: 120 :: m).length ≤ 18) = false := decide_eq_false (by simp; omega)
          rw [hd, Bool.false_and, if_neg (by simp)] at hN
          have h18' : ¬ (m.length : Int) + 1 + 1 ≤ 18 := by omega
          have hN := Lib.hid hN
          go_wp2_with fail
          all_goals
            go_ret2
            exact ⟨_, by rw [hN.out]; rfl, fun u hu => (by rw [hN.out] at hu; cases hu), Below.refl _ _⟩
  · have hnum := Lib.hid (num_dec c r hh)
    have hcase : ((c.toNat : Int) ≠ 48 ∧ r.length < 2) ∨ ((c.toNat : Int) ≠ 48 ∧ 2 ≤ r.length) ∨ ((c.toNat : Int) = 48 ∧ r = []) ∨ (∃ d, (c.toNat : Int) = 48 ∧ r = [d]) ∨ ∃ d m, r = d :: m ∧ 1 ≤ m.length ∧ (c.toNat : Int) = 48 ∧ (d.toNat : Int) ≠ 120 := by
      by_cases hc : (c.toNat : Int) = 48
      · right; right
        match r, hh with
        | [], _ => exact .inl ⟨hc, rfl⟩
        | [d], _ => exact .inr (.inl ⟨d, hc, rfl⟩)
        | d :: e :: m, hh =>
          refine .inr (.inr ⟨d, e :: m, rfl, by simp, hc, fun hd => hh ⟨?_, by simp⟩⟩)
          have e1 : c = 48 := UInt8.toNat.inj (by show c.toNat = 48; omega)
          have e2 : d = 120 := UInt8.toNat.inj (by show d.toNat = 120; omega)
          subst e1; subst e2
          simp [Lib.hasPrefix, List.isPrefixOf]
      · by_cases h2 : r.length < 2
        · exact .inl ⟨hc, h2⟩
        · exact .inr (.inl ⟨hc, by omega⟩)
    clear hh
    unfold str
    rcases hcase with ⟨hc, h2⟩ | ⟨hc, h2⟩ | ⟨hc, rfl⟩ | ⟨d, hc, rfl⟩ | ⟨d, m, rfl, h2, hc, hd⟩
    · skip
      have hc0 : ((((({ data := (c :: r).toArray } : ByteArray)[0]'(by show 0 < (c :: r).toArray.size; simp)).toNat : Int)) == 48) = false := beq_eq_false_iff_ne.2 hc
      go_enter Tryd.func15, Tryd.ntmps15
      go_wp2_with fail
      go_loopg [4, 6] (r.length + 1) (fun g s4 s6 wr => ∃ (k : Nat) (V : Int), s4 = .int .u64 V ∧ s6 = .int .i64 k ∧ k ≤ (r.length + 1) ∧ (r.length + 1) - k ≤ g ∧ wr = w ∧ Hid (((c :: r).take k).all digitC = true ∧ ((r.length + 1) ≤ 19 → V = vD 0 ((c :: r).take k))))
      case atStart => exact ⟨0, 0, rfl, rfl, Nat.zero_le _, by omega, rfl, Lib.hid ⟨rfl, fun _ => rfl⟩⟩
      case round =>
        obtain ⟨k, V, rfl, rfl, hk, hg, rfl, S⟩ := hrel
        have hLen : (c :: r).length = (r.length + 1) := by simp
        by_cases hlt : k < (r.length + 1)
        · have htk : (c :: r).take (k + 1) = (c :: r).take k ++ [(c :: r)[k]] := (List.take_append_getElem (by omega)).symm
          have hbyte : ({ data := ((c :: r)).toArray } : ByteArray)[k]'(by show k < ((c :: r)).toArray.size; simp; omega) = (c :: r)[k] := rfl
          have C := rdigit_any (((c :: r)[k]).toNat : Int)
          have hmem : (c :: r)[k] ∈ (c :: r) := List.getElem_mem _
          generalize (c :: r)[k] = cj at *
          rw [digit_int] at C
          cases hdg : digitC cj
          · rw [hdg] at C
            have hno : numV ((c :: r)) = none := by
              rw [hnum.out, if_neg]
              have : ((c :: r)).all digitC = false := by
                cases ha : ((c :: r)).all digitC
                · rfl
                · have := List.all_eq_true.1 ha cj hmem
                  rw [hdg] at this
                  cases this
              rw [this]
              simp
            go_wp2_with fail
            refine (C _).mono ?_
            rintro e w1 ⟨rfl, rfl⟩
            go_wp2_with fail
            go_ret2
            exact ⟨_, by rw [hno]; rfl, fun u hu => (by rw [hno] at hu; cases hu), Below.refl _ _⟩
          · rw [hdg] at C
            have hlow := digit_low hdg
            go_wp2_with fail
            refine (C _).mono ?_
            rintro e w1 ⟨rfl, rfl⟩
            go_wp2_with fail
            go_roundg ((r.length + 1) - (k + 1))
            case measure => omega
            case rel =>
              refine ⟨k + 1, _, rfl, by simp, hlt, by omega, rfl, Lib.hid ⟨?_, fun hm => ?_⟩⟩
              · rw [htk, List.all_append, S.out.1]
                simp [hdg]
              · rw [htk, vD_snoc, S.out.2 hm]
                have hf := vD_fits ((c :: r).take k) S.out.1 18 (by rw [List.length_take]; omega)
                exact dec_step _ cj hf hlow
        · have hkm : k = (r.length + 1) := by omega
          have S' := S.out
          rw [hkm, ← hLen, List.take_length] at S'
          obtain ⟨s1, s2⟩ := S'
          have hN := hnum.out
          rw [s1, Bool.true_and] at hN
          clear hnum S
          by_cases h18 : (r.length + 1) ≤ 19
          · have hv := s2 (by omega)
            have hd19 : decide (((c :: r)).length ≤ 19) = true := decide_eq_true (by omega)
            rw [hd19, Bool.true_and] at hN
            clear s2 hd19
            generalize vD 0 ((c :: r)) = vv at *
            have h18' : ((r.length : Int) + 1) ≤ 19 := by omega
            rw [show (c != 48 || decide ((c :: r).length = 1)) = true from (by have : (c == 48) = false := beq_eq_false_iff_ne.2 (fun h => hc (by rw [h]; rfl)); rw [bne, this]; rfl), Bool.true_and] at hN
            by_cases hV : V < 9223372036854775808
            · rw [decide_eq_true (show vv < 9223372036854775808 by omega), if_pos rfl, ← hv] at hN
              have hw64 : wrap64 V = V := by unfold wrap64; omega
              clear hv
              have hN := Lib.hid hN
              go_wp2_with fail
              go_ret2
              exact ⟨V, by rw [hN.out]; rfl, fun u hu => by rw [hN.out] at hu; exact (Option.some.inj hu).symm, Below.refl _ _⟩
            · rw [decide_eq_false (show ¬ vv < 9223372036854775808 by omega), if_neg (by simp)] at hN
              clear hv
              have hN := Lib.hid hN
              go_wp2_with fail
              go_ret2
              exact ⟨_, by rw [hN.out]; rfl, fun u hu => (by rw [hN.out] at hu; cases hu), Below.refl _ _⟩
          · have hd19 : decide (((c :: r)).length ≤ 19) = false := decide_eq_false (by omega)
            rw [hd19, Bool.false_and, if_neg (by simp)] at hN
            have h18' : ¬ ((r.length : Int) + 1) ≤ 19 := by omega
            have hN := Lib.hid hN
            go_wp2_with fail
            all_goals
              go_ret2
              exact ⟨_, by rw [hN.out]; rfl, fun u hu => (by rw [hN.out] at hu; cases hu), Below.refl _ _⟩
    · skip
      have hc0 : ((((({ data := (c :: r).toArray } : ByteArray)[0]'(by show 0 < (c :: r).toArray.size; simp)).toNat : Int)) == 48) = false := beq_eq_false_iff_ne.2 hc
      go_enter Tryd.func15, Tryd.ntmps15
      go_wp2_with fail
      go_loopg [4, 6] (r.length + 1) (fun g s4 s6 wr => ∃ (k : Nat) (V : Int), s4 = .int .u64 V ∧ s6 = .int .i64 k ∧ k ≤ (r.length + 1) ∧ (r.length + 1) - k ≤ g ∧ wr = w ∧ Hid (((c :: r).take k).all digitC = true ∧ ((r.length + 1) ≤ 19 → V = vD 0 ((c :: r).take k))))
      case atStart => exact ⟨0, 0, rfl, rfl, Nat.zero_le _, by omega, rfl, Lib.hid ⟨rfl, fun _ => rfl⟩⟩
      case round =>
        obtain ⟨k, V, rfl, rfl, hk, hg, rfl, S⟩ := hrel
        have hLen : (c :: r).length = (r.length + 1) := by simp
        by_cases hlt : k < (r.length + 1)
        · have htk : (c :: r).take (k + 1) = (c :: r).take k ++ [(c :: r)[k]] := (List.take_append_getElem (by omega)).symm
          have hbyte : ({ data := ((c :: r)).toArray } : ByteArray)[k]'(by show k < ((c :: r)).toArray.size; simp; omega) = (c :: r)[k] := rfl
          have C := rdigit_any (((c :: r)[k]).toNat : Int)
          have hmem : (c :: r)[k] ∈ (c :: r) := List.getElem_mem _
          generalize (c :: r)[k] = cj at *
          rw [digit_int] at C
          cases hdg : digitC cj
          · rw [hdg] at C
            have hno : numV ((c :: r)) = none := by
              rw [hnum.out, if_neg]
              have : ((c :: r)).all digitC = false := by
                cases ha : ((c :: r)).all digitC
                · rfl
                · have := List.all_eq_true.1 ha cj hmem
                  rw [hdg] at this
                  cases this
              rw [this]
              simp
            go_wp2_with fail
            refine (C _).mono ?_
            rintro e w1 ⟨rfl, rfl⟩
            go_wp2_with fail
            go_ret2
            exact ⟨_, by rw [hno]; rfl, fun u hu => (by rw [hno] at hu; cases hu), Below.refl _ _⟩
          · rw [hdg] at C
            have hlow := digit_low hdg
            go_wp2_with fail
            refine (C _).mono ?_
            rintro e w1 ⟨rfl, rfl⟩
            go_wp2_with fail
            go_roundg ((r.length + 1) - (k + 1))
            case measure => omega
            case rel =>
              refine ⟨k + 1, _, rfl, by simp, hlt, by omega, rfl, Lib.hid ⟨?_, fun hm => ?_⟩⟩
              · rw [htk, List.all_append, S.out.1]
                simp [hdg]
              · rw [htk, vD_snoc, S.out.2 hm]
                have hf := vD_fits ((c :: r).take k) S.out.1 18 (by rw [List.length_take]; omega)
                exact dec_step _ cj hf hlow
        · have hkm : k = (r.length + 1) := by omega
          have S' := S.out
          rw [hkm, ← hLen, List.take_length] at S'
          obtain ⟨s1, s2⟩ := S'
          have hN := hnum.out
          rw [s1, Bool.true_and] at hN
          clear hnum S
          by_cases h18 : (r.length + 1) ≤ 19
          · have hv := s2 (by omega)
            have hd19 : decide (((c :: r)).length ≤ 19) = true := decide_eq_true (by omega)
            rw [hd19, Bool.true_and] at hN
            clear s2 hd19
            generalize vD 0 ((c :: r)) = vv at *
            have h18' : ((r.length : Int) + 1) ≤ 19 := by omega
            rw [show (c != 48 || decide ((c :: r).length = 1)) = true from (by have : (c == 48) = false := beq_eq_false_iff_ne.2 (fun h => hc (by rw [h]; rfl)); rw [bne, this]; rfl), Bool.true_and] at hN
            by_cases hV : V < 9223372036854775808
            · rw [decide_eq_true (show vv < 9223372036854775808 by omega), if_pos rfl, ← hv] at hN
              have hw64 : wrap64 V = V := by unfold wrap64; omega
              clear hv
              have hN := Lib.hid hN
              go_wp2_with fail
              go_ret2
              exact ⟨V, by rw [hN.out]; rfl, fun u hu => by rw [hN.out] at hu; exact (Option.some.inj hu).symm, Below.refl _ _⟩
            · rw [decide_eq_false (show ¬ vv < 9223372036854775808 by omega), if_neg (by simp)] at hN
              clear hv
              have hN := Lib.hid hN
              go_wp2_with fail
              go_ret2
              exact ⟨_, by rw [hN.out]; rfl, fun u hu => (by rw [hN.out] at hu; cases hu), Below.refl _ _⟩
          · have hd19 : decide (((c :: r)).length ≤ 19) = false := decide_eq_false (by omega)
            rw [hd19, Bool.false_and, if_neg (by simp)] at hN
            have h18' : ¬ ((r.length : Int) + 1) ≤ 19 := by omega
            have hN := Lib.hid hN
            go_wp2_with fail
            all_goals
              go_ret2
              exact ⟨_, by rw [hN.out]; rfl, fun u hu => (by rw [hN.out] at hu; cases hu), Below.refl _ _⟩
    · skip
      have hc0 : ((((({ data := ([c]).toArray } : ByteArray)[0]'(by show 0 < ([c]).toArray.size; simp)).toNat : Int)) == 48) = true := beq_iff_eq.2 hc
      go_enter Tryd.func15, Tryd.ntmps15
      go_wp2_with fail
      go_loopg [4, 6] 1 (fun g s4 s6 wr => ∃ (k : Nat) (V : Int), s4 = .int .u64 V ∧ s6 = .int .i64 k ∧ k ≤ 1 ∧ 1 - k ≤ g ∧ wr = w ∧ Hid (([c].take k).all digitC = true ∧ (1 ≤ 19 → V = vD 0 ([c].take k))))
      case atStart => exact ⟨0, 0, rfl, rfl, Nat.zero_le _, by omega, rfl, Lib.hid ⟨rfl, fun _ => rfl⟩⟩
      case round =>
        obtain ⟨k, V, rfl, rfl, hk, hg, rfl, S⟩ := hrel
        have hLen : [c].length = 1 := by simp
        by_cases hlt : k < 1
        · have htk : [c].take (k + 1) = [c].take k ++ [[c][k]] := (List.take_append_getElem (by omega)).symm
          have hbyte : ({ data := ([c]).toArray } : ByteArray)[k]'(by show k < ([c]).toArray.size; simp; omega) = [c][k] := rfl
          have C := rdigit_any (([c][k]).toNat : Int)
          have hmem : [c][k] ∈ [c] := List.getElem_mem _
          generalize [c][k] = cj at *
          rw [digit_int] at C
          cases hdg : digitC cj
          · rw [hdg] at C
            have hno : numV ([c]) = none := by
              rw [hnum.out, if_neg]
              have : ([c]).all digitC = false := by
                cases ha : ([c]).all digitC
                · rfl
                · have := List.all_eq_true.1 ha cj hmem
                  rw [hdg] at this
                  cases this
              rw [this]
              simp
            go_wp2_with fail
            refine (C _).mono ?_
            rintro e w1 ⟨rfl, rfl⟩
            go_wp2_with fail
            go_ret2
            exact ⟨_, by rw [hno]; rfl, fun u hu => (by rw [hno] at hu; cases hu), Below.refl _ _⟩
          · rw [hdg] at C
            have hlow := digit_low hdg
            go_wp2_with fail
            refine (C _).mono ?_
            rintro e w1 ⟨rfl, rfl⟩
            go_wp2_with fail
            go_roundg (1 - (k + 1))
            case measure => omega
            case rel =>
              refine ⟨k + 1, _, rfl, by simp, hlt, by omega, rfl, Lib.hid ⟨?_, fun hm => ?_⟩⟩
              · rw [htk, List.all_append, S.out.1]
                simp [hdg]
              · rw [htk, vD_snoc, S.out.2 hm]
                have hf := vD_fits ([c].take k) S.out.1 18 (by rw [List.length_take]; omega)
                exact dec_step _ cj hf hlow
        · have hkm : k = 1 := by omega
          have S' := S.out
          rw [hkm, ← hLen, List.take_length] at S'
          obtain ⟨s1, s2⟩ := S'
          have hN := hnum.out
          rw [s1, Bool.true_and] at hN
          clear hnum S
          by_cases h18 : 1 ≤ 19
          · have hv := s2 (by omega)
            have hd19 : decide (([c]).length ≤ 19) = true := decide_eq_true (by omega)
            rw [hd19, Bool.true_and] at hN
            clear s2 hd19
            generalize vD 0 ([c]) = vv at *
            have h18' : ((1 : Int)) ≤ 19 := by omega
            rw [show (c != 48 || decide (([c]).length = 1)) = true from (by simp), Bool.true_and] at hN
            by_cases hV : V < 9223372036854775808
            · rw [decide_eq_true (show vv < 9223372036854775808 by omega), if_pos rfl, ← hv] at hN
              have hw64 : wrap64 V = V := by unfold wrap64; omega
              clear hv
              have hN := Lib.hid hN
              go_wp2_with fail
              go_ret2
              exact ⟨V, by rw [hN.out]; rfl, fun u hu => by rw [hN.out] at hu; exact (Option.some.inj hu).symm, Below.refl _ _⟩
            · rw [decide_eq_false (show ¬ vv < 9223372036854775808 by omega), if_neg (by simp)] at hN
              clear hv
              have hN := Lib.hid hN
              go_wp2_with fail
              go_ret2
              exact ⟨_, by rw [hN.out]; rfl, fun u hu => (by rw [hN.out] at hu; cases hu), Below.refl _ _⟩
          · have hd19 : decide (([c]).length ≤ 19) = false := decide_eq_false (by omega)
            rw [hd19, Bool.false_and, if_neg (by simp)] at hN
            have h18' : ¬ ((1 : Int)) ≤ 19 := by omega
            have hN := Lib.hid hN
            go_wp2_with fail
            all_goals
              go_ret2
              exact ⟨_, by rw [hN.out]; rfl, fun u hu => (by rw [hN.out] at hu; cases hu), Below.refl _ _⟩
    · skip
      have hc0 : ((((({ data := ([c, d]).toArray } : ByteArray)[0]'(by show 0 < ([c, d]).toArray.size; simp)).toNat : Int)) == 48) = true := beq_iff_eq.2 hc
      go_enter Tryd.func15, Tryd.ntmps15
      go_wp2_with fail
      go_loopg [4, 6] 2 (fun g s4 s6 wr => ∃ (k : Nat) (V : Int), s4 = .int .u64 V ∧ s6 = .int .i64 k ∧ k ≤ 2 ∧ 2 - k ≤ g ∧ wr = w ∧ Hid (([c, d].take k).all digitC = true ∧ (2 ≤ 19 → V = vD 0 ([c, d].take k))))
      case atStart => exact ⟨0, 0, rfl, rfl, Nat.zero_le _, by omega, rfl, Lib.hid ⟨rfl, fun _ => rfl⟩⟩
      case round =>
        obtain ⟨k, V, rfl, rfl, hk, hg, rfl, S⟩ := hrel
        have hLen : [c, d].length = 2 := by simp
        by_cases hlt : k < 2
        · have htk : [c, d].take (k + 1) = [c, d].take k ++ [[c, d][k]] := (List.take_append_getElem (by omega)).symm
          have hbyte : ({ data := ([c, d]).toArray } : ByteArray)[k]'(by show k < ([c, d]).toArray.size; simp; omega) = [c, d][k] := rfl
          have C := rdigit_any (([c, d][k]).toNat : Int)
          have hmem : [c, d][k] ∈ [c, d] := List.getElem_mem _
          generalize [c, d][k] = cj at *
          rw [digit_int] at C
          cases hdg : digitC cj
          · rw [hdg] at C
            have hno : numV ([c, d]) = none := by
              rw [hnum.out, if_neg]
              have : ([c, d]).all digitC = false := by
                cases ha : ([c, d]).all digitC
                · rfl
                · have := List.all_eq_true.1 ha cj hmem
                  rw [hdg] at this
                  cases this
              rw [this]
              simp
            go_wp2_with fail
            refine (C _).mono ?_
            rintro e w1 ⟨rfl, rfl⟩
            go_wp2_with fail
            go_ret2
            exact ⟨_, by rw [hno]; rfl, fun u hu => (by rw [hno] at hu; cases hu), Below.refl _ _⟩
          · rw [hdg] at C
            have hlow := digit_low hdg
            go_wp2_with fail
            refine (C _).mono ?_
            rintro e w1 ⟨rfl, rfl⟩
            go_wp2_with fail
            go_roundg (2 - (k + 1))
            case measure => omega
            case rel =>
              refine ⟨k + 1, _, rfl, by simp, hlt, by omega, rfl, Lib.hid ⟨?_, fun hm => ?_⟩⟩
              · rw [htk, List.all_append, S.out.1]
                simp [hdg]
              · rw [htk, vD_snoc, S.out.2 hm]
                have hf := vD_fits ([c, d].take k) S.out.1 18 (by rw [List.length_take]; omega)
                exact dec_step _ cj hf hlow
        · have hkm : k = 2 := by omega
          have S' := S.out
          rw [hkm, ← hLen, List.take_length] at S'
          obtain ⟨s1, s2⟩ := S'
          have hN := hnum.out
          rw [s1, Bool.true_and] at hN
          clear hnum S
          by_cases h18 : 2 ≤ 19
          · have hv := s2 (by omega)
            have hd19 : decide (([c, d]).length ≤ 19) = true := decide_eq_true (by omega)
            rw [hd19, Bool.true_and] at hN
            clear s2 hd19
            generalize vD 0 ([c, d]) = vv at *
            have h18' : ((2 : Int)) ≤ 19 := by omega
            rw [show (c != 48 || decide (([c, d]).length = 1)) = false from (by have : (c == 48) = true := beq_iff_eq.2 (UInt8.toNat.inj (by show c.toNat = 48; omega)); rw [bne, this, decide_eq_false (by simp)]; rfl), Bool.false_and, if_neg (by simp)] at hN
            have hN := Lib.hid hN
            go_wp2_with fail
            all_goals
              go_ret2
              exact ⟨_, by rw [hN.out]; rfl, fun u hu => (by rw [hN.out] at hu; cases hu), Below.refl _ _⟩
          · have hd19 : decide (([c, d]).length ≤ 19) = false := decide_eq_false (by omega)
            rw [hd19, Bool.false_and, if_neg (by simp)] at hN
            have h18' : ¬ ((2 : Int)) ≤ 19 := by omega
            have hN := Lib.hid hN
            go_wp2_with fail
            all_goals
              go_ret2
              exact ⟨_, by rw [hN.out]; rfl, fun u hu => (by rw [hN.out] at hu; cases hu), Below.refl _ _⟩
    · skip
      have hc0 : ((((({ data := (c :: d :: m).toArray } : ByteArray)[0]'(by show 0 < (c :: d :: m).toArray.size; simp)).toNat : Int)) == 48) = true := beq_iff_eq.2 hc
      have hd0 : ((((({ data := (c :: d :: m).toArray } : ByteArray)[1]'(by show 1 < (c :: d :: m).toArray.size; simp)).toNat : Int)) == 120) = false := beq_eq_false_iff_ne.2 hd
      go_enter Tryd.func15, Tryd.ntmps15
      go_wp2_with fail
      go_loopg [4, 6] (m.length + 1 + 1) (fun g s4 s6 wr => ∃ (k : Nat) (V : Int), s4 = .int .u64 V ∧ s6 = .int .i64 k ∧ k ≤ (m.length + 1 + 1) ∧ (m.length + 1 + 1) - k ≤ g ∧ wr = w ∧ Hid (((c :: d :: m).take k).all digitC = true ∧ ((m.length + 1 + 1) ≤ 19 → V = vD 0 ((c :: d :: m).take k))))
      case atStart => exact ⟨0, 0, rfl, rfl, Nat.zero_le _, by omega, rfl, Lib.hid ⟨rfl, fun _ => rfl⟩⟩
      case round =>
        obtain ⟨k, V, rfl, rfl, hk, hg, rfl, S⟩ := hrel
        have hLen : (c :: d :: m).length = (m.length + 1 + 1) := by simp
        by_cases hlt : k < (m.length + 1 + 1)
        · have htk : (c :: d :: m).take (k + 1) = (c :: d :: m).take k ++ [(c :: d :: m)[k]] := (List.take_append_getElem (by omega)).symm
          have hbyte : ({ data := ((c :: d :: m)).toArray } : ByteArray)[k]'(by show k < ((c :: d :: m)).toArray.size; simp; omega) = (c :: d :: m)[k] := rfl
          have C := rdigit_any (((c :: d :: m)[k]).toNat : Int)
          have hmem : (c :: d :: m)[k] ∈ (c :: d :: m) := List.getElem_mem _
          generalize (c :: d :: m)[k] = cj at *
          rw [digit_int] at C
          cases hdg : digitC cj
          · rw [hdg] at C
            have hno : numV ((c :: d :: m)) = none := by
              rw [hnum.out, if_neg]
              have : ((c :: d :: m)).all digitC = false := by
                cases ha : ((c :: d :: m)).all digitC
                · rfl
                · have := List.all_eq_true.1 ha cj hmem
                  rw [hdg] at this
                  cases this
              rw [this]
              simp
            go_wp2_with fail
            refine (C _).mono ?_
            rintro e w1 ⟨rfl, rfl⟩
            go_wp2_with fail
            go_ret2
            exact ⟨_, by rw [hno]; rfl, fun u hu => (by rw [hno] at hu; cases hu), Below.refl _ _⟩
          · rw [hdg] at C
            have hlow := digit_low hdg
            go_wp2_with fail
            refine (C _).mono ?_
            rintro e w1 ⟨rfl, rfl⟩
            go_wp2_with fail
            go_roundg ((m.length + 1 + 1) - (k + 1))
            case measure => omega
            case rel =>
              refine ⟨k + 1, _, rfl, by simp, hlt, by omega, rfl, Lib.hid ⟨?_, fun hm => ?_⟩⟩
              · rw [htk, List.all_append, S.out.1]
                simp [hdg]
              · rw [htk, vD_snoc, S.out.2 hm]
                have hf := vD_fits ((c :: d :: m).take k) S.out.1 18 (by rw [List.length_take]; omega)
                exact dec_step _ cj hf hlow
        · have hkm : k = (m.length + 1 + 1) := by omega
          have S' := S.out
          rw [hkm, ← hLen, List.take_length] at S'
          obtain ⟨s1, s2⟩ := S'
          have hN := hnum.out
          rw [s1, Bool.true_and] at hN
          clear hnum S
          by_cases h18 : (m.length + 1 + 1) ≤ 19
          · have hv := s2 (by omega)
            have hd19 : decide (((c :: d :: m)).length ≤ 19) = true := decide_eq_true (by omega)
            rw [hd19, Bool.true_and] at hN
            clear s2 hd19
            generalize vD 0 ((c :: d :: m)) = vv at *
            have h18' : ((m.length : Int) + 1 + 1) ≤ 19 := by omega
            rw [show (c != 48 || decide ((c :: d :: m).length = 1)) = false from (by have : (c == 48) = true := beq_iff_eq.2 (UInt8.toNat.inj (by show c.toNat = 48; omega)); rw [bne, this, decide_eq_false (by simp)]; rfl), Bool.false_and, if_neg (by simp)] at hN
            have hN := Lib.hid hN
            go_wp2_with fail
            all_goals
              go_ret2
              exact ⟨_, by rw [hN.out]; rfl, fun u hu => (by rw [hN.out] at hu; cases hu), Below.refl _ _⟩
          · have hd19 : decide (((c :: d :: m)).length ≤ 19) = false := decide_eq_false (by omega)
            rw [hd19, Bool.false_and, if_neg (by simp)] at hN
            have h18' : ¬ ((m.length : Int) + 1 + 1) ≤ 19 := by omega
            have hN := Lib.hid hN
            go_wp2_with fail
            all_goals
              go_ret2
              exact ⟨_, by rw [hN.out]; rfl, fun u hu => (by rw [hN.out] at hu; cases hu), Below.refl _ _⟩
end Go.Proofs.YtjgpbpmicopemaaDoor
