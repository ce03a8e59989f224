import Derived.Test.YtjgpbpmicopemaaGreatDoorPe02
import Derived.Laws.BitsLemmas
import Derived.Test.YtjgpbpmicopemaaGreatDoorPb14

namespace Go.Proofs.YtjgpbpmicopemaaGreatDoor
open Go.RowKit
theorem hexK_digit {c : UInt8} (h : digitC c = true) : hexK c = c.toNat - 48 := by unfold hexK; rw [if_pos h]
theorem digit_int (c : UInt8) : digitI (c.toNat : Int) = digitC c := rfl
theorem rhex_any (c : UInt8) (w : World) : Calls Tryz.prog 31 #[.int .u8 (c.toNat : Int)] w (RN (hexK c) w) := by
  have hc := c.toNat_lt
  have hD := rdigit_any (c.toNat : Int)
  unfold hexK
  rw [digit_int] at hD
  cases hd : digitC c
  · rw [hd] at hD
    simp only [Bool.false_eq_true, if_false]
    by_cases h1 : 97 ≤ (c.toNat : Int) ∧ (c.toNat : Int) ≤ 102
    · rw [if_pos h1]
      obtain ⟨h1, h2⟩ := h1
      go_enter Tryz.func31, Tryz.ntmps31
      go_wp2_with fail
      refine (hD _).mono ?_
      rintro e w1 ⟨rfl, rfl⟩
      go_wp2_with fail
      go_ret
      exact ⟨by rw [show (c.toNat : Int) - 87 = c.toNat - 97 + 10 by omega]; rfl, rfl⟩
    · rw [if_neg h1]
      have h1' : (c.toNat : Int) < 97 ∨ 102 < (c.toNat : Int) := by omega
      clear h1
      by_cases h2 : 65 ≤ (c.toNat : Int) ∧ (c.toNat : Int) ≤ 70
      · rw [if_pos h2]
        obtain ⟨h3, h4⟩ := h2
        have h5 : (c.toNat : Int) < 97 := by omega
        go_enter Tryz.func31, Tryz.ntmps31
        go_wp2_with fail
        refine (hD _).mono ?_
        rintro e w1 ⟨rfl, rfl⟩
        go_wp2_with fail
        go_ret
        exact ⟨by rw [show (c.toNat : Int) - 55 = c.toNat - 65 + 10 by omega]; rfl, rfl⟩
      · rw [if_neg h2]
        have h2' : (c.toNat : Int) < 65 ∨ 70 < (c.toNat : Int) := by omega
        clear h2
        rcases h1' with h3 | h3 <;> rcases h2' with h4 | h4
        all_goals
          go_enter Tryz.func31, Tryz.ntmps31
          go_wp2_with fail
          refine (hD _).mono ?_
          rintro e w1 ⟨rfl, rfl⟩
          go_wp2_with fail
          all_goals first | (exfalso; omega) | (go_ret; exact ⟨rfl, rfl⟩)
  · rw [hd] at hD
    rw [if_pos rfl]
    have := digit_low hd
    go_enter Tryz.func31, Tryz.ntmps31
    go_wp2_with fail
    refine (hD _).mono ?_
    rintro e w1 ⟨rfl, rfl⟩
    go_wp2_with fail
    go_ret
    exact ⟨rfl, rfl⟩
theorem or_hex (v h : Int) (hv : 0 ≤ v ∧ v < 16 ^ 15) (h0 : 0 ≤ h) (h1 : h ≤ 15) : bits .or .u64 (IntKind.u64.wrap (v * 16)) h = v * 16 + h := by
  obtain ⟨v0, v1⟩ := hv
  have v1 : v < 1152921504606846976 := v1
  have e : IntKind.u64.wrap (v * 16) = v * 16 := by rw [IntKind.wrap_u64]; omega
  rw [e]
  refine bits_join .u64 64 (by decide) (fun n a b => ?_) 4 _ _ (by omega) ?_ ?_ h0 ?_ ?_
  · rw [IntKind.wrap_u64]
    have b : n < 18446744073709551616 := b
    omega
  · show v * 16 % 16 = 0
    omega
  · show v * 16 < 18446744073709551616
    omega
  · show h < 16
    omega
  · show h < 18446744073709551616
    omega
theorem dec_step (v : Nat) (c : UInt8) (hv : v < 10 ^ 18) (hc : 48 ≤ c.toNat ∧ c.toNat ≤ 57) : IntKind.u64.wrap (IntKind.u64.wrap ((v : Int) * 10) + ((c.toNat : Int) - 48)) = ((v * 10 + (c.toNat - 48) : Nat) : Int) := by
  have hv : v < 1000000000000000000 := hv
  rw [IntKind.wrap_u64, IntKind.wrap_u64]
  omega
def RNb (l : List UInt8) (w : World) (e : Ending) (w' : World) : Prop := ∃ v, e = .returned (.tuple #[.int .i64 v, .bool (numV l).isSome]) ∧ (∀ u, numV l = some u → u = v) ∧ Below w.heap.size w w'
set_option maxRecDepth 20000 in
set_option maxHeartbeats 4000000 in
theorem rnumber_any (c : UInt8) (r : List UInt8) (hl : (c :: r).length ≤ 65536) (w : World) : Calls Tryz.prog 21 #[str (c :: r)] w (RNb (c :: r) w) := by
  have hl' : r.length ≤ 65535 := by simpa using hl
  have hcb := c.toNat_lt
  by_cases hh : Lib.hasPrefix (c :: r) [48, 120] = true ∧ 2 < (c :: r).length
  · obtain ⟨hp, h2⟩ := hh
    have hnum := num_hex (c :: r) hp h2
    have hp' : ([48, 120] : List UInt8).isPrefixOf (c :: r) = true := hp
    obtain ⟨m, hm⟩ := List.isPrefixOf_iff_prefix.1 hp'
    have hcr : c :: r = 48 :: 120 :: m := hm.symm
    have hrl : r.length = m.length + 1 := by have := congrArg List.length hcr; simpa using this
    rw [hcr] at hnum ⊢
    clear hm hp hp' hcb hl
    simp only [List.length_cons] at h2
    have e2 : (48 :: 120 :: m).drop 2 = m := rfl
    rw [e2] at hnum
    have hnum := Lib.hid hnum
    unfold str
    go_enter Tryz.func21, Tryz.ntmps21
    go_wp2_with fail
    go_loopg [4, 5] (m.length + 2) (fun g s4 s5 wr => ∃ (k : Nat) (V : Int), s4 = .int .u64 V ∧ s5 = .int .i64 k ∧ 2 ≤ k ∧ k ≤ m.length + 2 ∧ m.length + 2 - k ≤ g ∧ wr = w ∧ Hid (allH (m.take (k - 2)) = true ∧ (m.length ≤ 16 → V = vH 0 (m.take (k - 2)))))
    case atStart => exact ⟨2, 0, rfl, rfl, Nat.le_refl _, by omega, by omega, rfl, Lib.hid ⟨rfl, fun _ => rfl⟩⟩
    case round =>
      obtain ⟨k, V, rfl, rfl, hk2, hk, hg, rfl, S⟩ := hrel
      by_cases hlt : k < m.length + 2
      · have hj : k - 2 < m.length := by omega
        have htk : m.take (k - 2 + 1) = m.take (k - 2) ++ [m[k - 2]] := (List.take_append_getElem hj).symm
        have hbyte : ({ data := (48 :: 120 :: m).toArray } : ByteArray)[k]'(by show k < (48 :: 120 :: m).toArray.size; simp; omega) = m[k - 2] := by
          obtain ⟨j, rfl⟩ : ∃ j, k = j + 2 := ⟨k - 2, by omega⟩
          rfl
        have C := rhex_any (m[k - 2])
        have hlow := hexK_low (m[k - 2])
        generalize hcj : m[k - 2] = cj at *
        by_cases hneg : hexK cj < 0
        · have hno : numV (48 :: 120 :: m) = none := by
            rw [hnum.out, if_neg]
            have : allH m = false := by
              cases ha : allH m
              · rfl
              · exfalso
                have := List.all_eq_true.1 ha cj (hcj ▸ List.getElem_mem hj)
                simp at this
                omega
            rw [this]
            simp
          go_wp2_with fail
          refine (C _).mono ?_
          rintro e w1 ⟨rfl, rfl⟩
          go_wp2_with fail
          go_ret2
          exact ⟨_, by rw [hno]; rfl, fun u hu => (by rw [hno] at hu; cases hu), Below.refl _ _⟩
        · have hu : IntKind.u64.wrap (hexK cj) = hexK cj := by rw [IntKind.wrap_u64]; omega
          go_wp2_with fail
          refine (C _).mono ?_
          rintro e w1 ⟨rfl, rfl⟩
          go_wp2_with fail
          refine (C _).mono ?_
          rintro e w1 ⟨rfl, rfl⟩
          go_wp2_with fail
          go_roundg (m.length + 2 - (k + 1))
          case measure => omega
          case rel =>
            refine ⟨k + 1, _, rfl, by simp, by omega, hlt, by omega, rfl, Lib.hid ⟨?_, fun hm => ?_⟩⟩
            · rw [show k + 1 - 2 = k - 2 + 1 by omega, htk]
              have := S.out.1
              unfold allH at this ⊢
              rw [List.all_append, this]
              simp
              omega
            · rw [show k + 1 - 2 = k - 2 + 1 by omega, htk, vH_snoc, S.out.2 hm]
              exact or_hex _ _ (vH_fits (m.take (k - 2)) S.out.1 15 (by rw [List.length_take]; omega)) (by omega) hlow.2
      · have hkm : k = m.length + 2 := by omega
        subst hkm
        have S' := S.out
        rw [show m.length + 2 - 2 = m.length by omega, List.take_length] at S'
        obtain ⟨s1, s2⟩ := S'
        have hN := hnum.out
        rw [s1, Bool.true_and] at hN
        clear hnum S
        by_cases h18 : m.length ≤ 16
        · have hv := s2 h18
          have hd : decide ((48 :: 120 :: m).length ≤ 18) = true := decide_eq_true (by simp; omega)
          rw [hd, Bool.true_and] at hN
          obtain ⟨f1, f2⟩ := vH_fits m s1 16 h18
          rw [← hv] at hN f1 f2
          clear s2 hv hd
          have h18' : (m.length : Int) + 1 + 1 ≤ 18 := by omega
          by_cases hV : V < 9223372036854775808
          · rw [decide_eq_true hV, if_pos rfl] at hN
            have hw64 : wrap64 V = V := by unfold wrap64; omega
            have hN := Lib.hid hN
            go_wp2_with fail
            go_ret2
            exact ⟨V, by rw [hN.out]; rfl, fun u hu => by rw [hN.out] at hu; exact (Option.some.inj hu).symm, Below.refl _ _⟩
          · rw [decide_eq_false hV, if_neg (by simp)] at hN
            have hN := Lib.hid hN
            go_wp2_with fail
            go_ret2
            exact ⟨_, by rw [hN.out]; rfl, fun u hu => (by rw [hN.out] at hu; cases hu), Below.refl _ _⟩
        · have hd : decide ((48 :: 120 :: m).length ≤ 18) = false := decide_eq_false (by simp; omega)
          rw [hd, Bool.false_and, if_neg (by simp)] at hN
          have h18' : ¬ (m.length : Int) + 1 + 1 ≤ 18 := by omega
          have hN := Lib.hid hN
          go_wp2_with fail
          all_goals
            go_ret2
            exact ⟨_, by rw [hN.out]; rfl, fun u hu => (by rw [hN.out] at hu; cases hu), Below.refl _ _⟩
  · have hnum := Lib.hid (num_dec c r hh)
    have hcase : ((c.toNat : Int) ≠ 48 ∧ r.length < 2) ∨ ((c.toNat : Int) ≠ 48 ∧ 2 ≤ r.length) ∨ ((c.toNat : Int) = 48 ∧ r = []) ∨ (∃ d, (c.toNat : Int) = 48 ∧ r = [d]) ∨ ∃ d m, r = d :: m ∧ 1 ≤ m.length ∧ (c.toNat : Int) = 48 ∧ (d.toNat : Int) ≠ 120 := by
      by_cases hc : (c.toNat : Int) = 48
      · right; right
        match r, hh with
        | [], _ => exact .inl ⟨hc, rfl⟩
        | [d], _ => exact .inr (.inl ⟨d, hc, rfl⟩)
        | d :: e :: m, hh =>
          refine .inr (.inr ⟨d, e :: m, rfl, by simp, hc, fun hd => hh ⟨?_, by simp⟩⟩)
          have e1 : c = 48 := UInt8.toNat.inj (by show c.toNat = 48; omega)
          have e2 : d = 120 := UInt8.toNat.inj (by show d.toNat = 120; omega)
          subst e1; subst e2
          simp [Lib.hasPrefix, List.isPrefixOf]
      · by_cases h2 : r.length < 2
        · exact .inl ⟨hc, h2⟩
        · exact .inr (.inl ⟨hc, by omega⟩)
    clear hh
    unfold str
    rcases hcase with ⟨hc, h2⟩ | ⟨hc, h2⟩ | ⟨hc, rfl⟩ | ⟨d, hc, rfl⟩ | ⟨d, m, rfl, h2, hc, hd⟩
    · skip
      have hc0 : ((((({ data := (c :: r).toArray } : ByteArray)[0]'(by show 0 < (c :: r).toArray.size; simp)).toNat : Int)) == 48) = false := beq_eq_false_iff_ne.2 hc
      go_enter Tryz.func21, Tryz.ntmps21
      go_wp2_with fail
      go_loopg [4, 6] (r.length + 1) (fun g s4 s6 wr => ∃ (k : Nat) (V : Int), s4 = .int .u64 V ∧ s6 = .int .i64 k ∧ k ≤ (r.length + 1) ∧ (r.length + 1) - k ≤ g ∧ wr = w ∧ Hid (((c :: r).take k).all digitC = true ∧ ((r.length + 1) ≤ 19 → V = vD 0 ((c :: r).take k))))
      case atStart => exact ⟨0, 0, rfl, rfl, Nat.zero_le _, by omega, rfl, Lib.hid ⟨rfl, fun _ => rfl⟩⟩
      case round =>
        obtain ⟨k, V, rfl, rfl, hk, hg, rfl, S⟩ := hrel
        have hLen : (c :: r).length = (r.length + 1) := by simp
        by_cases hlt : k < (r.length + 1)
        · have htk : (c :: r).take (k + 1) = (c :: r).take k ++ [(c :: r)[k]] := (List.take_append_getElem (by omega)).symm
          have hbyte : ({ data := ((c :: r)).toArray } : ByteArray)[k]'(by show k < ((c :: r)).toArray.size; simp; omega) = (c :: r)[k] := rfl
          have C := rdigit_any (((c :: r)[k]).toNat : Int)
          have hmem : (c :: r)[k] ∈ (c :: r) := List.getElem_mem _
          generalize (c :: r)[k] = cj at *
          rw [digit_int] at C
          cases hdg : digitC cj
          · rw [hdg] at C
            have hno : numV ((c :: r)) = none := by
              rw [hnum.out, if_neg]
              have : ((c :: r)).all digitC = false := by
                cases ha : ((c :: r)).all digitC
                · rfl
                · have := List.all_eq_true.1 ha cj hmem
                  rw [hdg] at this
                  cases this
              rw [this]
              simp
            go_wp2_with fail
            refine (C _).mono ?_
            rintro e w1 ⟨rfl, rfl⟩
            go_wp2_with fail
            go_ret2
            exact ⟨_, by rw [hno]; rfl, fun u hu => (by rw [hno] at hu; cases hu), Below.refl _ _⟩
          · rw [hdg] at C
            have hlow := digit_low hdg
            go_wp2_with fail
            refine (C _).mono ?_
            rintro e w1 ⟨rfl, rfl⟩
            go_wp2_with fail
            go_roundg ((r.length + 1) - (k + 1))
            case measure => omega
            case rel =>
              refine ⟨k + 1, _, rfl, by simp, hlt, by omega, rfl, Lib.hid ⟨?_, fun hm => ?_⟩⟩
              · rw [htk, List.all_append, S.out.1]
                simp [hdg]
              · rw [htk, vD_snoc, S.out.2 hm]
                have hf := vD_fits ((c :: r).take k) S.out.1 18 (by rw [List.length_take]; omega)
                exact dec_step _ cj hf hlow
        · have hkm : k = (r.length + 1) := by omega
          have S' := S.out
          rw [hkm, ← hLen, List.take_length] at S'
          obtain ⟨s1, s2⟩ := S'
          have hN := hnum.out
          rw [s1, Bool.true_and] at hN
          clear hnum S
          by_cases h18 : (r.length + 1) ≤ 19
          · have hv := s2 (by omega)
            have hd19 : decide (((c :: r)).length ≤ 19) = true := decide_eq_true (by omega)
            rw [hd19, Bool.true_and] at hN
            clear s2 hd19
            generalize vD 0 ((c :: r)) = vv at *
            have h18' : ((r.length : Int) + 1) ≤ 19 := by omega
            rw [show (c != 48 || decide ((c :: r).length = 1)) = true from (by have : (c == 48) = false := beq_eq_false_iff_ne.2 (fun h => hc (by rw [h]; rfl)); rw [bne, this]; rfl), Bool.true_and] at hN
            by_cases hV : V < 9223372036854775808
            · rw [decide_eq_true (show vv < 9223372036854775808 by omega), if_pos rfl, ← hv] at hN
              have hw64 : wrap64 V = V := by unfold wrap64; omega
              clear hv
              have hN := Lib.hid hN
              go_wp2_with fail
              go_ret2
              exact ⟨V, by rw [hN.out]; rfl, fun u hu => by rw [hN.out] at hu; exact (Option.some.inj hu).symm, Below.refl _ _⟩
            · rw [decide_eq_false (show ¬ vv < 9223372036854775808 by omega), if_neg (by simp)] at hN
              clear hv
              have hN := Lib.hid hN
              go_wp2_with fail
              go_ret2
              exact ⟨_, by rw [hN.out]; rfl, fun u hu => (by rw [hN.out] at hu; cases hu), Below.refl _ _⟩
          · have hd19 : decide (((c :: r)).length ≤ 19) = false := decide_eq_false (by omega)
            rw [hd19, Bool.false_and, if_neg (by simp)] at hN
            have h18' : ¬ ((r.length : Int) + 1) ≤ 19 := by omega
            have hN := Lib.hid hN
            go_wp2_with fail
            all_goals
              go_ret2
              exact ⟨_, by rw [hN.out]; rfl, fun u hu => (by rw [hN.out] at hu; cases hu), Below.refl _ _⟩
    · skip
      have hc0 : ((((({ data := (c :: r).toArray } : ByteArray)[0]'(by show 0 < (c :: r).toArray.size; simp)).toNat : Int)) == 48) = false := beq_eq_false_iff_ne.2 hc
      go_enter Tryz.func21, Tryz.ntmps21
      go_wp2_with fail
      go_loopg [4, 6] (r.length + 1) (fun g s4 s6 wr => ∃ (k : Nat) (V : Int), s4 = .int .u64 V ∧ s6 = .int .i64 k ∧ k ≤ (r.length + 1) ∧ (r.length + 1) - k ≤ g ∧ wr = w ∧ Hid (((c :: r).take k).all digitC = true ∧ ((r.length + 1) ≤ 19 → V = vD 0 ((c :: r).take k))))
      case atStart => exact ⟨0, 0, rfl, rfl, Nat.zero_le _, by omega, rfl, Lib.hid ⟨rfl, fun _ => rfl⟩⟩
      case round =>
        obtain ⟨k, V, rfl, rfl, hk, hg, rfl, S⟩ := hrel
        have hLen : (c :: r).length = (r.length + 1) := by simp
        by_cases hlt : k < (r.length + 1)
        · have htk : (c :: r).take (k + 1) = (c :: r).take k ++ [(c :: r)[k]] := (List.take_append_getElem (by omega)).symm
          have hbyte : ({ data := ((c :: r)).toArray } : ByteArray)[k]'(by show k < ((c :: r)).toArray.size; simp; omega) = (c :: r)[k] := rfl
          have C := rdigit_any (((c :: r)[k]).toNat : Int)
          have hmem : (c :: r)[k] ∈ (c :: r) := List.getElem_mem _
          generalize (c :: r)[k] = cj at *
          rw [digit_int] at C
          cases hdg : digitC cj
          · rw [hdg] at C
            have hno : numV ((c :: r)) = none := by
              rw [hnum.out, if_neg]
              have : ((c :: r)).all digitC = false := by
                cases ha : ((c :: r)).all digitC
                · rfl
                · have := List.all_eq_true.1 ha cj hmem
                  rw [hdg] at this
                  cases this
              rw [this]
              simp
            go_wp2_with fail
            refine (C _).mono ?_
            rintro e w1 ⟨rfl, rfl⟩
            go_wp2_with fail
            go_ret2
            exact ⟨_, by rw [hno]; rfl, fun u hu => (by rw [hno] at hu; cases hu), Below.refl _ _⟩
          · rw [hdg] at C
            have hlow := digit_low hdg
            go_wp2_with fail
            refine (C _).mono ?_
            rintro e w1 ⟨rfl, rfl⟩
            go_wp2_with fail
            go_roundg ((r.length + 1) - (k + 1))
            case measure => omega
            case rel =>
              refine ⟨k + 1, _, rfl, by simp, hlt, by omega, rfl, Lib.hid ⟨?_, fun hm => ?_⟩⟩
              · rw [htk, List.all_append, S.out.1]
                simp [hdg]
              · rw [htk, vD_snoc, S.out.2 hm]
                have hf := vD_fits ((c :: r).take k) S.out.1 18 (by rw [List.length_take]; omega)
                exact dec_step _ cj hf hlow
        · have hkm : k = (r.length + 1) := by omega
          have S' := S.out
          rw [hkm, ← hLen, List.take_length] at S'
          obtain ⟨s1, s2⟩ := S'
          have hN := hnum.out
          rw [s1, Bool.true_and] at hN
          clear hnum S
          by_cases h18 : (r.length + 1) ≤ 19
          · have hv := s2 (by omega)
            have hd19 : decide (((c :: r)).length ≤ 19) = true := decide_eq_true (by omega)
            rw [hd19, Bool.true_and] at hN
            clear s2 hd19
            generalize vD 0 ((c :: r)) = vv at *
            have h18' : ((r.length : Int) + 1) ≤ 19 := by omega
            rw [show (c != 48 || decide ((c :: r).length = 1)) = true from (by have : (c == 48) = false := beq_eq_false_iff_ne.2 (fun h => hc (by rw [h]; rfl)); rw [bne, this]; rfl), Bool.true_and] at hN
            by_cases hV : V < 9223372036854775808
            · rw [decide_eq_true (show vv < 9223372036854775808 by omega), if_pos rfl, ← hv] at hN
              have hw64 : wrap64 V = V := by unfold wrap64; omega
              clear hv
              have hN := Lib.hid hN
              go_wp2_with fail
              go_ret2
              exact ⟨V, by rw [hN.out]; rfl, fun u hu => by rw [hN.out] at hu; exact (Option.some.inj hu).symm, Below.refl _ _⟩
            · rw [decide_eq_false (show ¬ vv < 9223372036854775808 by omega), if_neg (by simp)] at hN
              clear hv
              have hN := Lib.hid hN
              go_wp2_with fail
              go_ret2
              exact ⟨_, by rw [hN.out]; rfl, fun u hu => (by rw [hN.out] at hu; cases hu), Below.refl _ _⟩
          · have hd19 : decide (((c :: r)).length ≤ 19) = false := decide_eq_false (by omega)
            rw [hd19, Bool.false_and, if_neg (by simp)] at hN
            have h18' : ¬ ((r.length : Int) + 1) ≤ 19 := by omega
            have hN := Lib.hid hN
            go_wp2_with fail
            all_goals
              go_ret2
              exact ⟨_, by rw [hN.out]; rfl, fun u hu => (by rw [hN.out] at hu; cases hu), Below.refl _ _⟩
    · skip
      have hc0 : ((((({ data := ([c]).toArray } : ByteArray)[0]'(by show 0 < ([c]).toArray.size; simp)).toNat : Int)) == 48) = true := beq_iff_eq.2 hc
      go_enter Tryz.func21, Tryz.ntmps21
      go_wp2_with fail
      go_loopg [4, 6] 1 (fun g s4 s6 wr => ∃ (k : Nat) (V : Int), s4 = .int .u64 V ∧ s6 = .int .i64 k ∧ k ≤ 1 ∧ 1 - k ≤ g ∧ wr = w ∧ Hid (([c].take k).all digitC = true ∧ (1 ≤ 19 → V = vD 0 ([c].take k))))
      case atStart => exact ⟨0, 0, rfl, rfl, Nat.zero_le _, by omega, rfl, Lib.hid ⟨rfl, fun _ => rfl⟩⟩
      case round =>
        obtain ⟨k, V, rfl, rfl, hk, hg, rfl, S⟩ := hrel
        have hLen : [c].length = 1 := by simp
        by_cases hlt : k < 1
        · have htk : [c].take (k + 1) = [c].take k ++ [[c][k]] := (List.take_append_getElem (by omega)).symm
          have hbyte : ({ data := ([c]).toArray } : ByteArray)[k]'(by show k < ([c]).toArray.size; simp; omega) = [c][k] := rfl
          have C := rdigit_any (([c][k]).toNat : Int)
          have hmem : [c][k] ∈ [c] := List.getElem_mem _
          generalize [c][k] = cj at *
          rw [digit_int] at C
          cases hdg : digitC cj
          · rw [hdg] at C
            have hno : numV ([c]) = none := by
              rw [hnum.out, if_neg]
              have : ([c]).all digitC = false := by
                cases ha : ([c]).all digitC
                · rfl
                · have := List.all_eq_true.1 ha cj hmem
                  rw [hdg] at this
                  cases this
              rw [this]
              simp
            go_wp2_with fail
            refine (C _).mono ?_
            rintro e w1 ⟨rfl, rfl⟩
            go_wp2_with fail
            go_ret2
            exact ⟨_, by rw [hno]; rfl, fun u hu => (by rw [hno] at hu; cases hu), Below.refl _ _⟩
          · rw [hdg] at C
            have hlow := digit_low hdg
            go_wp2_with fail
            refine (C _).mono ?_
            rintro e w1 ⟨rfl, rfl⟩
            go_wp2_with fail
            go_roundg (1 - (k + 1))
            case measure => omega
            case rel =>
              refine ⟨k + 1, _, rfl, by simp, hlt, by omega, rfl, Lib.hid ⟨?_, fun hm => ?_⟩⟩
              · rw [htk, List.all_append, S.out.1]
                simp [hdg]
              · rw [htk, vD_snoc, S.out.2 hm]
                have hf := vD_fits ([c].take k) S.out.1 18 (by rw [List.length_take]; omega)
                exact dec_step _ cj hf hlow
        · have hkm : k = 1 := by omega
          have S' := S.out
          rw [hkm, ← hLen, List.take_length] at S'
          obtain ⟨s1, s2⟩ := S'
          have hN := hnum.out
          rw [s1, Bool.true_and] at hN
          clear hnum S
          by_cases h18 : 1 ≤ 19
          · have hv := s2 (by omega)
            have hd19 : decide (([c]).length ≤ 19) = true := decide_eq_true (by omega)
            rw [hd19, Bool.true_and] at hN
            clear s2 hd19
            generalize vD 0 ([c]) = vv at *
            have h18' : ((1 : Int)) ≤ 19 := by omega
            rw [show (c != 48 || decide (([c]).length = 1)) = true from (by simp), Bool.true_and] at hN
            by_cases hV : V < 9223372036854775808
            · rw [decide_eq_true (show vv < 9223372036854775808 by omega), if_pos rfl, ← hv] at hN
              have hw64 : wrap64 V = V := by unfold wrap64; omega
              clear hv
              have hN := Lib.hid hN
              go_wp2_with fail
              go_ret2
              exact ⟨V, by rw [hN.out]; rfl, fun u hu => by rw [hN.out] at hu; exact (Option.some.inj hu).symm, Below.refl _ _⟩
            · rw [decide_eq_false (show ¬ vv < 9223372036854775808 by omega), if_neg (by simp)] at hN
              clear hv
              have hN := Lib.hid hN
              go_wp2_with fail
              go_ret2
              exact ⟨_, by rw [hN.out]; rfl, fun u hu => (by rw [hN.out] at hu; cases hu), Below.refl _ _⟩
          · have hd19 : decide (([c]).length ≤ 19) = false := decide_eq_false (by omega)
            rw [hd19, Bool.false_and, if_neg (by simp)] at hN
            have h18' : ¬ ((1 : Int)) ≤ 19 := by omega
            have hN := Lib.hid hN
            go_wp2_with fail
            all_goals
              go_ret2
              exact ⟨_, by rw [hN.out]; rfl, fun u hu => (by rw [hN.out] at hu; cases hu), Below.refl _ _⟩
    · skip
      have hc0 : ((((({ data := ([c, d]).toArray } : ByteArray)[0]'(by show 0 < ([c, d]).toArray.size; simp)).toNat : Int)) == 48) = true := beq_iff_eq.2 hc
      go_enter Tryz.func21, Tryz.ntmps21
      go_wp2_with fail
      go_loopg [4, 6] 2 (fun g s4 s6 wr => ∃ (k : Nat) (V : Int), s4 = .int .u64 V ∧ s6 = .int .i64 k ∧ k ≤ 2 ∧ 2 - k ≤ g ∧ wr = w ∧ Hid (([c, d].take k).all digitC = true ∧ (2 ≤ 19 → V = vD 0 ([c, d].take k))))
      case atStart => exact ⟨0, 0, rfl, rfl, Nat.zero_le _, by omega, rfl, Lib.hid ⟨rfl, fun _ => rfl⟩⟩
      case round =>
        obtain ⟨k, V, rfl, rfl, hk, hg, rfl, S⟩ := hrel
        have hLen : [c, d].length = 2 := by simp
        by_cases hlt : k < 2
        · have htk : [c, d].take (k + 1) = [c, d].take k ++ [[c, d][k]] := (List.take_append_getElem (by omega)).symm
          have hbyte : ({ data := ([c, d]).toArray } : ByteArray)[k]'(by show k < ([c, d]).toArray.size; simp; omega) = [c, d][k] := rfl
          have C := rdigit_any (([c, d][k]).toNat : Int)
          have hmem : [c, d][k] ∈ [c, d] := List.getElem_mem _
          generalize [c, d][k] = cj at *
          rw [digit_int] at C
          cases hdg : digitC cj
          · rw [hdg] at C
            have hno : numV ([c, d]) = none := by
              rw [hnum.out, if_neg]
              have : ([c, d]).all digitC = false := by
                cases ha : ([c, d]).all digitC
                · rfl
                · have := List.all_eq_true.1 ha cj hmem
                  rw [hdg] at this
                  cases this
              rw [this]
              simp
            go_wp2_with fail
            refine (C _).mono ?_
            rintro e w1 ⟨rfl, rfl⟩
            go_wp2_with fail
            go_ret2
            exact ⟨_, by rw [hno]; rfl, fun u hu => (by rw [hno] at hu; cases hu), Below.refl _ _⟩
          · rw [hdg] at C
            have hlow := digit_low hdg
            go_wp2_with fail
            refine (C _).mono ?_
            rintro e w1 ⟨rfl, rfl⟩
            go_wp2_with fail
            go_roundg (2 - (k + 1))
            case measure => omega
            case rel =>
              refine ⟨k + 1, _, rfl, by simp, hlt, by omega, rfl, Lib.hid ⟨?_, fun hm => ?_⟩⟩
              · rw [htk, List.all_append, S.out.1]
                simp [hdg]
              · rw [htk, vD_snoc, S.out.2 hm]
                have hf := vD_fits ([c, d].take k) S.out.1 18 (by rw [List.length_take]; omega)
                exact dec_step _ cj hf hlow
        · have hkm : k = 2 := by omega
          have S' := S.out
          rw [hkm, ← hLen, List.take_length] at S'
          obtain ⟨s1, s2⟩ := S'
          have hN := hnum.out
          rw [s1, Bool.true_and] at hN
          clear hnum S
          by_cases h18 : 2 ≤ 19
          · have hv := s2 (by omega)
            have hd19 : decide (([c, d]).length ≤ 19) = true := decide_eq_true (by omega)
            rw [hd19, Bool.true_and] at hN
            clear s2 hd19
            generalize vD 0 ([c, d]) = vv at *
            have h18' : ((2 : Int)) ≤ 19 := by omega
            rw [show (c != 48 || decide (([c, d]).length = 1)) = false from (by have : (c == 48) = true := beq_iff_eq.2 (UInt8.toNat.inj (by show c.toNat = 48; omega)); rw [bne, this, decide_eq_false (by simp)]; rfl), Bool.false_and, if_neg (by simp)] at hN
            have hN := Lib.hid hN
            go_wp2_with fail
            all_goals
              go_ret2
              exact ⟨_, by rw [hN.out]; rfl, fun u hu => (by rw [hN.out] at hu; cases hu), Below.refl _ _⟩
          · have hd19 : decide (([c, d]).length ≤ 19) = false := decide_eq_false (by omega)
            rw [hd19, Bool.false_and, if_neg (by simp)] at hN
            have h18' : ¬ ((2 : Int)) ≤ 19 := by omega
            have hN := Lib.hid hN
            go_wp2_with fail
            all_goals
              go_ret2
              exact ⟨_, by rw [hN.out]; rfl, fun u hu => (by rw [hN.out] at hu; cases hu), Below.refl _ _⟩
    · skip
      have hc0 : ((((({ data := (c :: d :: m).toArray } : ByteArray)[0]'(by show 0 < (c :: d :: m).toArray.size; simp)).toNat : Int)) == 48) = true := beq_iff_eq.2 hc
      have hd0 : ((((({ data := (c :: d :: m).toArray } : ByteArray)[1]'(by show 1 < (c :: d :: m).toArray.size; simp)).toNat : Int)) == 120) = false := beq_eq_false_iff_ne.2 hd
      go_enter Tryz.func21, Tryz.ntmps21
      go_wp2_with fail
      go_loopg [4, 6] (m.length + 1 + 1) (fun g s4 s6 wr => ∃ (k : Nat) (V : Int), s4 = .int .u64 V ∧ s6 = .int .i64 k ∧ k ≤ (m.length + 1 + 1) ∧ (m.length + 1 + 1) - k ≤ g ∧ wr = w ∧ Hid (((c :: d :: m).take k).all digitC = true ∧ ((m.length + 1 + 1) ≤ 19 → V = vD 0 ((c :: d :: m).take k))))
      case atStart => exact ⟨0, 0, rfl, rfl, Nat.zero_le _, by omega, rfl, Lib.hid ⟨rfl, fun _ => rfl⟩⟩
      case round =>
        obtain ⟨k, V, rfl, rfl, hk, hg, rfl, S⟩ := hrel
        have hLen : (c :: d :: m).length = (m.length + 1 + 1) := by simp
        by_cases hlt : k < (m.length + 1 + 1)
        · have htk : (c :: d :: m).take (k + 1) = (c :: d :: m).take k ++ [(c :: d :: m)[k]] := (List.take_append_getElem (by omega)).symm
          have hbyte : ({ data := ((c :: d :: m)).toArray } : ByteArray)[k]'(by show k < ((c :: d :: m)).toArray.size; simp; omega) = (c :: d :: m)[k] := rfl
          have C := rdigit_any (((c :: d :: m)[k]).toNat : Int)
          have hmem : (c :: d :: m)[k] ∈ (c :: d :: m) := List.getElem_mem _
          generalize (c :: d :: m)[k] = cj at *
          rw [digit_int] at C
          cases hdg : digitC cj
          · rw [hdg] at C
            have hno : numV ((c :: d :: m)) = none := by
              rw [hnum.out, if_neg]
              have : ((c :: d :: m)).all digitC = false := by
                cases ha : ((c :: d :: m)).all digitC
                · rfl
                · have := List.all_eq_true.1 ha cj hmem
                  rw [hdg] at this
                  cases this
              rw [this]
              simp
            go_wp2_with fail
            refine (C _).mono ?_
            rintro e w1 ⟨rfl, rfl⟩
            go_wp2_with fail
            go_ret2
            exact ⟨_, by rw [hno]; rfl, fun u hu => (by rw [hno] at hu; cases hu), Below.refl _ _⟩
          · rw [hdg] at C
            have hlow := digit_low hdg
            go_wp2_with fail
            refine (C _).mono ?_
            rintro e w1 ⟨rfl, rfl⟩
            go_wp2_with fail
            go_roundg ((m.length + 1 + 1) - (k + 1))
            case measure => omega
            case rel =>
              refine ⟨k + 1, _, rfl, by simp, hlt, by omega, rfl, Lib.hid ⟨?_, fun hm => ?_⟩⟩
              · rw [htk, List.all_append, S.out.1]
                simp [hdg]
              · rw [htk, vD_snoc, S.out.2 hm]
                have hf := vD_fits ((c :: d :: m).take k) S.out.1 18 (by rw [List.length_take]; omega)
                exact dec_step _ cj hf hlow
        · have hkm : k = (m.length + 1 + 1) := by omega
          have S' := S.out
          rw [hkm, ← hLen, List.take_length] at S'
          obtain ⟨s1, s2⟩ := S'
          have hN := hnum.out
          rw [s1, Bool.true_and] at hN
          clear hnum S
          by_cases h18 : (m.length + 1 + 1) ≤ 19
          · have hv := s2 (by omega)
            have hd19 : decide (((c :: d :: m)).length ≤ 19) = true := decide_eq_true (by omega)
            rw [hd19, Bool.true_and] at hN
            clear s2 hd19
            generalize vD 0 ((c :: d :: m)) = vv at *
            have h18' : ((m.length : Int) + 1 + 1) ≤ 19 := by omega
            rw [show (c != 48 || decide ((c :: d :: m).length = 1)) = false from (by have : (c == 48) = true := beq_iff_eq.2 (UInt8.toNat.inj (by show c.toNat = 48; omega)); rw [bne, this, decide_eq_false (by simp)]; rfl), Bool.false_and, if_neg (by simp)] at hN
            have hN := Lib.hid hN
            go_wp2_with fail
            all_goals
              go_ret2
              exact ⟨_, by rw [hN.out]; rfl, fun u hu => (by rw [hN.out] at hu; cases hu), Below.refl _ _⟩
          · have hd19 : decide (((c :: d :: m)).length ≤ 19) = false := decide_eq_false (by omega)
            rw [hd19, Bool.false_and, if_neg (by simp)] at hN
            have h18' : ¬ ((m.length : Int) + 1 + 1) ≤ 19 := by omega
            have hN := Lib.hid hN
            go_wp2_with fail
            all_goals
              go_ret2
              exact ⟨_, by rw [hN.out]; rfl, fun u hu => (by rw [hN.out] at hu; cases hu), Below.refl _ _⟩
end Go.Proofs.YtjgpbpmicopemaaGreatDoor

namespace Go.Proofs.YtjgpbpmicopemaaGreatDoor
open Go.RowKit
def Rs (s : List UInt8) (i : Nat) (pre : List It) : Prop :=
  i ≤ s.length ∧ (∀ x ∈ pre, x.bad = false) ∧ ∃ f, s.length - i < f ∧ scanL s = pre ++ scanF f (nextP (1, 1) (s.take i)) (s.drop i)
theorem Rs.start (s : List UInt8) : Rs s 0 [] := ⟨Nat.zero_le _, by simp, s.length + 1, by omega, rfl⟩
theorem Rs.over {s : List UInt8} {pre : List It} (h : Rs s s.length pre) : goods s = pre ∧ faultO s = none := by
  obtain ⟨-, h2, f, h3, h4⟩ := h
  obtain ⟨f, rfl⟩ : ∃ g, f = g + 1 := ⟨f - 1, by omega⟩
  rw [List.drop_length] at h4
  have h5 : scanL s = pre := by rw [h4]; simp [scanF]
  have := goods_all s (by rw [h5]; exact h2)
  exact ⟨this.1.trans h5, this.2⟩
theorem Rs.unf {s : List UInt8} {i : Nat} {pre : List It} (h : Rs s i pre) (hi : i < s.length) : ∃ f, s.length - i < f + 1 ∧ scanL s = pre ++ (if (blankV (s.drop i)).2 = false then [itBad (nextP (1, 1) (s.take i))]
    else if (blankV (s.drop i)).1 ≠ 0 then scanF f (nextP (nextP (1, 1) (s.take i)) ((s.drop i).take (blankV (s.drop i)).1.toNat)) ((s.drop i).drop (blankV (s.drop i)).1.toNat)
    else match wordO (s.drop i) with
      | none => [itBad (nextP (1, 1) (s.take i))]
      | some d => ⟨d, nextP (1, 1) (s.take i), false⟩ :: scanF f (nextP (nextP (1, 1) (s.take i)) ((s.drop i).take d.t.length)) ((s.drop i).drop d.t.length)) := by
  obtain ⟨-, h2, f, h3, h4⟩ := h
  obtain ⟨f, rfl⟩ : ∃ g, f = g + 1 := ⟨f - 1, by omega⟩
  refine ⟨f, h3, ?_⟩
  rw [h4]
  congr 1
  rw [List.drop_eq_getElem_cons hi]
  rfl
theorem pos_add (s : List UInt8) (i k : Nat) : nextP (nextP (1, 1) (s.take i)) ((s.drop i).take k) = nextP (1, 1) (s.take (i + k)) := by
  rw [← nextP_append, ← List.take_add]
theorem Rs.skip {s : List UInt8} {i k : Nat} {pre : List It} (h : Rs s i pre) (hi : i < s.length) (hb : blankV (s.drop i) = ((k : Int), true)) (hk : 1 ≤ k) : i + k ≤ s.length ∧ Rs s (i + k) pre := by
  obtain ⟨f, h3, h4⟩ := h.unf hi
  have hle : i + k ≤ s.length := by
    have e := List.drop_eq_getElem_cons hi
    have := (blank_low s[i] (s.drop (i + 1)) (by rw [← e, hb])).2
    rw [← e, hb, List.length_drop] at this
    simp only at this
    omega
  rw [hb, if_neg (by simp), if_pos (by show (k : Int) ≠ 0; omega), Int.toNat_natCast, pos_add, List.drop_drop] at h4
  exact ⟨hle, hle, h.2.1, f, by omega, h4⟩
theorem Rs.open {s : List UInt8} {i : Nat} {pre : List It} (h : Rs s i pre) (hi : i < s.length) (hb : (blankV (s.drop i)).2 = false) : goods s = pre ∧ faultO s = some (itBad (nextP (1, 1) (s.take i))) := by
  obtain ⟨f, h3, h4⟩ := h.unf hi
  rw [if_pos hb] at h4
  exact goods_some s pre [] (itBad (nextP (1, 1) (s.take i))) (by rw [h4]; simp) h.2.1 rfl
theorem Rs.none {s : List UInt8} {i : Nat} {pre : List It} (h : Rs s i pre) (hi : i < s.length) (hb : blankV (s.drop i) = (0, true)) (hw : wordO (s.drop i) = none) : goods s = pre ∧ faultO s = some (itBad (nextP (1, 1) (s.take i))) := by
  obtain ⟨f, h3, h4⟩ := h.unf hi
  rw [hb, if_neg (by simp), if_neg (by simp), hw] at h4
  exact goods_some s pre [] (itBad (nextP (1, 1) (s.take i))) (by rw [h4]; simp) h.2.1 rfl
theorem Rs.word {s : List UInt8} {i : Nat} {pre : List It} {d : Wd} (h : Rs s i pre) (hi : i < s.length) (hb : blankV (s.drop i) = (0, true)) (hw : wordO (s.drop i) = some d) :
    i + d.t.length ≤ s.length ∧ 1 ≤ d.t.length ∧ Rs s (i + d.t.length) (pre ++ [⟨d, nextP (1, 1) (s.take i), false⟩]) := by
  obtain ⟨f, h3, h4⟩ := h.unf hi
  have e := List.drop_eq_getElem_cons hi
  have hlow := word_low s[i] (s.drop (i + 1)) d (by rw [← e, hw])
  rw [← e, List.length_drop] at hlow
  have hle : i + d.t.length ≤ s.length := by omega
  rw [hb, if_neg (by simp), if_neg (by simp), hw] at h4
  simp only at h4
  rw [pos_add, List.drop_drop] at h4
  refine ⟨hle, hlow.1, hle, ?_, f, by omega, by rw [h4]; simp⟩
  intro x hx
  rcases List.mem_append.1 hx with hx | hx
  · exact h.2.1 x hx
  · rw [List.mem_singleton.1 hx]
theorem hp2 {s : List UInt8} {i : Nat} (hi : i < s.length) (x y : UInt8) : Lib.hasPrefix (s.drop i) [x, y] = true ↔ s[i] = x ∧ ∃ h1 : i + 1 < s.length, s[i + 1] = y := by
  rw [List.drop_eq_getElem_cons hi]
  by_cases h1 : i + 1 < s.length
  · rw [List.drop_eq_getElem_cons h1]
    simp only [Lib.hasPrefix, List.isPrefixOf, Bool.and_true, Bool.and_eq_true, beq_iff_eq]
    exact ⟨fun h => ⟨h.1.symm, h1, h.2.symm⟩, fun ⟨h, _, h'⟩ => ⟨h.symm, h'.symm⟩⟩
  · rw [List.drop_eq_nil_of_le (show s.length ≤ i + 1 by omega)]
    simp [Lib.hasPrefix, List.isPrefixOf, h1]
theorem ws_blank {s : List UInt8} {i : Nat} (hi : i < s.length) (h : [32, 9, 13, 10].contains s[i] = true) : blankV (s.drop i) = (((1 : Nat) : Int), true) := by
  rw [List.drop_eq_getElem_cons hi]
  unfold blankV
  rw [List.headD_cons, if_pos h]
  rfl
def lineN (s : List UInt8) (i : Nat) : Nat := ((s.drop i).takeWhile (· != 10)).length
theorem lineN_index : ∀ m : List UInt8, (if 0 ≤ Lib.indexByte m 10 then Lib.indexByte m 10 else (m.length : Int)) = ((m.takeWhile (· != 10)).length : Nat)
  | [] => rfl
  | c :: m => by
    have ih := lineN_index m
    have h1 := Lib.indexByte_ge m 10
    rw [List.takeWhile_cons]
    by_cases hc : c = 10
    · subst hc
      simp [Lib.indexByte]
    · have h2 : (c == 10) = false := beq_eq_false_iff_ne.2 hc
      have h3 : (c != 10) = true := by simp [bne, h2]
      have e : Lib.indexByte (c :: m) 10 = if Lib.indexByte m 10 = -1 then -1 else Lib.indexByte m 10 + 1 := by
        show (if (c == 10) = true then (0 : Int) else if (Lib.indexByte m 10 == -1) = true then -1 else Lib.indexByte m 10 + 1) = _
        rw [h2]
        simp
      rw [e, h3]
      simp only [if_true, List.length_cons]
      by_cases h0 : 0 ≤ Lib.indexByte m 10
      · rw [if_pos h0] at ih
        rw [if_neg (show ¬ Lib.indexByte m 10 = -1 by omega), if_pos (by omega)]
        omega
      · rw [if_neg h0] at ih
        rw [if_pos (show Lib.indexByte m 10 = -1 by omega), if_neg (by omega)]
        omega
theorem line_blank {s : List UInt8} {i : Nat} (hi : i < s.length) (h0 : s[i] = 47) (h1 : i + 1 < s.length) (h2 : s[i + 1] = 47) : blankV (s.drop i) = (((lineN s i : Nat) : Int), true) ∧ 1 ≤ lineN s i := by
  have hp := (hp2 hi 47 47).2 ⟨h0, h1, h2⟩
  have e := List.drop_eq_getElem_cons hi
  have hh : (s.drop i).headD 0 = 47 := by rw [e, h0]; rfl
  refine ⟨?_, ?_⟩
  · unfold blankV lineN
    rw [hh, if_neg (by decide), if_pos hp, lineN_index]
  · unfold lineN
    rw [e, h0, List.takeWhile_cons]
    simp
theorem lineN_le (s : List UInt8) (i : Nat) (hi : i ≤ s.length) : i + lineN s i ≤ s.length := by
  have := (List.takeWhile_sublist (· != 10) (l := s.drop i)).length_le
  rw [List.length_drop] at this
  unfold lineN
  omega
theorem lineN_go {s : List UInt8} {i n : Nat} (hn : n ≤ lineN s i) (h : i + n < s.length) (hc : s[i + n] ≠ 10) : n + 1 ≤ lineN s i := by
  rcases Nat.lt_or_eq_of_le hn with h1 | h1
  · exact h1
  · exfalso
    have hl : ((s.drop i).takeWhile (· != 10)).length < (s.drop i).length := by
      rw [List.length_drop]
      unfold lineN at h1
      omega
    have := tw_at (· != 10) (s.drop i) hl
    unfold lineN at h1
    simp only [← h1, List.getElem_drop] at this
    simp at this
    exact hc this
theorem lineN_stop {s : List UInt8} {i n : Nat} (hn : n ≤ lineN s i) (h : i + n < s.length) (hc : s[i + n] = 10) : lineN s i = n := by
  rcases Nat.lt_or_eq_of_le hn with h1 | h1
  · have := tw_before (· != 10) (s.drop i) n (by rw [List.length_drop]; omega) h1
    rw [List.getElem_drop, hc] at this
    simp at this
  · exact h1.symm
theorem lineN_end {s : List UInt8} {i n : Nat} (hi : i ≤ s.length) (hn : n ≤ lineN s i) (h : ¬ i + n < s.length) : lineN s i = n := by
  have := lineN_le s i hi
  omega
def NoEnd (s : List UInt8) (i n : Nat) : Prop := ∀ j, j + 3 < n → (h : i + j + 3 < s.length) → ¬ (s[i + j + 2] = 42 ∧ s[i + j + 3] = 47)
theorem occ_iff {s : List UInt8} {i j : Nat} (h : i + j + 3 < s.length) : Lib.occAt ((s.drop i).drop 2) [42, 47] j = true ↔ (s[i + j + 2] = 42 ∧ s[i + j + 3] = 47) := by
  have e : Lib.occAt ((s.drop i).drop 2) [42, 47] j = Lib.hasPrefix (s.drop (i + j + 2)) [42, 47] := by
    unfold Lib.occAt Lib.hasPrefix
    rw [List.drop_drop, List.drop_drop, show i + (2 + j) = i + j + 2 from by omega]
  rw [e, hp2 (by omega)]
  exact ⟨fun ⟨a, _, b⟩ => ⟨a, b⟩, fun ⟨a, b⟩ => ⟨a, h, b⟩⟩
theorem occ_room {s : List UInt8} {i j : Nat} (h : Lib.occAt ((s.drop i).drop 2) [42, 47] j = true) : i + j + 3 < s.length := by
  unfold Lib.occAt at h
  have := (List.isPrefixOf_iff_prefix.1 h).length_le
  rw [List.drop_drop, List.drop_drop, List.length_drop] at this
  simp at this
  omega
theorem star_head {s : List UInt8} {i : Nat} (hi : i < s.length) (h0 : s[i] = 47) (h1 : i + 1 < s.length) (h2 : s[i + 1] = 42) :
    blankV (s.drop i) = (Lib.index ((s.drop i).drop 2) [42, 47] + 4, decide (0 ≤ Lib.index ((s.drop i).drop 2) [42, 47])) := by
  have hp := (hp2 hi 47 42).2 ⟨h0, h1, h2⟩
  have hp' : Lib.hasPrefix (s.drop i) [47, 47] = false := by
    cases h : Lib.hasPrefix (s.drop i) [47, 47]
    · rfl
    · obtain ⟨-, _, h3⟩ := (hp2 hi 47 47).1 h
      rw [h2] at h3
      exact absurd h3 (by decide)
  have hh : (s.drop i).headD 0 = 47 := by rw [List.drop_eq_getElem_cons hi, h0]; rfl
  unfold blankV
  rw [hh, if_neg (by decide), hp', if_neg (by simp), if_pos hp]
theorem star_open {s : List UInt8} {i : Nat} (hi : i < s.length) (h0 : s[i] = 47) (h1 : i + 1 < s.length) (h2 : s[i + 1] = 42) (hn : NoEnd s i (s.length - i)) : (blankV (s.drop i)).2 = false := by
  rw [star_head hi h0 h1 h2]
  show decide _ = false
  rw [decide_eq_false_iff_not]
  rcases Lib.index_spec ((s.drop i).drop 2) [42, 47] with ⟨h, -⟩ | ⟨j, -, -, h, -⟩
  · omega
  · have hr := occ_room h
    exact absurd ((occ_iff hr).1 h) (hn j (by omega) hr)
theorem star_shut {s : List UInt8} {i n : Nat} (hi : i < s.length) (h0 : s[i] = 47) (h1 : i + 1 < s.length) (h2 : s[i + 1] = 42) (hn : NoEnd s i n) (h3 : 3 ≤ n) (h4 : i + n < s.length) (h5 : s[i + n] = 47) (h6 : s[i + n - 1]'(by omega) = 42) :
    blankV (s.drop i) = (((n + 1 : Nat) : Int), true) := by
  rw [star_head hi h0 h1 h2]
  obtain ⟨j, rfl⟩ : ∃ j, n = j + 3 := ⟨n - 3, by omega⟩
  have hoc : Lib.occAt ((s.drop i).drop 2) [42, 47] j = true := (occ_iff h4).2 ⟨h6, h5⟩
  have e : Lib.index ((s.drop i).drop 2) [42, 47] = j := by
    rcases Lib.index_spec ((s.drop i).drop 2) [42, 47] with ⟨-, h⟩ | ⟨k, e, h7, h8, h9⟩
    · have := h j (by rw [List.drop_drop, List.length_drop]; omega)
      rw [hoc] at this
      cases this
    · rw [e]
      rcases Nat.lt_trichotomy k j with h | h | h
      · have hr := occ_room h8
        exact absurd ((occ_iff hr).1 h8) (hn k (by omega) hr)
      · rw [h]
      · have := h9 j h
        rw [hoc] at this
        cases this
  rw [e]
  refine Prod.ext ?_ ?_
  · show (j : Int) + 4 = _
    omega
  · exact decide_eq_true (show (0 : Int) ≤ j by omega)
theorem NoEnd.start (s : List UInt8) (i : Nat) : NoEnd s i 2 := fun j h => absurd h (by omega)
theorem NoEnd.go {s : List UInt8} {i n : Nat} (h : NoEnd s i n) (hn : i + n < s.length) (hc : n < 3 ∨ s[i + n] ≠ 47 ∨ s[i + n - 1]'(by omega) ≠ 42) : NoEnd s i (n + 1) := by
  intro j hj hr
  rcases Nat.lt_or_eq_of_le (show j + 3 ≤ n by omega) with h1 | h1
  · exact h j h1 hr
  · subst h1
    rintro ⟨a, b⟩
    rcases hc with hc | hc | hc
    · omega
    · exact hc b
    · exact hc a
theorem no_blank {s : List UInt8} {i : Nat} (hi : i < s.length) (h1 : [32, 9, 13, 10].contains s[i] = false) (h2 : ¬ (s[i] = 47 ∧ ∃ h1 : i + 1 < s.length, s[i + 1] = 47)) (h3 : ¬ (s[i] = 47 ∧ ∃ h1 : i + 1 < s.length, s[i + 1] = 42)) : blankV (s.drop i) = (0, true) := by
  have a2 := fun h => h2 ((hp2 hi 47 47).1 h)
  have a3 := fun h => h3 ((hp2 hi 47 42).1 h)
  rw [List.drop_eq_getElem_cons hi] at a2 a3 ⊢
  exact (blank_zero _ _).2 ⟨h1, by simpa using a2, by simpa using a3⟩
end Go.Proofs.YtjgpbpmicopemaaGreatDoor
