/-
  strconv.ParseUint at base 16 and 63 bits: what it answers, for every text.
-/
import Derived.Test.YtjgpbpmicopemaaDoorBlank
import Derived.Lib.AtoiErrMem
namespace Go.Proofs.YtjgpbpmicopemaaDoor
open Go.RowKit

/-- a byte with the bit of small letters -/
def lowI (c : Int) : Int := bits .or .u8 c 32
/-- a digit's number -/
def hexD (c : UInt8) : Option Int :=
  if 48 ≤ (c.toNat : Int) ∧ (c.toNat : Int) ≤ 57 then some (c.toNat - 48)
  else if 97 ≤ lowI c.toNat ∧ lowI c.toNat ≤ 102 then some (lowI c.toNat - 87)
  else none
inductive HexEnd where
  | ok (n : Int)
  | wrong
  | much
/-- the number of digits, from one reached -/
def hexR : Int → List UInt8 → HexEnd
  | n, [] => .ok n
  | n, c :: l => match hexD c with
    | none => .wrong
    | some d => if 1152921504606846976 ≤ n then .much else if 9223372036854775807 < n * 16 + d then .much else hexR (n * 16 + d) l
def HexEnd.tuple : HexEnd → Value
  | .ok n => .tuple #[.int .u64 n, .nilIface]
  | .wrong => .tuple #[.int .u64 0, .iface 87 (.int .i64 2)]
  | .much => .tuple #[.int .u64 9223372036854775807, .iface 87 (.int .i64 1)]

set_option maxHeartbeats 8000000 in
set_option maxRecDepth 100000 in
theorem hexIn_any (l : List UInt8) (hne : l ≠ []) (hl : l.length ≤ 65536) (w : World) :
    Calls Tryd.prog 48 #[str l, .int .i64 16, .int .i64 63] w fun e w' => e = .returned (hexR 0 l).tuple ∧ w' = Lib.bytesWorld w 5 ⟨l.toArray⟩ := by
  unfold str
  have hlen : 1 ≤ l.length := by
    cases l with
    | nil => exact absurd rfl hne
    | cons _ _ => simp
  have hcv := Lib.run_convert_string_bytes (P := Tryd.prog) w 9 62 5 ⟨l.toArray⟩ Tryd.underlying9 Tryd.underlying62 Tryd.underlying5
  have hB : ∀ j, (hj : j < l.length) → (Lib.bytesWorld w 5 ⟨l.toArray⟩).cell? ⟨w.heap.size, j, none⟩ = some (.int .u8 (l[j].toNat : Int)) := fun j hj => by
    have := Lib.bytesWorld_cell w 5 ⟨l.toArray⟩ j (by show j < l.toArray.size; simpa using hj)
    rw [this]
    simp [List.getD, hj]
  obtain ⟨W1, hW1⟩ : ∃ W1, W1 = Lib.bytesWorld w 5 ⟨l.toArray⟩ := ⟨_, rfl⟩
  rw [← hW1] at hcv hB ⊢
  clear hW1
  generalize grownCap _ _ _ _ = cp at hcv
  have hemp : (l == []) = false := by simpa using hne
  have hmv : IntKind.u64.wrap (IntKind.u64.wrap 9223372036854775808 - 1) = 9223372036854775807 := by
    rw [IntKind.wrap_u64, IntKind.wrap_u64]
    decide
  go_enter Tryd.func48, Tryd.ntmps48
  go_wp2
  go_loopg [12, 13, 101] l.length (fun g s12 s13 s101 wr => ∃ (k : Nat) (a : Int), s12 = .bool false ∧ s13 = .int .u64 a ∧ s101 = .int .i64 k ∧ k ≤ l.length ∧ l.length - k ≤ g ∧ wr = W1 ∧ Hid (0 ≤ a ∧ a ≤ 9223372036854775807 ∧ hexR 0 l = hexR a (l.drop k)))
  case atStart => exact ⟨0, 0, rfl, rfl, rfl, Nat.zero_le _, by omega, rfl, Lib.hid ⟨by omega, by omega, rfl⟩⟩
  case round =>
    obtain ⟨k, a, rfl, rfl, rfl, hk, hg, rfl, hh⟩ := hrel
    obtain ⟨a0, a1, hdec⟩ := hh.out
    clear hh
    by_cases hkn : k < l.length
    · have hc := hB k hkn
      have hdrop : l.drop k = l[k] :: l.drop (k + 1) := List.drop_eq_getElem_cons hkn
      rw [hdrop] at hdec
      generalize l[k] = c at hc hdec
      have hc256 : c.toNat < 256 := c.toNat_lt
      have hv0 := bits_lo_u8 .or (c.toNat : Int) 32
      have hv1 := bits_hi_u8 .or (c.toNat : Int) 32
      have hu0 : bits .or .u8 95 32 = 127 := by decide
      clear hB hdrop
      by_cases hdig : 48 ≤ (c.toNat : Int) ∧ (c.toNat : Int) ≤ 57
      · have hstep : hexR a (c :: l.drop (k + 1)) = if 1152921504606846976 ≤ a then .much else if 9223372036854775807 < a * 16 + ((c.toNat : Int) - 48) then .much else hexR (a * 16 + ((c.toNat : Int) - 48)) (l.drop (k + 1)) := by
          simp only [hexR, hexD, if_pos hdig]
        obtain ⟨hd0, hd1⟩ := hdig
        by_cases hcut : 1152921504606846976 ≤ a
        · rw [hstep, if_pos hcut] at hdec
          go_wp2_with (go_at_call 59; refine (Tryd.internal_strconv_lower _ _).mono ?_; rintro e w' ⟨rfl, rfl⟩)
          go_ret2
          exact ⟨by first | rfl | (rw [hdec]; rfl), rfl⟩
        · rw [hstep, if_neg hcut] at hdec
          have icut : a < 1152921504606846976 := by omega
          by_cases hov : 9223372036854775807 < a * 16 + ((c.toNat : Int) - 48)
          · rw [if_pos hov] at hdec
            go_wp2_with (go_at_call 59; refine (Tryd.internal_strconv_lower _ _).mono ?_; rintro e w' ⟨rfl, rfl⟩)
            go_ret2
            exact ⟨by first | rfl | (rw [hdec]; rfl), rfl⟩
          · rw [if_neg hov] at hdec
            have iov : a * 16 + ((c.toNat : Int) - 48) ≤ 9223372036854775807 := by omega
            go_wp2_with (go_at_call 59; refine (Tryd.internal_strconv_lower _ _).mono ?_; rintro e w' ⟨rfl, rfl⟩)
            go_roundg (l.length - (k + 1))
            case measure => omega
            case rel => exact ⟨k + 1, a * 16 + ((c.toNat : Int) - 48), rfl, rfl, by simp, by omega, by omega, rfl, Lib.hid ⟨by omega, by omega, hdec⟩⟩
      · by_cases hlet : 97 ≤ lowI c.toNat ∧ lowI c.toNat ≤ 102
        · have hstep : hexR a (c :: l.drop (k + 1)) = if 1152921504606846976 ≤ a then .much else if 9223372036854775807 < a * 16 + (lowI c.toNat - 87) then .much else hexR (a * 16 + (lowI c.toNat - 87)) (l.drop (k + 1)) := by
            simp only [hexR, hexD, if_neg hdig, if_pos hlet]
          obtain ⟨hd0, hd1⟩ := hlet
          unfold lowI at *
          have hnd : (c.toNat : Int) < 48 ∨ 57 < (c.toNat : Int) := by omega
          clear hdig
          have hn95 : (c.toNat : Int) ≠ 95 := fun h => by rw [h] at hd1; omega
          have hlow := hd0
          have hup : bits .or .u8 (c.toNat : Int) 32 ≤ 122 := by omega
          by_cases hcut : 1152921504606846976 ≤ a
          · rw [hstep, if_pos hcut] at hdec
            rcases hnd with hnd | hnd
            all_goals
              go_wp2_with (go_at_call 59; refine (Tryd.internal_strconv_lower _ _).mono ?_; rintro e w' ⟨rfl, rfl⟩)
              all_goals first | (exfalso; omega) | (go_ret2; exact ⟨by first | rfl | (rw [hdec]; rfl), rfl⟩)
          · rw [hstep, if_neg hcut] at hdec
            have icut : a < 1152921504606846976 := by omega
            by_cases hov : 9223372036854775807 < a * 16 + (bits .or .u8 (c.toNat : Int) 32 - 87)
            · rw [if_pos hov] at hdec
              rcases hnd with hnd | hnd
              all_goals
                go_wp2_with (go_at_call 59; refine (Tryd.internal_strconv_lower _ _).mono ?_; rintro e w' ⟨rfl, rfl⟩)
                all_goals first | (exfalso; omega) | (go_ret2; exact ⟨by first | rfl | (rw [hdec]; rfl), rfl⟩)
            · rw [if_neg hov] at hdec
              have iov : a * 16 + (bits .or .u8 (c.toNat : Int) 32 - 87) ≤ 9223372036854775807 := by omega
              rcases hnd with hnd | hnd
              all_goals
                go_wp2_with (go_at_call 59; refine (Tryd.internal_strconv_lower _ _).mono ?_; rintro e w' ⟨rfl, rfl⟩)
                go_roundg (l.length - (k + 1))
                case measure => omega
                case rel => exact ⟨k + 1, a * 16 + (bits .or .u8 (c.toNat : Int) 32 - 87), rfl, by congr 1; omega, by simp, by omega, by omega, rfl, Lib.hid ⟨by omega, by omega, hdec⟩⟩
        · have hF : hexR a (c :: l.drop (k + 1)) = .wrong := by simp only [hexR, hexD, if_neg hdig, if_neg hlet]
          rw [hF] at hdec
          unfold lowI at *
          have hnd : (c.toNat : Int) < 48 ∨ 57 < (c.toNat : Int) := by omega
          have hnl : bits .or .u8 (c.toNat : Int) 32 < 97 ∨ 102 < bits .or .u8 (c.toNat : Int) 32 := by omega
          clear hdig hlet hF
          rcases hnd with hnd | hnd <;> rcases hnl with hnl | hnl
          all_goals
            go_wp2_with (go_at_call 59; refine (Tryd.internal_strconv_lower _ _).mono ?_; rintro e w' ⟨rfl, rfl⟩)
            all_goals first | (exfalso; omega) | (go_ret2; exact ⟨by first | rfl | (rw [hdec]; rfl), rfl⟩)
    · have hkk : k = l.length := by omega
      subst hkk
      have hF : hexR a (l.drop l.length) = .ok a := by rw [List.drop_length]; rfl
      rw [hF] at hdec
      go_wp2
      go_ret2
      exact ⟨by first | rfl | (rw [hdec]; rfl), rfl⟩
end Go.Proofs.YtjgpbpmicopemaaDoor
