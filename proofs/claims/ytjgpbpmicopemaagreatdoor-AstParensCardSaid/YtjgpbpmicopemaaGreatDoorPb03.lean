import Derived.Test.YtjgpbpmicopemaaGreatDoorPb01
import Derived.Test.YtjgpbpmicopemaaGreatDoorPb02
import Derived.Lib.IndexBytes
import Derived.Lib.AtoiErrMem
import Derived.Shelf.Strings.SlTrimAscii

/-
  lex.isKey, mark: what they answer, for every text.
-/
namespace Go.Proofs.YtjgpbpmicopemaaGreatDoor
open Go.RowKit

set_option maxHeartbeats 2000000 in
theorem isKey_any (l : List UInt8) (w : World) : Calls Tryz.prog 99 #[str l] w (BB (keyB l) w) := by
  unfold str
  go_enter Tryz.func99, Tryz.ntmps99
  go_wp2_with fail
  all_goals (go_ret; exact ⟨by congr 2; simp_all [keyB, keys], rfl⟩)
theorem indexByte_in (c : UInt8) : ∀ l : List UInt8, l.contains c = true → 0 ≤ Lib.indexByte l c
  | [], h => by simp at h
  | b :: l, h => by
    unfold Lib.indexByte
    have := Lib.indexByte_ge l c
    by_cases hb : b = c
    · subst hb; simp
    · have h1 : (b == c) = false := by simpa using hb
      have h2 : (c == b) = false := by simpa using Ne.symm hb
      rw [List.contains_cons, h2, Bool.false_or] at h
      have ih := indexByte_in c l h
      rw [h1]
      have h3 : (Lib.indexByte l c == -1) = false := by rw [beq_eq_false_iff_ne]; omega
      simp only [h3, Bool.false_eq_true, if_false]
      omega
theorem indexByte_out (c : UInt8) : ∀ l : List UInt8, l.contains c = false → Lib.indexByte l c = -1
  | [], _ => rfl
  | b :: l, h => by
    rw [List.contains_cons, Bool.or_eq_false_iff] at h
    unfold Lib.indexByte
    have h1 : (b == c) = false := by
      rw [beq_eq_false_iff_ne]; intro e; subst e; simp at h
    rw [h1, indexByte_out c l h.2]
    rfl
theorem byte_back (b : UInt8) : ((b.toNat : Int)).toNat.toUInt8 = b := by simp
theorem ext2 (l : List UInt8) : (({ data := l.toArray } : ByteArray).extract 0 2).toList = l.take 2 := by rw [cut_upto, bytes_list]
theorem mark_tail (b : UInt8) (l : List UInt8) (h : (decide (2 ≤ (b :: l).length) && twos.contains ((b :: l).take 2)) = false) : markN (b :: l) = if ones.contains b then 1 else 0 := by
  unfold markN
  rw [h]
  rfl
set_option maxHeartbeats 2000000 in
theorem mark_any (b : UInt8) (l : List UInt8) (hl : (b :: l).length ≤ 65536) (w : World) : Calls Tryz.prog 101 #[str (b :: l)] w (RN (markN (b :: l)) w) := by
  have hx := ext2 (b :: l)
  have hl' : l.length ≤ 65535 := by simpa using hl
  unfold str
  cases ht : decide (2 ≤ (b :: l).length) && twos.contains ((b :: l).take 2)
  · have hm := mark_tail b l ht
    rw [hm]
    have C : ∀ W, Calls Tryz.prog 94 #[.string ⟨#[40, 41, 123, 125, 91, 93, 59, 44, 46, 61, 60, 62, 43, 45, 42, 47, 37, 38, 124, 94, 126, 33]⟩, .int .u8 (b.toNat : Int)] W fun e w' => e = .returned (.int .i64 (Lib.indexByte ones b)) ∧ w' = W := fun W => by
      have := Tryz.strings_IndexByte ⟨#[40, 41, 123, 125, 91, 93, 59, 44, 46, 61, 60, 62, 43, 45, 42, 47, 37, 38, 124, 94, 126, 33]⟩ (b.toNat : Int) W
      rwa [byte_back] at this
    have key : ∀ (ib r : Int), ((0 ≤ ib ∧ r = 1) ∨ (ib < 0 ∧ r = 0)) → (∀ W, Calls Tryz.prog 94 #[.string ⟨#[40, 41, 123, 125, 91, 93, 59, 44, 46, 61, 60, 62, 43, 45, 42, 47, 37, 38, 124, 94, 126, 33]⟩, .int .u8 (b.toNat : Int)] W fun e w' => e = .returned (.int .i64 ib) ∧ w' = W) → Calls Tryz.prog 101 #[.string ⟨(b :: l).toArray⟩] w (RN r w) := by
      intro ib r hi C
      simp only [twos, List.contains_cons, List.contains_nil, Bool.or_false, Bool.and_eq_false_imp, decide_eq_true_eq, Bool.or_eq_false_iff] at ht
      generalize (b :: l).take 2 = tt at *
      rcases hi with ⟨hi, rfl⟩ | ⟨hi, rfl⟩
      all_goals
        go_enter Tryz.func101, Tryz.ntmps101
        by_cases hl1 : 1 ≤ l.length
        · obtain ⟨t0, t1, t2, t3, t4, t5, t6, t7, t8⟩ := ht (by simp; omega)
          go_wp2_with fail
          refine (C _).mono ?_
          rintro e w1 ⟨rfl, rfl⟩
          go_wp2_with fail
          go_ret
          exact ⟨by simp, rfl⟩
        · have hnil : l = [] := List.length_eq_zero_iff.1 (by omega)
          subst hnil
          go_wp2_with fail
          refine (C _).mono ?_
          rintro e w1 ⟨rfl, rfl⟩
          go_wp2_with fail
          go_ret
          exact ⟨by simp, rfl⟩
    refine key _ _ ?_ C
    cases hc : ones.contains b
    · right; exact ⟨by rw [indexByte_out _ _ hc]; decide, by simp⟩
    · left; exact ⟨indexByte_in _ _ hc, by simp⟩
  · rw [show markN (b :: l) = 2 from by unfold markN; rw [ht]; rfl]
    rw [Bool.and_eq_true, decide_eq_true_eq] at ht
    obtain ⟨h2, ht⟩ := ht
    simp only [twos, List.contains_cons, List.contains_nil, Bool.or_false, Bool.or_eq_true] at ht
    have h2' : 1 ≤ l.length := by simp at h2; omega
    generalize (b :: l).take 2 = tt at *
    go_enter Tryz.func101, Tryz.ntmps101
    go_wp2_with fail
    all_goals first | (go_ret; exact ⟨by simp_all, rfl⟩) | (exfalso; simp_all; done)
end Go.Proofs.YtjgpbpmicopemaaGreatDoor

/-
  lex.blank: what it answers, for every text.
-/
namespace Go.Proofs.YtjgpbpmicopemaaGreatDoor
open Go.RowKit

/-- the library's variables that are read, as the texts' start lays them -/
structure Env (w : World) : Prop where
  len : ∃ m : Int, w.cell? ⟨0, 0, none⟩ = some (.int .i64 m)
  syn : ∃ ev : Value, w.cell? ⟨2, 0, none⟩ = some ev ∧ (ev = .nilIface ∨ ∃ te pe, ev = .iface te pe)
  rng : ∃ ev : Value, w.cell? ⟨3, 0, none⟩ = some ev ∧ (ev = .nilIface ∨ ∃ te pe, ev = .iface te pe)
theorem cell_lt {w : World} {a : Addr} {v : Value} (h : w.cell? a = some v) : a.block < w.heap.size := by
  rcases Nat.lt_or_ge a.block w.heap.size with h' | h'
  · exact h'
  · simp [World.cell?, Array.getElem?_eq_none h'] at h
theorem Env.below {w w' : World} (h : Env w) (hb : Below w.heap.size w w') : Env w' := by
  obtain ⟨⟨m, h1⟩, ⟨s, h2, s2⟩, ⟨r, h3, r2⟩⟩ := h
  exact ⟨⟨m, (hb.cell (cell_lt h1)).trans h1⟩, ⟨s, (hb.cell (cell_lt h2)).trans h2, s2⟩, ⟨r, (hb.cell (cell_lt h3)).trans h3, r2⟩⟩
def RB (r : Int × Bool) (w : World) (e : Ending) (w' : World) : Prop := e = .returned (.tuple #[.int .i64 r.1, .bool r.2]) ∧ w = w'

theorem indexByte_le (c : UInt8) : ∀ l : List UInt8, Lib.indexByte l c ≤ l.length
  | [] => by simp [Lib.indexByte]
  | b :: l => by
    have := indexByte_le c l
    unfold Lib.indexByte
    split
    · simp; omega
    · split <;> simp <;> omega
set_option maxHeartbeats 2000000 in
theorem blank_any (b : UInt8) (l : List UInt8) (hl : (b :: l).length ≤ 65536) (w : World) (hE : Env w) : Calls Tryz.prog 74 #[str (b :: l)] w (RB (blankV (b :: l)) w) := by
  have hl' : l.length ≤ 65535 := by simpa using hl
  obtain ⟨m, hm⟩ := hE.len
  clear hE
  unfold str
  cases h0 : ([32, 9, 13, 10] : List UInt8).contains b
  · have hi := indexByte_out b [32, 9, 13, 10] h0
    have C0 : Calls Tryz.prog 94 #[.string ⟨#[32, 9, 13, 10]⟩, .int .u8 (b.toNat : Int)] w fun e w' => e = .returned (.int .i64 (-1)) ∧ w' = w := by
      have := Tryz.strings_IndexByte ⟨#[32, 9, 13, 10]⟩ (b.toNat : Int) w
      rw [byte_back] at this
      rw [← hi]; exact this
    have C1 := Tryz.strings_HasPrefix ⟨(b :: l).toArray⟩ ⟨#[47, 47]⟩ w
    have C2 := Tryz.strings_HasPrefix ⟨(b :: l).toArray⟩ ⟨#[47, 42]⟩ w
    have C3 := Tryz.strings_IndexByte ⟨(b :: l).toArray⟩ 10 w
    have C4 := Tryz.strings_Index ⟨((b :: l).drop 2).toArray⟩ ⟨#[42, 47]⟩ m w (by show ((b :: l).drop 2).toArray.size < _; simp; omega) hm
    have hx : (⟨(b :: l).toArray⟩ : ByteArray).extract 2 (l.length + 1) = ⟨((b :: l).drop 2).toArray⟩ := cut_from (b :: l) 2
    have e0 : blankV (b :: l) = if Lib.hasPrefix (b :: l) [47, 47] then (if 0 ≤ Lib.indexByte (b :: l) 10 then Lib.indexByte (b :: l) 10 else ((b :: l).length : Int), true)
        else if Lib.hasPrefix (b :: l) [47, 42] then (Lib.index ((b :: l).drop 2) [42, 47] + 4, decide (0 ≤ Lib.index ((b :: l).drop 2) [42, 47])) else (0, true) := by
      show (if [32, 9, 13, 10].contains b = true then _ else _) = _
      rw [h0]; rfl
    rw [e0]
    clear e0 h0 hi
    have hlo := Lib.indexByte_ge (b :: l) 10
    have hhi := indexByte_le 10 (b :: l)
    have D1 : ∀ r : Bool, Lib.hasPrefix (b :: l) [47, 47] = r → Calls Tryz.prog 95 #[.string ⟨(b :: l).toArray⟩, .string ⟨#[47, 47]⟩] w fun e w' => e = .returned (.bool r) ∧ w' = w := fun r h => by rw [← h]; exact C1
    have D2 : ∀ r : Bool, Lib.hasPrefix (b :: l) [47, 42] = r → Calls Tryz.prog 95 #[.string ⟨(b :: l).toArray⟩, .string ⟨#[47, 42]⟩] w fun e w' => e = .returned (.bool r) ∧ w' = w := fun r h => by rw [← h]; exact C2
    have D3 : Calls Tryz.prog 94 #[.string ⟨(b :: l).toArray⟩, .int .u8 10] w fun e w' => e = .returned (.int .i64 (Lib.indexByte (b :: l) 10)) ∧ w' = w := C3
    clear C1 C2 C3
    cases h1 : Lib.hasPrefix (b :: l) [47, 47]
    · cases h2 : Lib.hasPrefix (b :: l) [47, 42]
      · go_enter Tryz.func74, Tryz.ntmps74
        go_wp2_with fail
        refine C0.mono ?_
        rintro e w1 ⟨rfl, rfl⟩
        go_wp2_with fail
        refine (D1 _ h1).mono ?_
        rintro e w1 ⟨rfl, rfl⟩
        go_wp2_with fail
        refine (D2 _ h2).mono ?_
        rintro e w1 ⟨rfl, rfl⟩
        go_wp2_with fail
        go_ret2
        exact ⟨rfl, rfl⟩
      · have h2l : 1 ≤ l.length := by
          cases l with
          | nil => simp [Lib.hasPrefix] at h2
          | cons c l => simp
        have D4 : Calls Tryz.prog 96 #[.string ⟨((b :: l).drop 2).toArray⟩, .string ⟨#[42, 47]⟩] w fun e w' => e = .returned (.int .i64 (Lib.index ((b :: l).drop 2) [42, 47])) ∧ w' = w := C4
        have hib := Lib.index_le ((b :: l).drop 2) [42, 47]
        have hig := Lib.index_ge ((b :: l).drop 2) [42, 47]
        generalize Lib.index ((b :: l).drop 2) [42, 47] = ix at *
        go_enter Tryz.func74, Tryz.ntmps74
        go_wp2_with fail
        refine C0.mono ?_
        rintro e w1 ⟨rfl, rfl⟩
        go_wp2_with fail
        refine (D1 _ h1).mono ?_
        rintro e w1 ⟨rfl, rfl⟩
        go_wp2_with fail
        refine (D2 _ h2).mono ?_
        rintro e w1 ⟨rfl, rfl⟩
        go_wp2_with fail
        rw [show l.tail = (b :: l).drop 2 from by cases l <;> rfl]
        refine D4.mono ?_
        rintro e w1 ⟨rfl, rfl⟩
        have hib2 : ix ≤ 65536 := Int.le_trans hib (by simp; omega)
        go_wp2_with fail
        go_ret2
        exact ⟨by simp, rfl⟩
    · generalize Lib.indexByte (b :: l) 10 = i10 at *
      have hl10 : i10 ≤ 65536 := by omega
      by_cases h10 : 0 ≤ i10
      · simp only [if_true, h10]
        go_enter Tryz.func74, Tryz.ntmps74
        go_wp2_with fail
        refine C0.mono ?_
        rintro e w1 ⟨rfl, rfl⟩
        go_wp2_with fail
        refine (D1 _ h1).mono ?_
        rintro e w1 ⟨rfl, rfl⟩
        go_wp2_with fail
        refine D3.mono ?_
        rintro e w1 ⟨rfl, rfl⟩
        go_wp2_with fail
        go_ret2
        exact ⟨rfl, rfl⟩
      · have h10' : i10 < 0 := by omega
        simp only [if_true, h10, if_false]
        go_enter Tryz.func74, Tryz.ntmps74
        go_wp2_with fail
        refine C0.mono ?_
        rintro e w1 ⟨rfl, rfl⟩
        go_wp2_with fail
        refine (D1 _ h1).mono ?_
        rintro e w1 ⟨rfl, rfl⟩
        go_wp2_with fail
        refine D3.mono ?_
        rintro e w1 ⟨rfl, rfl⟩
        go_wp2_with fail
        go_ret2
        exact ⟨by simp, rfl⟩
  · have hi := indexByte_in b [32, 9, 13, 10] h0
    have C0 : Calls Tryz.prog 94 #[.string ⟨#[32, 9, 13, 10]⟩, .int .u8 (b.toNat : Int)] w fun e w' => e = .returned (.int .i64 (Lib.indexByte [32, 9, 13, 10] b)) ∧ w' = w := by
      have := Tryz.strings_IndexByte ⟨#[32, 9, 13, 10]⟩ (b.toNat : Int) w
      rwa [byte_back] at this
    have e0 : blankV (b :: l) = (1, true) := by
      show (if [32, 9, 13, 10].contains b = true then _ else _) = _
      rw [h0]; rfl
    rw [e0]
    generalize Lib.indexByte [32, 9, 13, 10] b = ib at hi C0
    go_enter Tryz.func74, Tryz.ntmps74
    go_wp2_with fail
    refine C0.mono ?_
    rintro e w1 ⟨rfl, rfl⟩
    go_wp2_with fail
    go_ret2
    exact ⟨rfl, rfl⟩
end Go.Proofs.YtjgpbpmicopemaaGreatDoor

/-
  strconv.ParseUint at base 16 and 63 bits: what it answers, for every text.
-/
namespace Go.Proofs.YtjgpbpmicopemaaGreatDoor
open Go.RowKit

/-- a byte with the bit of small letters -/
def lowI (c : Int) : Int := bits .or .u8 c 32
/-- a digit's number -/
def hexD (c : UInt8) : Option Int :=
  if 48 ≤ (c.toNat : Int) ∧ (c.toNat : Int) ≤ 57 then some (c.toNat - 48)
  else if 97 ≤ lowI c.toNat ∧ lowI c.toNat ≤ 102 then some (lowI c.toNat - 87)
  else none
inductive HexEnd where
  | ok (n : Int)
  | wrong
  | much
/-- the number of digits, from one reached -/
def hexR : Int → List UInt8 → HexEnd
  | n, [] => .ok n
  | n, c :: l => match hexD c with
    | none => .wrong
    | some d => if 1152921504606846976 ≤ n then .much else if 9223372036854775807 < n * 16 + d then .much else hexR (n * 16 + d) l
def HexEnd.tuple : HexEnd → Value
  | .ok n => .tuple #[.int .u64 n, .nilIface]
  | .wrong => .tuple #[.int .u64 0, .iface 193 (.int .i64 2)]
  | .much => .tuple #[.int .u64 9223372036854775807, .iface 193 (.int .i64 1)]

set_option maxHeartbeats 8000000 in
set_option maxRecDepth 100000 in
theorem hexIn_any (l : List UInt8) (hne : l ≠ []) (hl : l.length ≤ 65536) (w : World) :
    Calls Tryz.prog 135 #[str l, .int .i64 16, .int .i64 63] w fun e w' => e = .returned (hexR 0 l).tuple ∧ w' = Lib.bytesWorld w 5 ⟨l.toArray⟩ := by
  unfold str
  have hlen : 1 ≤ l.length := by
    cases l with
    | nil => exact absurd rfl hne
    | cons _ _ => simp
  have hcv := Lib.run_convert_string_bytes (P := Tryz.prog) w 9 92 5 ⟨l.toArray⟩ Tryz.underlying9 Tryz.underlying92 Tryz.underlying5
  have hB : ∀ j, (hj : j < l.length) → (Lib.bytesWorld w 5 ⟨l.toArray⟩).cell? ⟨w.heap.size, j, none⟩ = some (.int .u8 (l[j].toNat : Int)) := fun j hj => by
    have := Lib.bytesWorld_cell w 5 ⟨l.toArray⟩ j (by show j < l.toArray.size; simpa using hj)
    rw [this]
    simp [List.getD, hj]
  obtain ⟨W1, hW1⟩ : ∃ W1, W1 = Lib.bytesWorld w 5 ⟨l.toArray⟩ := ⟨_, rfl⟩
  rw [← hW1] at hcv hB ⊢
  clear hW1
  generalize grownCap _ _ _ _ = cp at hcv
  have hemp : (l == []) = false := by simpa using hne
  have hmv : IntKind.u64.wrap (IntKind.u64.wrap 9223372036854775808 - 1) = 9223372036854775807 := by
    rw [IntKind.wrap_u64, IntKind.wrap_u64]
    decide
  go_enter Tryz.func135, Tryz.ntmps135
  go_wp2
  go_loopg [12, 13, 101] l.length (fun g s12 s13 s101 wr => ∃ (k : Nat) (a : Int), s12 = .bool false ∧ s13 = .int .u64 a ∧ s101 = .int .i64 k ∧ k ≤ l.length ∧ l.length - k ≤ g ∧ wr = W1 ∧ Hid (0 ≤ a ∧ a ≤ 9223372036854775807 ∧ hexR 0 l = hexR a (l.drop k)))
  case atStart => exact ⟨0, 0, rfl, rfl, rfl, Nat.zero_le _, by omega, rfl, Lib.hid ⟨by omega, by omega, rfl⟩⟩
  case round =>
    obtain ⟨k, a, rfl, rfl, rfl, hk, hg, rfl, hh⟩ := hrel
    obtain ⟨a0, a1, hdec⟩ := hh.out
    clear hh
    by_cases hkn : k < l.length
    · have hc := hB k hkn
      have hdrop : l.drop k = l[k] :: l.drop (k + 1) := List.drop_eq_getElem_cons hkn
      rw [hdrop] at hdec
      generalize l[k] = c at hc hdec
      have hc256 : c.toNat < 256 := c.toNat_lt
      have hv0 := bits_lo_u8 .or (c.toNat : Int) 32
      have hv1 := bits_hi_u8 .or (c.toNat : Int) 32
      have hu0 : bits .or .u8 95 32 = 127 := by decide
      clear hB hdrop
      by_cases hdig : 48 ≤ (c.toNat : Int) ∧ (c.toNat : Int) ≤ 57
      · have hstep : hexR a (c :: l.drop (k + 1)) = if 1152921504606846976 ≤ a then .much else if 9223372036854775807 < a * 16 + ((c.toNat : Int) - 48) then .much else hexR (a * 16 + ((c.toNat : Int) - 48)) (l.drop (k + 1)) := by
          simp only [hexR, hexD, if_pos hdig]
        obtain ⟨hd0, hd1⟩ := hdig
        by_cases hcut : 1152921504606846976 ≤ a
        · rw [hstep, if_pos hcut] at hdec
          go_wp2_with (go_at_call 152; refine (Tryz.internal_strconv_lower _ _).mono ?_; rintro e w' ⟨rfl, rfl⟩)
          go_ret2
          exact ⟨by first | rfl | (rw [hdec]; rfl), rfl⟩
        · rw [hstep, if_neg hcut] at hdec
          have icut : a < 1152921504606846976 := by omega
          by_cases hov : 9223372036854775807 < a * 16 + ((c.toNat : Int) - 48)
          · rw [if_pos hov] at hdec
            go_wp2_with (go_at_call 152; refine (Tryz.internal_strconv_lower _ _).mono ?_; rintro e w' ⟨rfl, rfl⟩)
            go_ret2
            exact ⟨by first | rfl | (rw [hdec]; rfl), rfl⟩
          · rw [if_neg hov] at hdec
            have iov : a * 16 + ((c.toNat : Int) - 48) ≤ 9223372036854775807 := by omega
            go_wp2_with (go_at_call 152; refine (Tryz.internal_strconv_lower _ _).mono ?_; rintro e w' ⟨rfl, rfl⟩)
            go_roundg (l.length - (k + 1))
            case measure => omega
            case rel => exact ⟨k + 1, a * 16 + ((c.toNat : Int) - 48), rfl, rfl, by simp, by omega, by omega, rfl, Lib.hid ⟨by omega, by omega, hdec⟩⟩
      · by_cases hlet : 97 ≤ lowI c.toNat ∧ lowI c.toNat ≤ 102
        · have hstep : hexR a (c :: l.drop (k + 1)) = if 1152921504606846976 ≤ a then .much else if 9223372036854775807 < a * 16 + (lowI c.toNat - 87) then .much else hexR (a * 16 + (lowI c.toNat - 87)) (l.drop (k + 1)) := by
            simp only [hexR, hexD, if_neg hdig, if_pos hlet]
          obtain ⟨hd0, hd1⟩ := hlet
          unfold lowI at *
          have hnd : (c.toNat : Int) < 48 ∨ 57 < (c.toNat : Int) := by omega
          clear hdig
          have hn95 : (c.toNat : Int) ≠ 95 := fun h => by rw [h] at hd1; omega
          have hlow := hd0
          have hup : bits .or .u8 (c.toNat : Int) 32 ≤ 122 := by omega
          by_cases hcut : 1152921504606846976 ≤ a
          · rw [hstep, if_pos hcut] at hdec
            rcases hnd with hnd | hnd
            all_goals
              go_wp2_with (go_at_call 152; refine (Tryz.internal_strconv_lower _ _).mono ?_; rintro e w' ⟨rfl, rfl⟩)
              all_goals first | (exfalso; omega) | (go_ret2; exact ⟨by first | rfl | (rw [hdec]; rfl), rfl⟩)
          · rw [hstep, if_neg hcut] at hdec
            have icut : a < 1152921504606846976 := by omega
            by_cases hov : 9223372036854775807 < a * 16 + (bits .or .u8 (c.toNat : Int) 32 - 87)
            · rw [if_pos hov] at hdec
              rcases hnd with hnd | hnd
              all_goals
                go_wp2_with (go_at_call 152; refine (Tryz.internal_strconv_lower _ _).mono ?_; rintro e w' ⟨rfl, rfl⟩)
                all_goals first | (exfalso; omega) | (go_ret2; exact ⟨by first | rfl | (rw [hdec]; rfl), rfl⟩)
            · rw [if_neg hov] at hdec
              have iov : a * 16 + (bits .or .u8 (c.toNat : Int) 32 - 87) ≤ 9223372036854775807 := by omega
              rcases hnd with hnd | hnd
              all_goals
                go_wp2_with (go_at_call 152; refine (Tryz.internal_strconv_lower _ _).mono ?_; rintro e w' ⟨rfl, rfl⟩)
                go_roundg (l.length - (k + 1))
                case measure => omega
                case rel => exact ⟨k + 1, a * 16 + (bits .or .u8 (c.toNat : Int) 32 - 87), rfl, by congr 1; omega, by simp, by omega, by omega, rfl, Lib.hid ⟨by omega, by omega, hdec⟩⟩
        · have hF : hexR a (c :: l.drop (k + 1)) = .wrong := by simp only [hexR, hexD, if_neg hdig, if_neg hlet]
          rw [hF] at hdec
          unfold lowI at *
          have hnd : (c.toNat : Int) < 48 ∨ 57 < (c.toNat : Int) := by omega
          have hnl : bits .or .u8 (c.toNat : Int) 32 < 97 ∨ 102 < bits .or .u8 (c.toNat : Int) 32 := by omega
          clear hdig hlet hF
          rcases hnd with hnd | hnd <;> rcases hnl with hnl | hnl
          all_goals
            go_wp2_with (go_at_call 152; refine (Tryz.internal_strconv_lower _ _).mono ?_; rintro e w' ⟨rfl, rfl⟩)
            all_goals first | (exfalso; omega) | (go_ret2; exact ⟨by first | rfl | (rw [hdec]; rfl), rfl⟩)
    · have hkk : k = l.length := by omega
      subst hkk
      have hF : hexR a (l.drop l.length) = .ok a := by rw [List.drop_length]; rfl
      rw [hF] at hdec
      go_wp2
      go_ret2
      exact ⟨by first | rfl | (rw [hdec]; rfl), rfl⟩
end Go.Proofs.YtjgpbpmicopemaaGreatDoor

/-
  lex.number: what it answers, for every text.
-/
namespace Go.Proofs.YtjgpbpmicopemaaGreatDoor
open Go.RowKit

theorem below_drewN {B : Nat} {a w : World} (h : Below B a w) (n : Nat) : Below B a (w.drewN n) := ⟨h.os, h.tape, h.output, h.size, h.block⟩
def hexW (l : List UInt8) : HexEnd := if l = [] then .wrong else hexR 0 l
theorem hexR_low : ∀ (l : List UInt8) (a n : Int), 0 ≤ a → a ≤ 9223372036854775807 → hexR a l = .ok n → 0 ≤ n ∧ n ≤ 9223372036854775807
  | [], a, n, h0, h1, h => by
    unfold hexR at h
    injection h with h
    omega
  | c :: l, a, n, h0, h1, h => by
    unfold hexR at h
    cases hd : hexD c with
    | none => rw [hd] at h; cases h
    | some d =>
      rw [hd] at h
      have d0 : 0 ≤ d := by
        unfold hexD at hd
        split at hd
        · injection hd; omega
        · split at hd
          · injection hd; omega
          · cases hd
      simp only [] at h
      split at h
      · cases h
      · split at h
        · cases h
        · exact hexR_low l _ n (by omega) (by omega) h
theorem hexIn (l : List UInt8) (hl : l.length ≤ 65536) (w : World) :
    Calls Tryz.prog 135 #[str l, .int .i64 16, .int .i64 63] w fun e w' => e = .returned (hexW l).tuple ∧ Below w.heap.size w w' := by
  unfold hexW
  by_cases h : l = []
  · subst h
    rw [if_pos rfl]
    refine (Tryz.internal_strconv_ParseUint_empty 16 63 w).mono ?_
    rintro e w' ⟨rfl, rfl⟩
    exact ⟨rfl, Below.refl _ _⟩
  · rw [if_neg h]
    refine (hexIn_any l h hl w).mono ?_
    rintro e w' ⟨rfl, rfl⟩
    exact ⟨rfl, Lib.bytesWorld_below _ _ _⟩
/-- an error, or none -/
def ErrV (ok : Bool) (x : Value) : Prop := if ok then x = .nilIface else ∃ N : Nat, x = .iface 195 (.pointer (some ⟨N, 0, none⟩))
def HexEnd.isOk : HexEnd → Bool
  | .ok _ => true
  | _ => false
def HexEnd.val : HexEnd → Int
  | .ok n => n
  | .wrong => 0
  | .much => 9223372036854775807
theorem hexW_low (l : List UInt8) : 0 ≤ (hexW l).val ∧ (hexW l).val ≤ 9223372036854775807 := by
  unfold hexW
  split
  · exact ⟨by decide, by decide⟩
  · cases h : hexR 0 l with
    | ok n => exact hexR_low l 0 n (by decide) (by decide) h
    | wrong => exact ⟨by decide, by decide⟩
    | much => exact ⟨by decide, by decide⟩
set_option maxHeartbeats 2000000 in
theorem hexPub (l : List UInt8) (hl : l.length ≤ 65536) (w : World) (hE : Env w) :
    Calls Tryz.prog 118 #[str l, .int .i64 16, .int .i64 63] w fun e w' => ∃ x, e = .returned (.tuple #[.int .u64 (hexW l).val, x]) ∧ ErrV (hexW l).isOk x ∧ Below w.heap.size w w' := by
  have H := hexIn l hl w
  have hsz : (⟨l.toArray⟩ : ByteArray).size ≤ 281474976710656 := by show l.toArray.size ≤ _; simp; omega
  unfold str at *
  generalize hexW l = r at *
  have E := Lib.hid hE
  clear hE
  go_enter Tryz.func118, Tryz.ntmps118
  go_wp2_with fail
  refine H.mono ?_
  rintro e w1 ⟨rfl, hb⟩
  cases r with
  | ok n =>
    simp only [HexEnd.tuple]
    go_wp2_with fail
    go_ret2
    exact ⟨_, rfl, rfl, hb⟩
  | wrong =>
    obtain ⟨ev, hv, hev⟩ := (E.out.below hb).syn
    simp only [HexEnd.tuple]
    go_wp2_with fail
    refine (Tryz.strconv_toError_syntax _ ⟨l.toArray⟩ 16 63 ev _ hsz hv hev).mono ?_
    rintro e w2 ⟨N, rfl, -, -, hb2⟩
    go_wp2_with fail
    go_ret2
    exact ⟨_, rfl, ⟨N, rfl⟩, hb.trans (hb2.mono hb.size)⟩
  | much =>
    obtain ⟨ev, hv, hev⟩ := (E.out.below hb).rng
    simp only [HexEnd.tuple]
    go_wp2_with fail
    refine (Tryz.strconv_toError_range _ ⟨l.toArray⟩ 16 63 ev _ hsz hv hev).mono ?_
    rintro e w2 ⟨N, rfl, -, -, hb2⟩
    go_wp2_with fail
    go_ret2
    exact ⟨_, rfl, ⟨N, rfl⟩, hb.trans (hb2.mono hb.size)⟩
/-- a number in base ten that an int64 holds -/
def decV (l : List UInt8) : Option Int := match Lib.parseIntB 64 l with
  | .ok v => some v
  | _ => none
theorem intPub (l : List UInt8) (hl : l.length ≤ 65536) (w : World) (hE : Env w) :
    Calls Tryz.prog 120 #[str l, .int .i64 10, .int .i64 64] w fun e w' => ∃ v x, e = .returned (.tuple #[.int .i64 v, x]) ∧ ErrV (decV l).isSome x ∧ (∀ u, decV l = some u → u = v) ∧ Below w.heap.size w w' := by
  have hsz : (⟨l.toArray⟩ : ByteArray).size ≤ 281474976710656 := by show l.toArray.size ≤ _; simp; omega
  have hmax : (⟨l.toArray⟩ : ByteArray).size ≤ 9223372036854775806 := by show l.toArray.size ≤ _; simp; omega
  unfold str decV
  cases h : Lib.parseIntB 64 l with
  | ok v =>
    refine (Tryz.strconv_ParseInt_10_at64_ok ⟨l.toArray⟩ hmax v h w).mono ?_
    rintro e w' ⟨rfl, hw⟩
    refine ⟨v, _, rfl, rfl, fun u hu => (Option.some.inj hu).symm, ?_⟩
    rcases hw with rfl | ⟨t, rfl⟩
    · exact Below.refl _ _
    · exact Lib.bytesWorld_below _ _ _
  | range =>
    obtain ⟨ev, hv, hev⟩ := hE.rng
    refine (Tryz.strconv_ParseInt_10_at64_range ⟨l.toArray⟩ hsz h ev w hv hev).mono ?_
    rintro e w2 ⟨N, rfl, -, -, hb2⟩
    exact ⟨_, _, rfl, ⟨N, rfl⟩, (fun _ hu => nomatch hu), hb2⟩
  | _ =>
    obtain ⟨ev, hv, hev⟩ := hE.syn
    refine (Tryz.strconv_ParseInt_10_at64_syntax ⟨l.toArray⟩ hsz h ev w hv hev).mono ?_
    rintro e w2 ⟨N, rfl, -, -, hb2⟩
    exact ⟨_, _, rfl, ⟨N, rfl⟩, (fun _ hu => nomatch hu), hb2⟩
def hexes : List UInt8 := [48, 49, 50, 51, 52, 53, 54, 55, 56, 57, 97, 98, 99, 100, 101, 102, 65, 66, 67, 68, 69, 70]
def tens : List UInt8 := [48, 49, 50, 51, 52, 53, 54, 55, 56, 57]
/-- a number's word: its value, or none -/
def numV (l : List UInt8) : Option Int :=
  if Lib.hasPrefix l [48, 120] then
    if (hexW (l.drop 2)).isOk && (decide ((l.drop 2).length ≤ 16) && (Lib.trimS (l.drop 2) hexes == [])) then some (hexW (l.drop 2)).val else none
  else if (decide (1 < l.length) && l.headD 0 == 48) || Lib.trimS l tens != [] then none
  else decV l
def RNum (l : List UInt8) (w : World) (e : Ending) (w' : World) : Prop := ∃ v, e = .returned (.tuple #[.int .i64 v, .bool (numV l).isSome]) ∧ (∀ u, numV l = some u → u = v) ∧ Below w.heap.size w w'
theorem trim_any (l cs : List UInt8) (hl : l.length ≤ 65536) (hc : cs.length ≤ 100) (ha : cs.all (fun b => decide (b.toNat < 128)) = true) (w : World) :
    Calls Tryz.prog 119 #[str l, str cs] w fun e w' => e = .returned (str (Lib.trimS l cs)) ∧ Below w.heap.size w w' :=
  Any.strings_Trim_laid Tryz.lays160 (by kernel_rfl) ⟨l.toArray⟩ ⟨cs.toArray⟩ w (by show l.toArray.size ≤ _; simp; omega) (by show cs.toArray.size < _; simp; omega) (ascii_of_all ha)
theorem cutPrefix_any (l : List UInt8) (w : World) : Calls Tryz.prog 117 #[str l, .string ⟨#[48, 120]⟩] w fun e w' => e = .returned (.tuple #[str (if Lib.hasPrefix l [48, 120] then l.drop 2 else l), .bool (Lib.hasPrefix l [48, 120])]) ∧ w' = w := by
  have := Tryz.strings_CutPrefix ⟨l.toArray⟩ ⟨#[48, 120]⟩ w
  exact this
set_option maxHeartbeats 4000000 in
theorem number_any (c : UInt8) (l : List UInt8) (hl : (c :: l).length ≤ 65536) (w : World) (hE : Env w) : Calls Tryz.prog 100 #[str (c :: l)] w (RNum (c :: l) w) := by
  have hC := cutPrefix_any (c :: l) w
  have hl' : l.length ≤ 65535 := by simpa using hl
  have E := Lib.hid hE
  clear hE
  cases hp : Lib.hasPrefix (c :: l) [48, 120]
  · rw [hp] at hC
    simp only [Bool.false_eq_true, if_false] at hC
    have hT := fun W => trim_any (c :: l) tens hl (by decide) (by decide) W
    have hI := fun W (h : Env W) => intPub (c :: l) hl W h
    have hN : numV (c :: l) = if (decide (1 < (c :: l).length) && c == 48) || Lib.trimS (c :: l) tens != [] then none else decV (c :: l) := by unfold numV; rw [hp]; rfl
    have hpost1 : ∀ w', ((decide (1 < (c :: l).length) && c == 48) || Lib.trimS (c :: l) tens != []) = true → Below w.heap.size w w' → RNum (c :: l) w (.returned (.tuple #[.int .i64 0, .bool false])) w' := by
      intro w' h1 h3
      rw [h1] at hN
      simp only [if_true] at hN
      exact ⟨0, by rw [hN]; rfl, (fun u hu => by rw [hN] at hu; cases hu), h3⟩
    have hpost2 : ∀ v w', ((decide (1 < (c :: l).length) && c == 48) || Lib.trimS (c :: l) tens != []) = false → (∀ u, decV (c :: l) = some u → u = v) → Below w.heap.size w w' → RNum (c :: l) w (.returned (.tuple #[.int .i64 v, .bool (decV (c :: l)).isSome])) w' := by
      intro v w' h1 h2 h3
      rw [h1] at hN
      simp only [Bool.false_eq_true, if_false] at hN
      exact ⟨v, by rw [hN], (fun u hu => h2 u (by rw [← hN]; exact hu)), h3⟩
    generalize RNum (c :: l) w = post at hpost1 hpost2 ⊢
    generalize Lib.trimS (c :: l) tens = t at *
    generalize decV (c :: l) = dv at *
    unfold str at *
    by_cases hz : 1 ≤ l.length ∧ c = 48
    · obtain ⟨hz1, rfl⟩ := hz
      go_enter Tryz.func100, Tryz.ntmps100
      go_wp2_with fail
      refine hC.mono ?_
      rintro e w1 ⟨rfl, rfl⟩
      go_wp2_with fail
      exact hpost1 _ (by rw [show decide (1 < ((48 : UInt8) :: l).length) = true from decide_eq_true (by simp; omega)]; rfl) (Below.refl _ _)
    · have hz' : (decide (1 < (c :: l).length) && c == 48) = false := by
        by_cases h1 : 1 ≤ l.length
        · have : (c == 48) = false := by simpa using fun h => hz ⟨h1, h⟩
          rw [this, Bool.and_false]
        · have : decide (1 < (c :: l).length) = false := decide_eq_false (by rw [List.length_cons]; omega)
          rw [this, Bool.false_and]
      rw [hz'] at hpost1 hpost2
      simp only [Bool.false_or] at hpost1 hpost2
      have hzz : l.length < 1 ∨ (1 ≤ l.length ∧ ¬ c = 48) := by
        by_cases h1 : 1 ≤ l.length
        · exact .inr ⟨h1, fun h => hz ⟨h1, h⟩⟩
        · exact .inl (by omega)
      clear hz hz'
      have ht : (t == []) = true ∨ (t == []) = false := by cases t <;> simp
      have hzz : l.length < 1 ∨ (1 ≤ l.length ∧ (((({ data := (c :: l).toArray } : ByteArray)[0]'(by show 0 < (c :: l).toArray.size; simp)).toNat : Nat) : Int) ≠ 48) := by
        rcases hzz with h | ⟨h, h2⟩
        · exact .inl h
        · exact .inr ⟨h, fun h' => h2 (UInt8.toNat.inj (by show c.toNat = 48; exact_mod_cast h'))⟩
      rcases hzz with hz | ⟨hz, hz2⟩
      all_goals
        go_enter Tryz.func100, Tryz.ntmps100
        go_wp2_with fail
        refine hC.mono ?_
        rintro e w1 ⟨rfl, rfl⟩
        go_wp2_with fail
        refine (hT _).mono ?_
        rintro e w2 ⟨rfl, hb⟩
        rcases ht with ht | ht
        · go_wp2_with fail
          refine (hI _ (E.out.below hb)).mono ?_
          rintro e w3 ⟨v, x, rfl, hx, hv, hb3⟩
          have hb4 := hb.trans (hb3.mono hb.size)
          have hp2 := fun n => hpost2 v _ (by simpa using ht) hv (below_drewN hb4 n)
          cases hk : dv.isSome
          · rw [hk] at hx hp2
            obtain ⟨N, rfl⟩ := hx
            go_wp2_with fail
            go_quiet (fail)
            go_wp2_with fail
            exact hp2 nq
          · rw [hk] at hx hp2
            obtain rfl : x = .nilIface := hx
            go_wp2_with fail
            go_quiet (fail)
            go_wp2_with fail
            exact hp2 nq
        · go_wp2_with fail
          exact hpost1 _ (by simpa using ht) hb
  · rw [hp] at hC
    simp only [if_true] at hC
    have hl2 : ((c :: l).drop 2).length ≤ 65536 := by simp; omega
    have hX := fun W (h : Env W) => hexPub ((c :: l).drop 2) hl2 W h
    have hT := fun W => trim_any ((c :: l).drop 2) hexes hl2 (by decide) (by decide) W
    have hN : numV (c :: l) = if (hexW ((c :: l).drop 2)).isOk && (decide (((c :: l).drop 2).length ≤ 16) && (Lib.trimS ((c :: l).drop 2) hexes == [])) then some (hexW ((c :: l).drop 2)).val else none := by unfold numV; rw [hp]; rfl
    have hpost : ∀ v b w', (((hexW ((c :: l).drop 2)).isOk && (decide (((c :: l).drop 2).length ≤ 16) && (Lib.trimS ((c :: l).drop 2) hexes == []))) = b) → (b = true → v = (hexW ((c :: l).drop 2)).val) → Below w.heap.size w w' → RNum (c :: l) w (.returned (.tuple #[.int .i64 v, .bool b])) w' := by
      intro v b w' h1 h2 h3
      refine ⟨v, ?_, ?_, h3⟩
      · rw [hN, h1]; cases b <;> rfl
      · intro u hu
        rw [hN, h1] at hu
        cases b
        · cases hu
        · rw [h2 rfl]; exact (Option.some.inj hu).symm
    have hlow := hexW_low ((c :: l).drop 2)
    generalize RNum (c :: l) w = post at hpost ⊢
    clear hN hp
    generalize (c :: l).drop 2 = m at *
    generalize hexW m = r at *
    generalize Lib.trimS m hexes = t at *
    have hw : wrap64 r.val = r.val := by unfold wrap64; omega
    unfold str at *
    go_enter Tryz.func100, Tryz.ntmps100
    go_wp2_with fail
    refine hC.mono ?_
    rintro e w1 ⟨rfl, rfl⟩
    go_wp2_with fail
    refine (hX _ E.out).mono ?_
    rintro e w2 ⟨x, rfl, hx, hb⟩
    cases hk : r.isOk
    · rw [hk] at hx
      obtain ⟨N, rfl⟩ := hx
      go_wp2_with fail
      exact hpost _ false _ (by simp [hk]) (by simp) hb
    · rw [hk] at hx
      obtain rfl : x = .nilIface := hx
      by_cases h16 : m.length ≤ 16
      · go_wp2_with fail
        refine (hT _).mono ?_
        rintro e w3 ⟨rfl, hb3⟩
        have hb4 := hb.trans (hb3.mono hb.size)
        go_wp2_with fail
        exact hpost _ t.isEmpty _ (by simp [hk, h16]) (fun _ => rfl) hb4
      · have h16' : 16 < m.length := by omega
        go_wp2_with fail
        exact hpost _ false _ (by simp [hk, h16]) (by simp) hb
end Go.Proofs.YtjgpbpmicopemaaGreatDoor

/-
  lex.next: where one is behind some bytes, for every place and text.
-/
namespace Go.Proofs.YtjgpbpmicopemaaGreatDoor
open Go.RowKit

theorem heap_lt {w : World} {b : Nat} {o : Obj} (h : w.heap[b]? = some o) : b < w.heap.size := by
  rcases Nat.lt_or_ge b w.heap.size with h' | h'
  · exact h'
  · simp [Array.getElem?_eq_none h'] at h
theorem set_same {W : World} {g i : Nat} {v : Value} {c : Array Value} {e : TypeId} {f : Nat × Nat} (h : W.heap[g]? = some (.cells c e f)) : (W.setCell ⟨g, i, none⟩ v).heap[g]? = some (.cells (c.setIfInBounds i v) e f) := by
  simp [World.setCell, Array.getElem?_modify, h]
theorem set_other {W : World} {g h i : Nat} {v : Value} (hne : h ≠ g) : (W.setCell ⟨g, i, none⟩ v).heap[h]? = W.heap[h]? := by
  simp [World.setCell, Array.getElem?_modify, Ne.symm hne]
/-- a place's box, the result's, the row of the text's bytes -/
structure NX (w wr : World) (p q : Int) (l : List UInt8) : Prop where
  low : Below w.heap.size w wr
  here : wr.heap[w.heap.size]? = some (.cells #[.int .i64 p, .int .i64 q] 26 (0, 0))
  res : wr.heap[w.heap.size + 1]? = some (.cells #[.int .i64 0, .int .i64 0] 26 (0, 0))
  row : ∀ j, j < l.length → wr.cell? ⟨w.heap.size + 1 + 1, j, none⟩ = some (.int .u8 ((l.getD j 0).toNat : Int))
section
variable {w wr : World} {p q : Int} {l : List UInt8}
theorem NX.cells (h : NX w wr p q l) : wr.cell? ⟨w.heap.size, 0, none⟩ = some (.int .i64 p) ∧ wr.cell? ⟨w.heap.size, 1, none⟩ = some (.int .i64 q) ∧ wr.frozen? ⟨w.heap.size, 0, none⟩ = false ∧ wr.frozen? ⟨w.heap.size, 1, none⟩ = false ∧
    wr.cell? ⟨w.heap.size + 1, 0, none⟩ = some (.int .i64 0) ∧ wr.cell? ⟨w.heap.size + 1, 1, none⟩ = some (.int .i64 0) ∧ wr.frozen? ⟨w.heap.size + 1, 0, none⟩ = false ∧ wr.frozen? ⟨w.heap.size + 1, 1, none⟩ = false := by
  refine ⟨?_, ?_, ?_, ?_, ?_, ?_, ?_, ?_⟩ <;> simp [World.cell?, World.frozen?, h.here, h.res]
theorem cell_set_other {W : World} {g h i j : Nat} {v : Value} (hne : h ≠ g) : (W.setCell ⟨g, i, none⟩ v).cell? ⟨h, j, none⟩ = W.cell? ⟨h, j, none⟩ := by
  simp [World.cell?, World.setCell, Array.getElem?_modify, Ne.symm hne]
theorem NX.col (h : NX w wr p q l) (q' : Int) : NX w (wr.setCell ⟨w.heap.size, 1, none⟩ (.int .i64 q')) p q' l :=
  ⟨h.low.setCell (p := ⟨w.heap.size, 1, none⟩) (Nat.le_refl _) _, set_same h.here, (set_other (by omega)).trans h.res, fun j hj => (cell_set_other (by omega)).trans (h.row j hj)⟩
theorem NX.line (h : NX w wr p q l) (p' : Int) : NX w (wr.setCell ⟨w.heap.size, 0, none⟩ (.int .i64 p')) p' q l :=
  ⟨h.low.setCell (p := ⟨w.heap.size, 0, none⟩) (Nat.le_refl _) _, set_same h.here, (set_other (by omega)).trans h.res, fun j hj => (cell_set_other (by omega)).trans (h.row j hj)⟩
theorem NX.start (w : World) (p q : Int) (l : List UInt8) : NX w (Lib.bytesWorld ((w.alloc (.cells #[.int .i64 p, .int .i64 q] 26)).alloc (.cells #[.int .i64 0, .int .i64 0] 26)) 5 ⟨l.toArray⟩) p q l := by
  have e1 : ((w.alloc (.cells #[.int .i64 p, .int .i64 q] 26)).alloc (.cells #[.int .i64 0, .int .i64 0] 26)).heap.size = w.heap.size + 1 + 1 := by simp
  refine ⟨?_, ?_, ?_, ?_⟩
  · exact (((Below.refl w.heap.size w).alloc (Nat.le_refl _) _).alloc (by simp) _).trans ((Lib.bytesWorld_below _ _ _).mono (by simp; omega))
  · rw [Lib.bytesWorld_at_old _ _ _ _ (by rw [e1]; omega)]
    rw [Below.heap_alloc _ _ _ (by simp)]
    exact heap_alloc_new w _
  · rw [Lib.bytesWorld_at_old _ _ _ _ (by rw [e1]; omega)]
    have := heap_alloc_new (w.alloc (.cells #[.int .i64 p, .int .i64 q] 26)) (.cells #[.int .i64 0, .int .i64 0] 26)
    simpa using this
  · intro j hj
    have := Lib.bytesWorld_cell ((w.alloc (.cells #[.int .i64 p, .int .i64 q] 26)).alloc (.cells #[.int .i64 0, .int .i64 0] 26)) 5 ⟨l.toArray⟩ j (by show j < l.toArray.size; simpa using hj)
    rw [e1] at this
    exact this
end
def RP (p : Int × Int) (w : World) (e : Ending) (w' : World) : Prop := e = .returned (.agg #[.int .i64 p.1, .int .i64 p.2]) ∧ Below w.heap.size w w'

set_option maxRecDepth 100000 in
set_option maxHeartbeats 4000000 in
theorem next_any (p q : Int) (l : List UInt8) (hl : l.length ≤ 65536) (hp : 0 ≤ p) (hp' : p ≤ 4611686018427387904) (hq : 0 ≤ q) (hq' : q ≤ 4611686018427387904) (w : World) : Calls Tryz.prog 29 #[.agg #[.int .i64 p, .int .i64 q], str l] w (RP (nextP (p, q) l) w) := by
  unfold str
  have hcv := Lib.run_convert_string_bytes (P := Tryz.prog) ((w.alloc (.cells #[.int .i64 p, .int .i64 q] 26)).alloc (.cells #[.int .i64 0, .int .i64 0] 26)) 9 92 5 ⟨l.toArray⟩ Tryz.underlying9 Tryz.underlying92 Tryz.underlying5
  have N0 := NX.start w p q l
  obtain ⟨W1, hW1⟩ : ∃ W1, Lib.bytesWorld ((w.alloc (.cells #[.int .i64 p, .int .i64 q] 26)).alloc (.cells #[.int .i64 0, .int .i64 0] 26)) 5 ⟨l.toArray⟩ = W1 := ⟨_, rfl⟩
  rw [hW1] at hcv N0
  generalize grownCap _ _ _ _ = cp at hcv
  have N := Lib.hid N0
  clear N0
  go_enter Tryz.func29, Tryz.ntmps29
  go_wp2_with fail
  clear hcv hW1
  go_loopg [10] l.length (fun g s10 wr => ∃ k : Nat, k ≤ l.length ∧ l.length - k ≤ g ∧ s10 = .int .i64 k ∧ Hid (NX w wr (nextP (p, q) (l.take k)).1 (nextP (p, q) (l.take k)).2 l))
  case atStart => exact ⟨0, Nat.zero_le _, by omega, rfl, N⟩
  case round =>
    obtain ⟨k, hk, hg, rfl, M⟩ := hrel
    have hb := nextP_low (l.take k) (p, q) hp hq
    have hlen : (l.take k).length = k := by simp; omega
    rw [hlen] at hb
    have hb1 : 0 ≤ (nextP (p, q) (l.take k)).1 := Int.le_trans hp hb.1
    have hb2 : (nextP (p, q) (l.take k)).1 ≤ 4611686018427453440 := Int.le_trans hb.2.1 (by show p + k ≤ _; omega)
    have hb3 := hb.2.2.1
    have hb4 : (nextP (p, q) (l.take k)).2 ≤ 4611686018427453441 := Int.le_trans hb.2.2.2 (by show q + k + 1 ≤ _; omega)
    obtain ⟨c0, c1, f0, f1, r0, r1, g0, g1⟩ := M.out.cells
    by_cases hlt : k < l.length
    · have hs := nextP_snoc l[k] (l.take k) (p, q)
      rw [List.take_append_getElem hlt] at hs
      have hrow := M.out.row k hlt
      rw [show l.getD k 0 = l[k] from by simp [List.getD, List.getElem?_eq_getElem hlt]] at hrow
      generalize hcc : l[k] = c at hs hrow
      generalize (nextP (p, q) (l.take k)).1 = P1 at *
      generalize (nextP (p, q) (l.take k)).2 = Q1 at *
      clear hb
      by_cases hc : c = 10
      · subst hc
        rw [if_pos rfl] at hs
        go_wp2_with fail
        go_roundg (l.length - (k + 1))
        case measure => omega
        case rel => exact ⟨k + 1, hlt, by omega, by simp, by rw [hs]; exact Lib.hid (((M.out.col _).line _).col _)⟩
      · rw [if_neg hc] at hs
        have hc' : (c.toNat : Int) ≠ 10 := fun h => hc (UInt8.toNat.inj (by show c.toNat = 10; omega))
        go_wp2_with fail
        go_roundg (l.length - (k + 1))
        case measure => omega
        case rel => exact ⟨k + 1, hlt, by omega, by simp, by rw [hs]; exact Lib.hid (M.out.col _)⟩
    · have hke : k = l.length := by omega
      subst hke
      rw [List.take_length] at *
      go_wp2_with fail
      have hr := set_same (i := 1) (v := .int .i64 (nextP (p, q) l).2) (set_same (i := 0) (v := .int .i64 (nextP (p, q) l).1) M.out.res)
      have q0 : ((wr.setCell ⟨w.heap.size + 1, 0, none⟩ (.int .i64 (nextP (p, q) l).1)).setCell ⟨w.heap.size + 1, 1, none⟩ (.int .i64 (nextP (p, q) l).2)).cell? ⟨w.heap.size + 1, 0, none⟩ = some (.int .i64 (nextP (p, q) l).1) := by simp only [World.cell?, hr]; rfl
      have q1 : ((wr.setCell ⟨w.heap.size + 1, 0, none⟩ (.int .i64 (nextP (p, q) l).1)).setCell ⟨w.heap.size + 1, 1, none⟩ (.int .i64 (nextP (p, q) l).2)).cell? ⟨w.heap.size + 1, 1, none⟩ = some (.int .i64 (nextP (p, q) l).2) := by simp only [World.cell?, hr]; rfl
      exact bodyPost_ret (v := .agg #[.int .i64 (nextP (p, q) l).1, .int .i64 (nextP (p, q) l).2]) (by simp [results, Tryz.results29, go_sem, q0, q1]) rfl ⟨rfl, (M.out.low.setCell (p := ⟨w.heap.size + 1, 0, none⟩) (by simp) _).setCell (p := ⟨w.heap.size + 1, 1, none⟩) (by simp) _⟩
end Go.Proofs.YtjgpbpmicopemaaGreatDoor

/-
  lex.word: what it answers, for every text.
-/
namespace Go.Proofs.YtjgpbpmicopemaaGreatDoor
open Go.RowKit

/-- a word: its kind, its text, its number -/
structure Wd where
  k : Int
  t : List UInt8
  n : Int
/-- the word with which a text begins -/
def wordO (l : List UInt8) : Option Wd :=
  if startsC (l.headD 0) then (if nameN l ≤ 40 then some ⟨if keyB (l.take (nameN l)) then 3 else 1, l.take (nameN l), 0⟩ else none)
  else if 0 < nameN l then (numV (l.take (nameN l))).map (fun v => ⟨2, l.take (nameN l), v⟩)
  else if 0 < markN l then some ⟨4, l.take (markN l), 0⟩ else none
/-- a word as the program's value, at its place -/
def Wd.val (d : Wd) (p q : Int) : Value := .agg #[.int .i64 d.k, str d.t, .int .i64 d.n, .int .i64 p, .int .i64 q]
def RWd (l : List UInt8) (w : World) (e : Ending) (w' : World) : Prop := ∃ d : Wd, e = .returned (.tuple #[d.val 0 0, .bool (wordO l).isSome]) ∧ (∀ u, wordO l = some u → u = d) ∧ Below w.heap.size w w'
theorem box5 {w : World} {g : Nat} {a b c d e : Value} (h : w.heap[g]? = some (.cells #[a, b, c, d, e] 114 (0, 0))) :
    w.cell? ⟨g, 0, none⟩ = some a ∧ w.cell? ⟨g, 1, none⟩ = some b ∧ w.cell? ⟨g, 2, none⟩ = some c ∧ w.cell? ⟨g, 3, none⟩ = some d ∧ w.cell? ⟨g, 4, none⟩ = some e ∧
    w.frozen? ⟨g, 0, none⟩ = false ∧ w.frozen? ⟨g, 1, none⟩ = false ∧ w.frozen? ⟨g, 2, none⟩ = false ∧ w.frozen? ⟨g, 3, none⟩ = false ∧ w.frozen? ⟨g, 4, none⟩ = false := by
  refine ⟨?_, ?_, ?_, ?_, ?_, ?_, ?_, ?_, ?_, ?_⟩ <;> simp [World.cell?, World.frozen?, h]
theorem put5 {w : World} {g : Nat} {a b c d e a' b' c' d' e' : Value} (h : w.heap[g]? = some (.cells #[a, b, c, d, e] 114 (0, 0))) :
    (((((w.setCell ⟨g, 0, none⟩ a').setCell ⟨g, 1, none⟩ b').setCell ⟨g, 2, none⟩ c').setCell ⟨g, 3, none⟩ d').setCell ⟨g, 4, none⟩ e').heap[g]? = some (.cells #[a', b', c', d', e'] 114 (0, 0)) :=
  set_same (set_same (set_same (set_same (set_same h))))
set_option maxHeartbeats 4000000 in
theorem word_any (c : UInt8) (l : List UInt8) (hl : (c :: l).length ≤ 65536) (w : World) (hE : Env w) : Calls Tryz.prog 75 #[str (c :: l)] w (RWd (c :: l) w) := by
  have hl' : l.length ≤ 65535 := by simpa using hl
  have hn := fun W => name_any (c :: l) hl W
  have hle := nameN_le (c :: l)
  have hcut : ∀ k : Nat, (⟨(c :: l).toArray⟩ : ByteArray).extract 0 k = ⟨((c :: l).take k).toArray⟩ := cut_upto (c :: l)
  have hs : ∀ W, Calls Tryz.prog 98 #[.int .u8 (c.toNat : Int)] W (BB (startsC c) W) := fun W => starts_any _ W
  have hm := fun W => mark_any c l hl W
  have hk := fun W => isKey_any ((c :: l).take (nameN (c :: l))) W
  have E := Lib.hid hE
  clear hE
  have hpost : ∀ (d : Wd) (b : Bool) w', wordO (c :: l) = (if b then some d else none) → Below w.heap.size w w' → RWd (c :: l) w (.returned (.tuple #[d.val 0 0, .bool b])) w' := by
    intro d b w' h1 h2
    refine ⟨d, by rw [h1]; cases b <;> rfl, fun u hu => ?_, h2⟩
    rw [h1] at hu
    cases b
    · cases hu
    · exact (Option.some.inj hu).symm
  have hw0 : wordO (c :: l) = if startsC c then (if nameN (c :: l) ≤ 40 then some ⟨if keyB ((c :: l).take (nameN (c :: l))) then 3 else 1, (c :: l).take (nameN (c :: l)), 0⟩ else none)
    else if 0 < nameN (c :: l) then (numV ((c :: l).take (nameN (c :: l)))).map (fun v => ⟨2, (c :: l).take (nameN (c :: l)), v⟩)
    else if 0 < markN (c :: l) then some ⟨4, (c :: l).take (markN (c :: l)), 0⟩ else none := rfl
  rw [hw0] at hpost
  clear hw0
  generalize RWd (c :: l) w = post at hpost ⊢
  have hnle : nameN (c :: l) ≤ l.length + 1 := by simpa using hle
  cases h0 : startsC c
  · rw [h0] at hpost hs
    simp only [Bool.false_eq_true, if_false] at hpost
    by_cases h1 : 0 < nameN (c :: l)
    · simp only [if_pos h1] at hpost
      generalize nameN (c :: l) = n at *
      have hnum : ∀ W, Env W → Calls Tryz.prog 100 #[str ((c :: l).take n)] W (RNum ((c :: l).take n) W) := fun W hW => by
        obtain ⟨m, rfl⟩ : ∃ m, n = m + 1 := ⟨n - 1, by omega⟩
        rw [List.take_succ_cons]
        exact number_any c (l.take m) (by simp; omega) W hW
      unfold str RNum at *
      go_enter Tryz.func75, Tryz.ntmps75
      go_wp2_with fail
      refine (hn _).mono ?_
      rintro e w1 ⟨rfl, rfl⟩
      go_wp2_with fail
      refine (hs _).mono ?_
      rintro e w1 ⟨rfl, rfl⟩
      go_wp2_with fail
      have hal : Below w.heap.size w (w.alloc (.cells #[.int .i64 0, .string ⟨#[]⟩, .int .i64 0, .int .i64 0, .int .i64 0] 114)) := (Below.refl _ _).alloc (Nat.le_refl _) _
      refine (hnum _ (E.out.below hal)).mono ?_
      rintro e w2 ⟨v, rfl, hv, hb⟩
      have hbx : w2.heap[w.heap.size]? = some (.cells #[.int .i64 0, .string ⟨#[]⟩, .int .i64 0, .int .i64 0, .int .i64 0] 114 (0, 0)) := by
        rw [hb.block _ (by simp)]
        exact heap_alloc_new w _
      obtain ⟨x0, x1, x2, x3, x4, y0, y1, y2, y3, y4⟩ := box5 hbx
      go_wp2_with fail
      have hr := put5 (a' := .int .i64 2) (b' := .string ⟨((c :: l).take n).toArray⟩) (c' := .int .i64 v) (d' := .int .i64 0) (e' := .int .i64 0) hbx
      have hB := (((((hal.trans (hb.mono hal.size)).setCell (p := ⟨w.heap.size, 0, none⟩) (Nat.le_refl _) (.int .i64 2)).setCell (p := ⟨w.heap.size, 1, none⟩) (Nat.le_refl _) (.string ⟨((c :: l).take n).toArray⟩)).setCell (p := ⟨w.heap.size, 2, none⟩) (Nat.le_refl _) (.int .i64 v)).setCell (p := ⟨w.heap.size, 3, none⟩) (Nat.le_refl _) (.int .i64 0)).setCell (p := ⟨w.heap.size, 4, none⟩) (Nat.le_refl _) (.int .i64 0)
      obtain ⟨z0, z1, z2, z3, z4, -⟩ := box5 hr
      refine bodyPost_ret (v := .tuple #[.agg #[.int .i64 2, .string ⟨((c :: l).take n).toArray⟩, .int .i64 v, .int .i64 0, .int .i64 0], .bool (numV ((c :: l).take n)).isSome]) (by simp [results, Tryz.results75, go_sem, z0, z1, z2, z3, z4]) rfl ?_
      refine hpost ⟨2, (c :: l).take n, v⟩ _ _ ?_ hB
      cases hq : numV ((c :: l).take n) with
      | none => rfl
      | some u => rw [hv u hq]; rfl
    · have h1' : nameN (c :: l) = 0 := by omega
      rw [h1'] at hpost hn
      clear hk hle hnle
      simp only [Nat.lt_irrefl, if_false] at hpost
      have hmle : markN (c :: l) ≤ 2 := by unfold markN; split <;> (try split) <;> omega
      have hml2 : markN (c :: l) ≤ l.length + 1 := by
        unfold markN
        split
        · rename_i h; rw [Bool.and_eq_true, decide_eq_true_eq] at h; simpa using h.1
        · split <;> omega
      generalize markN (c :: l) = m at *
      unfold str at *
      go_enter Tryz.func75, Tryz.ntmps75
      go_wp2_with fail
      refine (hn _).mono ?_
      rintro e w1 ⟨rfl, rfl⟩
      go_wp2_with fail
      refine (hs _).mono ?_
      rintro e w1 ⟨rfl, rfl⟩
      go_wp2_with fail
      refine (hm _).mono ?_
      rintro e w1 ⟨rfl, rfl⟩
      go_wp2_with fail
      refine bodyPost_ret (v := .tuple #[.agg #[.int .i64 4, .string ⟨((c :: l).take m).toArray⟩, .int .i64 0, .int .i64 0, .int .i64 0], .bool (decide (0 < m))]) (by simp [results, Tryz.results75, go_sem]) rfl ?_
      exact hpost ⟨4, (c :: l).take m, 0⟩ (decide (0 < m)) _ (by by_cases h : 0 < m <;> simp [h]) ((Below.refl _ _).alloc (Nat.le_refl _) _)
  · rw [h0] at hpost hs
    simp only [if_true] at hpost
    generalize nameN (c :: l) = n at *
    unfold str at *
    go_enter Tryz.func75, Tryz.ntmps75
    go_wp2_with fail
    refine (hn _).mono ?_
    rintro e w1 ⟨rfl, rfl⟩
    go_wp2_with fail
    refine (hs _).mono ?_
    rintro e w1 ⟨rfl, rfl⟩
    go_wp2_with fail
    refine (hk _).mono ?_
    rintro e w2 ⟨rfl, rfl⟩
    cases hkey : keyB ((c :: l).take n)
    · rw [hkey] at hpost
      go_wp2_with fail
      refine bodyPost_ret (v := .tuple #[.agg #[.int .i64 1, .string ⟨((c :: l).take n).toArray⟩, .int .i64 0, .int .i64 0, .int .i64 0], .bool (decide ((n : Int) ≤ 40))]) (by simp [results, Tryz.results75, go_sem]) rfl ?_
      exact hpost ⟨1, (c :: l).take n, 0⟩ (decide ((n : Int) ≤ 40)) _ (by by_cases h : n ≤ 40 <;> simp [h] <;> omega) (((Below.refl _ _).alloc (Nat.le_refl _) _).alloc (by simp) _)
    · rw [hkey] at hpost
      go_wp2_with fail
      refine bodyPost_ret (v := .tuple #[.agg #[.int .i64 3, .string ⟨((c :: l).take n).toArray⟩, .int .i64 0, .int .i64 0, .int .i64 0], .bool (decide ((n : Int) ≤ 40))]) (by simp [results, Tryz.results75, go_sem]) rfl ?_
      exact hpost ⟨3, (c :: l).take n, 0⟩ (decide ((n : Int) ≤ 40)) _ (by by_cases h : n ≤ 40 <;> simp [h] <;> omega) (((Below.refl _ _).alloc (Nat.le_refl _) _).alloc (by simp) _)
end Go.Proofs.YtjgpbpmicopemaaGreatDoor
