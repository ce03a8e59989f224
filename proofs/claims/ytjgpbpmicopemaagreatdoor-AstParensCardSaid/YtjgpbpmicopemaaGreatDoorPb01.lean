import Derived.Below
import Derived.Deep.Draws
import Derived.Carry
import Derived.Lib.Hide
import Derived.Lib.Bytealg
import Derived.Lib.Index
import Derived.Lib.Strings
import Derived.WalkKit
import Derived.Test.YtjgpbpmicopemaaGreatDoorProg
import Derived.WalkSpells
import Derived.WalkLawsBesides
import Derived.Deep.LoopGhost
import Derived.Deep.QuietTactic
import Derived.BigQuiet
import Derived.Laws.StructEq
import Derived.Outline
import Derived.KernelRfl

/-
  Words of a text as plain functions on lists of bytes. No program in sight.
-/
namespace Go.Proofs.YtjgpbpmicopemaaGreatDoor
open Go.RowKit

/-- a byte as the program's number -/
def digitI (c : Int) : Bool := decide (48 ≤ c) && decide (c ≤ 57)
def startsI (c : Int) : Bool := (decide (97 ≤ c) && decide (c ≤ 122)) || (decide (65 ≤ c) && decide (c ≤ 90)) || decide (c = 95)
def goesI (c : Int) : Bool := startsI c || digitI c
def digitC (c : UInt8) : Bool := digitI (c.toNat : Int)
def startsC (c : UInt8) : Bool := startsI (c.toNat : Int)
def goesC (c : UInt8) : Bool := goesI (c.toNat : Int)
/-- how many bytes a name has with which a text begins -/
def nameN (l : List UInt8) : Nat := (l.takeWhile goesC).length
/-- a string of these bytes -/
def str (l : List UInt8) : Value := .string ⟨l.toArray⟩
def BB (b : Bool) (w : World) (e : Ending) (w' : World) : Prop := e = .returned (.bool b) ∧ w = w'
def RN (n : Int) (w : World) (e : Ending) (w' : World) : Prop := e = .returned (.int .i64 n) ∧ w = w'
/-- the words of their own, the marks of two bytes and of one -/
def keys : List (List UInt8) := [[99, 104, 97, 114], [105, 110, 116], [108, 111, 110, 103], [118, 111, 105, 100], [115, 116, 114, 117, 99, 116], [112, 117, 98, 108, 105, 99], [105, 102], [101, 108, 115, 101], [119, 104, 105, 108, 101], [98, 114, 101, 97, 107], [99, 111, 110, 116, 105, 110, 117, 101], [114, 101, 116, 117, 114, 110], [115, 105, 122, 101, 111, 102], [105, 110], [111, 117, 116]]
def twos : List (List UInt8) := [[45, 62], [61, 61], [33, 61], [60, 61], [62, 61], [60, 60], [62, 62], [38, 38], [124, 124]]
def ones : List UInt8 := [40, 41, 123, 125, 91, 93, 59, 44, 46, 61, 60, 62, 43, 45, 42, 47, 37, 38, 124, 94, 126, 33]
def keyB (l : List UInt8) : Bool := keys.contains l
/-- how many bytes the mark has with which a text begins; 0: none -/
def markN (l : List UInt8) : Nat := if decide (2 ≤ l.length) && twos.contains (l.take 2) then 2 else if ones.contains (l.headD 0) then 1 else 0
/-- how many bytes the blank or the remark has with which a text begins; 0: none; false: a remark that does not end -/
def blankV (l : List UInt8) : Int × Bool :=
  if [32, 9, 13, 10].contains (l.headD 0) then (1, true)
  else if Lib.hasPrefix l [47, 47] then (if 0 ≤ Lib.indexByte l 10 then Lib.indexByte l 10 else l.length, true)
  else if Lib.hasPrefix l [47, 42] then (Lib.index (l.drop 2) [42, 47] + 4, decide (0 ≤ Lib.index (l.drop 2) [42, 47]))
  else (0, true)
theorem nameN_le (l : List UInt8) : nameN l ≤ l.length := (List.takeWhile_sublist _).length_le
/-- where one is behind some bytes -/
def nextP : Int × Int → List UInt8 → Int × Int
  | p, [] => p
  | p, c :: l => nextP (if c = 10 then (p.1 + 1, 1) else (p.1, p.2 + 1)) l
theorem nextP_snoc (c : UInt8) : ∀ (l : List UInt8) (p : Int × Int), nextP p (l ++ [c]) = if c = 10 then ((nextP p l).1 + 1, 1) else ((nextP p l).1, (nextP p l).2 + 1)
  | [], _ => rfl
  | b :: l, p => by
    show nextP _ (l ++ [c]) = _
    rw [nextP_snoc c l]
    rfl
theorem nextP_append : ∀ (l m : List UInt8) (p : Int × Int), nextP p (l ++ m) = nextP (nextP p l) m
  | [], _, _ => rfl
  | _ :: l, m, _ => nextP_append l m _
theorem nextP_low : ∀ (l : List UInt8) (p : Int × Int), 0 ≤ p.1 → 0 ≤ p.2 → p.1 ≤ (nextP p l).1 ∧ (nextP p l).1 ≤ p.1 + l.length ∧ 0 ≤ (nextP p l).2 ∧ (nextP p l).2 ≤ p.2 + l.length + 1
  | [], _, h1, h2 => by simp [nextP]; omega
  | c :: l, p, h1, h2 => by
    unfold nextP
    split
    · have := nextP_low l (p.1 + 1, 1) (by show 0 ≤ p.1 + 1; omega) (by show (0 : Int) ≤ 1; omega)
      simp at this ⊢
      omega
    · have := nextP_low l (p.1, p.2 + 1) h1 (by show 0 ≤ p.2 + 1; omega)
      simp at this ⊢
      omega
theorem cut_upto (l : List UInt8) (k : Nat) : (⟨l.toArray⟩ : ByteArray).extract 0 k = ⟨(l.take k).toArray⟩ := by
  rw [Lib.extract_eq]
  simp
theorem cut_from (l : List UInt8) (k : Nat) : (⟨l.toArray⟩ : ByteArray).extract k l.length = ⟨(l.drop k).toArray⟩ := by
  rw [Lib.extract_eq]
  simp
  exact List.take_of_length_le (by simp)
theorem bytes_list (l : List UInt8) : (⟨l.toArray⟩ : ByteArray).toList = l := by rw [ByteArray.toList_eq]
theorem tw_before (p : UInt8 → Bool) : ∀ (l : List UInt8) (i : Nat) (h : i < l.length), i < (l.takeWhile p).length → p l[i] = true
  | [], i, h, _ => absurd h (by simp)
  | b :: l, i, h, hi => by
    rw [List.takeWhile_cons] at hi
    cases hb : p b
    · simp [hb] at hi
    · rw [hb] at hi
      cases i with
      | zero => exact hb
      | succ i => exact tw_before p l i (by simpa using h) (by simpa using hi)
theorem tw_at (p : UInt8 → Bool) : ∀ (l : List UInt8) (h : (l.takeWhile p).length < l.length), p l[(l.takeWhile p).length] = false
  | [], h => absurd h (by simp)
  | b :: l, h => by
    cases hb : p b
    · simp [hb]
    · simp only [List.takeWhile_cons, hb, if_true, List.length_cons] at h ⊢
      exact tw_at p l (by simpa using h)
theorem nameN_go {l : List UInt8} {k : Nat} (hk : k ≤ nameN l) (h : k < l.length) (hg : goesC l[k] = true) : k + 1 ≤ nameN l := by
  rcases Nat.lt_or_eq_of_le hk with h1 | h1
  · exact h1
  · exfalso
    unfold nameN at h1
    subst h1
    rw [tw_at goesC l h] at hg
    cases hg
theorem nameN_stop {l : List UInt8} {k : Nat} (hk : k ≤ nameN l) (h : k < l.length) (hg : goesC l[k] = false) : nameN l = k := by
  rcases Nat.lt_or_eq_of_le hk with h1 | h1
  · rw [tw_before goesC l k h h1] at hg
    cases hg
  · exact h1.symm
theorem nameN_end {l : List UInt8} {k : Nat} (hk : k ≤ nameN l) (h : ¬ k < l.length) : nameN l = k := by
  have := nameN_le l
  omega
end Go.Proofs.YtjgpbpmicopemaaGreatDoor

/-
  lex.digit, starts, goes, name: what they answer, for every byte and text.
-/
namespace Go.Proofs.YtjgpbpmicopemaaGreatDoor
open Go.RowKit

theorem digit_any (c : Int) (w : World) : Calls Tryz.prog 133 #[.int .u8 c] w (BB (digitI c) w) := by
  go_enter Tryz.func133, Tryz.ntmps133
  go_wp2
  all_goals (go_ret; exact ⟨by congr 2; unfold digitI; by_cases h1 : 48 ≤ c <;> by_cases h2 : c ≤ 57 <;> simp [h1, h2] <;> omega, rfl⟩)
theorem starts_any (c : Int) (w : World) : Calls Tryz.prog 98 #[.int .u8 c] w (BB (startsI c) w) := by
  go_enter Tryz.func98, Tryz.ntmps98
  go_wp2
  all_goals (go_ret; exact ⟨by congr 2; unfold startsI; by_cases h1 : 97 ≤ c <;> by_cases h2 : c ≤ 122 <;> by_cases h3 : 65 ≤ c <;> by_cases h4 : c ≤ 90 <;> by_cases h5 : c = 95 <;> simp [h1, h2, h3, h4, h5] <;> omega, rfl⟩)
theorem goes_any (c : Int) (w : World) : Calls Tryz.prog 116 #[.int .u8 c] w (BB (goesI c) w) := by
  go_enter Tryz.func116, Tryz.ntmps116
  go_wp2_with fail
  refine (starts_any c _).mono ?_
  rintro e w1 ⟨rfl, rfl⟩
  cases hs : startsI c
  · go_wp2_with fail
    refine (digit_any c _).mono ?_
    rintro e w1 ⟨rfl, rfl⟩
    go_wp2_with fail
    go_ret
    exact ⟨by simp_all [goesI], rfl⟩
  · go_wp2_with fail
    go_ret
    exact ⟨by simp_all [goesI], rfl⟩
theorem name_any (l : List UInt8) (hl : l.length ≤ 65536) (w : World) : Calls Tryz.prog 97 #[str l] w (RN (nameN l) w) := by
  unfold str
  go_enter Tryz.func97, Tryz.ntmps97
  go_wp2
  go_loopg [3] l.length (fun g s3 wr => ∃ k : Nat, k ≤ nameN l ∧ l.length - k ≤ g ∧ s3 = .int .i64 k ∧ wr = w)
  case atStart => exact ⟨0, Nat.zero_le _, by omega, rfl, rfl⟩
  case round =>
    obtain ⟨k, hk, hg, rfl, rfl⟩ := hrel
    have hkl : k ≤ l.length := Nat.le_trans hk (nameN_le l)
    by_cases hlt : k < l.length
    · go_wp2_with fail
      refine (goes_any _ _).mono ?_
      rintro e w1 ⟨rfl, rfl⟩
      have ec : goesI ((({ data := l.toArray } : ByteArray)[k]).toNat : Int) = goesC l[k] := rfl
      cases hg2 : goesC l[k]
      · rw [hg2] at ec
        rw [ec]
        have e2 := nameN_stop hk hlt hg2
        go_wp2_with fail
        go_ret
        exact ⟨by simp [e2], rfl⟩
      · rw [hg2] at ec
        rw [ec]
        have e2 := nameN_go hk hlt hg2
        go_wp2_with fail
        go_roundg (l.length - (k + 1))
        case measure => omega
        case rel => exact ⟨k + 1, e2, by omega, by simp, rfl⟩
    · go_wp2_with fail
      go_ret
      exact ⟨by simp [nameN_end hk hlt], rfl⟩
end Go.Proofs.YtjgpbpmicopemaaGreatDoor
