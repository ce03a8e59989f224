/-
  lex.isKey, mark: what they answer, for every text.
-/
import Derived.Test.YtjgpbpmicopemaaDoorSmall
import Derived.Test.YtjgpbpmicopemaaDoorShelf
namespace Go.Proofs.YtjgpbpmicopemaaDoor
open Go.RowKit

set_option maxHeartbeats 2000000 in
theorem isKey_any (l : List UInt8) (w : World) : Calls Tryd.prog 31 #[str l] w (BB (keyB l) w) := by
  unfold str
  go_enter Tryd.func31, Tryd.ntmps31
  go_wp2_with fail
  all_goals (go_ret; exact ⟨by congr 2; simp_all [keyB, keys], rfl⟩)
theorem indexByte_in (c : UInt8) : ∀ l : List UInt8, l.contains c = true → 0 ≤ Lib.indexByte l c
  | [], h => by simp at h
  | b :: l, h => by
    unfold Lib.indexByte
    have := Lib.indexByte_ge l c
    by_cases hb : b = c
    · subst hb; simp
    · have h1 : (b == c) = false := by simpa using hb
      have h2 : (c == b) = false := by simpa using Ne.symm hb
      rw [List.contains_cons, h2, Bool.false_or] at h
      have ih := indexByte_in c l h
      rw [h1]
      have h3 : (Lib.indexByte l c == -1) = false := by rw [beq_eq_false_iff_ne]; omega
      simp only [h3, Bool.false_eq_true, if_false]
      omega
theorem indexByte_out (c : UInt8) : ∀ l : List UInt8, l.contains c = false → Lib.indexByte l c = -1
  | [], _ => rfl
  | b :: l, h => by
    rw [List.contains_cons, Bool.or_eq_false_iff] at h
    unfold Lib.indexByte
    have h1 : (b == c) = false := by
      rw [beq_eq_false_iff_ne]; intro e; subst e; simp at h
    rw [h1, indexByte_out c l h.2]
    rfl
theorem byte_back (b : UInt8) : ((b.toNat : Int)).toNat.toUInt8 = b := by simp
theorem ext2 (l : List UInt8) : (({ data := l.toArray } : ByteArray).extract 0 2).toList = l.take 2 := by rw [cut_upto, bytes_list]
theorem mark_tail (b : UInt8) (l : List UInt8) (h : (decide (2 ≤ (b :: l).length) && twos.contains ((b :: l).take 2)) = false) : markN (b :: l) = if ones.contains b then 1 else 0 := by
  unfold markN
  rw [h]
  rfl
set_option maxHeartbeats 2000000 in
theorem mark_any (b : UInt8) (l : List UInt8) (hl : (b :: l).length ≤ 65536) (w : World) : Calls Tryd.prog 33 #[str (b :: l)] w (RN (markN (b :: l)) w) := by
  have hx := ext2 (b :: l)
  have hl' : l.length ≤ 65535 := by simpa using hl
  unfold str
  cases ht : decide (2 ≤ (b :: l).length) && twos.contains ((b :: l).take 2)
  · have hm := mark_tail b l ht
    rw [hm]
    have C : ∀ W, Calls Tryd.prog 26 #[.string ⟨#[40, 41, 123, 125, 91, 93, 59, 44, 46, 61, 60, 62, 43, 45, 42, 47, 37, 38, 124, 94, 126, 33]⟩, .int .u8 (b.toNat : Int)] W fun e w' => e = .returned (.int .i64 (Lib.indexByte ones b)) ∧ w' = W := fun W => by
      have := Tryd.strings_IndexByte ⟨#[40, 41, 123, 125, 91, 93, 59, 44, 46, 61, 60, 62, 43, 45, 42, 47, 37, 38, 124, 94, 126, 33]⟩ (b.toNat : Int) W
      rwa [byte_back] at this
    have key : ∀ (ib r : Int), ((0 ≤ ib ∧ r = 1) ∨ (ib < 0 ∧ r = 0)) → (∀ W, Calls Tryd.prog 26 #[.string ⟨#[40, 41, 123, 125, 91, 93, 59, 44, 46, 61, 60, 62, 43, 45, 42, 47, 37, 38, 124, 94, 126, 33]⟩, .int .u8 (b.toNat : Int)] W fun e w' => e = .returned (.int .i64 ib) ∧ w' = W) → Calls Tryd.prog 33 #[.string ⟨(b :: l).toArray⟩] w (RN r w) := by
      intro ib r hi C
      simp only [twos, List.contains_cons, List.contains_nil, Bool.or_false, Bool.and_eq_false_imp, decide_eq_true_eq, Bool.or_eq_false_iff] at ht
      generalize (b :: l).take 2 = tt at *
      rcases hi with ⟨hi, rfl⟩ | ⟨hi, rfl⟩
      all_goals
        go_enter Tryd.func33, Tryd.ntmps33
        by_cases hl1 : 1 ≤ l.length
        · obtain ⟨t0, t1, t2, t3, t4, t5, t6, t7, t8⟩ := ht (by simp; omega)
          go_wp2_with fail
          refine (C _).mono ?_
          rintro e w1 ⟨rfl, rfl⟩
          go_wp2_with fail
          go_ret
          exact ⟨by simp, rfl⟩
        · have hnil : l = [] := List.length_eq_zero_iff.1 (by omega)
          subst hnil
          go_wp2_with fail
          refine (C _).mono ?_
          rintro e w1 ⟨rfl, rfl⟩
          go_wp2_with fail
          go_ret
          exact ⟨by simp, rfl⟩
    refine key _ _ ?_ C
    cases hc : ones.contains b
    · right; exact ⟨by rw [indexByte_out _ _ hc]; decide, by simp⟩
    · left; exact ⟨indexByte_in _ _ hc, by simp⟩
  · rw [show markN (b :: l) = 2 from by unfold markN; rw [ht]; rfl]
    rw [Bool.and_eq_true, decide_eq_true_eq] at ht
    obtain ⟨h2, ht⟩ := ht
    simp only [twos, List.contains_cons, List.contains_nil, Bool.or_false, Bool.or_eq_true] at ht
    have h2' : 1 ≤ l.length := by simp at h2; omega
    generalize (b :: l).take 2 = tt at *
    go_enter Tryd.func33, Tryd.ntmps33
    go_wp2_with fail
    all_goals first | (go_ret; exact ⟨by simp_all, rfl⟩) | (exfalso; simp_all; done)
end Go.Proofs.YtjgpbpmicopemaaDoor
