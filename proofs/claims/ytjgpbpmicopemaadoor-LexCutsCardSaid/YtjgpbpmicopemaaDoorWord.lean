/-
  lex.word: what it answers, for every text.
-/
import Derived.Test.YtjgpbpmicopemaaDoorNum
import Derived.Test.YtjgpbpmicopemaaDoorNext
namespace Go.Proofs.YtjgpbpmicopemaaDoor
open Go.RowKit

/-- a word: its kind, its text, its number -/
structure Wd where
  k : Int
  t : List UInt8
  n : Int
/-- the word with which a text begins -/
def wordO (l : List UInt8) : Option Wd :=
  if startsC (l.headD 0) then (if nameN l ≤ 40 then some ⟨if keyB (l.take (nameN l)) then 3 else 1, l.take (nameN l), 0⟩ else none)
  else if 0 < nameN l then (numV (l.take (nameN l))).map (fun v => ⟨2, l.take (nameN l), v⟩)
  else if 0 < markN l then some ⟨4, l.take (markN l), 0⟩ else none
/-- a word as the program's value, at its place -/
def Wd.val (d : Wd) (p q : Int) : Value := .agg #[.int .i64 d.k, str d.t, .int .i64 d.n, .int .i64 p, .int .i64 q]
def RWd (l : List UInt8) (w : World) (e : Ending) (w' : World) : Prop := ∃ d : Wd, e = .returned (.tuple #[d.val 0 0, .bool (wordO l).isSome]) ∧ (∀ u, wordO l = some u → u = d) ∧ Below w.heap.size w w'
theorem box5 {w : World} {g : Nat} {a b c d e : Value} (h : w.heap[g]? = some (.cells #[a, b, c, d, e] 30 (0, 0))) :
    w.cell? ⟨g, 0, none⟩ = some a ∧ w.cell? ⟨g, 1, none⟩ = some b ∧ w.cell? ⟨g, 2, none⟩ = some c ∧ w.cell? ⟨g, 3, none⟩ = some d ∧ w.cell? ⟨g, 4, none⟩ = some e ∧
    w.frozen? ⟨g, 0, none⟩ = false ∧ w.frozen? ⟨g, 1, none⟩ = false ∧ w.frozen? ⟨g, 2, none⟩ = false ∧ w.frozen? ⟨g, 3, none⟩ = false ∧ w.frozen? ⟨g, 4, none⟩ = false := by
  refine ⟨?_, ?_, ?_, ?_, ?_, ?_, ?_, ?_, ?_, ?_⟩ <;> simp [World.cell?, World.frozen?, h]
theorem put5 {w : World} {g : Nat} {a b c d e a' b' c' d' e' : Value} (h : w.heap[g]? = some (.cells #[a, b, c, d, e] 30 (0, 0))) :
    (((((w.setCell ⟨g, 0, none⟩ a').setCell ⟨g, 1, none⟩ b').setCell ⟨g, 2, none⟩ c').setCell ⟨g, 3, none⟩ d').setCell ⟨g, 4, none⟩ e').heap[g]? = some (.cells #[a', b', c', d', e'] 30 (0, 0)) :=
  set_same (set_same (set_same (set_same (set_same h))))
set_option maxHeartbeats 4000000 in
theorem word_any (c : UInt8) (l : List UInt8) (hl : (c :: l).length ≤ 65536) (w : World) (hE : Env w) : Calls Tryd.prog 25 #[str (c :: l)] w (RWd (c :: l) w) := by
  have hl' : l.length ≤ 65535 := by simpa using hl
  have hn := fun W => name_any (c :: l) hl W
  have hle := nameN_le (c :: l)
  have hcut : ∀ k : Nat, (⟨(c :: l).toArray⟩ : ByteArray).extract 0 k = ⟨((c :: l).take k).toArray⟩ := cut_upto (c :: l)
  have hs : ∀ W, Calls Tryd.prog 30 #[.int .u8 (c.toNat : Int)] W (BB (startsC c) W) := fun W => starts_any _ W
  have hm := fun W => mark_any c l hl W
  have hk := fun W => isKey_any ((c :: l).take (nameN (c :: l))) W
  have E := Lib.hid hE
  clear hE
  have hpost : ∀ (d : Wd) (b : Bool) w', wordO (c :: l) = (if b then some d else none) → Below w.heap.size w w' → RWd (c :: l) w (.returned (.tuple #[d.val 0 0, .bool b])) w' := by
    intro d b w' h1 h2
    refine ⟨d, by rw [h1]; cases b <;> rfl, fun u hu => ?_, h2⟩
    rw [h1] at hu
    cases b
    · cases hu
    · exact (Option.some.inj hu).symm
  have hw0 : wordO (c :: l) = if startsC c then (if nameN (c :: l) ≤ 40 then some ⟨if keyB ((c :: l).take (nameN (c :: l))) then 3 else 1, (c :: l).take (nameN (c :: l)), 0⟩ else none)
    else if 0 < nameN (c :: l) then (numV ((c :: l).take (nameN (c :: l)))).map (fun v => ⟨2, (c :: l).take (nameN (c :: l)), v⟩)
    else if 0 < markN (c :: l) then some ⟨4, (c :: l).take (markN (c :: l)), 0⟩ else none := rfl
  rw [hw0] at hpost
  clear hw0
  generalize RWd (c :: l) w = post at hpost ⊢
  have hnle : nameN (c :: l) ≤ l.length + 1 := by simpa using hle
  cases h0 : startsC c
  · rw [h0] at hpost hs
    simp only [Bool.false_eq_true, if_false] at hpost
    by_cases h1 : 0 < nameN (c :: l)
    · simp only [if_pos h1] at hpost
      generalize nameN (c :: l) = n at *
      have hnum : ∀ W, Env W → Calls Tryd.prog 32 #[str ((c :: l).take n)] W (RNum ((c :: l).take n) W) := fun W hW => by
        obtain ⟨m, rfl⟩ : ∃ m, n = m + 1 := ⟨n - 1, by omega⟩
        rw [List.take_succ_cons]
        exact number_any c (l.take m) (by simp; omega) W hW
      unfold str RNum at *
      go_enter Tryd.func25, Tryd.ntmps25
      go_wp2_with fail
      refine (hn _).mono ?_
      rintro e w1 ⟨rfl, rfl⟩
      go_wp2_with fail
      refine (hs _).mono ?_
      rintro e w1 ⟨rfl, rfl⟩
      go_wp2_with fail
      have hal : Below w.heap.size w (w.alloc (.cells #[.int .i64 0, .string ⟨#[]⟩, .int .i64 0, .int .i64 0, .int .i64 0] 30)) := (Below.refl _ _).alloc (Nat.le_refl _) _
      refine (hnum _ (E.out.below hal)).mono ?_
      rintro e w2 ⟨v, rfl, hv, hb⟩
      have hbx : w2.heap[w.heap.size]? = some (.cells #[.int .i64 0, .string ⟨#[]⟩, .int .i64 0, .int .i64 0, .int .i64 0] 30 (0, 0)) := by
        rw [hb.block _ (by simp)]
        exact heap_alloc_new w _
      obtain ⟨x0, x1, x2, x3, x4, y0, y1, y2, y3, y4⟩ := box5 hbx
      go_wp2_with fail
      have hr := put5 (a' := .int .i64 2) (b' := .string ⟨((c :: l).take n).toArray⟩) (c' := .int .i64 v) (d' := .int .i64 0) (e' := .int .i64 0) hbx
      have hB := (((((hal.trans (hb.mono hal.size)).setCell (p := ⟨w.heap.size, 0, none⟩) (Nat.le_refl _) (.int .i64 2)).setCell (p := ⟨w.heap.size, 1, none⟩) (Nat.le_refl _) (.string ⟨((c :: l).take n).toArray⟩)).setCell (p := ⟨w.heap.size, 2, none⟩) (Nat.le_refl _) (.int .i64 v)).setCell (p := ⟨w.heap.size, 3, none⟩) (Nat.le_refl _) (.int .i64 0)).setCell (p := ⟨w.heap.size, 4, none⟩) (Nat.le_refl _) (.int .i64 0)
      obtain ⟨z0, z1, z2, z3, z4, -⟩ := box5 hr
      refine bodyPost_ret (v := .tuple #[.agg #[.int .i64 2, .string ⟨((c :: l).take n).toArray⟩, .int .i64 v, .int .i64 0, .int .i64 0], .bool (numV ((c :: l).take n)).isSome]) (by simp [results, Tryd.results25, go_sem, z0, z1, z2, z3, z4]) rfl ?_
      refine hpost ⟨2, (c :: l).take n, v⟩ _ _ ?_ hB
      cases hq : numV ((c :: l).take n) with
      | none => rfl
      | some u => rw [hv u hq]; rfl
    · have h1' : nameN (c :: l) = 0 := by omega
      rw [h1'] at hpost hn
      clear hk hle hnle
      simp only [Nat.lt_irrefl, if_false] at hpost
      have hmle : markN (c :: l) ≤ 2 := by unfold markN; split <;> (try split) <;> omega
      have hml2 : markN (c :: l) ≤ l.length + 1 := by
        unfold markN
        split
        · rename_i h; rw [Bool.and_eq_true, decide_eq_true_eq] at h; simpa using h.1
        · split <;> omega
      generalize markN (c :: l) = m at *
      unfold str at *
      go_enter Tryd.func25, Tryd.ntmps25
      go_wp2_with fail
      refine (hn _).mono ?_
      rintro e w1 ⟨rfl, rfl⟩
      go_wp2_with fail
      refine (hs _).mono ?_
      rintro e w1 ⟨rfl, rfl⟩
      go_wp2_with fail
      refine (hm _).mono ?_
      rintro e w1 ⟨rfl, rfl⟩
      go_wp2_with fail
      refine bodyPost_ret (v := .tuple #[.agg #[.int .i64 4, .string ⟨((c :: l).take m).toArray⟩, .int .i64 0, .int .i64 0, .int .i64 0], .bool (decide (0 < m))]) (by simp [results, Tryd.results25, go_sem]) rfl ?_
      exact hpost ⟨4, (c :: l).take m, 0⟩ (decide (0 < m)) _ (by by_cases h : 0 < m <;> simp [h]) ((Below.refl _ _).alloc (Nat.le_refl _) _)
  · rw [h0] at hpost hs
    simp only [if_true] at hpost
    generalize nameN (c :: l) = n at *
    unfold str at *
    go_enter Tryd.func25, Tryd.ntmps25
    go_wp2_with fail
    refine (hn _).mono ?_
    rintro e w1 ⟨rfl, rfl⟩
    go_wp2_with fail
    refine (hs _).mono ?_
    rintro e w1 ⟨rfl, rfl⟩
    go_wp2_with fail
    refine (hk _).mono ?_
    rintro e w2 ⟨rfl, rfl⟩
    cases hkey : keyB ((c :: l).take n)
    · rw [hkey] at hpost
      go_wp2_with fail
      refine bodyPost_ret (v := .tuple #[.agg #[.int .i64 1, .string ⟨((c :: l).take n).toArray⟩, .int .i64 0, .int .i64 0, .int .i64 0], .bool (decide ((n : Int) ≤ 40))]) (by simp [results, Tryd.results25, go_sem]) rfl ?_
      exact hpost ⟨1, (c :: l).take n, 0⟩ (decide ((n : Int) ≤ 40)) _ (by by_cases h : n ≤ 40 <;> simp [h] <;> omega) (((Below.refl _ _).alloc (Nat.le_refl _) _).alloc (by simp) _)
    · rw [hkey] at hpost
      go_wp2_with fail
      refine bodyPost_ret (v := .tuple #[.agg #[.int .i64 3, .string ⟨((c :: l).take n).toArray⟩, .int .i64 0, .int .i64 0, .int .i64 0], .bool (decide ((n : Int) ≤ 40))]) (by simp [results, Tryd.results25, go_sem]) rfl ?_
      exact hpost ⟨3, (c :: l).take n, 0⟩ (decide ((n : Int) ≤ 40)) _ (by by_cases h : n ≤ 40 <;> simp [h] <;> omega) (((Below.refl _ _).alloc (Nat.le_refl _) _).alloc (by simp) _)
end Go.Proofs.YtjgpbpmicopemaaDoor
