/-
  What slices of events and of leaks hold, as lists; small lemmas on memory that is kept. No program in sight.
-/
import Derived.Below
import Derived.Laws.OwnMore
import Derived.Deep.Draws
import Derived.Carry
import Derived.Lib.Hide
namespace Go.Proofs.YtifknchhcbeekaaDoor
open Go.RowKit

/-- The slice value '.slice A n c' holds the cells xs ('size' of them an element), below block B. -/
def Rd (w : World) (B size : Nat) (A : Option Addr) (n : Nat) (xs : List Value) : Prop :=
  xs.length = n * size ∧ (0 < n → ∃ b o, A = some ⟨b, o, none⟩ ∧ b < B ∧ ∀ j u, xs[j]? = some u → w.cell? ⟨b, o + j, none⟩ = some u)

section
variable {w w' : World} {B B' size n : Nat} {A : Option Addr} {xs : List Value}
theorem Rd.nil_ : Rd w B size A 0 [] := ⟨by simp, fun h => absurd h (by omega)⟩
theorem Rd.keep (h : Rd w B size A n xs) (hk : ∀ p : Addr, p.block < B → w'.cell? p = w.cell? p) : Rd w' B size A n xs :=
  ⟨h.1, fun hn => by
    obtain ⟨b, o, e, hb, hc⟩ := h.2 hn
    exact ⟨b, o, e, hb, fun j u hu => (hk ⟨b, o + j, none⟩ hb).trans (hc j u hu)⟩⟩
theorem Rd.more (h : Rd w B size A n xs) (hB : B ≤ B') : Rd w B' size A n xs :=
  ⟨h.1, fun hn => by
    obtain ⟨b, o, e, hb, hc⟩ := h.2 hn
    exact ⟨b, o, e, by omega, hc⟩⟩
theorem Rd.below (h : Rd w B size A n xs) (hb : Below B w w') : Rd w' B size A n xs := h.keep fun _ hp => hb.cell hp
theorem Rd.drew (h : Rd w B size A n xs) : Rd w.drew B size A n xs := h
theorem Rd.drewN (h : Rd w B size A n xs) (k : Nat) : Rd (w.drewN k) B size A n xs := h
theorem Rd.alloc (h : Rd w B size A n xs) (hB : B ≤ w.heap.size) (o : Obj) : Rd (w.alloc o) B size A n xs :=
  h.keep fun p hp => World.cell?_alloc_lt w o p (by omega)
theorem Rd.setCell (h : Rd w B size A n xs) {p : Addr} (hB : B ≤ p.block) (u : Value) : Rd (w.setCell p u) B size A n xs :=
  h.keep fun q hq => World.cell?_setCell_other w p q u (fun e => by subst e; omega)
/-- the first k elements -/
theorem Rd.take {k : Nat} (h : Rd w B size A n xs) (hk : k ≤ n) : Rd w B size A k (xs.take (k * size)) := by
  refine ⟨?_, fun hk0 => ?_⟩
  · rw [List.length_take, h.1]; exact Nat.min_eq_left (Nat.mul_le_mul_right _ hk)
  · obtain ⟨b, o, e, hb, hc⟩ := h.2 (by omega)
    refine ⟨b, o, e, hb, fun j u hu => hc j u ?_⟩
    rw [List.getElem?_take] at hu
    split at hu
    · exact hu
    · cases hu
end

theorem below_drewN {B : Nat} {a w : World} (h : Below B a w) (n : Nat) : Below B a (w.drewN n) := ⟨h.os, h.tape, h.output, h.size, h.block⟩

/-- an event: its kind, its number -/
abbrev Ev := Int × Int
/-- a leak: its kind, A, B -/
abbrev Lk := Int × Int × Int
def evCells (l : List Ev) : List Value := l.flatMap fun e => [.int .i64 e.1, .int .i64 e.2]
def lkCells (l : List Lk) : List Value := l.flatMap fun e => [.int .i64 e.1, .int .i64 e.2.1, .int .i64 e.2.2]

theorem evCells_length (l : List Ev) : (evCells l).length = l.length * 2 := by
  induction l with
  | nil => rfl
  | cons x r ih => simp only [evCells, List.flatMap_cons, List.length_append, List.length_cons, List.length_nil] at ih ⊢; omega
theorem lkCells_length (l : List Lk) : (lkCells l).length = l.length * 3 := by
  induction l with
  | nil => rfl
  | cons x r ih => simp only [lkCells, List.flatMap_cons, List.length_append, List.length_cons, List.length_nil] at ih ⊢; omega
theorem evCells_at (l : List Ev) (i : Nat) (e : Ev) (h : l[i]? = some e) : (evCells l)[i * 2]? = some (.int .i64 e.1) ∧ (evCells l)[i * 2 + 1]? = some (.int .i64 e.2) := by
  induction l generalizing i with
  | nil => simp at h
  | cons x r ih =>
    cases i with
    | zero => simp at h; subst h; simp [evCells]
    | succ i =>
      have := ih i (by simpa using h)
      simp only [evCells, List.flatMap_cons] at this ⊢
      rw [List.getElem?_append_right (by simp; omega), List.getElem?_append_right (by simp; omega)]
      have e0 : (i + 1) * 2 - [Value.int .i64 x.1, .int .i64 x.2].length = i * 2 := by simp; omega
      have e1 : (i + 1) * 2 + 1 - [Value.int .i64 x.1, .int .i64 x.2].length = i * 2 + 1 := by simp; omega
      rw [e0, e1]; exact this
theorem lkCells_at (l : List Lk) (i : Nat) (e : Lk) (h : l[i]? = some e) : (lkCells l)[i * 3]? = some (.int .i64 e.1) ∧ (lkCells l)[i * 3 + 1]? = some (.int .i64 e.2.1) ∧ (lkCells l)[i * 3 + 2]? = some (.int .i64 e.2.2) := by
  induction l generalizing i with
  | nil => simp at h
  | cons x r ih =>
    cases i with
    | zero => simp at h; subst h; simp [lkCells]
    | succ i =>
      have := ih i (by simpa using h)
      simp only [lkCells, List.flatMap_cons] at this ⊢
      rw [List.getElem?_append_right (by simp; omega), List.getElem?_append_right (by simp; omega), List.getElem?_append_right (by simp; omega)]
      have e0 : (i + 1) * 3 - [Value.int .i64 x.1, .int .i64 x.2.1, .int .i64 x.2.2].length = i * 3 := by simp; omega
      have e1 : (i + 1) * 3 + 1 - [Value.int .i64 x.1, .int .i64 x.2.1, .int .i64 x.2.2].length = i * 3 + 1 := by simp; omega
      have e2 : (i + 1) * 3 + 2 - [Value.int .i64 x.1, .int .i64 x.2.1, .int .i64 x.2.2].length = i * 3 + 2 := by simp; omega
      rw [e0, e1, e2]; exact this
theorem evCells_take (l : List Ev) (k : Nat) : (evCells l).take (k * 2) = evCells (l.take k) := by
  induction l generalizing k with
  | nil => simp [evCells]
  | cons x r ih =>
    cases k with
    | zero => simp [evCells]
    | succ k =>
      have := ih k
      simp only [evCells, List.flatMap_cons, List.take_succ_cons] at this ⊢
      rw [show (k + 1) * 2 = k * 2 + 1 + 1 from by omega]
      simp [this]

/-- a slice of events; of leaks -/
def Evs (w : World) (B : Nat) (A : Option Addr) (n : Nat) (l : List Ev) : Prop := l.length = n ∧ Rd w B 2 A n (evCells l)
def Lks (w : World) (B : Nat) (A : Option Addr) (n : Nat) (l : List Lk) : Prop := l.length = n ∧ Rd w B 3 A n (lkCells l)
section
variable {w w' : World} {B B' n : Nat} {A : Option Addr} {l : List Ev} {m : List Lk}
theorem Evs.at_ (h : Evs w B A n l) {i : Nat} {e : Ev} (hi : l[i]? = some e) : ∃ b o, A = some ⟨b, o, none⟩ ∧ b < B ∧
    w.cell? ⟨b, o + i * 2, none⟩ = some (.int .i64 e.1) ∧ w.cell? ⟨b, o + i * 2 + 1, none⟩ = some (.int .i64 e.2) := by
  have hlt : i < n := by rw [← h.1]; exact (List.getElem?_eq_some_iff.1 hi).1
  obtain ⟨b, o, hA, hb, hc⟩ := h.2.2 (by omega)
  have he := evCells_at l i e hi
  exact ⟨b, o, hA, hb, hc _ _ he.1, by rw [Nat.add_assoc]; exact hc _ _ he.2⟩
theorem Lks.at_ (h : Lks w B A n m) {i : Nat} {e : Lk} (hi : m[i]? = some e) : ∃ b o, A = some ⟨b, o, none⟩ ∧ b < B ∧
    w.cell? ⟨b, o + i * 3, none⟩ = some (.int .i64 e.1) ∧ w.cell? ⟨b, o + i * 3 + 1, none⟩ = some (.int .i64 e.2.1) ∧ w.cell? ⟨b, o + i * 3 + 2, none⟩ = some (.int .i64 e.2.2) := by
  have hlt : i < n := by rw [← h.1]; exact (List.getElem?_eq_some_iff.1 hi).1
  obtain ⟨b, o, hA, hb, hc⟩ := h.2.2 (by omega)
  have he := lkCells_at m i e hi
  exact ⟨b, o, hA, hb, hc _ _ he.1, by rw [Nat.add_assoc]; exact hc _ _ he.2.1, by rw [Nat.add_assoc]; exact hc _ _ he.2.2⟩
theorem Evs.keep (h : Evs w B A n l) (hk : ∀ p : Addr, p.block < B → w'.cell? p = w.cell? p) : Evs w' B A n l := ⟨h.1, h.2.keep hk⟩
theorem Lks.keep (h : Lks w B A n m) (hk : ∀ p : Addr, p.block < B → w'.cell? p = w.cell? p) : Lks w' B A n m := ⟨h.1, h.2.keep hk⟩
theorem Evs.below (h : Evs w B A n l) (hb : Below B w w') : Evs w' B A n l := ⟨h.1, h.2.below hb⟩
theorem Lks.below (h : Lks w B A n m) (hb : Below B w w') : Lks w' B A n m := ⟨h.1, h.2.below hb⟩
theorem Evs.alloc (h : Evs w B A n l) (hB : B ≤ w.heap.size) (o : Obj) : Evs (w.alloc o) B A n l := ⟨h.1, h.2.alloc hB o⟩
theorem Lks.alloc (h : Lks w B A n m) (hB : B ≤ w.heap.size) (o : Obj) : Lks (w.alloc o) B A n m := ⟨h.1, h.2.alloc hB o⟩
theorem Evs.more (h : Evs w B A n l) (hB : B ≤ B') : Evs w B' A n l := ⟨h.1, h.2.more hB⟩
theorem Lks.more (h : Lks w B A n m) (hB : B ≤ B') : Lks w B' A n m := ⟨h.1, h.2.more hB⟩
theorem Evs.take (h : Evs w B A n l) {k : Nat} (hk : k ≤ n) : Evs w B A k (l.take k) :=
  ⟨by have := h.1; simp; omega, by rw [← evCells_take]; exact h.2.take hk⟩
end
end Go.Proofs.YtifknchhcbeekaaDoor
