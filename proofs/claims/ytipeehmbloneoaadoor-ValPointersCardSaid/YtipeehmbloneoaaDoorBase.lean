/-
  A value as data; what the operations of chapter 1 come to, as plain functions on integers. No program in sight.
-/
import Derived.Below
import Derived.Deep.Draws
import Derived.Carry
import Derived.Lib.Hide
import Derived.WalkKit
namespace Go.Proofs.YtipeehmbloneoaaDoor
open Go.RowKit

/-- a value: its kind, its number, its block -/
structure Vl where
  k : Int
  n : Int
  b : Int
def Zv : Vl := ⟨0, 0, 0⟩
def Iv (n : Int) : Vl := ⟨1, n, 0⟩
def Pv (b n : Int) : Vl := ⟨2, n, b⟩
def atK (b : Int) : Int := if b < 1 then 0 else 2
def atN (b n : Int) : Int := if b < 1 then 0 else n
def atB (b : Int) : Int := if b < 1 then 0 else b
def t2i (t : Bool) : Int := if t then 1 else 0
def goodB (x : Vl) : Bool := if x.k = 0 then decide (x.n = 0 ∧ x.b = 0) else if x.k = 1 then decide (x.b = 0) else decide (x.k = 2) && decide (1 ≤ x.b)
def intB (x : Vl) : Bool := decide (x.k = 1) && decide (x.b = 0)
def ptrB (x : Vl) : Bool := decide (x.k = 2) && decide (1 ≤ x.b)
def eqB (x y : Vl) : Bool := x.k == y.k && (x.n == y.n && x.b == y.b)
def truthV (t : Bool) : Vl := Iv (t2i t)

def minI : Int := -9223372036854775808
/-- of two Ints -/
def intsV (op a b : Int) : Option Vl :=
  if op = 11 then some (Iv (wrap64 (a + b)))
  else if op = 12 then some (Iv (wrap64 (a - b)))
  else if op = 13 then some (Iv (wrap64 (a * b)))
  else if op = 14 then (if b = 0 ∨ a = minI ∧ b = -1 then none else some (Iv (wrap64 (a.tdiv b))))
  else if op = 15 then (if b = 0 ∨ a = minI ∧ b = -1 then none else some (Iv (a.tmod b)))
  else if op = 16 then some (Iv (bits .and .i64 a b))
  else if op = 17 then some (Iv (bits .or .i64 a b))
  else if op = 18 then some (Iv (bits .xor .i64 a b))
  else if op = 19 then (if b < 0 ∨ 63 < b then none else some (Iv (wrap64 (a * 2 ^ b.toNat))))
  else if op = 20 then (if b < 0 ∨ 63 < b then none else some (Iv (a / 2 ^ b.toNat)))
  else if op = 21 then some (truthV (decide (a = b)))
  else if op = 22 then some (truthV (decide (a ≠ b)))
  else if op = 23 then some (truthV (decide (a < b)))
  else if op = 24 then some (truthV (decide (a ≤ b)))
  else if op = 25 then some (truthV (decide (b < a)))
  else if op = 26 then some (truthV (decide (b ≤ a)))
  else none
/-- of pointers, held against one another or against 0 -/
def alikeV (op : Int) (x y : Vl) : Option Vl :=
  if (ptrB x && ptrB y) || (ptrB x && eqB y (Iv 0)) || (eqB x (Iv 0) && ptrB y) then some (truthV (eqB x y == decide (op = 21))) else none
def binV (op : Int) (x y : Vl) : Option Vl :=
  if intB x && intB y then intsV op x.n y.n
  else if decide (op = 11) && ptrB x && intB y then some (Pv x.b (wrap64 (x.n + y.n)))
  else if decide (op = 11) && intB x && ptrB y then some (Pv y.b (wrap64 (x.n + y.n)))
  else if decide (op = 12) && ptrB x && intB y then some (Pv x.b (wrap64 (x.n - y.n)))
  else if decide (op = 21) || decide (op = 22) then alikeV op x y
  else none
/-- what is handed back where there is none: zero -/
def vk (r : Option Vl) : Int := (r.getD Zv).k
def vn (r : Option Vl) : Int := (r.getD Zv).n
def vb (r : Option Vl) : Int := (r.getD Zv).b
/-- a value, or none: what a call hands back -/
def RV (r : Option Vl) (w : World) (e : Ending) (w' : World) : Prop := e = .returned (.tuple #[.agg #[.int .i64 (vk r), .int .i64 (vn r), .int .i64 (vb r)], .bool r.isSome]) ∧ Below w.heap.size w w'
def R3 (k n b : Int) (w : World) (e : Ending) (w' : World) : Prop := e = .returned (.agg #[.int .i64 k, .int .i64 n, .int .i64 b]) ∧ Below w.heap.size w w'
def BB (b : Bool) (w : World) (e : Ending) (w' : World) : Prop := e = .returned (.bool b) ∧ Below w.heap.size w w'

def Fits (n : Int) : Prop := -9223372036854775808 ≤ n ∧ n ≤ 9223372036854775807
def FitsV (x : Vl) : Prop := Fits x.k ∧ Fits x.n ∧ Fits x.b

theorem below_drewN {B : Nat} {a w : World} (h : Below B a w) (n : Nat) : Below B a (w.drewN n) := ⟨h.os, h.tape, h.output, h.size, h.block⟩
theorem heap_lt {w : World} {b : Nat} {o : Obj} (h : w.heap[b]? = some o) : b < w.heap.size := by
  rcases Nat.lt_or_ge b w.heap.size with h' | h'
  · exact h'
  · simp [Array.getElem?_eq_none h'] at h
theorem heap_new (w : World) (o : Obj) {g : Nat} (hg : g = w.heap.size) : (w.alloc o).heap[g]? = some o := by
  subst hg
  exact heap_alloc_new w o

/-- a value's block: its three cells -/
def Box (w : World) (g : Nat) (a b c : Value) : Prop := w.heap[g]? = some (.cells #[a, b, c] 24 (0, 0))
section
variable {w w' : World} {g : Nat} {a b c : Value}
theorem Box.cells (h : Box w g a b c) : w.cell? ⟨g, 0, none⟩ = some a ∧ w.cell? ⟨g, 1, none⟩ = some b ∧ w.cell? ⟨g, 2, none⟩ = some c := by
  unfold Box at h
  refine ⟨?_, ?_, ?_⟩ <;> simp [World.cell?, h]
theorem Box.frozen (h : Box w g a b c) : w.frozen? ⟨g, 0, none⟩ = false ∧ w.frozen? ⟨g, 1, none⟩ = false ∧ w.frozen? ⟨g, 2, none⟩ = false := by
  unfold Box at h
  refine ⟨?_, ?_, ?_⟩ <;> simp [World.frozen?, h]
theorem Box.below (h : Box w g a b c) (hb : Below w.heap.size w w') : Box w' g a b c := by
  unfold Box at *
  rw [hb.block g (heap_lt h)]; exact h
theorem Box.new (w : World) {g : Nat} (a b c : Value) (hg : g = w.heap.size) : Box (w.alloc (.cells #[a, b, c] 24)) g a b c := heap_new w _ hg
theorem Box.alloc (h : Box w g a b c) (o : Obj) : Box (w.alloc o) g a b c := by
  unfold Box at *
  rw [Below.heap_alloc _ _ _ (heap_lt h)]; exact h
end
end Go.Proofs.YtipeehmbloneoaaDoor
