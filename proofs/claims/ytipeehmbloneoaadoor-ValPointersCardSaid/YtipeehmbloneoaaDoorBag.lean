/-
  A bag of values' blocks, kept from world to world; the contracts once more, with their answer given ahead.
-/
import Derived.Test.YtipeehmbloneoaaDoorMore
namespace Go.Proofs.YtipeehmbloneoaaDoor
open Go.RowKit Go.Sort

/-- the blocks of some values in W, and W grown out of w0 -/
def Bag (w0 W : World) (l : List (Nat × Vl)) : Prop := (∀ p ∈ l, Box W p.1 (.int .i64 p.2.k) (.int .i64 p.2.n) (.int .i64 p.2.b)) ∧ Below w0.heap.size w0 W
theorem Bag.nil (w : World) : Bag w w [] := ⟨fun _ h => absurd h (by simp), Below.refl _ _⟩
theorem Bag.low {w0 W : World} {l : List (Nat × Vl)} (h : Bag w0 W l) : Below w0.heap.size w0 W := h.2
theorem Bag.step {w0 W W' : World} {l : List (Nat × Vl)} (h : Bag w0 W l) (hb : Below W.heap.size W W') : Bag w0 W' l :=
  ⟨fun p hp => (h.1 p hp).below hb, h.2.trans (hb.mono h.2.size)⟩
theorem Bag.put {w0 W : World} {l : List (Nat × Vl)} (h : Bag w0 W l) (k n b : Int) : Bag w0 (W.alloc (.cells #[.int .i64 k, .int .i64 n, .int .i64 b] 24)) ((W.heap.size, ⟨k, n, b⟩) :: l) := by
  refine ⟨fun p hp => ?_, h.2.alloc h.2.size _⟩
  rcases List.mem_cons.1 hp with rfl | hp
  · exact Box.new _ _ _ _ rfl
  · exact (h.1 p hp).alloc _
theorem Bag.bare {w0 W : World} {l : List (Nat × Vl)} (h : Bag w0 W l) (o : Obj) : Bag w0 (W.alloc o) l := by
  refine ⟨fun p hp => (h.1 p hp).alloc _, h.2.alloc h.2.size _⟩
theorem Bag.drew {w0 W : World} {l : List (Nat × Vl)} (h : Bag w0 W l) (n : Nat) : Bag w0 (W.drewN n) l := ⟨h.1, below_drewN h.2 n⟩
theorem Bag.cells {w0 W : World} {l : List (Nat × Vl)} (h : Bag w0 W l) (g : Nat) (k n b : Int) (hm : (g, (⟨k, n, b⟩ : Vl)) ∈ l) :
    W.cell? ⟨g, 0, none⟩ = some (.int .i64 k) ∧ W.cell? ⟨g, 1, none⟩ = some (.int .i64 n) ∧ W.cell? ⟨g, 2, none⟩ = some (.int .i64 b) := (h.1 _ hm).cells
theorem Bag.frozen {w0 W : World} {l : List (Nat × Vl)} (h : Bag w0 W l) (g : Nat) (k n b : Int) (hm : (g, (⟨k, n, b⟩ : Vl)) ∈ l) :
    W.frozen? ⟨g, 0, none⟩ = false ∧ W.frozen? ⟨g, 1, none⟩ = false ∧ W.frozen? ⟨g, 2, none⟩ = false := (h.1 _ hm).frozen

def RVs (k n b : Int) (ok : Bool) (w : World) (e : Ending) (w' : World) : Prop := e = .returned (.tuple #[.agg #[.int .i64 k, .int .i64 n, .int .i64 b], .bool ok]) ∧ Below w.heap.size w w'
theorem RV.is {r : Option Vl} {w : World} {e : Ending} {w' : World} (h : RV r w e w') {k n b : Int} {ok : Bool} (hx : r.getD Zv = ⟨k, n, b⟩) (hok : r.isSome = ok) : RVs k n b ok w e w' := by
  subst hok
  unfold RV vk vn vb at h
  rw [hx] at h
  exact h
theorem bin_is (op xk xn xb yk yn yb : Int) (k n b : Int) (ok : Bool) (hx : (binV op ⟨xk, xn, xb⟩ ⟨yk, yn, yb⟩).getD Zv = ⟨k, n, b⟩) (hok : (binV op ⟨xk, xn, xb⟩ ⟨yk, yn, yb⟩).isSome = ok) (fx : Fits xn) (fy : Fits yn) (w : World) :
    Calls Tryd.prog 12 #[.int .i64 op, .agg #[.int .i64 (xk), .int .i64 (xn), .int .i64 (xb)], .agg #[.int .i64 (yk), .int .i64 (yn), .int .i64 (yb)]] w (RVs k n b ok w) :=
  (bin_any op xk xn xb yk yn yb fx fy w).mono fun _ _ h => h.is hx hok
theorem un_is (op xk xn xb : Int) (k n b : Int) (ok : Bool) (hx : (unV op ⟨xk, xn, xb⟩).getD Zv = ⟨k, n, b⟩) (hok : (unV op ⟨xk, xn, xb⟩).isSome = ok) (fn : Fits xn) (w : World) :
    Calls Tryd.prog 17 #[.int .i64 op, .agg #[.int .i64 (xk), .int .i64 (xn), .int .i64 (xb)]] w (RVs k n b ok w) :=
  (un_any op xk xn xb fn w).mono fun _ _ h => h.is hx hok
theorem at_is (b n : Int) (h : 1 ≤ b) (w : World) : Calls Tryd.prog 14 #[.int .i64 b, .int .i64 n] w (R3 2 n b w) := by
  have := at_any b n w
  rwa [show atK b = 2 from if_neg (by omega), show atN b n = n from if_neg (by omega), show atB b = b from if_neg (by omega)] at this
theorem true_is (k n b : Int) (t ok : Bool) (ht : trueB ⟨k, n, b⟩ = t) (hok : toldB ⟨k, n, b⟩ = ok) (w : World) : Calls Tryd.prog 20 #[.agg #[.int .i64 (k), .int .i64 (n), .int .i64 (b)]] w (RT t ok w) := by
  subst ht; subst hok; exact true_any k n b w
theorem flip_is (op : Int) (f : Int) (h : flipV op = some f) (w : World) : Calls Tryd.prog 22 #[.int .i64 op] w (fun e w' => e = .returned (.tuple #[.int .i64 f, .bool true]) ∧ w = w') := by
  have := flip_any op w
  rwa [h] at this
theorem swap_is (op : Int) (f : Int) (h : swapV op = some f) (w : World) : Calls Tryd.prog 24 #[.int .i64 op] w (fun e w' => e = .returned (.tuple #[.int .i64 f, .bool true]) ∧ w = w') := by
  have := swap_any op w
  rwa [h] at this
theorem good_is (k n b : Int) (t : Bool) (h : goodB ⟨k, n, b⟩ = t) (w : World) : Calls Tryd.prog 15 #[.agg #[.int .i64 k, .int .i64 n, .int .i64 b]] w (BB t w) := by
  subst h; exact good_any k n b w
theorem text_is (k n b : Int) (l : List UInt8) (h : textV ⟨k, n, b⟩ = l) (fn : Fits n) (fb : Fits b) (w : World) (ht : Tab w) : Calls Tryd.prog 16 #[.agg #[.int .i64 (k), .int .i64 (n), .int .i64 (b)]] w (RS l w) := by
  subst h; exact text_any k n b fn fb w ht
end Go.Proofs.YtipeehmbloneoaaDoor
