/-
  lex.scan's take: it goes behind some bytes.
-/
import Derived.Test.YtjgpbpmicopemaaDoorWord
import Derived.Test.YtjgpbpmicopemaaDoorRange
import Derived.Deep.RegionWith
namespace Go.Proofs.YtjgpbpmicopemaaDoor
open Go.RowKit

/-- a place's box, a text's box -/
def PlcAt (W : World) (g : Nat) (p : Int × Int) : Prop := W.heap[g]? = some (.cells #[.int .i64 p.1, .int .i64 p.2] 25 (0, 0))
def TxtAt (W : World) (g : Nat) (l : List UInt8) : Prop := W.heap[g]? = some (.cells #[str l] 9 (0, 0))
section
variable {W W' : World} {g h : Nat} {p : Int × Int} {l : List UInt8}
theorem PlcAt.cells (h : PlcAt W g p) : W.cell? ⟨g, 0, none⟩ = some (.int .i64 p.1) ∧ W.cell? ⟨g, 1, none⟩ = some (.int .i64 p.2) ∧ W.frozen? ⟨g, 0, none⟩ = false ∧ W.frozen? ⟨g, 1, none⟩ = false := by
  unfold PlcAt at h
  refine ⟨?_, ?_, ?_, ?_⟩ <;> simp [World.cell?, World.frozen?, h]
theorem TxtAt.cells (h : TxtAt W g l) : W.cell? ⟨g, 0, none⟩ = some (str l) ∧ W.frozen? ⟨g, 0, none⟩ = false := by
  unfold TxtAt at h
  refine ⟨?_, ?_⟩ <;> simp [World.cell?, World.frozen?, h]
theorem PlcAt.mv {X : Nat → Prop} (h : PlcAt W g p) (m : Mv X W W') (hx : ¬ X g) : PlcAt W' g p := (m.same g (heap_lt h) hx).trans h
theorem TxtAt.mv {X : Nat → Prop} (h : TxtAt W g l) (m : Mv X W W') (hx : ¬ X g) : TxtAt W' g l := (m.same g (heap_lt h) hx).trans h
end
theorem Mv.setCell {X : Nat → Prop} (W : World) {g i : Nat} (v : Value) (h : X g) : Mv X W (W.setCell ⟨g, i, none⟩ v) :=
  ⟨rfl, rfl, rfl, by simp, fun k _ hx => set_other (fun e => hx (e ▸ h))⟩
theorem Mv.drew {X : Nat → Prop} (W : World) : Mv X W W.drew := ⟨rfl, rfl, rfl, Nat.le_refl _, fun _ _ _ => rfl⟩
/-- what take answers -/
def RTk (A R : Nat) (p : Int × Int) (l : List UInt8) (w : World) (e : Ending) (w' : World) : Prop :=
  (∃ v, e = .returned v) ∧ PlcAt w' A p ∧ TxtAt w' R l ∧ Mv (fun k => k = A ∨ k = R) w w'
set_option maxRecDepth 20000 in
set_option maxHeartbeats 4000000 in
theorem take_any (A R : Nat) (hAR : A ≠ R) (p q : Int) (l : List UInt8) (n : Nat) (hn : n ≤ l.length) (hl : l.length ≤ 65536) (hp : 0 ≤ p) (hp' : p ≤ 4611686018427387904) (hq : 0 ≤ q) (hq' : q ≤ 4611686018427387904) (w : World)
    (hA : PlcAt w A (p, q)) (hR : TxtAt w R l) : Calls Tryd.prog 22 #[.int .i64 n, .pointer (some ⟨A, 0, none⟩), .pointer (some ⟨R, 0, none⟩)] w (RTk A R (nextP (p, q) (l.take n)) (l.drop n) w) := by
  obtain ⟨a0, a1, a2, a3⟩ := hA.cells
  obtain ⟨r0, r1⟩ := hR.cells
  have hcut : (⟨l.toArray⟩ : ByteArray).extract 0 n = ⟨(l.take n).toArray⟩ := cut_upto l n
  have hcut2 : (⟨l.toArray⟩ : ByteArray).extract n l.length = ⟨(l.drop n).toArray⟩ := cut_from l n
  have hN := fun W => next_any p q (l.take n) (by simp; omega) hp hp' hq hq' W
  unfold str at *
  simp only at a0 a1
  go_enter Tryd.func22, Tryd.ntmps22
  go_wp2_with fail
  go_region_with (first | (go_at_call 23; refine (hN _).mono ?_; rintro e w' ⟨rfl, hb⟩; (have hA1 : PlcAt w' A (p, q) := (hb.block A (heap_lt hA)).trans hA); (have hR1 : TxtAt w' R l := (hb.block R (heap_lt hR)).trans hR); (obtain ⟨b0, b1, b2, b3⟩ := hA1.cells); (obtain ⟨s0, s1⟩ := hR1.cells); (unfold str at s0); (simp only at b0 b1)))
  all_goals go_wp2_with fail
  all_goals
    go_end0
    refine ⟨⟨_, rfl⟩, (set_other hAR).trans (set_same (set_same hA1)), set_same ((set_other hAR.symm).trans ((set_other hAR.symm).trans hR1)), ?_⟩
    exact ((((Mv.drew w).trans (Mv.below hb)).trans (Mv.setCell _ _ (.inl rfl))).trans (Mv.setCell _ _ (.inl rfl))).trans (Mv.setCell _ _ (.inr rfl))
end Go.Proofs.YtjgpbpmicopemaaDoor
