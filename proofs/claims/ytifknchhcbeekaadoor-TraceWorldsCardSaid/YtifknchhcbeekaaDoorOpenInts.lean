/-
  An argument that is a slice of int64, opened.
-/
import Derived.Test.YtifknchhcbeekaaDoorOpen
namespace Go.Proofs.YtifknchhcbeekaaDoor
open Go.Joins Go.ChangeShapes Go.WideShapes Go.ChangeAt Go.RowKit Go.Deep

theorem open_ints64 {H : Type} {enc : TypeId × Value → H} {W : World} {base : Nat} {v : Value} {d : DataW H} {p : List MemPlace} (hv : Value.okWide Tryd.prog W .any base 31 v) (h : DataW.Trod enc Tryd.prog W 0 (fun _ => true) true 31 v d p) :
    ∃ (A : Option Addr) (len cap : Nat) (l : List Int), v = .slice A len cap ∧ (A = none → cap = 0) ∧ l.length = len ∧ (len ≤ cap ∧ cap ≤ 9223372036854775807) ∧ Rd W W.heap.size 1 A len (l.map (Value.int .i64)) := by
  obtain ⟨a0, len, cap, rfl⟩ := okWide_slice Tryd.underlying31 hv
  obtain ⟨fuel, hf⟩ := h
  rcases open_ints Tryd.underlying31 Tryd.underlying2 (by kernel_rfl) hf with ⟨hcs, hx⟩ | ⟨a, len', cap', zs, hcs, _, hl, hm, hz, hx, hcell, hwz⟩
  · simp [Value.cells] at hcs
    obtain ⟨rfl, rfl, rfl⟩ := hcs
    exact ⟨none, 0, 0, [], rfl, fun _ => rfl, rfl, ⟨Nat.le_refl _, by omega⟩, Rd.nil_⟩
  · simp [Value.cells] at hcs
    obtain ⟨rfl, rfl, rfl⟩ := hcs
    unfold maxLen at hm
    have hz2 : zs.length = cap := by simpa using hz
    clear hz
    refine ⟨some a, len, cap, zs.take len, rfl, (fun e => by cases e), by simp; omega, ⟨hl, hm⟩, by simp; omega, fun hn => ?_⟩
    obtain ⟨b, o, rfl, hc⟩ := ints_at hcell (by omega)
    refine ⟨b, o, rfl, ?_, fun j u hu => ?_⟩
    · exact World.block_lt_of_cell? W ⟨b, o + 0, none⟩ (hc 0 (by omega))
    · rw [List.getElem?_map, List.getElem?_take] at hu
      split at hu
      · obtain ⟨z, hz', rfl⟩ := Option.map_eq_some_iff.1 hu
        have hj := (List.getElem?_eq_some_iff.1 hz').1
        rw [hc j hj]
        simp [List.getD, hz']
      · simp at hu
end Go.Proofs.YtifknchhcbeekaaDoor
