/-
  lex.blank: what it answers, for every text.
-/
import Derived.Test.YtjgpbpmicopemaaDoorMarks
import Derived.Lib.IndexBytes
namespace Go.Proofs.YtjgpbpmicopemaaDoor
open Go.RowKit

/-- the library's variables that are read, as the texts' start lays them -/
structure Env (w : World) : Prop where
  len : ∃ m : Int, w.cell? ⟨0, 0, none⟩ = some (.int .i64 m)
  syn : ∃ ev : Value, w.cell? ⟨1, 0, none⟩ = some ev ∧ (ev = .nilIface ∨ ∃ te pe, ev = .iface te pe)
  rng : ∃ ev : Value, w.cell? ⟨2, 0, none⟩ = some ev ∧ (ev = .nilIface ∨ ∃ te pe, ev = .iface te pe)
theorem cell_lt {w : World} {a : Addr} {v : Value} (h : w.cell? a = some v) : a.block < w.heap.size := by
  rcases Nat.lt_or_ge a.block w.heap.size with h' | h'
  · exact h'
  · simp [World.cell?, Array.getElem?_eq_none h'] at h
theorem Env.below {w w' : World} (h : Env w) (hb : Below w.heap.size w w') : Env w' := by
  obtain ⟨⟨m, h1⟩, ⟨s, h2, s2⟩, ⟨r, h3, r2⟩⟩ := h
  exact ⟨⟨m, (hb.cell (cell_lt h1)).trans h1⟩, ⟨s, (hb.cell (cell_lt h2)).trans h2, s2⟩, ⟨r, (hb.cell (cell_lt h3)).trans h3, r2⟩⟩
def RB (r : Int × Bool) (w : World) (e : Ending) (w' : World) : Prop := e = .returned (.tuple #[.int .i64 r.1, .bool r.2]) ∧ w = w'

theorem indexByte_le (c : UInt8) : ∀ l : List UInt8, Lib.indexByte l c ≤ l.length
  | [] => by simp [Lib.indexByte]
  | b :: l => by
    have := indexByte_le c l
    unfold Lib.indexByte
    split
    · simp; omega
    · split <;> simp <;> omega
set_option maxHeartbeats 2000000 in
theorem blank_any (b : UInt8) (l : List UInt8) (hl : (b :: l).length ≤ 65536) (w : World) (hE : Env w) : Calls Tryd.prog 24 #[str (b :: l)] w (RB (blankV (b :: l)) w) := by
  have hl' : l.length ≤ 65535 := by simpa using hl
  obtain ⟨m, hm⟩ := hE.len
  clear hE
  unfold str
  cases h0 : ([32, 9, 13, 10] : List UInt8).contains b
  · have hi := indexByte_out b [32, 9, 13, 10] h0
    have C0 : Calls Tryd.prog 26 #[.string ⟨#[32, 9, 13, 10]⟩, .int .u8 (b.toNat : Int)] w fun e w' => e = .returned (.int .i64 (-1)) ∧ w' = w := by
      have := Tryd.strings_IndexByte ⟨#[32, 9, 13, 10]⟩ (b.toNat : Int) w
      rw [byte_back] at this
      rw [← hi]; exact this
    have C1 := Tryd.strings_HasPrefix ⟨(b :: l).toArray⟩ ⟨#[47, 47]⟩ w
    have C2 := Tryd.strings_HasPrefix ⟨(b :: l).toArray⟩ ⟨#[47, 42]⟩ w
    have C3 := Tryd.strings_IndexByte ⟨(b :: l).toArray⟩ 10 w
    have C4 := Tryd.strings_Index ⟨((b :: l).drop 2).toArray⟩ ⟨#[42, 47]⟩ m w (by show ((b :: l).drop 2).toArray.size < _; simp; omega) hm
    have hx : (⟨(b :: l).toArray⟩ : ByteArray).extract 2 (l.length + 1) = ⟨((b :: l).drop 2).toArray⟩ := cut_from (b :: l) 2
    have e0 : blankV (b :: l) = if Lib.hasPrefix (b :: l) [47, 47] then (if 0 ≤ Lib.indexByte (b :: l) 10 then Lib.indexByte (b :: l) 10 else ((b :: l).length : Int), true)
        else if Lib.hasPrefix (b :: l) [47, 42] then (Lib.index ((b :: l).drop 2) [42, 47] + 4, decide (0 ≤ Lib.index ((b :: l).drop 2) [42, 47])) else (0, true) := by
      show (if [32, 9, 13, 10].contains b = true then _ else _) = _
      rw [h0]; rfl
    rw [e0]
    clear e0 h0 hi
    have hlo := Lib.indexByte_ge (b :: l) 10
    have hhi := indexByte_le 10 (b :: l)
    have D1 : ∀ r : Bool, Lib.hasPrefix (b :: l) [47, 47] = r → Calls Tryd.prog 27 #[.string ⟨(b :: l).toArray⟩, .string ⟨#[47, 47]⟩] w fun e w' => e = .returned (.bool r) ∧ w' = w := fun r h => by rw [← h]; exact C1
    have D2 : ∀ r : Bool, Lib.hasPrefix (b :: l) [47, 42] = r → Calls Tryd.prog 27 #[.string ⟨(b :: l).toArray⟩, .string ⟨#[47, 42]⟩] w fun e w' => e = .returned (.bool r) ∧ w' = w := fun r h => by rw [← h]; exact C2
    have D3 : Calls Tryd.prog 26 #[.string ⟨(b :: l).toArray⟩, .int .u8 10] w fun e w' => e = .returned (.int .i64 (Lib.indexByte (b :: l) 10)) ∧ w' = w := C3
    clear C1 C2 C3
    cases h1 : Lib.hasPrefix (b :: l) [47, 47]
    · cases h2 : Lib.hasPrefix (b :: l) [47, 42]
      · go_enter Tryd.func24, Tryd.ntmps24
        go_wp2_with fail
        refine C0.mono ?_
        rintro e w1 ⟨rfl, rfl⟩
        go_wp2_with fail
        refine (D1 _ h1).mono ?_
        rintro e w1 ⟨rfl, rfl⟩
        go_wp2_with fail
        refine (D2 _ h2).mono ?_
        rintro e w1 ⟨rfl, rfl⟩
        go_wp2_with fail
        go_ret2
        exact ⟨rfl, rfl⟩
      · have h2l : 1 ≤ l.length := by
          cases l with
          | nil => simp [Lib.hasPrefix] at h2
          | cons c l => simp
        have D4 : Calls Tryd.prog 28 #[.string ⟨((b :: l).drop 2).toArray⟩, .string ⟨#[42, 47]⟩] w fun e w' => e = .returned (.int .i64 (Lib.index ((b :: l).drop 2) [42, 47])) ∧ w' = w := C4
        have hib := Lib.index_le ((b :: l).drop 2) [42, 47]
        have hig := Lib.index_ge ((b :: l).drop 2) [42, 47]
        generalize Lib.index ((b :: l).drop 2) [42, 47] = ix at *
        go_enter Tryd.func24, Tryd.ntmps24
        go_wp2_with fail
        refine C0.mono ?_
        rintro e w1 ⟨rfl, rfl⟩
        go_wp2_with fail
        refine (D1 _ h1).mono ?_
        rintro e w1 ⟨rfl, rfl⟩
        go_wp2_with fail
        refine (D2 _ h2).mono ?_
        rintro e w1 ⟨rfl, rfl⟩
        go_wp2_with fail
        rw [show l.tail = (b :: l).drop 2 from by cases l <;> rfl]
        refine D4.mono ?_
        rintro e w1 ⟨rfl, rfl⟩
        have hib2 : ix ≤ 65536 := Int.le_trans hib (by simp; omega)
        go_wp2_with fail
        go_ret2
        exact ⟨by simp, rfl⟩
    · generalize Lib.indexByte (b :: l) 10 = i10 at *
      have hl10 : i10 ≤ 65536 := by omega
      by_cases h10 : 0 ≤ i10
      · simp only [if_true, h10]
        go_enter Tryd.func24, Tryd.ntmps24
        go_wp2_with fail
        refine C0.mono ?_
        rintro e w1 ⟨rfl, rfl⟩
        go_wp2_with fail
        refine (D1 _ h1).mono ?_
        rintro e w1 ⟨rfl, rfl⟩
        go_wp2_with fail
        refine D3.mono ?_
        rintro e w1 ⟨rfl, rfl⟩
        go_wp2_with fail
        go_ret2
        exact ⟨rfl, rfl⟩
      · have h10' : i10 < 0 := by omega
        simp only [if_true, h10, if_false]
        go_enter Tryd.func24, Tryd.ntmps24
        go_wp2_with fail
        refine C0.mono ?_
        rintro e w1 ⟨rfl, rfl⟩
        go_wp2_with fail
        refine (D1 _ h1).mono ?_
        rintro e w1 ⟨rfl, rfl⟩
        go_wp2_with fail
        refine D3.mono ?_
        rintro e w1 ⟨rfl, rfl⟩
        go_wp2_with fail
        go_ret2
        exact ⟨by simp, rfl⟩
  · have hi := indexByte_in b [32, 9, 13, 10] h0
    have C0 : Calls Tryd.prog 26 #[.string ⟨#[32, 9, 13, 10]⟩, .int .u8 (b.toNat : Int)] w fun e w' => e = .returned (.int .i64 (Lib.indexByte [32, 9, 13, 10] b)) ∧ w' = w := by
      have := Tryd.strings_IndexByte ⟨#[32, 9, 13, 10]⟩ (b.toNat : Int) w
      rwa [byte_back] at this
    have e0 : blankV (b :: l) = (1, true) := by
      show (if [32, 9, 13, 10].contains b = true then _ else _) = _
      rw [h0]; rfl
    rw [e0]
    generalize Lib.indexByte [32, 9, 13, 10] b = ib at hi C0
    go_enter Tryd.func24, Tryd.ntmps24
    go_wp2_with fail
    refine C0.mono ?_
    rintro e w1 ⟨rfl, rfl⟩
    go_wp2_with fail
    go_ret2
    exact ⟨rfl, rfl⟩
end Go.Proofs.YtjgpbpmicopemaaDoor
