/-
  lex.number: what it answers, for every text.
-/
import Derived.Test.YtjgpbpmicopemaaDoorHex
import Derived.Shelf.Strings.SlTrimAscii
namespace Go.Proofs.YtjgpbpmicopemaaDoor
open Go.RowKit

theorem below_drewN {B : Nat} {a w : World} (h : Below B a w) (n : Nat) : Below B a (w.drewN n) := ⟨h.os, h.tape, h.output, h.size, h.block⟩
def hexW (l : List UInt8) : HexEnd := if l = [] then .wrong else hexR 0 l
theorem hexR_low : ∀ (l : List UInt8) (a n : Int), 0 ≤ a → a ≤ 9223372036854775807 → hexR a l = .ok n → 0 ≤ n ∧ n ≤ 9223372036854775807
  | [], a, n, h0, h1, h => by
    unfold hexR at h
    injection h with h
    omega
  | c :: l, a, n, h0, h1, h => by
    unfold hexR at h
    cases hd : hexD c with
    | none => rw [hd] at h; cases h
    | some d =>
      rw [hd] at h
      have d0 : 0 ≤ d := by
        unfold hexD at hd
        split at hd
        · injection hd; omega
        · split at hd
          · injection hd; omega
          · cases hd
      simp only [] at h
      split at h
      · cases h
      · split at h
        · cases h
        · exact hexR_low l _ n (by omega) (by omega) h
theorem hexIn (l : List UInt8) (hl : l.length ≤ 65536) (w : World) :
    Calls Tryd.prog 48 #[str l, .int .i64 16, .int .i64 63] w fun e w' => e = .returned (hexW l).tuple ∧ Below w.heap.size w w' := by
  unfold hexW
  by_cases h : l = []
  · subst h
    rw [if_pos rfl]
    refine (Tryd.internal_strconv_ParseUint_empty 16 63 w).mono ?_
    rintro e w' ⟨rfl, rfl⟩
    exact ⟨rfl, Below.refl _ _⟩
  · rw [if_neg h]
    refine (hexIn_any l h hl w).mono ?_
    rintro e w' ⟨rfl, rfl⟩
    exact ⟨rfl, Lib.bytesWorld_below _ _ _⟩
/-- an error, or none -/
def ErrV (ok : Bool) (x : Value) : Prop := if ok then x = .nilIface else ∃ N : Nat, x = .iface 89 (.pointer (some ⟨N, 0, none⟩))
def HexEnd.isOk : HexEnd → Bool
  | .ok _ => true
  | _ => false
def HexEnd.val : HexEnd → Int
  | .ok n => n
  | .wrong => 0
  | .much => 9223372036854775807
theorem hexW_low (l : List UInt8) : 0 ≤ (hexW l).val ∧ (hexW l).val ≤ 9223372036854775807 := by
  unfold hexW
  split
  · exact ⟨by decide, by decide⟩
  · cases h : hexR 0 l with
    | ok n => exact hexR_low l 0 n (by decide) (by decide) h
    | wrong => exact ⟨by decide, by decide⟩
    | much => exact ⟨by decide, by decide⟩
set_option maxHeartbeats 2000000 in
theorem hexPub (l : List UInt8) (hl : l.length ≤ 65536) (w : World) (hE : Env w) :
    Calls Tryd.prog 39 #[str l, .int .i64 16, .int .i64 63] w fun e w' => ∃ x, e = .returned (.tuple #[.int .u64 (hexW l).val, x]) ∧ ErrV (hexW l).isOk x ∧ Below w.heap.size w w' := by
  have H := hexIn l hl w
  have hsz : (⟨l.toArray⟩ : ByteArray).size ≤ 281474976710656 := by show l.toArray.size ≤ _; simp; omega
  unfold str at *
  generalize hexW l = r at *
  have E := Lib.hid hE
  clear hE
  go_enter Tryd.func39, Tryd.ntmps39
  go_wp2_with fail
  refine H.mono ?_
  rintro e w1 ⟨rfl, hb⟩
  cases r with
  | ok n =>
    simp only [HexEnd.tuple]
    go_wp2_with fail
    go_ret2
    exact ⟨_, rfl, rfl, hb⟩
  | wrong =>
    obtain ⟨ev, hv, hev⟩ := (E.out.below hb).syn
    simp only [HexEnd.tuple]
    go_wp2_with fail
    refine (Tryd.strconv_toError_syntax _ ⟨l.toArray⟩ 16 63 ev _ hsz hv hev).mono ?_
    rintro e w2 ⟨N, rfl, -, -, hb2⟩
    go_wp2_with fail
    go_ret2
    exact ⟨_, rfl, ⟨N, rfl⟩, hb.trans (hb2.mono hb.size)⟩
  | much =>
    obtain ⟨ev, hv, hev⟩ := (E.out.below hb).rng
    simp only [HexEnd.tuple]
    go_wp2_with fail
    refine (Tryd.strconv_toError_range _ ⟨l.toArray⟩ 16 63 ev _ hsz hv hev).mono ?_
    rintro e w2 ⟨N, rfl, -, -, hb2⟩
    go_wp2_with fail
    go_ret2
    exact ⟨_, rfl, ⟨N, rfl⟩, hb.trans (hb2.mono hb.size)⟩
/-- a number in base ten that an int64 holds -/
def decV (l : List UInt8) : Option Int := match Lib.parseIntB 64 l with
  | .ok v => some v
  | _ => none
theorem intPub (l : List UInt8) (hl : l.length ≤ 65536) (w : World) (hE : Env w) :
    Calls Tryd.prog 41 #[str l, .int .i64 10, .int .i64 64] w fun e w' => ∃ v x, e = .returned (.tuple #[.int .i64 v, x]) ∧ ErrV (decV l).isSome x ∧ (∀ u, decV l = some u → u = v) ∧ Below w.heap.size w w' := by
  have hsz : (⟨l.toArray⟩ : ByteArray).size ≤ 281474976710656 := by show l.toArray.size ≤ _; simp; omega
  have hmax : (⟨l.toArray⟩ : ByteArray).size ≤ 9223372036854775806 := by show l.toArray.size ≤ _; simp; omega
  unfold str decV
  cases h : Lib.parseIntB 64 l with
  | ok v =>
    refine (Tryd.strconv_ParseInt_10_at64_ok ⟨l.toArray⟩ hmax v h w).mono ?_
    rintro e w' ⟨rfl, hw⟩
    refine ⟨v, _, rfl, rfl, fun u hu => (Option.some.inj hu).symm, ?_⟩
    rcases hw with rfl | ⟨t, rfl⟩
    · exact Below.refl _ _
    · exact Lib.bytesWorld_below _ _ _
  | range =>
    obtain ⟨ev, hv, hev⟩ := hE.rng
    refine (Tryd.strconv_ParseInt_10_at64_range ⟨l.toArray⟩ hsz h ev w hv hev).mono ?_
    rintro e w2 ⟨N, rfl, -, -, hb2⟩
    exact ⟨_, _, rfl, ⟨N, rfl⟩, (fun _ hu => nomatch hu), hb2⟩
  | _ =>
    obtain ⟨ev, hv, hev⟩ := hE.syn
    refine (Tryd.strconv_ParseInt_10_at64_syntax ⟨l.toArray⟩ hsz h ev w hv hev).mono ?_
    rintro e w2 ⟨N, rfl, -, -, hb2⟩
    exact ⟨_, _, rfl, ⟨N, rfl⟩, (fun _ hu => nomatch hu), hb2⟩
def hexes : List UInt8 := [48, 49, 50, 51, 52, 53, 54, 55, 56, 57, 97, 98, 99, 100, 101, 102, 65, 66, 67, 68, 69, 70]
def tens : List UInt8 := [48, 49, 50, 51, 52, 53, 54, 55, 56, 57]
/-- a number's word: its value, or none -/
def numV (l : List UInt8) : Option Int :=
  if Lib.hasPrefix l [48, 120] then
    if (hexW (l.drop 2)).isOk && (decide ((l.drop 2).length ≤ 16) && (Lib.trimS (l.drop 2) hexes == [])) then some (hexW (l.drop 2)).val else none
  else if (decide (1 < l.length) && l.headD 0 == 48) || Lib.trimS l tens != [] then none
  else decV l
def RNum (l : List UInt8) (w : World) (e : Ending) (w' : World) : Prop := ∃ v, e = .returned (.tuple #[.int .i64 v, .bool (numV l).isSome]) ∧ (∀ u, numV l = some u → u = v) ∧ Below w.heap.size w w'
theorem trim_any (l cs : List UInt8) (hl : l.length ≤ 65536) (hc : cs.length ≤ 100) (ha : cs.all (fun b => decide (b.toNat < 128)) = true) (w : World) :
    Calls Tryd.prog 40 #[str l, str cs] w fun e w' => e = .returned (str (Lib.trimS l cs)) ∧ Below w.heap.size w w' :=
  Any.strings_Trim_laid Tryd.lays160 (by kernel_rfl) ⟨l.toArray⟩ ⟨cs.toArray⟩ w (by show l.toArray.size ≤ _; simp; omega) (by show cs.toArray.size < _; simp; omega) (ascii_of_all ha)
theorem cutPrefix_any (l : List UInt8) (w : World) : Calls Tryd.prog 38 #[str l, .string ⟨#[48, 120]⟩] w fun e w' => e = .returned (.tuple #[str (if Lib.hasPrefix l [48, 120] then l.drop 2 else l), .bool (Lib.hasPrefix l [48, 120])]) ∧ w' = w := by
  have := Tryd.strings_CutPrefix ⟨l.toArray⟩ ⟨#[48, 120]⟩ w
  exact this
set_option maxHeartbeats 4000000 in
theorem number_any (c : UInt8) (l : List UInt8) (hl : (c :: l).length ≤ 65536) (w : World) (hE : Env w) : Calls Tryd.prog 32 #[str (c :: l)] w (RNum (c :: l) w) := by
  have hC := cutPrefix_any (c :: l) w
  have hl' : l.length ≤ 65535 := by simpa using hl
  have E := Lib.hid hE
  clear hE
  cases hp : Lib.hasPrefix (c :: l) [48, 120]
  · rw [hp] at hC
    simp only [Bool.false_eq_true, if_false] at hC
    have hT := fun W => trim_any (c :: l) tens hl (by decide) (by decide) W
    have hI := fun W (h : Env W) => intPub (c :: l) hl W h
    have hN : numV (c :: l) = if (decide (1 < (c :: l).length) && c == 48) || Lib.trimS (c :: l) tens != [] then none else decV (c :: l) := by unfold numV; rw [hp]; rfl
    have hpost1 : ∀ w', ((decide (1 < (c :: l).length) && c == 48) || Lib.trimS (c :: l) tens != []) = true → Below w.heap.size w w' → RNum (c :: l) w (.returned (.tuple #[.int .i64 0, .bool false])) w' := by
      intro w' h1 h3
      rw [h1] at hN
      simp only [if_true] at hN
      exact ⟨0, by rw [hN]; rfl, (fun u hu => by rw [hN] at hu; cases hu), h3⟩
    have hpost2 : ∀ v w', ((decide (1 < (c :: l).length) && c == 48) || Lib.trimS (c :: l) tens != []) = false → (∀ u, decV (c :: l) = some u → u = v) → Below w.heap.size w w' → RNum (c :: l) w (.returned (.tuple #[.int .i64 v, .bool (decV (c :: l)).isSome])) w' := by
      intro v w' h1 h2 h3
      rw [h1] at hN
      simp only [Bool.false_eq_true, if_false] at hN
      exact ⟨v, by rw [hN], (fun u hu => h2 u (by rw [← hN]; exact hu)), h3⟩
    generalize RNum (c :: l) w = post at hpost1 hpost2 ⊢
    generalize Lib.trimS (c :: l) tens = t at *
    generalize decV (c :: l) = dv at *
    unfold str at *
    by_cases hz : 1 ≤ l.length ∧ c = 48
    · obtain ⟨hz1, rfl⟩ := hz
      go_enter Tryd.func32, Tryd.ntmps32
      go_wp2_with fail
      refine hC.mono ?_
      rintro e w1 ⟨rfl, rfl⟩
      go_wp2_with fail
      exact hpost1 _ (by rw [show decide (1 < ((48 : UInt8) :: l).length) = true from decide_eq_true (by simp; omega)]; rfl) (Below.refl _ _)
    · have hz' : (decide (1 < (c :: l).length) && c == 48) = false := by
        by_cases h1 : 1 ≤ l.length
        · have : (c == 48) = false := by simpa using fun h => hz ⟨h1, h⟩
          rw [this, Bool.and_false]
        · have : decide (1 < (c :: l).length) = false := decide_eq_false (by rw [List.length_cons]; omega)
          rw [this, Bool.false_and]
      rw [hz'] at hpost1 hpost2
      simp only [Bool.false_or] at hpost1 hpost2
      have hzz : l.length < 1 ∨ (1 ≤ l.length ∧ ¬ c = 48) := by
        by_cases h1 : 1 ≤ l.length
        · exact .inr ⟨h1, fun h => hz ⟨h1, h⟩⟩
        · exact .inl (by omega)
      clear hz hz'
      have ht : (t == []) = true ∨ (t == []) = false := by cases t <;> simp
      have hzz : l.length < 1 ∨ (1 ≤ l.length ∧ (((({ data := (c :: l).toArray } : ByteArray)[0]'(by show 0 < (c :: l).toArray.size; simp)).toNat : Nat) : Int) ≠ 48) := by
        rcases hzz with h | ⟨h, h2⟩
        · exact .inl h
        · exact .inr ⟨h, fun h' => h2 (UInt8.toNat.inj (by show c.toNat = 48; exact_mod_cast h'))⟩
      rcases hzz with hz | ⟨hz, hz2⟩
      all_goals
        go_enter Tryd.func32, Tryd.ntmps32
        go_wp2_with fail
        refine hC.mono ?_
        rintro e w1 ⟨rfl, rfl⟩
        go_wp2_with fail
        refine (hT _).mono ?_
        rintro e w2 ⟨rfl, hb⟩
        rcases ht with ht | ht
        · go_wp2_with fail
          refine (hI _ (E.out.below hb)).mono ?_
          rintro e w3 ⟨v, x, rfl, hx, hv, hb3⟩
          have hb4 := hb.trans (hb3.mono hb.size)
          have hp2 := fun n => hpost2 v _ (by simpa using ht) hv (below_drewN hb4 n)
          cases hk : dv.isSome
          · rw [hk] at hx hp2
            obtain ⟨N, rfl⟩ := hx
            go_wp2_with fail
            go_quiet (fail)
            go_wp2_with fail
            exact hp2 nq
          · rw [hk] at hx hp2
            obtain rfl : x = .nilIface := hx
            go_wp2_with fail
            go_quiet (fail)
            go_wp2_with fail
            exact hp2 nq
        · go_wp2_with fail
          exact hpost1 _ (by simpa using ht) hb
  · rw [hp] at hC
    simp only [if_true] at hC
    have hl2 : ((c :: l).drop 2).length ≤ 65536 := by simp; omega
    have hX := fun W (h : Env W) => hexPub ((c :: l).drop 2) hl2 W h
    have hT := fun W => trim_any ((c :: l).drop 2) hexes hl2 (by decide) (by decide) W
    have hN : numV (c :: l) = if (hexW ((c :: l).drop 2)).isOk && (decide (((c :: l).drop 2).length ≤ 16) && (Lib.trimS ((c :: l).drop 2) hexes == [])) then some (hexW ((c :: l).drop 2)).val else none := by unfold numV; rw [hp]; rfl
    have hpost : ∀ v b w', (((hexW ((c :: l).drop 2)).isOk && (decide (((c :: l).drop 2).length ≤ 16) && (Lib.trimS ((c :: l).drop 2) hexes == []))) = b) → (b = true → v = (hexW ((c :: l).drop 2)).val) → Below w.heap.size w w' → RNum (c :: l) w (.returned (.tuple #[.int .i64 v, .bool b])) w' := by
      intro v b w' h1 h2 h3
      refine ⟨v, ?_, ?_, h3⟩
      · rw [hN, h1]; cases b <;> rfl
      · intro u hu
        rw [hN, h1] at hu
        cases b
        · cases hu
        · rw [h2 rfl]; exact (Option.some.inj hu).symm
    have hlow := hexW_low ((c :: l).drop 2)
    generalize RNum (c :: l) w = post at hpost ⊢
    clear hN hp
    generalize (c :: l).drop 2 = m at *
    generalize hexW m = r at *
    generalize Lib.trimS m hexes = t at *
    have hw : wrap64 r.val = r.val := by unfold wrap64; omega
    unfold str at *
    go_enter Tryd.func32, Tryd.ntmps32
    go_wp2_with fail
    refine hC.mono ?_
    rintro e w1 ⟨rfl, rfl⟩
    go_wp2_with fail
    refine (hX _ E.out).mono ?_
    rintro e w2 ⟨x, rfl, hx, hb⟩
    cases hk : r.isOk
    · rw [hk] at hx
      obtain ⟨N, rfl⟩ := hx
      go_wp2_with fail
      exact hpost _ false _ (by simp [hk]) (by simp) hb
    · rw [hk] at hx
      obtain rfl : x = .nilIface := hx
      by_cases h16 : m.length ≤ 16
      · go_wp2_with fail
        refine (hT _).mono ?_
        rintro e w3 ⟨rfl, hb3⟩
        have hb4 := hb.trans (hb3.mono hb.size)
        go_wp2_with fail
        exact hpost _ t.isEmpty _ (by simp [hk, h16]) (fun _ => rfl) hb4
      · have h16' : 16 < m.length := by omega
        go_wp2_with fail
        exact hpost _ false _ (by simp [hk, h16]) (by simp) hb
end Go.Proofs.YtjgpbpmicopemaaDoor
