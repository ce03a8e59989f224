/-
  lex.digit, starts, goes, name: what they answer, for every byte and text.
-/
import Derived.Test.YtjgpbpmicopemaaDoorProg
import Derived.Test.YtjgpbpmicopemaaDoorBase
import Derived.WalkSpells
import Derived.WalkLawsBesides
import Derived.Deep.LoopGhost
import Derived.Deep.QuietTactic
import Derived.BigQuiet
import Derived.Laws.StructEq
import Derived.Outline
import Derived.KernelRfl
namespace Go.Proofs.YtjgpbpmicopemaaDoor
open Go.RowKit

theorem digit_any (c : Int) (w : World) : Calls Tryd.prog 46 #[.int .u8 c] w (BB (digitI c) w) := by
  go_enter Tryd.func46, Tryd.ntmps46
  go_wp2
  all_goals (go_ret; exact ⟨by congr 2; unfold digitI; by_cases h1 : 48 ≤ c <;> by_cases h2 : c ≤ 57 <;> simp [h1, h2] <;> omega, rfl⟩)
theorem starts_any (c : Int) (w : World) : Calls Tryd.prog 30 #[.int .u8 c] w (BB (startsI c) w) := by
  go_enter Tryd.func30, Tryd.ntmps30
  go_wp2
  all_goals (go_ret; exact ⟨by congr 2; unfold startsI; by_cases h1 : 97 ≤ c <;> by_cases h2 : c ≤ 122 <;> by_cases h3 : 65 ≤ c <;> by_cases h4 : c ≤ 90 <;> by_cases h5 : c = 95 <;> simp [h1, h2, h3, h4, h5] <;> omega, rfl⟩)
theorem goes_any (c : Int) (w : World) : Calls Tryd.prog 37 #[.int .u8 c] w (BB (goesI c) w) := by
  go_enter Tryd.func37, Tryd.ntmps37
  go_wp2_with fail
  refine (starts_any c _).mono ?_
  rintro e w1 ⟨rfl, rfl⟩
  cases hs : startsI c
  · go_wp2_with fail
    refine (digit_any c _).mono ?_
    rintro e w1 ⟨rfl, rfl⟩
    go_wp2_with fail
    go_ret
    exact ⟨by simp_all [goesI], rfl⟩
  · go_wp2_with fail
    go_ret
    exact ⟨by simp_all [goesI], rfl⟩
theorem name_any (l : List UInt8) (hl : l.length ≤ 65536) (w : World) : Calls Tryd.prog 29 #[str l] w (RN (nameN l) w) := by
  unfold str
  go_enter Tryd.func29, Tryd.ntmps29
  go_wp2
  go_loopg [3] l.length (fun g s3 wr => ∃ k : Nat, k ≤ nameN l ∧ l.length - k ≤ g ∧ s3 = .int .i64 k ∧ wr = w)
  case atStart => exact ⟨0, Nat.zero_le _, by omega, rfl, rfl⟩
  case round =>
    obtain ⟨k, hk, hg, rfl, rfl⟩ := hrel
    have hkl : k ≤ l.length := Nat.le_trans hk (nameN_le l)
    by_cases hlt : k < l.length
    · go_wp2_with fail
      refine (goes_any _ _).mono ?_
      rintro e w1 ⟨rfl, rfl⟩
      have ec : goesI ((({ data := l.toArray } : ByteArray)[k]).toNat : Int) = goesC l[k] := rfl
      cases hg2 : goesC l[k]
      · rw [hg2] at ec
        rw [ec]
        have e2 := nameN_stop hk hlt hg2
        go_wp2_with fail
        go_ret
        exact ⟨by simp [e2], rfl⟩
      · rw [hg2] at ec
        rw [ec]
        have e2 := nameN_go hk hlt hg2
        go_wp2_with fail
        go_roundg (l.length - (k + 1))
        case measure => omega
        case rel => exact ⟨k + 1, e2, by omega, by simp, rfl⟩
    · go_wp2_with fail
      go_ret
      exact ⟨by simp [nameN_end hk hlt], rfl⟩
end Go.Proofs.YtjgpbpmicopemaaDoor
