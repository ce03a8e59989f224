/-
  The law's few: it returns; true only of a text whose words are cut and are few.
-/
import Derived.Test.YtjgpbpmicopemaaGreatDoorPb30
namespace Go.Proofs.YtjgpbpmicopemaaGreatDoor
open Go.RowKit Go.Shelf
set_option maxRecDepth 20000

def RFew (l : Bs) (w : World) (e : Ending) (w' : World) : Prop := ∃ b : Bool, e = .returned (.bool b) ∧ Mv (fun _ => False) w w' ∧ (b = true → wordsE l = 0 ∧ (wordsL l).length ≤ 200)
/-- what plumbobref4.Words answers, in the words of this text -/
theorem words4 (l : Bs) (hl : l.length ≤ 9223372036854775807) (w : World) : Calls Tryz.prog 9 #[.string ⟨l.toArray⟩] w fun e w' => Mv (fun _ => False) w w' ∧ ∃ (a : Option Addr) (m c : Nat) (p q n : Int), e = .returned (.tuple #[.slice a m c, .agg #[.int .i64 p, .int .i64 q], .int .i64 n]) ∧
    (wordsE l = 0 → n = 0) ∧ (n = 0 → wordsE l = 0 ∧ m = (wordsL l).length ∧ (wordsL l ≠ [] → ∃ g, a = some ⟨g, 0, none⟩ ∧ g < w'.heap.size ∧ ∀ (j : Nat) (x : It), (wordsL l)[j]? = some x → W5 w' g j x)) := by
  have C := rwords_any l hl w
  unfold str at C
  refine C.mono ?_
  rintro e w1 ⟨v, p, n, rfl, pre, hrow, hb, hcase⟩
  obtain ⟨a, c, rfl, hg1, hg2⟩ := words_row hrow
  refine ⟨Mv.below hb, a, _, c, p.1, p.2, n, rfl, fun he => ?_, fun hn => ?_⟩
  · obtain ⟨-, e2, e3⟩ := wordsL_goods he
    rcases hcase with ⟨h1, -⟩ | ⟨-, -, -, h4⟩
    · omega
    · rw [h4, e2]; rfl
  rcases hcase with ⟨-, -, -, h4⟩ | ⟨h1, h2, -, h4⟩
  · omega
  · have hf : (faultO l).isSome = false := by
      cases hx : (faultO l).isSome
      · rfl
      · rw [hx] at h4; simp at h4; omega
    have he : wordsE l = 0 := by
      unfold wordsE
      rw [if_neg (by omega), hf]
      rfl
    obtain ⟨e1, -, -⟩ := wordsL_goods he
    rw [e1] at h2
    subst h2
    exact ⟨he, rfl, hg1⟩
set_option maxHeartbeats 8000000 in
theorem few_any (l : Bs) (hl : l.length ≤ 9223372036854775807) (w : World) : Calls Tryz.prog 7 #[.string ⟨l.toArray⟩] w (RFew l w) := by
  have C1 := fun w' => words4 l hl w'
  have C2 := fun w' he => parse5 l he w'
  go_enter Tryz.func7, Tryz.ntmps7
  go_wp2_with fail
  refine (C1 _).mono ?_
  rintro e w1 ⟨hm1, a, m, c, p, q, n, rfl, -, hn⟩
  by_cases h0 : n = 0
  · obtain ⟨he, hm, -⟩ := hn h0
    subst h0
    by_cases h200 : 200 < m
    · have h200' : (200 : Int) < m := by omega
      go_wp2_with fail
      exact bodyPost_ret (v := .bool false) (by simp [results, Tryz.results7, go_sem]) rfl ⟨false, rfl, hm1.trans (Mv.alloc _ _), by simp⟩
    · have h200' : ¬ (200 : Int) < m := by omega
      go_wp2_with fail
      have hma := hm1.more (.cells #[.int .i64 p, .int .i64 q] 26)
      generalize w1.alloc (.cells #[.int .i64 p, .int .i64 q] 26) = wa at *
      refine (C2 _ he).mono ?_
      rintro e w2 ⟨hm2, Q, p2, q2, n2, v1, v2, v3, v4, nn, dd, m3, rfl, hq, a3, c3, rfl⟩
      have hM2 := hma.trans hm2
      have hq' := at_alloc hq (.cells #[.int .i64 p2, .int .i64 q2] 26)
      have y2 : (w2.alloc (.cells #[.int .i64 p2, .int .i64 q2] 26)).cell? ⟨Q, 2, none⟩ = some (.slice a3 m3 c3) := by unfold World.cell?; rw [hq']; rfl
      have y5 : (w2.alloc (.cells #[.int .i64 p2, .int .i64 q2] 26)).cell? ⟨Q, 5, none⟩ = some (.int .i64 dd) := by unfold World.cell?; rw [hq']; rfl
      have hM3 := hM2.more (.cells #[.int .i64 p2, .int .i64 q2] 26)
      go_wp2_with fail
      all_goals go_ret
      all_goals exact ⟨_, rfl, hM3, fun _ => ⟨he, by omega⟩⟩
  · have hb : (n == 0) = false := by simpa using h0
    have hb' : (n != 0) = true := by simpa using h0
    go_wp2_with fail
    exact bodyPost_ret (v := .bool false) (by simp [results, Tryz.results7, go_sem]) rfl ⟨false, rfl, hm1.trans (Mv.alloc _ _), by simp⟩
end Go.Proofs.YtjgpbpmicopemaaGreatDoor
