/-
  LexPlaces answers true, for every text.
-/
import Derived.Test.YtjgpbpmicopemaaDoorAwake
import Derived.Test.YtjgpbpmicopemaaDoorPlaces
namespace Go.Proofs.YtjgpbpmicopemaaDoor
open Go.RowKit

theorem cut_piece (l : List UInt8) (i n : Nat) : (⟨l.toArray⟩ : ByteArray).extract i (i + n) = ⟨((l.drop i).take n).toArray⟩ := by
  rw [Lib.extract_eq]
  simp
set_option maxRecDepth 20000 in
set_option maxHeartbeats 4000000 in
theorem places_any (l : List UInt8) (hl : l.length ≤ 9223372036854775807) (w : World) (hE : Env w) : Calls Tryd.prog 6 #[str l] w (BL true w) := by
  have C1 : ∀ W, Env W → Calls Tryd.prog 9 #[.string ⟨l.toArray⟩] W (RWs l W) := fun W hW => words_any l hl W hW
  unfold str
  go_enter Tryd.func6, Tryd.ntmps6
  go_wp2_with fail
  refine (awake_any _ hE).mono ?_
  rintro e w1 ⟨rfl, b1⟩
  go_wp2_with fail
  refine (C1 _ (hE.below b1)).mono ?_
  rintro e w2 ⟨v, rfl, hrow, hb2⟩
  have b2 := b1.trans (hb2.mono b1.size)
  obtain ⟨vb, vc, rfl, hvc, hvm, hcs⟩ := row_slice hrow
  by_cases h0 : wordsE l = 0
  · by_cases h5 : l.length ≤ 5000
    · rw [h0]
      have hst := stands_words l h0
      generalize wordsL l = L at *
      go_wp2_with fail
      have hws : Below w.heap.size w (w2.alloc (.cells #[.int .i64 (wordsP l).1, .int .i64 (wordsP l).2] 25)) := b2.alloc b2.size _
      have hcs' : 0 < L.length → ∃ g, vb = some ⟨g, 0, none⟩ ∧ ∀ (i : Nat) (hi : i < L.length) (r : Nat), r < 5 → (w2.alloc (.cells #[.int .i64 (wordsP l).1, .int .i64 (wordsP l).2] 25)).cell? ⟨g, i * 5 + r, none⟩ = (L[i]).cells[r]? := fun h => by
        obtain ⟨g, e1, -, e3, e4⟩ := hcs h
        exact ⟨g, e1, fun i hi r hr => ((((Below.refl _ _).alloc (Nat.le_refl _) _ : Below w2.heap.size w2 (w2.alloc _))).cell e3).trans (e4 i hi r hr)⟩
      generalize (w2.alloc (.cells #[.int .i64 (wordsP l).1, .int .i64 (wordsP l).2] 25)) = w3 at *
      have hLm := stands_len hst (Nat.zero_le _)
      clear hcs hrow hb2 b2
      go_loopg [6, 7, 8, 9, 10] l.length (fun g s5 s6 s7 s8 s9 wr => ∃ i a : Nat, s5 = .int .i64 (nextP (1, 1) (l.take i)).1 ∧ s6 = .int .i64 (nextP (1, 1) (l.take i)).2 ∧ s7 = .int .i64 a ∧ s8 = .int .i64 i ∧ i ≤ l.length ∧ a ≤ L.length ∧ l.length - i ≤ g ∧ Stands l i (L.drop a) ∧ ∃ d, wr = w3.drewN d)
      case atStart => exact ⟨0, 0, rfl, rfl, rfl, rfl, Nat.zero_le _, Nat.zero_le _, by omega, hst, 0, rfl⟩
      case round =>
        obtain ⟨i, a, rfl, rfl, rfl, rfl, hi, ha, hg, S, dn, rfl⟩ := hrel
        by_cases hlt : i < l.length
        · by_cases hal : a < L.length
          · obtain ⟨gb, rfl, hc⟩ := hcs' (by omega)
            have hlow := nextP_low (l.take i) (1, 1) (by decide) (by decide)
            have hs := nextP_snoc l[i] (l.take i) (1, 1)
            rw [List.take_append_getElem hlt] at hs
            have hti : (l.take i).length = i := by simp; omega
            rw [hti] at hlow
            simp only at hlow
            have hdrop : L.drop a = L[a] :: L.drop (a + 1) := List.drop_eq_getElem_cons hal
            rw [hdrop] at S
            have q1 := hc a hal 1 (by omega)
            have q3 := hc a hal 3 (by omega)
            have q4 := hc a hal 4 (by omega)
            clear hc
            generalize hx : L[a] = x at *
            have q1' : w3.cell? ⟨gb, a * 5 + 1, none⟩ = some (.string ⟨x.d.t.toArray⟩) := q1
            have q3' : w3.cell? ⟨gb, a * 5 + 3, none⟩ = some (.int .i64 x.p.1) := q3
            have q4' : w3.cell? ⟨gb, a * 5 + 4, none⟩ = some (.int .i64 x.p.2) := q4
            clear q1 q3 q4
            by_cases hp : x.p = nextP (1, 1) (l.take i)
            · obtain ⟨t1, t2, t3, t4⟩ := stands_here S hp
              have hpc := cut_piece l i x.d.t.length
              rw [← t3] at hpc
              clear t3
              generalize hn : x.d.t.length = n at *
              rw [hp] at q3' q4'
              generalize (nextP (1, 1) (l.take i)).1 = P1 at *
              generalize (nextP (1, 1) (l.take i)).2 = Q1 at *
              by_cases hc : l[i] = 10
              · rw [if_pos hc] at hs
                have hc' : (((({ data := l.toArray } : ByteArray)[i]'hlt).toNat : Int) == 10) = true := by show ((l[i].toNat : Int) == 10) = true; rw [hc]; rfl
                go_wp2_with fail
                have nx1 : ¬ ((n : Int) < 1) := by omega
                have nx2 : ¬ ((l.length : Int) - i < n) := by omega
                go_quiet (fail)
                go_wp2_with fail
                go_roundg (l.length - (i + 1))
                case measure => omega
                case rel => exact ⟨i + 1, a + 1, by rw [hs], by rw [hs], by simp, by simp, hlt, hal, by omega, t4, _, rfl⟩
              · rw [if_neg hc] at hs
                have hc' : (((({ data := l.toArray } : ByteArray)[i]'hlt).toNat : Int) == 10) = false := by
                  show ((l[i].toNat : Int) == 10) = false
                  exact beq_eq_false_iff_ne.2 fun h => hc (UInt8.toNat.inj (by show l[i].toNat = 10; omega))
                go_wp2_with fail
                have nx1 : ¬ ((n : Int) < 1) := by omega
                have nx2 : ¬ ((l.length : Int) - i < n) := by omega
                go_quiet (fail)
                go_wp2_with fail
                go_roundg (l.length - (i + 1))
                case measure => omega
                case rel => exact ⟨i + 1, a + 1, by rw [hs], by rw [hs], by simp, by simp, hlt, hal, by omega, t4, _, rfl⟩
            · have t4 := stands_on S hp
              rw [← hdrop] at t4
              have hpp : x.p.1 ≠ (nextP (1, 1) (l.take i)).1 ∨ x.p.1 = (nextP (1, 1) (l.take i)).1 ∧ x.p.2 ≠ (nextP (1, 1) (l.take i)).2 := by
                by_cases h1 : x.p.1 = (nextP (1, 1) (l.take i)).1
                · by_cases h2 : x.p.2 = (nextP (1, 1) (l.take i)).2
                  · exact absurd (Prod.ext h1 h2) hp
                  · exact .inr ⟨h1, h2⟩
                · exact .inl h1
              clear hp
              generalize (nextP (1, 1) (l.take i)).1 = P1 at *
              generalize (nextP (1, 1) (l.take i)).2 = Q1 at *
              rcases hpp with hp | ⟨rfl, hp⟩
              all_goals
                by_cases hc : l[i] = 10
                · rw [if_pos hc] at hs
                  have hc' : (((({ data := l.toArray } : ByteArray)[i]'hlt).toNat : Int) == 10) = true := by show ((l[i].toNat : Int) == 10) = true; rw [hc]; rfl
                  go_wp2_with fail
                  go_roundg (l.length - (i + 1))
                  case measure => omega
                  case rel => exact ⟨i + 1, a, by rw [hs], by rw [hs], rfl, by simp, hlt, ha, by omega, t4, _, rfl⟩
                · rw [if_neg hc] at hs
                  have hc' : (((({ data := l.toArray } : ByteArray)[i]'hlt).toNat : Int) == 10) = false := by
                    show ((l[i].toNat : Int) == 10) = false
                    exact beq_eq_false_iff_ne.2 fun h => hc (UInt8.toNat.inj (by show l[i].toNat = 10; omega))
                  go_wp2_with fail
                  go_roundg (l.length - (i + 1))
                  case measure => omega
                  case rel => exact ⟨i + 1, a, by rw [hs], by rw [hs], rfl, by simp, hlt, ha, by omega, t4, _, rfl⟩
          · have : a = L.length := by omega
            subst this
            go_wp2_with fail
            go_ret
            exact ⟨by simp, below_drewN hws _⟩
        · have hil : i = l.length := by omega
          have : a = L.length := by
            rcases Nat.eq_or_lt_of_le ha with e | e
            · exact e
            · rw [List.drop_eq_getElem_cons e] at S
              have := stands_end S
              omega
          subst this
          subst hil
          go_wp2_with fail
          go_ret
          exact ⟨by simp, below_drewN hws _⟩
    · go_wp2_with fail
      go_ret
      exact ⟨rfl, b2.alloc b2.size _⟩
  · go_wp2_with fail
    go_ret
    exact ⟨rfl, b2.alloc b2.size _⟩
end Go.Proofs.YtjgpbpmicopemaaDoor
