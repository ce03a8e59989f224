/-
  trace.Outs: the numbers that went out, for every run of at most 1000 events.
-/
import Derived.Test.YtifknchhcbeekaaDoorWorld
namespace Go.Proofs.YtifknchhcbeekaaDoor
open Go.RowKit Go.Lib

def outsL (l : List Ev) : List Int := (l.filter fun e => decide (e.1 = 2)).map (·.2)
def OutsIs (l : List Ev) (w : World) (e : Ending) (w' : World) : Prop :=
  ∃ v, e = .returned v ∧ w'.ownsRow w.heap.size 2 1 v (outsL l).length ((outsL l).map (Value.int .i64)) ∧ Below w.heap.size w w'
theorem outsL_snoc (l : List Ev) (x : Ev) : outsL (l ++ [x]) = outsL l ++ if x.1 = 2 then [x.2] else [] := by
  unfold outsL
  by_cases h : x.1 = 2 <;> simp [h]

set_option maxHeartbeats 2000000 in
set_option maxRecDepth 100000 in
theorem outs_any (v : Value) (r : Rn) (w : World) (h : RunIs w w.heap.size v r) (hlen : r.evs.length ≤ 1000) :
    Calls Tryd.prog 19 #[v] w (OutsIs r.evs w) := by
  obtain ⟨i0, hi0, hz0, hz1, hz2⟩ := info_parts info2
  obtain ⟨A, n, c, L, k, p, rfl, e1, hc, hcc, -, hp, hpp⟩ := h
  have hn : n ≤ 1000 := by rw [← e1.1]; exact hlen
  have H := Lib.hid e1
  clear e1 hlen
  obtain ⟨rk, rx, re, rl, rs⟩ := r
  simp only at H ⊢
  go_enter Tryd.func19, Tryd.ntmps19
  go_wp2
  go_loopg [9, 3] n (fun g s9 s3 wr => ∃ i : Nat, i ≤ n ∧ n - i ≤ g ∧ s9 = .int .i64 i ∧
    Hid (wr.ownsRow w.heap.size 2 1 s3 (outsL (re.take i)).length ((outsL (re.take i)).map (Value.int .i64)) ∧ Below w.heap.size w wr))
  case atStart => exact ⟨0, Nat.zero_le _, by omega, rfl, Lib.hid ⟨World.ownsRow_nil _ _ _ _, (Below.refl _ _).alloc (Nat.le_refl _) _⟩⟩
  case round =>
    obtain ⟨i, hi, hg, rfl, R⟩ := hrel
    obtain ⟨ao, cap, rfl⟩ := own_form R.out.1
    by_cases hlt : i < n
    · obtain ⟨x, hx⟩ : ∃ x, re[i]? = some x := ⟨_, List.getElem?_eq_getElem (by have := H.out.1; omega)⟩
      have hw0 := R.out.2
      obtain ⟨b1, o1, rfl, hlb, hc0, hc1⟩ := (H.out.below hw0).at_ hx
      have hsn : outsL (re.take (i + 1)) = outsL (re.take i) ++ if x.1 = 2 then [x.2] else [] := by rw [take_succ_ _ _ _ hx, outsL_snoc]
      have hll : (outsL (re.take i)).length ≤ i := by
        unfold outsL
        rw [List.length_map]
        exact Nat.le_trans (List.length_filter_le _ _) (List.length_take_le _ _)
      have X := Lib.hid hsn
      have hsz := hw0.size
      clear hx hw0 hsn
      obtain ⟨x0, x1⟩ := x
      simp only at hc0 hc1
      cases hxy : (x0 == 2)
      · have EX : Hid ((if (x0, x1).1 = 2 then [(x0, x1).2] else []) = ([] : List Int)) := Lib.hid (if_neg (by simpa using hxy))
        go_wp2_with fail
        go_roundg (n - (i + 1))
        case measure => omega
        case rel =>
          refine ⟨i + 1, by omega, by omega, by go_num, Lib.hid ?_⟩
          rw [X.out, EX.out, List.append_nil]
          exact ⟨R.out.1.alloc _, R.out.2.alloc (by omega) _⟩
      · have EX : Hid ((if (x0, x1).1 = 2 then [(x0, x1).2] else []) = [x1]) := Lib.hid (if_pos (by simpa using hxy))
        have hown := R.out.1
        generalize hmm : (outsL (re.take i)).length = m at hown hll
        have HMM := Lib.hid hmm
        clear hmm
        generalize hLL : (outsL (re.take i)).map (Value.int .i64) = LL at hown
        have HLL := Lib.hid hLL
        clear hLL
        go_wp2_with (at_builtin; refine wpList_append_own _ rfl _ _ 31 rfl w.heap.size 2 i0 (.int .i64 0) 1 8 Tryd.underlying31 hi0 hz0 hz1 hz2 rfl (by decide) _ _ _ rfl ((hown.alloc _).alloc _) ⟨wr.heap.size + 1, 0, none⟩ 1 1 [.int .i64 x1] rfl rfl ?c1 ?c2 ?c3 ?c4 ?c5 ?_)
        case c2 => rfl
        case c3 => unfold maxLen; omega
        case c4 => omega
        case c5 => omega
        intro v' w2 hown' hgrow _
        have hb2 : Below w.heap.size w w2 := by
          refine (((R.out.2.alloc (by omega) _).alloc (by simp; omega) _).grown hgrow (by simp; omega) ?_)
          intro q hq
          exact (hown.lt q hq).1
        have Hb2 := Lib.hid hb2
        obtain ⟨ao', cap', rfl⟩ := own_form hown'
        have HO := Lib.hid hown'
        clear hown' hgrow hb2 hown
        go_wp2_with fail
        go_roundg (n - (i + 1))
        case measure => omega
        case rel =>
          refine ⟨i + 1, by omega, by omega, by go_num, Lib.hid ⟨?_, Hb2.out⟩⟩
          have h := HO.out
          rw [← HLL.out] at h
          rw [X.out, EX.out]
          rw [List.map_append, List.length_append, HMM.out]
          exact h
    · obtain rfl : i = n := by omega
      have hT : re.take i = re := List.take_of_length_le (by have := H.out.1; omega)
      have HT := Lib.hid hT
      clear hT
      go_wp2_with fail
      go_ret
      refine ⟨.slice ao (outsL (re.take i)).length cap, rfl, ?_, R.out.2⟩
      have h := R.out.1
      rw [HT.out] at h ⊢
      exact h
end Go.Proofs.YtifknchhcbeekaaDoor
