/-
  TraceWorlds answers true, for every list of numbers and every n, in every world in which strconv's table holds its numbers.
-/
import Derived.Test.YtifknchhcbeekaaDoorRefinesWalk
import Derived.Deep.DeepCutAuto
namespace Go.Proofs.YtifknchhcbeekaaDoor
open Go.RowKit Go.Lib

theorem ints_at_ {w : World} {B : Nat} {A : Option Addr} {n : Nat} {l : List Int} (h : Rd w B 1 A n (l.map (Value.int .i64))) {i : Nat} {x : Int} (hi : l[i]? = some x) :
    ∃ b o, A = some ⟨b, o, none⟩ ∧ b < B ∧ w.cell? ⟨b, o + i, none⟩ = some (.int .i64 x) := by
  have hlt : i < n := by
    have := (List.getElem?_eq_some_iff.1 hi).1
    have := h.1
    simp at this
    omega
  obtain ⟨b, o, hA, hb, hc⟩ := h.2 (by omega)
  exact ⟨b, o, hA, hb, hc i _ (by simp [hi])⟩
theorem own_plain {w : World} {B n : Nat} {v : Value} {xs : List Value} (h : w.ownsRow B 2 1 v n xs) (hn : v ≠ .slice none 0 0) : ∃ g cap cur, v = .slice (some ⟨g, 0, none⟩) n cap ∧ B ≤ g ∧ w.heap[g]? = some (.cells cur 2 (0, 0)) ∧ n ≤ cap ∧ cap ≤ maxLen ∧ cur.size = cap ∧ cur.toList.take n = xs := by
  rcases h.2 with ⟨hv, _⟩ | ⟨g, cap, cur, hv, hg, hh, h1, h2, h3, h4⟩
  · exact absurd hv hn
  · exact ⟨g, cap, cur, hv, hg, hh, h1, h2, by omega, by simpa using h4⟩

/-- the caller's own row: a block of numbers, none frozen -/
def Row_ (w : World) (g cap : Nat) : Prop := ∃ cur, w.heap[g]? = some (.cells cur 2 (0, 0)) ∧ cur.size = cap
theorem Row_.below {w w' : World} {g cap : Nat} (h : Row_ w g cap) (hb : Below w.heap.size w w') : Row_ w' g cap := by
  obtain ⟨cur, h1, h2⟩ := h
  exact ⟨cur, by rw [hb.block g (heap_lt h1)]; exact h1, h2⟩
theorem Row_.facts {w : World} {g cap i : Nat} (h : Row_ w g cap) (hi : i < cap) : (∃ u, w.cell? ⟨g, i, none⟩ = some u) ∧ w.frozen? ⟨g, i, none⟩ = false := by
  obtain ⟨cur, h1, h2⟩ := h
  refine ⟨⟨cur[i]'(by omega), ?_⟩, Lib.frozen_of_heap h1 i⟩
  rw [Lib.cell_of_heap h1]
  exact Array.getElem?_eq_getElem (by omega)
theorem Row_.set_ {w : World} {g cap i : Nat} (h : Row_ w g cap) (u : Value) : Row_ (w.setCell ⟨g, i, none⟩ u) g cap := by
  obtain ⟨cur, h1, h2⟩ := h
  exact ⟨cur.setIfInBounds i u, by simp [World.setCell, Array.getElem?_modify, h1], by simpa using h2⟩
theorem WorldAt.set_ {w : World} {B b g i k : Nat} {l : List Int} (h : WorldAt w B b l k) (hg : g < B) (u : Value) : WorldAt (w.setCell ⟨g, i, none⟩ u) B b l k := by
  obtain ⟨v, h1, h2, h3, h4⟩ := h
  exact ⟨v, by rw [Below.heap_setCell _ _ _ _ (by simp; omega)]; exact h1, h2, ownsRow_setCell_below h3 (a := ⟨g, i, none⟩) hg u, h4⟩

set_option maxHeartbeats 8000000 in
set_option maxRecDepth 100000 in
theorem worlds_any (A : Option Addr) (len cap : Nat) (l : List Int) (n : Int) (w : World) (ht : Tab w) (hA : A = none → cap = 0) (hl : l.length = len) (hcap : len ≤ cap ∧ cap ≤ 9223372036854775807)
    (hrd : Rd w w.heap.size 1 A len (l.map (Value.int .i64))) (hn : Fits n) :
    Calls Tryd.prog 4 #[.slice A len cap, .int .i64 n] w (BB true w) := by
  obtain ⟨i0, hi0, hz0, hz1, hz2⟩ := info_parts info2
  obtain ⟨hn0, hn1⟩ := hn
  obtain ⟨hc0, hc1⟩ := hcap
  have HW := Lib.hid (And.intro hA (And.intro hl hrd))
  have HT := Lib.hid ht
  clear hA hl hrd ht
  by_cases c1 : len ≤ 1000
  · by_cases c2 : 0 ≤ n
    · by_cases c3 : n ≤ 2000
      · go_enter Tryd.func4, Tryd.ntmps4
        go_wp2_with fail
        refine (awake_any _ HT.out).mono ?_
        rintro e w1 ⟨rfl, hb⟩
        have B1 := Lib.hid hb
        have hz1' := hb.size
        clear hb
        go_upto_region 5 with fail
        go_cut [5] (fun s5 wx => ∃ g cp : Nat, s5 = .slice (some ⟨g, 0, none⟩) len cp ∧ len ≤ cp ∧ cp ≤ 9223372036854775807 ∧ Hid (w.heap.size ≤ g ∧ wx.ownsRow w1.heap.size 2 1 (.slice (some ⟨g, 0, none⟩) len cp) len (l.map (Value.int .i64)) ∧ Below w.heap.size w wx))
        case first =>
          have hown0 : (w1.alloc (.cells #[] 2)).ownsRow w1.heap.size 2 1 (.slice (some ⟨w1.heap.size, 0, none⟩) 0 0) 0 [] :=
            ⟨rfl, .inr ⟨w1.heap.size, 0, #[], rfl, Nat.le_refl _, heap_alloc_new' _ _ rfl, Nat.le_refl _, by unfold maxLen; omega, rfl, rfl⟩⟩
          have hbel : Below w.heap.size w (w1.alloc (.cells #[] 2)) := B1.out.alloc B1.out.size _
          have HB := Lib.hid hbel
          clear hbel
          rcases A with _ | ad
          · have hcap0 := HW.out.1 rfl
            subst hcap0
            obtain rfl : len = 0 := by omega
            have hl0 : l = [] := List.eq_nil_of_length_eq_zero HW.out.2.1
            subst hl0
            go_wp2_with fail
            go_meet
            exact ⟨_, _, rfl, Nat.le_refl _, by omega, Lib.hid ⟨hz1', hown0, HB.out⟩⟩
          · have hcells : ∀ j u, (l.map (Value.int .i64))[j]? = some u → (w1.alloc (.cells #[] 2)).cell? (ad.add j) = some u := by
              intro j u hu
              have hj : j < len := by have h1 := (List.getElem?_eq_some_iff.1 hu).1; have h2 := HW.out.2.1; simp at h1; omega
              obtain ⟨b, o, e, hbl, hc⟩ := (HW.out.2.2.below HB.out).2 (by omega)
              injection e with e
              subst e
              rw [Go.WideShapes.add_plain]
              exact hc j u hu
            have HC := Lib.hid hcells
            clear hcells
            have hone : ∀ u ∈ l.map (Value.int .i64), u.oneCell' = true := by
              intro u hu
              obtain ⟨z, _, rfl⟩ := List.mem_map.1 hu
              rfl
            have HO := Lib.hid hone
            clear hone
            go_wp2_with (at_builtin; refine wpList_append_own _ rfl _ _ 31 rfl w1.heap.size 2 i0 (.int .i64 0) 1 8 Tryd.underlying31 hi0 hz0 hz1 hz2 rfl (by decide) _ _ _ rfl hown0 ad len cap (l.map (Value.int .i64)) rfl ?c1 HC.out HO.out ?c3 ?c4 ?c5 ?_)
            case c1 => have := HW.out.2.1; simp; omega
            case c3 => unfold maxLen; omega
            case c4 => omega
            case c5 => simp
            intro v' w2 hown' hgrow hnil
            have hb2 : Below w.heap.size w w2 := HB.out.grown hgrow HB.out.size (fun q hq => by simp [Value.ownBlock] at hq; omega)
            have hv : v' ≠ .slice none 0 0 := fun e => hnil e
            obtain ⟨g, cp, cur, rfl, hg, -, h1, h2, -⟩ := own_plain hown' hv
            have HH : Hid (w.heap.size ≤ g ∧ w2.ownsRow w1.heap.size 2 1 (.slice (some ⟨g, 0, none⟩) len cp) len (l.map (Value.int .i64)) ∧ Below w.heap.size w w2) := Lib.hid ⟨by omega, hown', hb2⟩
            unfold maxLen at h2
            clear hown' hgrow hnil hb2 hv hown0
            go_wp2_with fail
            go_meet
            exact ⟨g, cp, rfl, by omega, h2, HH⟩
        case rest =>
          obtain ⟨g, cp, rfl, hgc, hcp, HH⟩ := hcut
          have hrd2 : Rd wc wc.heap.size 1 (some ⟨g, 0, none⟩) len (l.map (Value.int .i64)) := by
            obtain ⟨g', cap', cur, hv, hg, hh, _⟩ := own_plain HH.out.2.1 (by simp)
            refine ⟨by have := HW.out.2.1; simp; omega, fun _ => ⟨g, 0, rfl, ?_, fun j u hu => ?_⟩⟩
            · simp only [Value.slice.injEq, Option.some.injEq, Addr.mk.injEq] at hv
              rw [hv.1.1]
              exact heap_lt hh
            · have := HH.out.2.1.cells (g := g) rfl j u hu
              rw [Go.WideShapes.add_plain] at this
              exact this
          have HR2 := Lib.hid hrd2
          have HG : Hid (Row_ wc g cp) := by
            obtain ⟨g', cap', cur, hv, hg, hh, h1, h2, h3, h4⟩ := own_plain HH.out.2.1 (by simp)
            simp only [Value.slice.injEq, Option.some.injEq, Addr.mk.injEq, true_and, and_true] at hv
            obtain ⟨rfl, rfl⟩ := hv
            exact Lib.hid ⟨cur, hh, h3⟩
          clear hrd2
          go_wp2_with fail
          refine (new_any (some ⟨g, 0, none⟩) len cp l wc (Or.inr ⟨_, _, rfl⟩) HW.out.2.1 (by omega) HR2.out).mono ?_
          rintro e w3 ⟨b, rfl, hWo, hb3⟩
          have hgl : g < wc.heap.size := by obtain ⟨cur, hh, _⟩ := HG.out; exact heap_lt hh
          have HS : Hid (WorldAt w3 wc.heap.size b l 0 ∧ Row_ w3 g cp ∧ Below w.heap.size w w3) := Lib.hid ⟨hWo, HG.out.below hb3, HH.out.2.2.trans (hb3.mono HH.out.2.2.size)⟩
          have HGL := Lib.hid (And.intro hgl HH.out.1)
          clear hWo hb3 hgl HG HR2
          go_wp2_with fail
          go_loopw [7] (fun u wr => ∃ i : Nat, i ≤ len ∧ u = .int .i64 i ∧ Hid (WorldAt wr wc.heap.size b l 0 ∧ Row_ wr g cp ∧ Below w.heap.size w wr)) (fun u _ => len - (RowKit.intOf u).toNat)
          case atStart => exact ⟨0, Nat.zero_le _, rfl, HS⟩
          case round =>
            obtain ⟨i, hi, rfl, R⟩ := hrel
            by_cases hlt : i < len
            · obtain ⟨⟨u, hu⟩, hf⟩ := R.out.2.1.facts (i := i) (by omega)
              go_wp2_with fail
              go_roundw
              case rel => exact ⟨i + 1, by omega, by go_num, Lib.hid ⟨R.out.1.set_ HGL.out.1 _, R.out.2.1.set_ _, R.out.2.2.setCell (p := ⟨g, i, none⟩) HGL.out.2 _⟩⟩
              case measure => simp [RowKit.intOf]; omega
            · obtain rfl : len = i := by omega
              clear hlt
              obtain ⟨m, rfl⟩ := Int.eq_ofNat_of_zero_le c2
              go_wp2_with fail
              obtain ⟨wo, rfl⟩ : ∃ wo : World, wo = wr := ⟨_, rfl⟩
              go_loopw [8, 9] (fun u t wr => ∃ k : Nat, k ≤ m ∧ u = .int .i64 k ∧ Hid (WorldAt wr wc.heap.size b l k ∧ Below w.heap.size w wr)) (fun u _ _ => m - (RowKit.intOf u).toNat)
              case atStart => exact ⟨0, Nat.zero_le _, rfl, Lib.hid ⟨R.out.1, R.out.2.2⟩⟩
              case round =>
                obtain ⟨k, hk, rfl, S⟩ := hrel
                have hused : wr.cell? ⟨b, 1, none⟩ = some (.int .i64 k) := by
                  obtain ⟨v0, hbk, _⟩ := S.out.1
                  rw [Lib.cell_of_heap hbk]; rfl
                have HU := Lib.hid hused
                clear hused
                by_cases hkm : k < m
                · have hz3 := S.out.2.size
                  have tkk : ((k : Int) != k) = false := by simp
                  by_cases hkl : k < len
                  · obtain ⟨x, hx⟩ : ∃ x, l[k]? = some x := ⟨_, List.getElem?_eq_getElem (by have := HW.out.2.1; omega)⟩
                    obtain ⟨ba, oa, hAd, hlb, hcx⟩ := ints_at_ (HW.out.2.2.below S.out.2) hx
                    subst hAd
                    have htl : tells l k = x := by simp [tells, List.getD, hx]
                    have HTL := Lib.hid htl
                    have txx : (x != x) = false := by simp
                    clear hx htl
                    go_wp2_with fail
                    refine (used_any b k _ HU.out).mono ?_
                    rintro e w5 ⟨rfl, rfl⟩
                    go_wp2_with fail
                    refine (next_is wc.heap.size b l k x HTL.out _ S.out.1 (by omega)).mono ?_
                    rintro e w6 ⟨rfl, hW6, hb6, hs6⟩
                    have H6 : Hid (WorldAt w6 wc.heap.size b l (k + 1) ∧ Below w.heap.size w w6) := Lib.hid ⟨hW6, S.out.2.trans (hb6.mono (HH.out.2.2.size))⟩
                    clear hW6 hb6 hs6
                    go_wp2_with fail
                    go_roundw
                    case rel => exact ⟨k + 1, by omega, by go_num, H6⟩
                    case measure => simp [RowKit.intOf]; omega
                  · have htl : tells l k = 0 := by simp [tells, List.getD, List.getElem?_eq_none (by have := HW.out.2.1; omega : l.length ≤ k)]
                    have HTL := Lib.hid htl
                    clear htl
                    go_wp2_with fail
                    refine (used_any b k _ HU.out).mono ?_
                    rintro e w5 ⟨rfl, rfl⟩
                    go_wp2_with fail
                    refine (next_is wc.heap.size b l k 0 HTL.out _ S.out.1 (by omega)).mono ?_
                    rintro e w6 ⟨rfl, hW6, hb6, hs6⟩
                    have H6 : Hid (WorldAt w6 wc.heap.size b l (k + 1) ∧ Below w.heap.size w w6) := Lib.hid ⟨hW6, S.out.2.trans (hb6.mono (HH.out.2.2.size))⟩
                    clear hW6 hb6 hs6
                    go_wp2_with fail
                    go_roundw
                    case rel => exact ⟨k + 1, by omega, by go_num, H6⟩
                    case measure => simp [RowKit.intOf]; omega
                · obtain rfl : k = m := by omega
                  go_wp2_with fail
                  refine (used_any b k _ HU.out).mono ?_
                  rintro e w5 ⟨rfl, rfl⟩
                  go_wp2_with fail
                  go_ret
                  exact ⟨by simp, S.out.2⟩
      · go_enter Tryd.func4, Tryd.ntmps4
        go_wp2_with fail
        refine (awake_any _ HT.out).mono ?_
        rintro e w1 ⟨rfl, hb⟩
        go_wp2_with fail
        go_ret
        exact ⟨rfl, hb⟩
    · go_enter Tryd.func4, Tryd.ntmps4
      go_wp2_with fail
      refine (awake_any _ HT.out).mono ?_
      rintro e w1 ⟨rfl, hb⟩
      go_wp2_with fail
      go_ret
      exact ⟨rfl, hb⟩
  · go_enter Tryd.func4, Tryd.ntmps4
    go_wp2_with fail
    refine (awake_any _ HT.out).mono ?_
    rintro e w1 ⟨rfl, hb⟩
    go_wp2_with fail
    go_ret
    exact ⟨rfl, hb⟩
end Go.Proofs.YtifknchhcbeekaaDoor
