/-
  AstCuts: of a program's text any beginning is a program, or is refused at its end: the law's card, for every input. The tie to the program's text is the given one.
-/
import Derived.Test.YtjgpbpmicopemaaGreatDoorPb31
import Derived.ChangeMaps5
import Derived.Test.YtjgpbpmicopemaaGreatDoorPb18
/-
  AstCuts answers true.
-/
namespace Go.Proofs.YtjgpbpmicopemaaGreatDoor
open Go.RowKit Go.Shelf
set_option maxRecDepth 20000

set_option maxHeartbeats 16000000 in
theorem cuts_any (l : Bs) (hl : l.length ≤ 9223372036854775807) (c : Int) (w : World) (hE : EnvB w) : Calls Tryz.prog 3 #[.string ⟨l.toArray⟩, .int .i64 c] w (BM true w) := by
  go_enter Tryz.func3, Tryz.ntmps3
  go_wp2_with fail
  refine (awake_any _ hE).mono ?_
  rintro e w1 ⟨rfl, hm1⟩
  go_wp2_with fail
  refine (few_any l hl _).mono ?_
  rintro e w2 ⟨b, rfl, hm2, hb⟩
  have hM2 := hm1.trans hm2
  cases b
  · go_wp2_with fail
    go_ret
    exact ⟨by simp, hM2⟩
  obtain ⟨he, hn⟩ := hb rfl
  clear hb
  go_wp2_with fail
  refine (parse_few hl he hn _ (hE.mv hM2)).mono ?_
  rintro e w3 ⟨hm3, hcase⟩
  obtain ⟨pv, q1, q2, n, rfl, hok⟩ : ∃ (pv : Value) (q1 q2 n : Int), e = .returned (.tuple #[pv, .agg #[.int .i64 q1, .int .i64 q2], .int .i64 n]) ∧ (n = 0 → ∃ pg t, programP fuelP (begS l) = .ok pg t) := by
    rcases hcase with ⟨s', -, rfl⟩ | ⟨pg, s', b, h1, rfl, -⟩
    · exact ⟨_, _, _, _, rfl, fun h => absurd h (by decide)⟩
    · exact ⟨_, _, _, _, rfl, fun _ => ⟨pg, s', h1⟩⟩
  clear hcase
  have hM3 := (hM2.trans hm3).more (.cells #[.int .i64 q1, .int .i64 q2] 26)
  go_wp2_with fail
  generalize w3.alloc (.cells #[.int .i64 q1, .int .i64 q2] 26) = wa at *
  refine (words4 l hl _).mono ?_
  rintro e w4 ⟨hm4, a, m, cc, p, q, n4, rfl, hn4, hrow⟩
  obtain rfl := hn4 he
  obtain ⟨-, rfl, hcells⟩ := hrow rfl
  have hM4 := (hM3.trans hm4).more (.cells #[.int .i64 p, .int .i64 q] 26)
  have hcells4 : ∀ (j : Nat) (x : It), (wordsL l)[j]? = some x → ∃ g, a = some ⟨g, 0, none⟩ ∧ (w4.alloc (.cells #[.int .i64 p, .int .i64 q] 26)).cell? ⟨g, j * 5 + 1, none⟩ = some (.string ⟨x.d.t.toArray⟩) := fun j x hx => by
    obtain ⟨g, e1, e2, e3⟩ := hcells (by intro h0; rw [h0] at hx; simp at hx)
    exact ⟨g, e1, cell_alloc (e3 j x hx).2.1 _⟩
  clear hcells hrow hn4
  by_cases h0 : n = 0
  · obtain ⟨pg, t, hp⟩ := hok h0
    subst h0
    by_cases hc0 : c < 0
    · go_wp2_with fail
      go_ret
      exact ⟨by simp, hM4⟩
    · obtain ⟨k, rfl⟩ : ∃ k : Nat, c = k := ⟨c.toNat, by omega⟩
      by_cases hcm : (wordsL l).length < k
      · have hcm' : ((wordsL l).length : Int) < k := by omega
        go_wp2_with fail
        go_ret
        exact ⟨by simp, hM4⟩
      · have hcm' : ¬ ((wordsL l).length : Int) < k := by omega
        have hkn : ¬ ((k : Int) < 0) := by omega
        go_wp2_with fail
        generalize w4.alloc (.cells #[.int .i64 p, .int .i64 q] 26) = wb at *
        go_loopg [11, 12] k (fun g s11 s12 wr => ∃ j : Nat, s11 = .string ⟨(tailS (((wordsL l).map It.d).take j)).toArray⟩ ∧ s12 = .int .i64 j ∧ j ≤ k ∧ k - j ≤ g ∧ wr = wb)
        case atStart => exact ⟨0, rfl, rfl, by omega, by omega, rfl⟩
        case round =>
          obtain ⟨j, rfl, rfl, hj, hg, rfl⟩ := hrel
          by_cases hlt : j < k
          · have hlt' : (j : Int) < k := by omega
            have hjl : j < (wordsL l).length := by omega
            have hjl' : (j : Int) < (wordsL l).length := by omega
            obtain ⟨g', rfl, hcell⟩ := hcells4 j _ (List.getElem?_eq_getElem hjl)
            have hstep := tailS_take ((wordsL l).map It.d) j (by simpa using hjl)
            rw [List.getElem_map] at hstep
            have hsl := (cut_law l he hn j).1
            have htl : ((wordsL l)[j]).d.t.length ≤ 40 := (word_facts l he _ (List.mem_map_of_mem (List.getElem_mem hjl))).2.1
            generalize tailS (((wordsL l).map It.d).take j) = S at *
            generalize ((wordsL l)[j]).d.t = T at *
            go_wp2_with fail
            go_roundg (k - (j + 1))
            case measure => omega
            case rel => exact ⟨j + 1, by rw [hstep]; simp [cat5], by simp, by omega, by omega, rfl⟩
          · obtain rfl : j = k := by omega
            have hlt' : ¬ ((j : Int) < j) := by omega
            have C := parse_cut he hn hp j _ (hE.mv hM4)
            have hsl := (cut_law l he hn j).1
            generalize tailS (((wordsL l).map It.d).take j) = S at *
            go_wp2_with fail
            refine C.mono ?_
            rintro e w6 ⟨hm6, ⟨b, rfl⟩ | rfl⟩
            · have hM6 := (hM4.trans hm6).more (.cells #[.int .i64 0, .int .i64 0] 26)
              go_wp2_with fail
              go_ret
              exact ⟨by simp, hM6⟩
            · have hM6 := (hM4.trans hm6).more (.cells #[.int .i64 1, .int .i64 ((S.length : Int) + 1)] 26)
              obtain ⟨z0, z1, -⟩ := cells2 (heap_alloc_new w6 (.cells #[.int .i64 1, .int .i64 ((S.length : Int) + 1)] 26))
              go_wp2_with fail
              go_ret
              exact ⟨by simp, hM6⟩
  · have hb' : (n == 0) = false := by simpa using h0
    have hb'' : (n != 0) = true := by simpa using h0
    go_wp2_with fail
    go_ret
    exact ⟨by simp, hM4⟩
end Go.Proofs.YtjgpbpmicopemaaGreatDoor


namespace Go.Proofs.YtjgpbpmicopemaaGreatDoor.astCuts
open Go.ChangeShapes Go.WideShapes Go.ChangeAt Go.RowKit Go.ChangeMaps

set_option maxRecDepth 100000 in
theorem contract (H : Type) (enc : TypeId × Value → H) (W : World) (base : Nat) (args : Array Value) (ds gs : List (DataW H)) (before : List MemPlace)
    (hval : ∀ (j : Nat) t v, Tryz.f3.params[j]? = some t → args[j]? = some v → Value.okWide Tryz.prog W .any base t v)
    (hW : DataW.Whole enc Tryz.prog Tryz.f3.params.toList Rows.astCutsSpec.vars false W args.toList ds gs before) (hL : laidMetH Tryz.prog LL W) (hS : W.ShapedOpen Tryz.prog) :
    Calls Tryz.prog 3 args W fun e W' => ∃ v, e = .returned v ∧ Rows.astCutsSpec.post enc Tryz.prog Tryz.f3 false true false false W args v W' := by
  have hW' := hW
  obtain ⟨p, q, hB, hV, rfl, hfz, hnd⟩ := hW
  have hA : DataW.TrodAll enc Tryz.prog W 0 (fun _ => true) true Tryz.f3.params.toList args.toList ds p := hB
  rw [Tryz.params3] at hA hval
  obtain ⟨v0, vs0, d0, ds0, p0, q0, hargs, rfl, rfl, h0, g0⟩ := trodAll_cons hA
  obtain ⟨v1, vs1, d1, ds1, p1, q1, rfl, rfl, rfl, h1, g1⟩ := trodAll_cons g0
  obtain ⟨rfl, rfl, rfl⟩ := trodAll_nil g1
  obtain rfl : args = #[v0, v1] := by cases args; simp_all
  obtain ⟨s0, rfl, rfl, rfl, z0⟩ := open_string Tryz.underlying9 (hval 0 9 v0 rfl rfl) h0
  have hs0 : s0.data.toList.length ≤ 9223372036854775807 := z0
  obtain ⟨n1, rfl, rfl, rfl, w1⟩ := open_int Tryz.underlying3 (hval 1 3 v1 rfl rfl) h1
  obtain ⟨rfl, rfl⟩ := trodVars_none hV
  clear hB
  simp only [List.append_nil] at hW'
  refine (cuts_any s0.data.toList hs0 n1 W (env_of hL hS)).mono fun e W' ⟨he, hg⟩ => ?_
  subst he
  exact ⟨_, rfl, post_of_below (pa := []) (pv := []) hW' (fun _ _ _ => trodAll_cons_mk (shut_bool Tryz.underlying4 _) trodAll_mk0) (fun _ _ => trodAll_cons_mk (shut_string Tryz.underlying9 z0) (trodAll_cons_mk (shut_int Tryz.underlying3 w1) trodAll_mk0)) (fun _ _ => rfl) rfl
    hg.toBelow (ok_one (by kernel_rfl) rfl (okWide_bool_mk Tryz.underlying4 _))⟩

theorem laid_met (os : Os) : laidMet Tryz.prog Rows.astCutsRow.laid ((laidWorld os ⟨#[], #[], []⟩).forCall (fun _ _ => 0) ⟨#[], #[.string ⟨#[]⟩, .int .i64 0], []⟩).memory :=
  laidMet_of_run' 8 (by kernel_rfl) (by kernel_rfl)
theorem reads (os : Os) {H : Type} (enc : TypeId × Value → H) : ∃ places, DataW.whole enc Tryz.prog ((laidWorld os ⟨#[], #[], []⟩).forCall (fun _ _ => 0) ⟨#[], #[.string ⟨#[]⟩, .int .i64 0], []⟩).memory Tryz.f3.params.toList Rows.astCutsSpec.vars false (#[.string ⟨#[]⟩, .int .i64 0] : Array Value).toList 8 = some ([.lit (.string []), .lit (.int .i64 0)], [], places) :=
  ⟨[], by kernel_rfl⟩

set_option maxRecDepth 100000 in
theorem lifted (os : Os) (started : os.Started) (H : Type) (enc : TypeId × Value → H) (F : Stop.Interp) :
    ReturnsInHanded {} Tryz.checked os 3 .any ((OpenSpec.ofChange Rows.astCutsSpec).preRow enc Tryz.prog Tryz.f3 Rows.astCutsRow.domain false Rows.astCutsRow.laid) (((OpenSpec.ofChange Rows.astCutsSpec).at F).post enc Tryz.prog Tryz.f3 false true false false) := by
  obtain ⟨places, hx⟩ := reads os enc
  refine returnsInHanded_of_row (C := Tryz.checked) (s := OpenSpec.ofChange Rows.astCutsSpec) own started (by kernel_rfl) Tryz.func3
    (witness_row_at (enc := enc) (C := Tryz.checked) false (laidWorld os ⟨#[], #[], []⟩) #[.string ⟨#[]⟩, .int .i64 0] rfl (by kernel_rfl) (by kernel_rfl) (by kernel_rfl)
      (OpenSpec.preRow_of_cond 8 hx (by kernel_rfl) (fun k hk => by cases hk) (by kernel_rfl) (laid_met os))) ?_
  intro W base args ds gs before hval hW _ _ _ hL hS _
  exact contract H enc W base args ds gs before hval hW hL hS

theorem said : Rows.AstCutsSaid :=
  OpenClaim.holds_of_cond 3 Tryz.f3 rfl rfl rfl rfl rfl rfl rfl ⟨rfl, rfl, rfl, rfl, rfl⟩ rfl rfl rfl rfl rfl (by kernel_rfl) Tryz.func3 (by kernel_rfl)
    (of_decide_eq_true (by kernel_rfl)) (by unfold Func.isWrapper; first | (rw [if_pos (by decide +kernel)]; kernel_rfl) | (rw [if_neg (by decide +kernel)]; exact ⟨rfl, rfl⟩))
    (fun os started H enc _ F => by rw [OpenClaim.pre_eq_preRow]; exact lifted os started H enc F)

theorem plain (f : FuncId) (fn : Func) (hf : Tryz.pinned.checked.prog.funcNamed "plumbob/plumboblaw5.AstCuts" = some f) (hfn : Tryz.pinned.checked.prog.funcs[f]? = some fn) :
    true = Tryz.pinned.checked.prog.looks [] ∧ ∀ (j : Nat) t, fn.params[j]? = some t → Tryz.pinned.checked.prog.wantsStandIn t = false := by
  obtain rfl : f = 3 := Option.some.inj ((show Tryz.prog.funcNamed "plumbob/plumboblaw5.AstCuts" = some 3 by kernel_rfl).symm.trans hf) |>.symm
  obtain rfl : fn = Tryz.f3 := (Option.some.inj (Tryz.func3.symm.trans hfn)).symm
  refine ⟨by kernel_rfl, fun j t ht => ?_⟩
  rw [Tryz.params3] at ht
  have hm := Array.mem_of_getElem? ht
  simp at hm
  have hm' : t = 9 ∨ t = 3 := by first | exact hm | (rcases hm with h | h | h | h | h <;> simp [h]) | (rcases hm with h | h | h | h <;> simp [h]) | (rcases hm with h | h | h <;> simp [h]) | (rcases hm with h | h <;> simp [h])
  rcases hm' with rfl | rfl
  · exact (show Tryz.prog.wantsStandIn 9 = false by kernel_rfl)
  · exact (show Tryz.prog.wantsStandIn 3 = false by kernel_rfl)

theorem card : Rows.AstCutsCardSaid :=
  Claim7.holds_tied_plain_at .later [] _ _ _ _ said (fun _ h => by cases h) (by kernel_rfl) (fun _ h => by cases h) astCuts_row_tie rfl ⟨rfl, rfl⟩ (by kernel_rfl) rfl plain (by kernel_rfl)
#print axioms card
end Go.Proofs.YtjgpbpmicopemaaGreatDoor.astCuts
