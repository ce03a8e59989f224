/-
  AstKnown: the law's card; the tie to the program's text is the given one.
-/
import Derived.Test.YtjgpbpmicopemaaGreatDoorPb17
import Derived.Test.YtjgpbpmicopemaaGreatDoorPb18
/-
  AstKnown answers true.
-/
namespace Go.Proofs.YtjgpbpmicopemaaGreatDoor
open Go.RowKit Go.Shelf
set_option maxRecDepth 20000

set_option maxHeartbeats 8000000 in
theorem known_any (w : World) (hE : EnvB w) : Calls Tryz.prog 5 #[] w (BM true w) := by
  have C2 := fun w' h => parse_bad run2 err2 (by decide) w' h
  have C3 := fun w' h => parse_lex err3 (by decide) w' h
  have C4 := fun w' h => parse_run run4 err4 (by decide) w' h
  have hx4 : x4.length ≤ 1000000000000 := by decide
  have CT : ∀ (w' : World) (K : Nat → Prop) (b : Nat) (pg : Pg), PgAt w' K b pg → textP pg = x4 → (∀ i ∈ pg.items, okI i = true) → EnvA w' → Calls Tryz.prog 12 #[.pointer (some ⟨b, 0, none⟩)] w' fun r W' => r = .returned (.string ⟨x4.toArray⟩) ∧ Mv (fun _ => False) w' W' := fun w' K b pg a1 a2 a3 a4 => by
    rw [← a2]
    exact programTextZ pg a3 (by rw [a2]; exact hx4) w' K b a1 a4
  clear hx4
  go_enter Tryz.func5, Tryz.ntmps5
  go_wp2_with fail
  refine (awake_any _ hE).mono ?_
  rintro e w1 ⟨rfl, hm1⟩
  go_wp2_with fail
  refine (C2 _ (hE.mv hm1)).mono ?_
  rintro e w2 ⟨hm2, rfl⟩
  go_wp2_with fail
  have hA2 := heap_alloc_new w2 (.cells #[.int .i64 1, .int .i64 7] 26)
  have hma := (hm1.trans hm2).more (.cells #[.int .i64 1, .int .i64 7] 26)
  generalize hwa : w2.alloc (.cells #[.int .i64 1, .int .i64 7] 26) = wa at *
  generalize w2.heap.size = q2 at *
  clear hwa
  refine (C3 _ (hE.mv hma)).mono ?_
  rintro e w3 ⟨hm3, rfl⟩
  have hA3 := (hm3.same _ (heap_lt hA2) (fun h => h)).trans hA2
  have hM3 := hma.trans hm3
  go_wp2_with fail
  have hB3 := heap_alloc_new w3 (.cells #[.int .i64 1, .int .i64 7] 26)
  have hA4 := at_alloc hA3 (.cells #[.int .i64 1, .int .i64 7] 26)
  have hmb := hM3.more (.cells #[.int .i64 1, .int .i64 7] 26)
  generalize hwb : w3.alloc (.cells #[.int .i64 1, .int .i64 7] 26) = wb at *
  generalize w3.heap.size = q3 at *
  clear hwb
  refine (C4 _ (hE.mv hmb)).mono ?_
  rintro e w4 ⟨hm4, b, pg, rfl, hP, ht, hok, hf, hn, hi⟩
  have hA5 := (hm4.same _ (heap_lt hA4) (fun h => h)).trans hA4
  have hB5 := (hm4.same _ (heap_lt hB3) (fun h => h)).trans hB3
  have hM4 := hmb.trans hm4
  obtain ⟨a0, a1, -⟩ := cells2 (at_alloc hA5 (.cells #[.int .i64 0, .int .i64 0] 26))
  obtain ⟨b0, b1, -⟩ := cells2 (at_alloc hB5 (.cells #[.int .i64 0, .int .i64 0] 26))
  have hmc := hM4.more (.cells #[.int .i64 0, .int .i64 0] 26)
  have hPc : PgAt (w4.alloc (.cells #[.int .i64 0, .int .i64 0] 26)) (fun k => wb.heap.size ≤ k) b pg := hP.mv (Keeps.of (Mv.alloc (X := fun _ => False) _ _) (fun _ _ h => h)) (fun _ h => h)
  go_wp2_with fail
  refine (CT _ _ _ _ hPc ht hok (hE.mv hmc).env).mono ?_
  rintro e w5 ⟨rfl, hm5⟩
  go_wp2_with fail
  go_ret
  exact ⟨by simp, hmc.trans hm5⟩
end Go.Proofs.YtjgpbpmicopemaaGreatDoor


namespace Go.Proofs.YtjgpbpmicopemaaGreatDoor.known
open Go.ChangeShapes Go.WideShapes Go.ChangeAt Go.RowKit

set_option maxRecDepth 100000 in
theorem contract (H : Type) (enc : TypeId × Value → H) (W : World) (base : Nat) (args : Array Value) (ds gs : List (DataW H)) (before : List MemPlace)
    (_hval : ∀ (j : Nat) t v, Tryz.f5.params[j]? = some t → args[j]? = some v → Value.okWide Tryz.prog W .any base t v)
    (hW : DataW.Whole enc Tryz.prog Tryz.f5.params.toList Rows.astKnownSpec.vars false W args.toList ds gs before) (hL : laidMetH Tryz.prog LL W) (hS : W.ShapedOpen Tryz.prog) :
    Calls Tryz.prog 5 args W fun e W' => ∃ v, e = .returned v ∧ Rows.astKnownSpec.post enc Tryz.prog Tryz.f5 false true false false W args v W' := by
  have hW' := hW
  obtain ⟨p, q, hA0, hV, rfl, hfz, hnd⟩ := hW
  have hA : DataW.TrodAll enc Tryz.prog W 0 (fun _ => true) true Tryz.f5.params.toList args.toList ds p := hA0
  rw [Tryz.params5] at hA
  obtain ⟨hargs, rfl, rfl⟩ := trodAll_nil hA
  obtain rfl : args = #[] := by cases args; simp_all
  obtain ⟨rfl, rfl⟩ := trodVars_none hV
  clear hA0
  simp only [List.append_nil] at hW'
  refine (known_any W (env_of hL hS)).mono fun e W' ⟨he, hg⟩ => ?_
  subst he
  exact ⟨_, rfl, post_of_below (pa := []) (pv := []) hW' (fun _ _ _ => trodAll_cons_mk (shut_bool Tryz.underlying4 _) trodAll_mk0) (fun _ _ => trodAll_mk0) (fun _ _ => rfl) rfl
    hg.toBelow (ok_one (by kernel_rfl) rfl (okWide_bool_mk Tryz.underlying4 _))⟩

theorem laid_met (os : Os) : laidMet Tryz.prog Rows.astKnownRow.laid ((laidWorld os ⟨#[], #[], []⟩).forCall (fun _ _ => 0) ⟨#[], #[], []⟩).memory :=
  laidMet_of_run' 8 (by kernel_rfl) (by kernel_rfl)
theorem reads (os : Os) {H : Type} (enc : TypeId × Value → H) : ∃ places, DataW.whole enc Tryz.prog ((laidWorld os ⟨#[], #[], []⟩).forCall (fun _ _ => 0) ⟨#[], #[], []⟩).memory Tryz.f5.params.toList Rows.astKnownSpec.vars false (#[] : Array Value).toList 8 = some ([], [], places) :=
  ⟨[], by kernel_rfl⟩

set_option maxRecDepth 100000 in
theorem lifted (os : Os) (started : os.Started) (H : Type) (enc : TypeId × Value → H) (F : Stop.Interp) :
    ReturnsInHanded {} Tryz.checked os 5 .any ((OpenSpec.ofChange Rows.astKnownSpec).preRow enc Tryz.prog Tryz.f5 Rows.astKnownRow.domain false Rows.astKnownRow.laid) (((OpenSpec.ofChange Rows.astKnownSpec).at F).post enc Tryz.prog Tryz.f5 false true false false) := by
  obtain ⟨places, hx⟩ := reads os enc
  refine returnsInHanded_of_row (C := Tryz.checked) (s := OpenSpec.ofChange Rows.astKnownSpec) own started (by kernel_rfl) Tryz.func5
    (witness_row_at (enc := enc) (C := Tryz.checked) false (laidWorld os ⟨#[], #[], []⟩) #[] rfl (by kernel_rfl) (by kernel_rfl) (by kernel_rfl)
      (OpenSpec.preRow_of_cond 8 hx (by kernel_rfl) (fun k hk => by cases hk) (by kernel_rfl) (laid_met os))) ?_
  intro W base args ds gs before hval hW _ _ _ hL hS _
  exact contract H enc W base args ds gs before hval hW hL hS

theorem said : Rows.AstKnownSaid :=
  OpenClaim.holds_of_cond 5 Tryz.f5 rfl rfl rfl rfl rfl rfl rfl ⟨rfl, rfl, rfl, rfl, rfl⟩ rfl rfl rfl rfl rfl (by kernel_rfl) Tryz.func5 (by kernel_rfl)
    (of_decide_eq_true (by kernel_rfl)) (by unfold Func.isWrapper; first | (rw [if_pos (by decide +kernel)]; kernel_rfl) | (rw [if_neg (by decide +kernel)]; exact ⟨rfl, rfl⟩))
    (fun os started H enc _ F => by rw [OpenClaim.pre_eq_preRow]; exact lifted os started H enc F)

theorem plain (f : FuncId) (fn : Func) (hf : Tryz.pinned.checked.prog.funcNamed "plumbob/plumboblaw5.AstKnown" = some f) (hfn : Tryz.pinned.checked.prog.funcs[f]? = some fn) :
    true = Tryz.pinned.checked.prog.looks [] ∧ ∀ (j : Nat) t, fn.params[j]? = some t → Tryz.pinned.checked.prog.wantsStandIn t = false := by
  obtain rfl : f = 5 := Option.some.inj ((show Tryz.prog.funcNamed "plumbob/plumboblaw5.AstKnown" = some 5 by kernel_rfl).symm.trans hf) |>.symm
  obtain rfl : fn = Tryz.f5 := (Option.some.inj (Tryz.func5.symm.trans hfn)).symm
  refine ⟨by kernel_rfl, fun j t ht => ?_⟩
  rw [Tryz.params5] at ht
  simp at ht

theorem card : Rows.AstKnownCardSaid :=
  Claim7.holds_tied_plain_at .later [] _ _ _ _ said (fun _ h => by cases h) (by kernel_rfl) (fun _ h => by cases h) astKnown_row_tie rfl ⟨rfl, rfl⟩ (by kernel_rfl) rfl plain (by kernel_rfl)
#print axioms card
end Go.Proofs.YtjgpbpmicopemaaGreatDoor.known
