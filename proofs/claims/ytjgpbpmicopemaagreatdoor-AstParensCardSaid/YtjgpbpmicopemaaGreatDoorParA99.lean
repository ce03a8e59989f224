/-
  AstParens: parentheses round an expression change nothing of the tree: the law's card, for every input. The tie to the program's text is the given one.
-/
import Derived.Test.YtjgpbpmicopemaaGreatDoorPe09
import Derived.Test.YtjgpbpmicopemaaGreatDoorPe10
import Derived.ChangeMaps5
import Derived.Test.YtjgpbpmicopemaaGreatDoorPb18
namespace Go.Proofs.YtjgpbpmicopemaaGreatDoor
open Go.RowKit Go.Shelf
set_option maxRecDepth 20000
theorem textA_eq (x : Bs) : (preT ++ [32] ++ x) ++ [59, 125] = textA x := by simp [textA]
theorem textB_eq (x : Bs) : (preT ++ [32, 40, 40] ++ x) ++ [41, 41, 59, 125] = textB x := by simp [textB]
theorem PgAt.on {w W W' : World} {b : Nat} {x : Pg} (h : PgAt W (fun k => w.heap.size ≤ k) b x) (m : Mv (fun _ => False) W W') : PgAt W' (fun k => w.heap.size ≤ k) b x := h.mv (Keeps.of m (fun _ _ h => h)) (fun _ h => h)
theorem parse_okP {l : Bs} (hl : l.length ≤ 9223372036854775807) (he : wordsE l = 0) (hn : (wordsL l).length ≤ 200) {pg : Pg} {t : Sx} (hp : programP fuelP (begS l) = .ok pg t) (w : World) (hE : EnvB w) : Calls Tryz.prog 8 #[.string ⟨l.toArray⟩] w fun e w' => Mv (fun _ => False) w w' ∧
    ∃ b, e = .returned (.tuple #[.pointer (some ⟨b, 0, none⟩), .agg #[.int .i64 0, .int .i64 0], .int .i64 0]) ∧ PgAt w' (fun k => w.heap.size ≤ k) b pg := by
  refine (parse_few hl he hn w hE).mono ?_
  rintro e w' ⟨hm, ⟨s', x, -⟩ | ⟨pg', s', b, x, rfl, hP⟩⟩
  · rw [hp] at x; cases x
  · rw [hp] at x; cases x; exact ⟨hm, b, rfl, hP⟩
set_option maxHeartbeats 32000000 in
theorem parens_any (x : Bs) (hl : x.length ≤ 9223372036854775807) (w : World) (hE : EnvB w) : Calls Tryz.prog 4 #[.string ⟨x.toArray⟩] w (BM true w) := by
  go_enter Tryz.func4, Tryz.ntmps4
  go_wp2_with fail
  refine (awake_any _ hE).mono ?_
  rintro e w1 ⟨rfl, hm1⟩
  go_wp2_with fail
  refine (words4 x hl _).mono ?_
  rintro e w2 ⟨hm2, a, m, cc, p, q, n, rfl, -, hw⟩
  have hM2 := (hm1.trans hm2).more (.cells #[.int .i64 p, .int .i64 q] 26)
  by_cases h200 : 200 < x.length
  · have h200' : (200 : Int) < x.length := by omega
    go_wp2_with fail
    go_ret
    exact ⟨by simp, hM2⟩
  have h200' : ¬ (200 : Int) < x.length := by omega
  by_cases h0 : n = 0
  · obtain ⟨hex, rfl, -⟩ := hw h0
    subst h0
    by_cases hm0 : (wordsL x).length = 0
    · have hm0' : (((wordsL x).length : Int) == 0) = true := by simp [hm0]
      go_wp2_with fail
      go_ret
      exact ⟨by simp, hM2⟩
    · have hm0' : (((wordsL x).length : Int) == 0) = false := by simpa using hm0
      have hne : wordsL x ≠ [] := fun h => hm0 (by rw [h]; rfl)
      clear hw
      have hlA : (textA x).length ≤ 1000 := by unfold textA; simp; omega
      have hlB : (textB x).length ≤ 1000 := by unfold textB; simp; omega
      have eA : (((⟨#[105, 110, 116, 32, 102, 40, 105, 110, 116, 32, 97, 44, 105, 110, 116, 32, 98, 41, 123, 114, 101, 116, 117, 114, 110, 32]⟩ : ByteArray) ++ ⟨x.toArray⟩) ++ ⟨#[59, 125]⟩) = ⟨(textA x).toArray⟩ := by simp only [cat5]; simp [textA]
      have eB : (((⟨#[105, 110, 116, 32, 102, 40, 105, 110, 116, 32, 97, 44, 105, 110, 116, 32, 98, 41, 123, 114, 101, 116, 117, 114, 110, 32, 40, 40]⟩ : ByteArray) ++ ⟨x.toArray⟩) ++ ⟨#[41, 41, 59, 125]⟩) = ⟨(textB x).toArray⟩ := by simp only [cat5]; simp [textB]
      go_wp2_with fail
      generalize w2.alloc (.cells #[.int .i64 p, .int .i64 q] 26) = w3 at *
      clear eA eB
      refine (few_any (textA x) (by omega) _).mono ?_
      rintro e w4 ⟨b1, rfl, hm4, hb1⟩
      have hM4 := hM2.trans hm4
      cases b1
      · go_wp2_with fail
        go_ret
        exact ⟨by simp, hM4⟩
      obtain ⟨heA, hnA⟩ := hb1 rfl
      go_wp2_with fail
      refine (few_any (textB x) (by omega) _).mono ?_
      rintro e w5 ⟨b2, rfl, hm5, hb2⟩
      have hM5 := hM4.trans hm5
      cases b2
      · go_wp2_with fail
        go_ret
        exact ⟨by simp, hM5⟩
      obtain ⟨heB, hnB⟩ := hb2 rfl
      clear hb1 hb2
      go_wp2_with fail
      refine (parse_few (by omega) heA hnA _ (hE.mv hM5)).mono ?_
      rintro e w6 ⟨hm6, ⟨s', -, rfl⟩ | ⟨pg, t, b, hp, rfl, hP⟩⟩
      · generalize posOf (nextP (1, 1) (textA x)) s'.ws = pp at *
        have hM6 := (hM5.trans hm6).more (.cells #[.int .i64 pp.1, .int .i64 pp.2] 26)
        go_wp2_with fail
        go_ret
        exact ⟨by simp, hM6⟩
      have hM6 := (hM5.trans hm6).more (.cells #[.int .i64 0, .int .i64 0] 26)
      have hP6 := hP.on (Mv.alloc (X := fun _ => False) w6 (.cells #[.int .i64 0, .int .i64 0] 26))
      have hlen : pg.items.length ≤ 1000000 := by
        have := program_len hp
        have e1 : (begS (textA x)).ws.length = (wordsL (textA x)).length := rfl
        omega
      go_wp2_with fail
      generalize w6.alloc (.cells #[.int .i64 0, .int .i64 0] 26) = w7 at *
      refine (functionsZ pg hlen _ _ _ hP6).mono ?_
      rintro e w8 ⟨⟨v, rfl, hrv⟩, hm8⟩
      obtain ⟨fa, fc, rfl⟩ := row_form hrv
      have hM8 := hM6.trans hm8
      have hP8 := hP6.on hm8
      clear hrv hP hP6 hM6 hM5 hM4 hM2
      by_cases h1 : (functionsP pg).length = 1
      · have h1' : (((functionsP pg).length : Int) != 1) = false := by simp [h1]
        go_wp2_with fail
        go_loopg [11] x.length (fun g s11 wr => ∃ j : Nat, s11 = .int .i64 j ∧ j ≤ x.length ∧ x.length - j ≤ g ∧ wr = w8 ∧ ∀ i (hi : i < j) (hl : i < x.length), x[i] ≠ 59 ∧ x[i] ≠ 47)
        case atStart => exact ⟨0, rfl, by omega, by omega, rfl, fun i hi => absurd hi (by omega)⟩
        case round =>
          obtain ⟨j, rfl, hj, hg, rfl, hall⟩ := hrel
          by_cases hlt : j < x.length
          · have hlt' : (j : Int) < x.length := by omega
            have hsz : j < (⟨x.toArray⟩ : ByteArray).size := by show j < x.toArray.size; simpa using hlt
            have hbn : ∀ c : UInt8, x[j] ≠ c → (((((⟨x.toArray⟩ : ByteArray)[j]'hsz).toNat : Int)) == (c.toNat : Int)) = false := fun c hc => byteNe hc
            have hbe : ∀ c : UInt8, x[j] = c → (((((⟨x.toArray⟩ : ByteArray)[j]'hsz).toNat : Int)) == (c.toNat : Int)) = true := fun c hc => by
              have : (⟨x.toArray⟩ : ByteArray)[j]'hsz = c := hc
              rw [this]
              simp
            by_cases h59 : x[j] = 59
            · have k59 : (((((⟨x.toArray⟩ : ByteArray)[j]'hsz).toNat : Int)) == 59) = true := hbe 59 h59
              clear hbn hbe
              go_wp2_with fail
              all_goals (go_ret; exact ⟨by simp, hM8⟩)
            · have k59 : (((((⟨x.toArray⟩ : ByteArray)[j]'hsz).toNat : Int)) == 59) = false := hbn 59 h59
              by_cases h47 : x[j] = 47
              · have k47 : (((((⟨x.toArray⟩ : ByteArray)[j]'hsz).toNat : Int)) == 47) = true := hbe 47 h47
                clear hbn hbe
                go_wp2_with fail
                all_goals (go_ret; exact ⟨by simp, hM8⟩)
              · have k47 : (((((⟨x.toArray⟩ : ByteArray)[j]'hsz).toNat : Int)) == 47) = false := hbn 47 h47
                clear hbn hbe
                go_wp2_with fail
                all_goals first | (go_ret; exact ⟨by simp, hM8⟩) | go_roundg (x.length - (j + 1))
                all_goals first | omega | exact ⟨j + 1, by simp, by omega, by omega, rfl, fun i hi hl => by
                  rcases Nat.lt_or_ge i j with h | h
                  · exact hall i h hl
                  · obtain rfl : i = j := by omega
                    exact ⟨h59, h47⟩⟩
          · obtain rfl : j = x.length := by omega
            have hlt' : ¬ ((x.length : Int) < x.length) := by omega
            have h59 : (59 : UInt8) ∉ x := fun h => by
              obtain ⟨i, hi, e⟩ := List.getElem_of_mem h
              exact (hall i hi hi).1 e
            have h47 : (47 : UInt8) ∉ x := fun h => by
              obtain ⟨i, hi, e⟩ := List.getElem_of_mem h
              exact (hall i hi hi).2 e
            obtain ⟨pg', t', hp', ht, hok, hok', hlt2⟩ := parens_tree hex hne h47 h59 heA hnA heB hnB hp
            clear hall h59 h47
            have CQ : ∀ (w' : World) (K : Nat → Prop) (b : Nat), PgAt w' K b pg' → EnvA w' → Calls Tryz.prog 12 #[.pointer (some ⟨b, 0, none⟩)] w' fun r W' => r = .returned (.string ⟨(textP pg).toArray⟩) ∧ Mv (fun _ => False) w' W' := fun w' K b a1 a2 => by
              have := programTextZ pg' hok' (by rw [ht]; exact hlt2) w' K b a1 a2
              rw [ht] at this
              exact this
            have CP : ∀ (w' : World) (K : Nat → Prop) (b : Nat), PgAt w' K b pg → EnvA w' → Calls Tryz.prog 12 #[.pointer (some ⟨b, 0, none⟩)] w' fun r W' => r = .returned (.string ⟨(textP pg).toArray⟩) ∧ Mv (fun _ => False) w' W' := fun w' K b a1 a2 => programTextZ pg hok hlt2 w' K b a1 a2
            go_wp2_with fail
            refine (parse_okP (by omega) heB hnB hp' _ (hE.mv hM8)).mono ?_
            rintro e w9 ⟨hm9, b', rfl, hP'⟩
            have hM9 := (hM8.trans hm9).more (.cells #[.int .i64 0, .int .i64 0] 26)
            have hPq := hP'.on (Mv.alloc (X := fun _ => False) w9 (.cells #[.int .i64 0, .int .i64 0] 26))
            have hPp := (hP8.on hm9).on (Mv.alloc (X := fun _ => False) w9 (.cells #[.int .i64 0, .int .i64 0] 26))
            generalize textP pg = TX at *
            go_wp2_with fail
            generalize w9.alloc (.cells #[.int .i64 0, .int .i64 0] 26) = w10 at *
            refine (CQ _ _ _ hPq (hE.mv hM9).env).mono ?_
            rintro e w11 ⟨rfl, hm11⟩
            have hM11 := hM9.trans hm11
            go_wp2_with fail
            refine (CP _ _ _ (hPp.on hm11) (hE.mv hM11).env).mono ?_
            rintro e w12 ⟨rfl, hm12⟩
            go_wp2_with fail
            go_ret
            exact ⟨by simp, hM11.trans hm12⟩
      · have hi1 : ¬ ((functionsP pg).length : Int) = 1 := by omega
        have h1' : (((functionsP pg).length : Int) != 1) = true := by simpa using hi1
        have h1'' : (((functionsP pg).length : Int) == 1) = false := by simpa using hi1
        go_wp2_with fail
        go_ret
        exact ⟨by simp, hM8⟩
  · have hb' : (n == 0) = false := by simpa using h0
    have hb'' : (n != 0) = true := by simpa using h0
    go_wp2_with fail
    go_ret
    exact ⟨by simp, hM2⟩
end Go.Proofs.YtjgpbpmicopemaaGreatDoor


namespace Go.Proofs.YtjgpbpmicopemaaGreatDoor.astParens
open Go.ChangeShapes Go.WideShapes Go.ChangeAt Go.RowKit Go.ChangeMaps

set_option maxRecDepth 100000 in
theorem contract (H : Type) (enc : TypeId × Value → H) (W : World) (base : Nat) (args : Array Value) (ds gs : List (DataW H)) (before : List MemPlace)
    (hval : ∀ (j : Nat) t v, Tryz.f4.params[j]? = some t → args[j]? = some v → Value.okWide Tryz.prog W .any base t v)
    (hW : DataW.Whole enc Tryz.prog Tryz.f4.params.toList Rows.astParensSpec.vars false W args.toList ds gs before) (hL : laidMetH Tryz.prog LL W) (hS : W.ShapedOpen Tryz.prog) :
    Calls Tryz.prog 4 args W fun e W' => ∃ v, e = .returned v ∧ Rows.astParensSpec.post enc Tryz.prog Tryz.f4 false true false false W args v W' := by
  have hW' := hW
  obtain ⟨p, q, hB, hV, rfl, hfz, hnd⟩ := hW
  have hA : DataW.TrodAll enc Tryz.prog W 0 (fun _ => true) true Tryz.f4.params.toList args.toList ds p := hB
  rw [Tryz.params4] at hA hval
  obtain ⟨v0, vs0, d0, ds0, p0, q0, hargs, rfl, rfl, h0, g0⟩ := trodAll_cons hA
  obtain ⟨rfl, rfl, rfl⟩ := trodAll_nil g0
  obtain rfl : args = #[v0] := by cases args; simp_all
  obtain ⟨s0, rfl, rfl, rfl, z0⟩ := open_string Tryz.underlying9 (hval 0 9 v0 rfl rfl) h0
  have hs0 : s0.data.toList.length ≤ 9223372036854775807 := z0
  obtain ⟨rfl, rfl⟩ := trodVars_none hV
  clear hB
  simp only [List.append_nil] at hW'
  refine (parens_any s0.data.toList hs0 W (env_of hL hS)).mono fun e W' ⟨he, hg⟩ => ?_
  subst he
  exact ⟨_, rfl, post_of_below (pa := []) (pv := []) hW' (fun _ _ _ => trodAll_cons_mk (shut_bool Tryz.underlying4 _) trodAll_mk0) (fun _ _ => trodAll_cons_mk (shut_string Tryz.underlying9 z0) trodAll_mk0) (fun _ _ => rfl) rfl
    hg.toBelow (ok_one (by kernel_rfl) rfl (okWide_bool_mk Tryz.underlying4 _))⟩

theorem laid_met (os : Os) : laidMet Tryz.prog Rows.astParensRow.laid ((laidWorld os ⟨#[], #[], []⟩).forCall (fun _ _ => 0) ⟨#[], #[.string ⟨#[]⟩], []⟩).memory :=
  laidMet_of_run' 8 (by kernel_rfl) (by kernel_rfl)
theorem reads (os : Os) {H : Type} (enc : TypeId × Value → H) : ∃ places, DataW.whole enc Tryz.prog ((laidWorld os ⟨#[], #[], []⟩).forCall (fun _ _ => 0) ⟨#[], #[.string ⟨#[]⟩], []⟩).memory Tryz.f4.params.toList Rows.astParensSpec.vars false (#[.string ⟨#[]⟩] : Array Value).toList 8 = some ([.lit (.string [])], [], places) :=
  ⟨[], by kernel_rfl⟩

set_option maxRecDepth 100000 in
theorem lifted (os : Os) (started : os.Started) (H : Type) (enc : TypeId × Value → H) (F : Stop.Interp) :
    ReturnsInHanded {} Tryz.checked os 4 .any ((OpenSpec.ofChange Rows.astParensSpec).preRow enc Tryz.prog Tryz.f4 Rows.astParensRow.domain false Rows.astParensRow.laid) (((OpenSpec.ofChange Rows.astParensSpec).at F).post enc Tryz.prog Tryz.f4 false true false false) := by
  obtain ⟨places, hx⟩ := reads os enc
  refine returnsInHanded_of_row (C := Tryz.checked) (s := OpenSpec.ofChange Rows.astParensSpec) own started (by kernel_rfl) Tryz.func4
    (witness_row_at (enc := enc) (C := Tryz.checked) false (laidWorld os ⟨#[], #[], []⟩) #[.string ⟨#[]⟩] rfl (by kernel_rfl) (by kernel_rfl) (by kernel_rfl)
      (OpenSpec.preRow_of_cond 8 hx (by kernel_rfl) (fun k hk => by cases hk) (by kernel_rfl) (laid_met os))) ?_
  intro W base args ds gs before hval hW _ _ _ hL hS _
  exact contract H enc W base args ds gs before hval hW hL hS

theorem said : Rows.AstParensSaid :=
  OpenClaim.holds_of_cond 4 Tryz.f4 rfl rfl rfl rfl rfl rfl rfl ⟨rfl, rfl, rfl, rfl, rfl⟩ rfl rfl rfl rfl rfl (by kernel_rfl) Tryz.func4 (by kernel_rfl)
    (of_decide_eq_true (by kernel_rfl)) (by unfold Func.isWrapper; first | (rw [if_pos (by decide +kernel)]; kernel_rfl) | (rw [if_neg (by decide +kernel)]; exact ⟨rfl, rfl⟩))
    (fun os started H enc _ F => by rw [OpenClaim.pre_eq_preRow]; exact lifted os started H enc F)

theorem plain (f : FuncId) (fn : Func) (hf : Tryz.pinned.checked.prog.funcNamed "plumbob/plumboblaw5.AstParens" = some f) (hfn : Tryz.pinned.checked.prog.funcs[f]? = some fn) :
    true = Tryz.pinned.checked.prog.looks [] ∧ ∀ (j : Nat) t, fn.params[j]? = some t → Tryz.pinned.checked.prog.wantsStandIn t = false := by
  obtain rfl : f = 4 := Option.some.inj ((show Tryz.prog.funcNamed "plumbob/plumboblaw5.AstParens" = some 4 by kernel_rfl).symm.trans hf) |>.symm
  obtain rfl : fn = Tryz.f4 := (Option.some.inj (Tryz.func4.symm.trans hfn)).symm
  refine ⟨by kernel_rfl, fun j t ht => ?_⟩
  rw [Tryz.params4] at ht
  have hm := Array.mem_of_getElem? ht
  simp at hm
  subst hm
  exact (show Tryz.prog.wantsStandIn 9 = false by kernel_rfl)

theorem card : Rows.AstParensCardSaid :=
  Claim7.holds_tied_plain_at .later [] _ _ _ _ said (fun _ h => by cases h) (by kernel_rfl) (fun _ h => by cases h) astParens_row_tie rfl ⟨rfl, rfl⟩ (by kernel_rfl) rfl plain (by kernel_rfl)
#print axioms card
end Go.Proofs.YtjgpbpmicopemaaGreatDoor.astParens
