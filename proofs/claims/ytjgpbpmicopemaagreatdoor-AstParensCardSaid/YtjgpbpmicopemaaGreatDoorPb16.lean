/-
  A statement's text.
-/
import Derived.Test.YtjgpbpmicopemaaGreatDoorPb15
import Derived.Laws.OwnMore
namespace Go.Proofs.YtjgpbpmicopemaaGreatDoor
open Go.RowKit Go.Shelf
set_option maxRecDepth 20000

/-- the statement's text is told -/
def PS (s : St) : Prop := okS s = true → (textS s).length ≤ 1000000000000 → ∀ (W : World) (K : Nat → Prop) (b : Nat), StAt W K b s → EnvA W → Calls Tryz.prog 36 #[.pointer (some ⟨b, 0, none⟩)] W fun r W' => r = .returned (str (textS s)) ∧ Mv (fun _ => False) W W'
def PSs : Sts → Prop
  | .nil => True
  | .cons e l => PS e ∧ PSs l
theorem okS_kind {s : St} (h : okS s = true) : 1 ≤ s.kind ∧ s.kind ≤ 11 := by
  cases s with
  | mk k nm ty e pl l tall =>
    unfold okS at h
    simp only [Bool.and_eq_true, decide_eq_true_eq] at h
    exact ⟨h.1.1.1.1.1.1.1, h.1.1.1.1.1.1.2⟩
theorem StAt.kind {W : World} {K : Nat → Prop} {b : Nat} {s : St} (h : StAt W K b s) : W.cell? ⟨b, 0, none⟩ = some (.int .i64 s.kind) := by
  cases s with
  | mk k nm ty e pl l tall =>
    unfold StAt at h
    obtain ⟨-, ln, cl, ve, vp, v, bs, hb, -⟩ := h
    simp [World.cell?, hb, St.kind]
set_option maxHeartbeats 8000000 in
/-- a statement as a block -/
theorem bracedZ {s : St} (hP : PS s) (hok : okS s = true) (hlen : (braceT s.kind (textS s)).length ≤ 1000000000000) (W : World) (K : Nat → Prop) (b : Nat) (hS : StAt W K b s) (hEnv : EnvA W) :
    Calls Tryz.prog 63 #[.pointer (some ⟨b, 0, none⟩)] W fun r W' => r = .returned (str (braceT s.kind (textS s))) ∧ Mv (fun _ => False) W W' := by
  obtain ⟨k1, k2⟩ := okS_kind hok
  have c0 := hS.kind
  by_cases hk : s.kind = 1
  · rw [hk] at c0
    unfold braceT at hlen ⊢
    rw [if_pos hk] at hlen ⊢
    have C := hP hok hlen W K b hS hEnv
    unfold str at C ⊢
    go_enter Tryz.func63, Tryz.ntmps63
    go_wp2_with fail
    refine C.mono ?_
    rintro e w1 ⟨rfl, hm1⟩
    go_wp2_with fail
    exact bodyPost_ret (v := .string ⟨(textS s).toArray⟩) (by simp [results, Tryz.results63, go_sem]) rfl ⟨rfl, hm1⟩
  · unfold braceT at hlen ⊢
    rw [if_neg hk] at hlen ⊢
    have hl := Nat.le_trans (jn_mem (xs := [[123], textS s, [125]]) (x := textS s) (by simp)) hlen
    have hm0 : Mv (fun _ => False) W W.drew := Mv.drew W
    have C := fun w' (hm : Mv (fun _ => False) W w') => hP hok hl w' K b (hS.mv (Keeps.of hm (fun _ _ h => h)) (fun _ h => h)) (hEnv.mv hm (fun _ _ h => h))
    have hW : ∀ w1, Calls Tryz.prog 33 #[.slice (some ⟨w1.heap.size, 0, none⟩) 3 3] (w1.alloc (.cells #[.string ⟨#[123]⟩, .string ⟨(textS s).toArray⟩, .string ⟨#[125]⟩] 9)) (fun e w' => e = .returned (.string ⟨(jn [[123], textS s, [125]]).toArray⟩) ∧ Below w1.heap.size w1 w') := fun w1 => wordsLit [[123], textS s, [125]] w1 (by simp) (by omega)
    generalize s.kind = kk at *
    unfold str at C ⊢
    go_enter Tryz.func63, Tryz.ntmps63
    go_wp2_with fail
    refine (C _ (Mv.refl _ _)).mono ?_
    rintro e w1 ⟨rfl, hb1⟩
    go_wp2_with fail
    refine (hW w1).mono ?_
    rintro e w2 ⟨rfl, hb2⟩
    go_wp2_with fail
    exact bodyPost_ret (v := .string ⟨(jn [[123], textS s, [125]]).toArray⟩) (by simp [results, Tryz.results63, go_sem]) rfl ⟨rfl, hb1.trans (Mv.below hb2)⟩
theorem stsAt_one {W : World} {K : Nat → Prop} {bs : List Nat} {a : St} (h : StsAt W K bs (.cons a .nil)) : ∃ b, bs = [b] ∧ StAt W K b a := by
  match bs, h with
  | [], h => unfold StsAt at h; exact h.elim
  | [b], h => unfold StsAt at h; exact ⟨b, rfl, h.1⟩
  | b :: c :: l, h => unfold StsAt at h; have := h.2; unfold StsAt at this; exact this.elim
theorem stsAt_two {W : World} {K : Nat → Prop} {bs : List Nat} {a a' : St} (h : StsAt W K bs (.cons a (.cons a' .nil))) : ∃ b c, bs = [b, c] ∧ StAt W K b a ∧ StAt W K c a' := by
  match bs, h with
  | [], h => unfold StsAt at h; exact h.elim
  | b :: l, h =>
    unfold StsAt at h
    obtain ⟨c, rfl, h2⟩ := stsAt_one h.2
    exact ⟨b, c, rfl, h.1, h2⟩
theorem sts_one : ∀ {l : Sts}, (textsS l).length = 1 → ∃ a, l = .cons a .nil
  | .nil, h => by simp [textsS] at h
  | .cons a .nil, _ => ⟨a, rfl⟩
  | .cons a (.cons b l), h => by simp [textsS] at h
theorem sts_two : ∀ {l : Sts}, 1 ≤ (textsS l).length → (textsS l).length ≤ 2 → (∃ a, l = .cons a .nil) ∨ ∃ a b, l = .cons a (.cons b .nil)
  | .nil, h, _ => by simp [textsS] at h
  | .cons a .nil, _, _ => .inl ⟨a, rfl⟩
  | .cons a (.cons b .nil), _, _ => .inr ⟨a, b, rfl⟩
  | .cons a (.cons b (.cons c l)), _, h => by simp [textsS] at h
def Sts.toL : Sts → List St
  | .nil => []
  | .cons e l => e :: l.toL
theorem Sts.of_toL : ∀ l : Sts, Sts.of l.toL = l
  | .nil => rfl
  | .cons e l => by show Sts.cons e (Sts.of l.toL) = _; rw [Sts.of_toL l]
theorem textsS_toL : ∀ l : Sts, textsS l = l.toL.map textS
  | .nil => by simp [textsS, Sts.toL]
  | .cons e l => by simp [textsS, Sts.toL, textsS_toL l]
theorem PSs_toL : ∀ {l : Sts}, PSs l → ∀ e ∈ l.toL, PS e
  | .nil, _, e, h => by simp [Sts.toL] at h
  | .cons a l, ⟨h1, h2⟩, e, h => by
    simp [Sts.toL] at h
    rcases h with rfl | h
    · exact h1
    · exact PSs_toL h2 e h
theorem okSs_toL : ∀ {l : Sts}, okSs l = true → ∀ e ∈ l.toL, okS e = true
  | .nil, _, e, h => by simp [Sts.toL] at h
  | .cons a l, h0, e, h => by
    simp only [okSs, Bool.and_eq_true] at h0
    simp [Sts.toL] at h
    rcases h with rfl | h
    · exact h0.1
    · exact okSs_toL h0.2 e h
theorem callT_le (nm inner : Bs) : inner.length ≤ (callT nm inner).length := by
  unfold callT
  split
  · rename_i h; subst h; simp
  · exact jn_mem (by simp)

set_option maxHeartbeats 16000000 in
theorem stmtText (k : Int) (nm ty : Bs) (e pl : Option Ex) (l : Sts) (tall : Int) (hPs : PSs l) : PS (.mk k nm ty e pl l tall) := by
  intro hok hlen W K b hSt hEnv
  have hkk := okS_kind hok
  unfold okS at hok
  simp only [Bool.and_eq_true, decide_eq_true_eq] at hok
  obtain ⟨⟨⟨⟨⟨⟨⟨hk1, hk2⟩, hty⟩, hnm⟩, hE1⟩, hP1⟩, har⟩, hls⟩ := hok
  unfold StAt at hSt
  obtain ⟨hKb, ln, cl, ve, vp, v, bs, hb, hve, hvp, hv, hx⟩ := hSt
  obtain ⟨c0, c1, c2, c3, c4, c5, c6, c7, c8, -⟩ : _ := (by
    refine (⟨?_, ?_, ?_, ?_, ?_, ?_, ?_, ?_, ?_, trivial⟩ : W.cell? ⟨b, 0, none⟩ = some (.int .i64 k) ∧ W.cell? ⟨b, 1, none⟩ = some (.int .i64 ln) ∧ W.cell? ⟨b, 2, none⟩ = some (.int .i64 cl) ∧ W.cell? ⟨b, 3, none⟩ = some (.string ⟨nm.toArray⟩) ∧ W.cell? ⟨b, 4, none⟩ = some (.string ⟨ty.toArray⟩) ∧ W.cell? ⟨b, 5, none⟩ = some ve ∧ W.cell? ⟨b, 6, none⟩ = some vp ∧ W.cell? ⟨b, 7, none⟩ = some v ∧ W.cell? ⟨b, 8, none⟩ = some (.int .i64 tall) ∧ True) <;> simp [World.cell?, hb])
  have hcases : k = 1 ∨ k = 2 ∨ k = 3 ∨ k = 4 ∨ k = 5 ∨ k = 6 ∨ k = 7 ∨ k = 8 ∨ k = 9 ∨ k = 10 ∨ k = 11 := by omega
  clear hk1 hk2 hkk
  unfold textS at hlen ⊢
  rcases hcases with rfl | rfl | rfl | rfl | rfl | rfl | rfl | rfl | rfl | rfl | rfl
  · obtain ⟨L, hL⟩ : ∃ L, L = l.toL := ⟨_, rfl⟩
    have hP := PSs_toL hPs
    have hO := okSs_toL hls
    simp only [if_true] at hlen ⊢
    rw [textsS_toL] at hlen ⊢
    rw [← Sts.of_toL l] at hx
    rw [← hL] at hP hO hlen hx ⊢
    clear hPs hls hL har hE1 hP1 hve hvp c1 c2 c3 c4 c5 c6 c8
    obtain ⟨hl, hget⟩ := hx.get
    obtain ⟨aa, cc, rfl, hq1, hq2, hq3⟩ := hv.form
    rw [hl] at hq1 hb hv c7
    have hml : L.length ≤ 9223372036854775807 := by unfold maxLen at hq2; omega
    unfold str
    have hm0 : Mv (fun _ => False) W (W.alloc (.cells #[.string ⟨#[123]⟩] 9)) := Mv.alloc W _
    have c7' := hm0.cell c7 (fun h => h)
    have hr0 : (W.alloc (.cells #[.string ⟨#[123]⟩] 9)).ownsRow W.heap.size 9 1 (.slice (some ⟨W.heap.size, 0, none⟩) 1 1) 1 ([[123]].map str) := World.ownsRow_lit W #[.string ⟨#[123]⟩] 1 (Nat.le_refl _) (by decide) rfl
    go_enter Tryz.func36, Tryz.ntmps36
    go_wp2_with fail
    generalize hW1 : W.alloc (.cells #[.string ⟨#[123]⟩] 9) = W1 at *
    have hs1 : W1.heap.size = W.heap.size + 1 := by rw [← hW1]; simp
    clear hW1
    obtain ⟨i0, hi, hz0, hz1, hz2⟩ := info_parts info9
    have hjl := jn_len ([123] :: (L.map textS ++ [[125]]))
    have hsum : ∀ l : List Bs, l.length ≤ (l.map fun x => x.length + 1).sum := by
      intro l
      induction l with
      | nil => simp
      | cons x l ih => simp only [List.length_cons, List.map_cons, List.sum_cons]; omega
    have hs := hsum ([123] :: (L.map textS ++ [[125]]))
    have hLn : L.length ≤ 1000000000003 := by
      rw [if_neg (by simp)] at hjl
      simp only [List.length_cons, List.length_append, List.length_map, List.length_nil] at hs
      omega
    clear hsum hs hjl
    go_loopg [3, 19] L.length (fun g s3 s19 wr => ∃ j : Nat, j ≤ L.length ∧ L.length - j ≤ g ∧ s19 = .int .i64 j ∧ wr.ownsRow W.heap.size 9 1 s3 (j + 1) (([123] :: (L.map textS).take j).map str) ∧ Mv (fun _ => False) W wr)
    case atStart => exact ⟨0, by omega, by omega, rfl, hr0, hm0⟩
    case round =>
      obtain ⟨j, hj, hg, rfl, hr, hm⟩ := hrel
      by_cases hlt : j < L.length
      · obtain ⟨b', hb', hE⟩ := hget j L[j] (List.getElem?_eq_getElem hlt)
        obtain ⟨gb, rfl, hKg, hgl, hcs⟩ := hq3 (by intro h0; rw [h0] at hl; simp at hl; omega)
        have d0 := hm.cell (hcs j b' hb') (fun h => h)
        unfold ptr at d0
        have hlt' : (j : Int) < L.length := by omega
        have hmem : L[j] ∈ L := List.getElem_mem hlt
        have hPj := hP _ hmem (hO _ hmem) (Nat.le_trans (jn_mem (xs := [123] :: (L.map textS ++ [[125]])) (List.mem_cons_of_mem _ (List.mem_append_left _ (List.mem_map_of_mem hmem)))) hlen)
        have hct : (L.map textS).take (j + 1) = (L.map textS).take j ++ [textS L[j]] := by
          rw [← List.take_append_getElem (by simpa using hlt), List.getElem_map]
        clear hP hO hget
        generalize textS L[j] = tj at *
        go_wp2_with fail
        refine (hPj wr K b' (hE.mv (Keeps.of hm (fun _ _ h => h)) (fun _ h => h)) (hEnv.mv hm (fun _ _ h => h))).mono ?_
        rintro e w1 ⟨rfl, hn1⟩
        have hm1 := hm.trans hn1
        unfold str
        have hr1 := ownsRow_keep hr hn1 (fun _ _ h => h)
        go_wp2_with (at_builtin; refine wpList_append_lies _ rfl _ _ 36 rfl W.heap.size 9 i0 (.string ⟨#[]⟩) 1 16 Tryz.underlying36 hi hz0 hz1 hz2 rfl (by decide) _ _ _ rfl (hr1.alloc _) _ 1 1 [str tj] rfl rfl (World.news_of_block (heap_alloc_new w1 _)) (by simp [str, Value.oneCell']) (by decide) (by unfold maxLen; omega) (by omega) (Nat.le_trans hm1.size (by simp)) _ rfl ?_)
        intro g2 cap2 w2 hown2 hgr2 hat2 hgl2
        have hm2 := (hm1.more _).fresh (Mv.of_grown hgr2 (fun r e => e)) (fun k hk => (ownsRow_own hr1 k hk).1)
        go_wp2_with fail
        go_roundg (L.length - (j + 1))
        case measure => omega
        case rel => exact ⟨j + 1, by omega, by omega, by simp, by rw [hct]; simpa using hown2, hm2⟩
      · obtain rfl : j = L.length := by omega
        have htk : (L.map textS).take L.length = L.map textS := List.take_of_length_le (by simp)
        rw [htk] at hr
        have C := fun B v W' h => joinOwn ([123] :: (L.map textS ++ [[125]])) B v W' h (by simp only [List.length_cons, List.length_append, List.length_map, List.length_nil]; omega) (by omega)
        go_wp2_with (at_builtin; refine wpList_append_lies _ rfl _ _ 36 rfl W.heap.size 9 i0 (.string ⟨#[]⟩) 1 16 Tryz.underlying36 hi hz0 hz1 hz2 rfl (by decide) _ _ _ rfl (hr.alloc _) _ 1 1 [str [125]] rfl rfl (World.news_of_block (heap_alloc_new wr _)) (by simp [str, Value.oneCell']) (by decide) (by unfold maxLen; omega) (by omega) (Nat.le_trans hm.size (by simp)) _ rfl ?_)
        intro g2 cap2 w2 hown2 hgr2 hat2 hgl2
        have hm2 := (hm.more _).fresh (Mv.of_grown hgr2 (fun r e => e)) (fun k hk => (ownsRow_own hr k hk).1)
        go_wp2_with fail
        refine (C W.heap.size _ _ (by simpa using hown2)).mono ?_
        rintro e' w3 ⟨rfl, hb3⟩
        go_wp2_with fail
        exact bodyPost_ret (v := .string ⟨(jn ([123] :: (L.map textS ++ [[125]]))).toArray⟩) (by simp [results, Tryz.results36, go_sem]) rfl ⟨rfl, hm2.trans (Mv.below hb3)⟩
  · unfold str
    go_enter Tryz.func36, Tryz.ntmps36
    go_wp2_with fail
    exact bodyPost_ret (v := .string ⟨#[59]⟩) (by simp [results, Tryz.results36, go_sem]) rfl ⟨rfl, Mv.refl _ _⟩
  · simp only [show ¬ ((3 : Int) = 1) by decide, show ¬ ((3 : Int) = 2) by decide, if_true, if_false] at hlen ⊢
    cases e with
    | none =>
      simp only [] at hlen ⊢
      unfold ExO at hve
      subst hve
      have hlen' : (jn [declT ty nm, [59]]).length ≤ 1000000000000 := hlen
      have hD := fun w' (h : Env w') => declaredZ ty nm (ascB_len hty) (ascB_asc hty) (ascB_len hnm) w' h
      unfold str at hD
      have hm0 : Mv (fun _ => False) W W.drew := Mv.drew W
      have hS : ∀ w', Mv (fun _ => False) W w' → w'.cell? ⟨b, 3, none⟩ = some (.string ⟨nm.toArray⟩) ∧ w'.cell? ⟨b, 4, none⟩ = some (.string ⟨ty.toArray⟩) := fun w' hm => ⟨hm.cell c3 (fun h => h), hm.cell c4 (fun h => h)⟩
      have hSW : ∀ w1, Calls Tryz.prog 33 #[.slice (some ⟨w1.heap.size, 0, none⟩) 2 2] (w1.alloc (.cells #[.string ⟨(declT ty nm).toArray⟩, .string ⟨#[59]⟩] 9)) (fun e' w' => e' = .returned (.string ⟨(jn [declT ty nm, [59]]).toArray⟩) ∧ Below w1.heap.size w1 w') := fun w1 => wordsLit [declT ty nm, [59]] w1 (by simp) (by omega)
      unfold str
      go_enter Tryz.func36, Tryz.ntmps36
      go_wp2_with fail
      go_region_held (fun w' => w'.cell? ⟨b, 3, none⟩ = some (.string ⟨nm.toArray⟩) ∧ w'.cell? ⟨b, 4, none⟩ = some (.string ⟨ty.toArray⟩))
        (first | exact hS _ hm0 | exact hS _ (hm0.more _) | exact hS _ hm0.drawn | exact hS _ hm1 | exact hS _ (hm1.more _) | exact hS _ hm1.drawn | exact hS _ hm2 | exact hS _ (hm2.more _) | exact hS _ hm2.drawn)
        (first | (go_at_call 32; (with_reducible refine Calls.mono (hD W.drew (hEnv.mv hm0 (fun _ _ h => h)).env) ?_); rintro e' w1 ⟨rfl, hb1⟩; (have hm1 : Mv (fun _ => False) W w1 := hm0.trans hb1); try unfold str) | (go_at_call 33; (with_reducible refine Calls.mono (hSW w1) ?_); rintro e' w2 ⟨rfl, hb2⟩; have hm2 : Mv (fun _ => False) W w2 := hm1.trans (Mv.below hb2)))
      all_goals go_wp2_with fail
      all_goals exact bodyPost_ret (v := .string ⟨(jn [declT ty nm, [59]]).toArray⟩) (by simp [results, Tryz.results36, go_sem]) rfl ⟨rfl, hm2⟩
    | some e =>
      simp only [okO] at hE1 hlen ⊢
      obtain ⟨be, rfl, hEx⟩ := hve
      unfold ptr at *
      have hlen' : (jn [declT ty nm, [61], textE e, [59]]).length ≤ 1000000000000 := hlen
      have he := textEZ e hE1 (Nat.le_trans (jn_mem (xs := [declT ty nm, [61], textE e, [59]]) (by simp)) hlen')
      have hD := fun w' (h : Env w') => declaredZ ty nm (ascB_len hty) (ascB_asc hty) (ascB_len hnm) w' h
      unfold str at hD
      have hm0 : Mv (fun _ => False) W W.drew := Mv.drew W
      have hS : ∀ w', Mv (fun _ => False) W w' → w'.cell? ⟨b, 5, none⟩ = some (.pointer (some ⟨be, 0, none⟩)) ∧ w'.cell? ⟨b, 3, none⟩ = some (.string ⟨nm.toArray⟩) ∧ w'.cell? ⟨b, 4, none⟩ = some (.string ⟨ty.toArray⟩) := fun w' hm => ⟨hm.cell c5 (fun h => h), hm.cell c3 (fun h => h), hm.cell c4 (fun h => h)⟩
      have hSW : ∀ w1, Calls Tryz.prog 33 #[.slice (some ⟨w1.heap.size, 0, none⟩) 4 4] (w1.alloc (.cells #[.string ⟨(declT ty nm).toArray⟩, .string ⟨#[61]⟩, .string ⟨(textE e).toArray⟩, .string ⟨#[59]⟩] 9)) (fun e' w' => e' = .returned (.string ⟨(jn [declT ty nm, [61], textE e, [59]]).toArray⟩) ∧ Below w1.heap.size w1 w') := fun w1 => wordsLit [declT ty nm, [61], textE e, [59]] w1 (by simp) (by omega)
      unfold str
      go_enter Tryz.func36, Tryz.ntmps36
      go_wp2_with fail
      go_region_held (fun w' => w'.cell? ⟨b, 5, none⟩ = some (.pointer (some ⟨be, 0, none⟩)) ∧ w'.cell? ⟨b, 3, none⟩ = some (.string ⟨nm.toArray⟩) ∧ w'.cell? ⟨b, 4, none⟩ = some (.string ⟨ty.toArray⟩))
        (first | exact hS _ hm0 | exact hS _ (hm0.more _) | exact hS _ hm0.drawn | exact hS _ hm1 | exact hS _ (hm1.more _) | exact hS _ hm1.drawn | exact hS _ hm2 | exact hS _ (hm2.more _) | exact hS _ hm2.drawn | exact hS _ hm3 | exact hS _ (hm3.more _) | exact hS _ hm3.drawn)
        (first | (go_at_call 32; (with_reducible refine Calls.mono (hD W.drew (hEnv.mv hm0 (fun _ _ h => h)).env) ?_); rintro e' w1 ⟨rfl, hb1⟩; (have hm1 : Mv (fun _ => False) W w1 := hm0.trans hb1); try unfold str) | (go_at_call 62; (with_reducible refine Calls.mono (he w1 K be (hEx.mv (Keeps.of hm1 (fun _ _ h => h)) (fun _ h => h)) (hEnv.mv hm1 (fun _ _ h => h))) ?_); rintro e' w2 ⟨rfl, hb2⟩; (have hm2 : Mv (fun _ => False) W w2 := hm1.trans hb2); unfold str) | (go_at_call 33; (with_reducible refine Calls.mono (hSW w2) ?_); rintro e' w3 ⟨rfl, hb3⟩; have hm3 : Mv (fun _ => False) W w3 := hm2.trans (Mv.below hb3)))
      all_goals go_wp2_with fail
      all_goals exact bodyPost_ret (v := .string ⟨(jn [declT ty nm, [61], textE e, [59]]).toArray⟩) (by simp [results, Tryz.results36, go_sem]) rfl ⟨rfl, hm3⟩
  · simp only [show ¬ ((4 : Int) = 1) by decide, show ¬ ((4 : Int) = 2) by decide, show ¬ ((4 : Int) = 3) by decide, if_true, if_false] at hlen ⊢
    cases e with
    | none => simp at har
    | some e =>
      cases pl with
      | none => simp at har
      | some pl =>
        simp only [okO, textO] at hE1 hP1 hlen ⊢
        obtain ⟨be, rfl, hEx⟩ := hve
        obtain ⟨bp, rfl, hPx⟩ := hvp
        unfold ptr at *
        have hlen' : (jn [textE pl, [61], textE e, [59]]).length ≤ 1000000000000 := hlen
        have he := textEZ e hE1 (Nat.le_trans (jn_mem (xs := [textE pl, [61], textE e, [59]]) (by simp)) hlen')
        have hp := textEZ pl hP1 (Nat.le_trans (jn_mem (xs := [textE pl, [61], textE e, [59]]) (by simp)) hlen')
        have hm0 : Mv (fun _ => False) W W.drew := Mv.drew W
        have hS : ∀ w', Mv (fun _ => False) W w' → w'.cell? ⟨b, 5, none⟩ = some (.pointer (some ⟨be, 0, none⟩)) ∧ w'.cell? ⟨b, 6, none⟩ = some (.pointer (some ⟨bp, 0, none⟩)) := fun w' hm => ⟨hm.cell c5 (fun h => h), hm.cell c6 (fun h => h)⟩
        have hSW : ∀ w1, Calls Tryz.prog 33 #[.slice (some ⟨w1.heap.size, 0, none⟩) 4 4] (w1.alloc (.cells #[.string ⟨(textE pl).toArray⟩, .string ⟨#[61]⟩, .string ⟨(textE e).toArray⟩, .string ⟨#[59]⟩] 9)) (fun e' w' => e' = .returned (.string ⟨(jn [textE pl, [61], textE e, [59]]).toArray⟩) ∧ Below w1.heap.size w1 w') := fun w1 => wordsLit [textE pl, [61], textE e, [59]] w1 (by simp) (by omega)
        unfold str
        go_enter Tryz.func36, Tryz.ntmps36
        go_wp2_with fail
        go_region_held (fun w' => w'.cell? ⟨b, 5, none⟩ = some (.pointer (some ⟨be, 0, none⟩)) ∧ w'.cell? ⟨b, 6, none⟩ = some (.pointer (some ⟨bp, 0, none⟩)))
          (first | exact hS _ hm0 | exact hS _ (hm0.more _) | exact hS _ hm0.drawn | exact hS _ hm1 | exact hS _ (hm1.more _) | exact hS _ hm1.drawn | exact hS _ hm2 | exact hS _ (hm2.more _) | exact hS _ hm2.drawn | exact hS _ hm3 | exact hS _ (hm3.more _) | exact hS _ hm3.drawn)
          (first | (go_at_call 62; (with_reducible refine Calls.mono (hp W.drew K bp (hPx.mv (Keeps.of hm0 (fun _ _ h => h)) (fun _ h => h)) (hEnv.mv hm0 (fun _ _ h => h))) ?_); rintro e' w1 ⟨rfl, hb1⟩; (have hm1 : Mv (fun _ => False) W w1 := hm0.trans hb1); unfold str) | (go_at_call 62; (with_reducible refine Calls.mono (he w1 K be (hEx.mv (Keeps.of hm1 (fun _ _ h => h)) (fun _ h => h)) (hEnv.mv hm1 (fun _ _ h => h))) ?_); rintro e' w2 ⟨rfl, hb2⟩; (have hm2 : Mv (fun _ => False) W w2 := hm1.trans hb2); unfold str) | (go_at_call 33; (with_reducible refine Calls.mono (hSW w2) ?_); rintro e' w3 ⟨rfl, hb3⟩; have hm3 : Mv (fun _ => False) W w3 := hm2.trans (Mv.below hb3)))
        all_goals go_wp2_with fail
        all_goals exact bodyPost_ret (v := .string ⟨(jn [textE pl, [61], textE e, [59]]).toArray⟩) (by simp [results, Tryz.results36, go_sem]) rfl ⟨rfl, hm3⟩
  · simp only [show ¬ ((5 : Int) = 1) by decide, show ¬ ((5 : Int) = 2) by decide, show ¬ ((5 : Int) = 3) by decide, show ¬ ((5 : Int) = 4) by decide, if_true, if_false] at hlen ⊢
    cases e with
    | none => simp at har
    | some e =>
      simp only [okO, textO] at hE1 hlen ⊢
      obtain ⟨be, rfl, hEx⟩ := hve
      unfold ptr at *
      have hlen' : (jn [textE e, [59]]).length ≤ 1000000000000 := hlen
      have he := textEZ e hE1 (Nat.le_trans (jn_mem (xs := [textE e, [59]]) (by simp)) hlen')
      have hm0 : Mv (fun _ => False) W W.drew := Mv.drew W
      have hS : ∀ w', Mv (fun _ => False) W w' → w'.cell? ⟨b, 5, none⟩ = some (.pointer (some ⟨be, 0, none⟩)) := fun w' hm => hm.cell c5 (fun h => h)
      have hSW : ∀ w1, Calls Tryz.prog 33 #[.slice (some ⟨w1.heap.size, 0, none⟩) 2 2] (w1.alloc (.cells #[.string ⟨(textE e).toArray⟩, .string ⟨#[59]⟩] 9)) (fun e' w' => e' = .returned (.string ⟨(jn [textE e, [59]]).toArray⟩) ∧ Below w1.heap.size w1 w') := fun w1 => wordsLit [textE e, [59]] w1 (by simp) (by omega)
      unfold str
      go_enter Tryz.func36, Tryz.ntmps36
      go_wp2_with fail
      refine Calls.mono (he _ K be (hEx.mv (Keeps.of (Mv.refl _ _) (fun _ _ h => h)) (fun _ h => h)) (hEnv.mv (Mv.refl _ _) (fun _ _ h => h))) ?_
      rintro e' w1 ⟨rfl, hb1⟩
      have hm1 : Mv (fun _ => False) W w1 := hb1
      try unfold str
      go_wp2_with fail
      refine (hSW _).mono ?_
      rintro e' w2 ⟨rfl, hb2⟩
      have hm2 : Mv (fun _ => False) W w2 := hm1.trans (Mv.below hb2)
      go_wp2_with fail
      all_goals exact bodyPost_ret (v := .string ⟨(jn [textE e, [59]]).toArray⟩) (by simp [results, Tryz.results36, go_sem]) rfl ⟨rfl, hm2⟩
  · simp only [show ¬ ((6 : Int) = 1) by decide, show ¬ ((6 : Int) = 2) by decide, show ¬ ((6 : Int) = 3) by decide, show ¬ ((6 : Int) = 4) by decide, show ¬ ((6 : Int) = 5) by decide, if_true, if_false] at hlen ⊢
    cases e with
    | none => simp at har
    | some e =>
      simp only [okO, textO] at hE1 hlen ⊢
      obtain ⟨be, rfl, hEx⟩ := hve
      unfold ptr at *
      have har2 : 1 ≤ (textsS l).length ∧ (textsS l).length ≤ 2 := by simpa using har
      rcases sts_two har2.1 har2.2 with ⟨x0, rfl⟩ | ⟨x0, x1, rfl⟩
      · obtain ⟨b0, rfl, hS0⟩ := stsAt_one hx
        obtain ⟨p0, -⟩ := hPs
        simp only [okSs, Bool.and_true, textsS, kindsS, List.getD_cons_zero, List.length_cons, List.length_nil, show ¬ (1 < 0 + 1) by decide, if_false] at hls hlen ⊢
        have hlen' : (jn [[105, 102], [40], textE e, [41], braceT x0.kind (textS x0)]).length ≤ 1000000000000 := hlen
        have he := textEZ e hE1 (Nat.le_trans (jn_mem (xs := [[105, 102], [40], textE e, [41], braceT x0.kind (textS x0)]) (by simp)) hlen')
        have hB0 := fun w' K' b' => bracedZ p0 hls (Nat.le_trans (jn_mem (xs := [[105, 102], [40], textE e, [41], braceT x0.kind (textS x0)]) (by simp)) hlen') w' K' b'
        obtain ⟨aa, cc, rfl, hq1, hq2, hq3⟩ := hv.form
        obtain ⟨gg, rfl, hKg, hgl, hcs⟩ := hq3 (by simp)
        have d0 := hcs 0 b0 rfl
        unfold ptr at d0
        have hm0 : Mv (fun _ => False) W W.drew := Mv.drew W
        have hS : ∀ w', Mv (fun _ => False) W w' → w'.cell? ⟨b, 5, none⟩ = some (.pointer (some ⟨be, 0, none⟩)) ∧ w'.cell? ⟨b, 7, none⟩ = some (.slice (some ⟨gg, 0, none⟩) 1 cc) ∧ w'.cell? ⟨gg, 0, none⟩ = some (.pointer (some ⟨b0, 0, none⟩)) := fun w' hm => ⟨hm.cell c5 (fun h => h), hm.cell c7 (fun h => h), hm.cell d0 (fun h => h)⟩
        have hSW : ∀ w1, Calls Tryz.prog 33 #[.slice (some ⟨w1.heap.size, 0, none⟩) 5 5] (w1.alloc (.cells #[.string ⟨#[105, 102]⟩, .string ⟨#[40]⟩, .string ⟨(textE e).toArray⟩, .string ⟨#[41]⟩, .string ⟨(braceT x0.kind (textS x0)).toArray⟩] 9)) (fun e' w' => e' = .returned (.string ⟨(jn [[105, 102], [40], textE e, [41], braceT x0.kind (textS x0)]).toArray⟩) ∧ Below w1.heap.size w1 w') := fun w1 => wordsLit [[105, 102], [40], textE e, [41], braceT x0.kind (textS x0)] w1 (by simp) (by omega)
        unfold str
        go_enter Tryz.func36, Tryz.ntmps36
        go_wp2_with fail
        go_region_held (fun w' => w'.cell? ⟨b, 5, none⟩ = some (.pointer (some ⟨be, 0, none⟩)) ∧ w'.cell? ⟨b, 7, none⟩ = some (.slice (some ⟨gg, 0, none⟩) 1 cc) ∧ w'.cell? ⟨gg, 0, none⟩ = some (.pointer (some ⟨b0, 0, none⟩)))
          (first | exact hS _ hm0 | exact hS _ (hm0.more _) | exact hS _ hm0.drawn | exact hS _ hm1 | exact hS _ (hm1.more _) | exact hS _ hm1.drawn | exact hS _ hm2 | exact hS _ (hm2.more _) | exact hS _ hm2.drawn | exact hS _ hm3 | exact hS _ (hm3.more _) | exact hS _ hm3.drawn)
          (first | (go_at_call 62; (with_reducible refine Calls.mono (he W.drew K be (hEx.mv (Keeps.of hm0 (fun _ _ h => h)) (fun _ h => h)) (hEnv.mv hm0 (fun _ _ h => h))) ?_); rintro e' w1 ⟨rfl, hb1⟩; (have hm1 : Mv (fun _ => False) W w1 := hm0.trans hb1); unfold str) | (go_at_call 63; (with_reducible refine Calls.mono (hB0 w1 K b0 (hS0.mv (Keeps.of hm1 (fun _ _ h => h)) (fun _ h => h)) (hEnv.mv hm1 (fun _ _ h => h))) ?_); rintro e' w2 ⟨rfl, hb2⟩; (have hm2 : Mv (fun _ => False) W w2 := hm1.trans hb2); unfold str) | (go_at_call 33; (with_reducible refine Calls.mono (hSW w2) ?_); rintro e' w3 ⟨rfl, hb3⟩; have hm3 : Mv (fun _ => False) W w3 := hm2.trans (Mv.below hb3)))
        all_goals go_wp2_with fail
        have c7' := hm3.cell c7 (fun h => h)
        all_goals go_wp2_with fail
        all_goals exact bodyPost_ret (v := .string ⟨(jn [[105, 102], [40], textE e, [41], braceT x0.kind (textS x0)]).toArray⟩) (by simp [results, Tryz.results36, go_sem]) rfl ⟨rfl, hm3⟩
      · obtain ⟨b0, b1, rfl, hS0, hS1⟩ := stsAt_two hx
        obtain ⟨p0, p1, -⟩ := hPs
        simp only [okSs, Bool.and_true, Bool.and_eq_true, textsS, kindsS, List.getD_cons_zero, List.getD_cons_succ, List.length_cons, List.length_nil, show (1 < 0 + 1 + 1) = True by decide, if_true] at hls hlen ⊢
        have hlen' : (jn [[105, 102], [40], textE e, [41], braceT x0.kind (textS x0)]).length ≤ 1000000000000 := (Nat.le_trans (jn_mem (xs := [jn [[105, 102], [40], textE e, [41], braceT x0.kind (textS x0)], [101, 108, 115, 101], braceT x1.kind (textS x1)]) (by simp)) hlen)
        have he := textEZ e hE1 (Nat.le_trans (jn_mem (xs := [[105, 102], [40], textE e, [41], braceT x0.kind (textS x0)]) (by simp)) hlen')
        have hB0 := fun w' K' b' => bracedZ p0 hls.1 (Nat.le_trans (jn_mem (xs := [[105, 102], [40], textE e, [41], braceT x0.kind (textS x0)]) (by simp)) hlen') w' K' b'
        have hB1 := fun w' K' b' => bracedZ p1 hls.2 (Nat.le_trans (jn_mem (xs := [jn [[105, 102], [40], textE e, [41], braceT x0.kind (textS x0)], [101, 108, 115, 101], braceT x1.kind (textS x1)]) (by simp)) hlen) w' K' b'
        obtain ⟨aa, cc, rfl, hq1, hq2, hq3⟩ := hv.form
        obtain ⟨gg, rfl, hKg, hgl, hcs⟩ := hq3 (by simp)
        have d0 := hcs 0 b0 rfl
        unfold ptr at d0
        have d1 := hcs 1 b1 rfl
        unfold ptr at d1
        have hm0 : Mv (fun _ => False) W W.drew := Mv.drew W
        have hS : ∀ w', Mv (fun _ => False) W w' → w'.cell? ⟨b, 5, none⟩ = some (.pointer (some ⟨be, 0, none⟩)) ∧ w'.cell? ⟨b, 7, none⟩ = some (.slice (some ⟨gg, 0, none⟩) 2 cc) ∧ w'.cell? ⟨gg, 0, none⟩ = some (.pointer (some ⟨b0, 0, none⟩)) ∧ w'.cell? ⟨gg, 1, none⟩ = some (.pointer (some ⟨b1, 0, none⟩)) := fun w' hm => ⟨hm.cell c5 (fun h => h), hm.cell c7 (fun h => h), hm.cell d0 (fun h => h), hm.cell d1 (fun h => h)⟩
        have hSW : ∀ w1, Calls Tryz.prog 33 #[.slice (some ⟨w1.heap.size, 0, none⟩) 5 5] (w1.alloc (.cells #[.string ⟨#[105, 102]⟩, .string ⟨#[40]⟩, .string ⟨(textE e).toArray⟩, .string ⟨#[41]⟩, .string ⟨(braceT x0.kind (textS x0)).toArray⟩] 9)) (fun e' w' => e' = .returned (.string ⟨(jn [[105, 102], [40], textE e, [41], braceT x0.kind (textS x0)]).toArray⟩) ∧ Below w1.heap.size w1 w') := fun w1 => wordsLit [[105, 102], [40], textE e, [41], braceT x0.kind (textS x0)] w1 (by simp) (by omega)
        unfold str
        go_enter Tryz.func36, Tryz.ntmps36
        go_wp2_with fail
        go_region_held (fun w' => w'.cell? ⟨b, 5, none⟩ = some (.pointer (some ⟨be, 0, none⟩)) ∧ w'.cell? ⟨b, 7, none⟩ = some (.slice (some ⟨gg, 0, none⟩) 2 cc) ∧ w'.cell? ⟨gg, 0, none⟩ = some (.pointer (some ⟨b0, 0, none⟩)) ∧ w'.cell? ⟨gg, 1, none⟩ = some (.pointer (some ⟨b1, 0, none⟩)))
          (first | exact hS _ hm0 | exact hS _ (hm0.more _) | exact hS _ hm0.drawn | exact hS _ hm1 | exact hS _ (hm1.more _) | exact hS _ hm1.drawn | exact hS _ hm2 | exact hS _ (hm2.more _) | exact hS _ hm2.drawn | exact hS _ hm3 | exact hS _ (hm3.more _) | exact hS _ hm3.drawn)
          (first | (go_at_call 62; (with_reducible refine Calls.mono (he W.drew K be (hEx.mv (Keeps.of hm0 (fun _ _ h => h)) (fun _ h => h)) (hEnv.mv hm0 (fun _ _ h => h))) ?_); rintro e' w1 ⟨rfl, hb1⟩; (have hm1 : Mv (fun _ => False) W w1 := hm0.trans hb1); unfold str) | (go_at_call 63; (with_reducible refine Calls.mono (hB0 w1 K b0 (hS0.mv (Keeps.of hm1 (fun _ _ h => h)) (fun _ h => h)) (hEnv.mv hm1 (fun _ _ h => h))) ?_); rintro e' w2 ⟨rfl, hb2⟩; (have hm2 : Mv (fun _ => False) W w2 := hm1.trans hb2); unfold str) | (go_at_call 33; (with_reducible refine Calls.mono (hSW w2) ?_); rintro e' w3 ⟨rfl, hb3⟩; have hm3 : Mv (fun _ => False) W w3 := hm2.trans (Mv.below hb3)))
        all_goals go_wp2_with fail
        have c7' := hm3.cell c7 (fun h => h)
        have d1' := hm3.cell d1 (fun h => h)
        have hT : ∀ w', Mv (fun _ => False) W w' → w'.cell? ⟨b, 7, none⟩ = some (.slice (some ⟨gg, 0, none⟩) 2 cc) ∧ w'.cell? ⟨gg, 1, none⟩ = some (.pointer (some ⟨b1, 0, none⟩)) := fun w' hm => ⟨hm.cell c7 (fun h => h), hm.cell d1 (fun h => h)⟩
        have hTW : ∀ w1, Calls Tryz.prog 33 #[.slice (some ⟨w1.heap.size, 0, none⟩) 3 3] (w1.alloc (.cells #[.string ⟨(jn [[105, 102], [40], textE e, [41], braceT x0.kind (textS x0)]).toArray⟩, .string ⟨#[101, 108, 115, 101]⟩, .string ⟨(braceT x1.kind (textS x1)).toArray⟩] 9)) (fun e' w' => e' = .returned (.string ⟨(jn [jn [[105, 102], [40], textE e, [41], braceT x0.kind (textS x0)], [101, 108, 115, 101], braceT x1.kind (textS x1)]).toArray⟩) ∧ Below w1.heap.size w1 w') := fun w1 => wordsLit [jn [[105, 102], [40], textE e, [41], braceT x0.kind (textS x0)], [101, 108, 115, 101], braceT x1.kind (textS x1)] w1 (by simp) (by omega)
        all_goals go_wp2_with fail
        refine (hB1 _ K b1 (hS1.mv (Keeps.of hm3 (fun _ _ h => h)) (fun _ h => h)) (hEnv.mv hm3 (fun _ _ h => h))).mono ?_
        rintro e' w8 ⟨rfl, hb8⟩
        have hm8 : Mv (fun _ => False) W w8 := hm3.trans hb8
        try unfold str
        go_wp2_with fail
        refine (hTW _).mono ?_
        rintro e' w9 ⟨rfl, hb9⟩
        have hm9 : Mv (fun _ => False) W w9 := hm8.trans (Mv.below hb9)
        go_wp2_with fail
        all_goals exact bodyPost_ret (v := .string ⟨(jn [jn [[105, 102], [40], textE e, [41], braceT x0.kind (textS x0)], [101, 108, 115, 101], braceT x1.kind (textS x1)]).toArray⟩) (by simp [results, Tryz.results36, go_sem]) rfl ⟨rfl, hm9⟩
  · simp only [show ¬ ((7 : Int) = 1) by decide, show ¬ ((7 : Int) = 2) by decide, show ¬ ((7 : Int) = 3) by decide, show ¬ ((7 : Int) = 4) by decide, show ¬ ((7 : Int) = 5) by decide, show ¬ ((7 : Int) = 6) by decide, if_true, if_false] at hlen ⊢
    cases e with
    | none => simp at har
    | some e =>
      simp only [okO, textO] at hE1 hlen ⊢
      obtain ⟨be, rfl, hEx⟩ := hve
      unfold ptr at *
      obtain ⟨x0, rfl⟩ := sts_one (by simpa using har)
      obtain ⟨b0, rfl, hS0⟩ := stsAt_one hx
      obtain ⟨p0, -⟩ := hPs
      simp only [okSs, Bool.and_true, textsS, kindsS, List.getD_cons_zero] at hls hlen ⊢
      obtain ⟨aa, cc, rfl, hq1, hq2, hq3⟩ := hv.form
      obtain ⟨gg, rfl, hKg, hgl, hcs⟩ := hq3 (by simp)
      have d0 := hcs 0 b0 rfl
      unfold ptr at d0
      have hlen' : (jn [[119, 104, 105, 108, 101], [40], textE e, [41], braceT x0.kind (textS x0)]).length ≤ 1000000000000 := hlen
      have he := textEZ e hE1 (Nat.le_trans (jn_mem (xs := [[119, 104, 105, 108, 101], [40], textE e, [41], braceT x0.kind (textS x0)]) (by simp)) hlen')
      have hB0 := fun w' K' b' => bracedZ p0 hls (Nat.le_trans (jn_mem (xs := [[119, 104, 105, 108, 101], [40], textE e, [41], braceT x0.kind (textS x0)]) (by simp)) hlen') w' K' b'
      have hm0 : Mv (fun _ => False) W W.drew := Mv.drew W
      have hS : ∀ w', Mv (fun _ => False) W w' → w'.cell? ⟨b, 5, none⟩ = some (.pointer (some ⟨be, 0, none⟩)) ∧ w'.cell? ⟨b, 7, none⟩ = some (.slice (some ⟨gg, 0, none⟩) 1 cc) ∧ w'.cell? ⟨gg, 0, none⟩ = some (.pointer (some ⟨b0, 0, none⟩)) := fun w' hm => ⟨hm.cell c5 (fun h => h), hm.cell c7 (fun h => h), hm.cell d0 (fun h => h)⟩
      have hSW : ∀ w1, Calls Tryz.prog 33 #[.slice (some ⟨w1.heap.size, 0, none⟩) 5 5] (w1.alloc (.cells #[.string ⟨#[119, 104, 105, 108, 101]⟩, .string ⟨#[40]⟩, .string ⟨(textE e).toArray⟩, .string ⟨#[41]⟩, .string ⟨(braceT x0.kind (textS x0)).toArray⟩] 9)) (fun e' w' => e' = .returned (.string ⟨(jn [[119, 104, 105, 108, 101], [40], textE e, [41], braceT x0.kind (textS x0)]).toArray⟩) ∧ Below w1.heap.size w1 w') := fun w1 => wordsLit [[119, 104, 105, 108, 101], [40], textE e, [41], braceT x0.kind (textS x0)] w1 (by simp) (by omega)
      unfold str
      go_enter Tryz.func36, Tryz.ntmps36
      go_wp2_with fail
      go_region_held (fun w' => w'.cell? ⟨b, 5, none⟩ = some (.pointer (some ⟨be, 0, none⟩)) ∧ w'.cell? ⟨b, 7, none⟩ = some (.slice (some ⟨gg, 0, none⟩) 1 cc) ∧ w'.cell? ⟨gg, 0, none⟩ = some (.pointer (some ⟨b0, 0, none⟩)))
        (first | exact hS _ hm0 | exact hS _ (hm0.more _) | exact hS _ hm0.drawn | exact hS _ hm1 | exact hS _ (hm1.more _) | exact hS _ hm1.drawn | exact hS _ hm2 | exact hS _ (hm2.more _) | exact hS _ hm2.drawn | exact hS _ hm3 | exact hS _ (hm3.more _) | exact hS _ hm3.drawn)
        (first | (go_at_call 62; (with_reducible refine Calls.mono (he W.drew K be (hEx.mv (Keeps.of hm0 (fun _ _ h => h)) (fun _ h => h)) (hEnv.mv hm0 (fun _ _ h => h))) ?_); rintro e' w1 ⟨rfl, hb1⟩; (have hm1 : Mv (fun _ => False) W w1 := hm0.trans hb1); unfold str) | (go_at_call 63; (with_reducible refine Calls.mono (hB0 w1 K b0 (hS0.mv (Keeps.of hm1 (fun _ _ h => h)) (fun _ h => h)) (hEnv.mv hm1 (fun _ _ h => h))) ?_); rintro e' w2 ⟨rfl, hb2⟩; (have hm2 : Mv (fun _ => False) W w2 := hm1.trans hb2); unfold str) | (go_at_call 33; (with_reducible refine Calls.mono (hSW w2) ?_); rintro e' w3 ⟨rfl, hb3⟩; have hm3 : Mv (fun _ => False) W w3 := hm2.trans (Mv.below hb3)))
      all_goals go_wp2_with fail
      all_goals exact bodyPost_ret (v := .string ⟨(jn [[119, 104, 105, 108, 101], [40], textE e, [41], braceT x0.kind (textS x0)]).toArray⟩) (by simp [results, Tryz.results36, go_sem]) rfl ⟨rfl, hm3⟩
  · unfold str
    go_enter Tryz.func36, Tryz.ntmps36
    go_wp2_with fail
    exact bodyPost_ret (v := .string ⟨#[98, 114, 101, 97, 107, 32, 59]⟩) (by simp [results, Tryz.results36, go_sem]) rfl ⟨rfl, Mv.refl _ _⟩
  · unfold str
    go_enter Tryz.func36, Tryz.ntmps36
    go_wp2_with fail
    exact bodyPost_ret (v := .string ⟨#[99, 111, 110, 116, 105, 110, 117, 101, 32, 59]⟩) (by simp [results, Tryz.results36, go_sem]) rfl ⟨rfl, Mv.refl _ _⟩
  · simp only [show ¬ ((10 : Int) = 1) by decide, show ¬ ((10 : Int) = 2) by decide, show ¬ ((10 : Int) = 3) by decide, show ¬ ((10 : Int) = 4) by decide, show ¬ ((10 : Int) = 5) by decide, show ¬ ((10 : Int) = 6) by decide, show ¬ ((10 : Int) = 7) by decide, show ¬ ((10 : Int) = 8) by decide, show ¬ ((10 : Int) = 9) by decide, show ¬ ((10 : Int) = 11) by decide, if_false] at hlen ⊢
    cases e with
    | none =>
      unfold ExO at hve
      subst hve
      unfold str
      go_enter Tryz.func36, Tryz.ntmps36
      go_wp2_with fail
      exact bodyPost_ret (v := .string ⟨#[114, 101, 116, 117, 114, 110, 32, 59]⟩) (by simp [results, Tryz.results36, go_sem]) rfl ⟨rfl, Mv.refl _ _⟩
    | some e =>
      simp only [okO] at hE1 hlen ⊢
      obtain ⟨be, rfl, hEx⟩ := hve
      unfold ptr at *
      have hlen' : (jn [[114, 101, 116, 117, 114, 110], textE e, [59]]).length ≤ 1000000000000 := hlen
      have he := textEZ e hE1 (Nat.le_trans (jn_mem (xs := [[114, 101, 116, 117, 114, 110], textE e, [59]]) (by simp)) hlen')
      have hm0 : Mv (fun _ => False) W W.drew := Mv.drew W
      have hS : ∀ w', Mv (fun _ => False) W w' → w'.cell? ⟨b, 5, none⟩ = some (.pointer (some ⟨be, 0, none⟩)) := fun w' hm => hm.cell c5 (fun h => h)
      have hSW : ∀ w1, Calls Tryz.prog 33 #[.slice (some ⟨w1.heap.size, 0, none⟩) 3 3] (w1.alloc (.cells #[.string ⟨#[114, 101, 116, 117, 114, 110]⟩, .string ⟨(textE e).toArray⟩, .string ⟨#[59]⟩] 9)) (fun e' w' => e' = .returned (.string ⟨(jn [[114, 101, 116, 117, 114, 110], textE e, [59]]).toArray⟩) ∧ Below w1.heap.size w1 w') := fun w1 => wordsLit [[114, 101, 116, 117, 114, 110], textE e, [59]] w1 (by simp) (by omega)
      unfold str
      go_enter Tryz.func36, Tryz.ntmps36
      go_wp2_with fail
      refine Calls.mono (he _ K be (hEx.mv (Keeps.of (Mv.refl _ _) (fun _ _ h => h)) (fun _ h => h)) (hEnv.mv (Mv.refl _ _) (fun _ _ h => h))) ?_
      rintro e' w1 ⟨rfl, hb1⟩
      have hm1 : Mv (fun _ => False) W w1 := hb1
      try unfold str
      go_wp2_with fail
      refine (hSW _).mono ?_
      rintro e' w2 ⟨rfl, hb2⟩
      have hm2 : Mv (fun _ => False) W w2 := hm1.trans (Mv.below hb2)
      go_wp2_with fail
      all_goals exact bodyPost_ret (v := .string ⟨(jn [[114, 101, 116, 117, 114, 110], textE e, [59]]).toArray⟩) (by simp [results, Tryz.results36, go_sem]) rfl ⟨rfl, hm2⟩
  · simp only [show ¬ ((11 : Int) = 1) by decide, show ¬ ((11 : Int) = 2) by decide, show ¬ ((11 : Int) = 3) by decide, show ¬ ((11 : Int) = 4) by decide, show ¬ ((11 : Int) = 5) by decide, show ¬ ((11 : Int) = 6) by decide, show ¬ ((11 : Int) = 7) by decide, show ¬ ((11 : Int) = 8) by decide, show ¬ ((11 : Int) = 9) by decide, if_true, if_false] at hlen ⊢
    cases e with
    | none => simp at har
    | some e =>
      simp only [okO, textO] at hE1 hlen ⊢
      obtain ⟨be, rfl, hEx⟩ := hve
      unfold ptr at *
      have hlen' : (jn [callT [111, 117, 116] (textE e), [59]]).length ≤ 1000000000000 := hlen
      have hcl : (callT [111, 117, 116] (textE e)).length ≤ 1000000000000 := (Nat.le_trans (jn_mem (xs := [callT [111, 117, 116] (textE e), [59]]) (by simp)) hlen')
      have hel := Nat.le_trans (callT_le [111, 117, 116] (textE e)) hcl
      have he := textEZ e hE1 hel
      have hC := fun w' => callZ [111, 117, 116] (textE e) w' (by simp; omega)
      unfold str at hC
      have hm0 : Mv (fun _ => False) W W.drew := Mv.drew W
      have hS : ∀ w', Mv (fun _ => False) W w' → w'.cell? ⟨b, 5, none⟩ = some (.pointer (some ⟨be, 0, none⟩)) := fun w' hm => hm.cell c5 (fun h => h)
      have hSW : ∀ w1, Calls Tryz.prog 33 #[.slice (some ⟨w1.heap.size, 0, none⟩) 2 2] (w1.alloc (.cells #[.string ⟨(callT [111, 117, 116] (textE e)).toArray⟩, .string ⟨#[59]⟩] 9)) (fun e' w' => e' = .returned (.string ⟨(jn [callT [111, 117, 116] (textE e), [59]]).toArray⟩) ∧ Below w1.heap.size w1 w') := fun w1 => wordsLit [callT [111, 117, 116] (textE e), [59]] w1 (by simp) (by omega)
      unfold str
      go_enter Tryz.func36, Tryz.ntmps36
      go_wp2_with fail
      refine Calls.mono (he _ K be (hEx.mv (Keeps.of (Mv.refl _ _) (fun _ _ h => h)) (fun _ h => h)) (hEnv.mv (Mv.refl _ _) (fun _ _ h => h))) ?_
      rintro e' w1 ⟨rfl, hb1⟩
      have hm1 : Mv (fun _ => False) W w1 := hb1
      try unfold str
      go_wp2_with fail
      refine Calls.mono (hC w1) ?_
      rintro e' w2 ⟨rfl, hb2⟩
      have hm2 : Mv (fun _ => False) W w2 := hm1.trans (Mv.below hb2)
      go_wp2_with fail
      refine (hSW _).mono ?_
      rintro e' w3 ⟨rfl, hb3⟩
      have hm3 : Mv (fun _ => False) W w3 := hm2.trans (Mv.below hb3)
      go_wp2_with fail
      all_goals exact bodyPost_ret (v := .string ⟨(jn [callT [111, 117, 116] (textE e), [59]]).toArray⟩) (by simp [results, Tryz.results36, go_sem]) rfl ⟨rfl, hm3⟩
mutual
theorem textSZ : ∀ s : St, PS s
  | .mk k nm ty e pl l tall => stmtText k nm ty e pl l tall (textSsZ l)
theorem textSsZ : ∀ l : Sts, PSs l
  | .nil => trivial
  | .cons e l => ⟨textSZ e, textSsZ l⟩
end
end Go.Proofs.YtjgpbpmicopemaaGreatDoor
