import Derived.Test.YtjgpbpmicopemaaGreatDoorPb16
import Derived.Test.YtjgpbpmicopemaaGreatDoorPb11
import Derived.Test.YtjgpbpmicopemaaGreatDoorPb13
import Derived.Test.YtjgpbpmicopemaaGreatDoorPb14

/-
  An item's text: a struct's, a global's.
-/
namespace Go.Proofs.YtjgpbpmicopemaaGreatDoor
open Go.RowKit Go.Shelf
set_option maxRecDepth 20000

theorem RowIn.form {W : World} {K : Nat → Prop} {T size n : Nat} {v : Value} {xs : List Value} (h : RowIn W K T size v n xs) : ∃ aa cc, v = .slice aa n cc ∧ n ≤ cc ∧ cc ≤ maxLen ∧ (0 < n → ∃ g, aa = some ⟨g, 0, none⟩ ∧ K g ∧ g < W.heap.size ∧ ∀ i, i < n * size → W.cell? ⟨g, i, none⟩ = xs[i]?) := by
  obtain ⟨hl, ⟨rfl, rfl⟩ | ⟨g, cap, cur, rfl, hK, hg, hn, hc, hcur, htk⟩⟩ := h
  · exact ⟨none, 0, rfl, Nat.le_refl _, Nat.zero_le _, fun h => absurd h (Nat.lt_irrefl _)⟩
  · refine ⟨_, cap, rfl, hn, hc, fun _ => ⟨g, rfl, hK, heap_lt hg, fun i hi => ?_⟩⟩
    simp only [World.cell?, hg]
    rw [← htk, List.getElem?_take, if_pos hi]
    simp
theorem fdCells_len (l : List Fd) : (fdCells l).length = 2 * l.length := by
  induction l with
  | nil => rfl
  | cons x l ih => unfold fdCells at ih ⊢; simp only [List.flatMap_cons, List.length_append, ih, List.length_cons, List.length_nil]; omega
theorem fdCells_get : ∀ (l : List Fd) (j : Nat) (h : j < l.length), (fdCells l)[j * 2]? = some (str l[j].ty) ∧ (fdCells l)[j * 2 + 1]? = some (str l[j].nm)
  | x :: l, 0, _ => ⟨rfl, rfl⟩
  | x :: l, j + 1, h => by
    have := fdCells_get l j (by simpa using h)
    have e1 : (j + 1) * 2 = (j * 2) + 2 := by omega
    have e2 : (j + 1) * 2 + 1 = (j * 2 + 1) + 2 := by omega
    rw [e1]
    have hc : fdCells (x :: l) = str x.ty :: str x.nm :: fdCells l := rfl
    rw [hc]
    simpa using this
theorem fdsT_len (l : List Fd) : (fdsT l).length = 2 * l.length := by
  induction l with
  | nil => rfl
  | cons x l ih => unfold fdsT at ih ⊢; simp only [List.flatMap_cons, List.length_append, ih, List.length_cons, List.length_nil]; omega
theorem fdsT_snoc (l : List Fd) (x : Fd) : fdsT (l ++ [x]) = fdsT l ++ [declT x.ty x.nm, [59]] := by simp [fdsT]
theorem ImAt.cells {W : World} {K : Nat → Prop} {b : Nat} {k : Int} {ty nm : Bs} {fs : List Fd} {ps : List Pm} {bd : Option St} (h : ImAt W K b ⟨k, ty, nm, fs, ps, bd⟩) : ∃ (vf vp vb : Value) (qs : List ((Int × Int) × Pm)), W.cell? ⟨b, 0, none⟩ = some (.int .i64 k) ∧ W.cell? ⟨b, 3, none⟩ = some (.string ⟨ty.toArray⟩) ∧ W.cell? ⟨b, 4, none⟩ = some (.string ⟨nm.toArray⟩) ∧ W.cell? ⟨b, 5, none⟩ = some vf ∧ W.cell? ⟨b, 6, none⟩ = some vp ∧ W.cell? ⟨b, 7, none⟩ = some vb ∧
    RowIn W K 86 2 vf fs.length (fdCells fs) ∧ qs.map (·.2) = ps ∧ RowIn W K 90 5 vp ps.length (pmCells qs) ∧ (∀ st, bd = some st → ∃ b2, vb = ptr b2 ∧ StAt W K b2 st) := by
  obtain ⟨-, ln, cl, vf, vp, vb, qs, hb, h1, h2, h3, h4⟩ := h
  refine ⟨vf, vp, vb, qs, ?_, ?_, ?_, ?_, ?_, ?_, h1, h2, h3, fun st e => by subst e; exact h4⟩ <;> simp [World.cell?, hb]
set_option maxHeartbeats 8000000 in
theorem globalT (ty nm : Bs) (fs : List Fd) (ps : List Pm) (bd : Option St) (hty : ascB ty = true) (hnm : ascB nm = true) (hlen : (jn [declT ty nm, [59]]).length ≤ 1000000000000) (W : World) (K : Nat → Prop) (b : Nat) (hI : ImAt W K b ⟨2, ty, nm, fs, ps, bd⟩) (hEnv : EnvA W) :
    Calls Tryz.prog 24 #[.pointer (some ⟨b, 0, none⟩)] W fun r W' => r = .returned (str (jn [declT ty nm, [59]])) ∧ Mv (fun _ => False) W W' := by
  obtain ⟨vf, vp, vb, qs, c0, c3, c4, c5, c6, c7, -⟩ := hI.cells
  have hD := fun w' (h : Env w') => declaredZ ty nm (ascB_len hty) (ascB_asc hty) (ascB_len hnm) w' h
  unfold str at hD
  have hm0 : Mv (fun _ => False) W W.drew := Mv.drew W
  have hS : ∀ w', Mv (fun _ => False) W w' → w'.cell? ⟨b, 3, none⟩ = some (.string ⟨ty.toArray⟩) ∧ w'.cell? ⟨b, 4, none⟩ = some (.string ⟨nm.toArray⟩) := fun w' hm => ⟨hm.cell c3 (fun h => h), hm.cell c4 (fun h => h)⟩
  have hSW : ∀ w1, Calls Tryz.prog 33 #[.slice (some ⟨w1.heap.size, 0, none⟩) 2 2] (w1.alloc (.cells #[.string ⟨(declT ty nm).toArray⟩, .string ⟨#[59]⟩] 9)) (fun e' w' => e' = .returned (.string ⟨(jn [declT ty nm, [59]]).toArray⟩) ∧ Below w1.heap.size w1 w') := fun w1 => wordsLit [declT ty nm, [59]] w1 (by simp) (by omega)
  unfold str
  go_enter Tryz.func24, Tryz.ntmps24
  go_wp2_with fail
  go_region_held (fun w' => w'.cell? ⟨b, 3, none⟩ = some (.string ⟨ty.toArray⟩) ∧ w'.cell? ⟨b, 4, none⟩ = some (.string ⟨nm.toArray⟩))
    (first | exact hS _ hm0 | exact hS _ (hm0.more _) | exact hS _ hm0.drawn | exact hS _ hm1 | exact hS _ (hm1.more _) | exact hS _ hm1.drawn | exact hS _ hm2 | exact hS _ (hm2.more _) | exact hS _ hm2.drawn)
    (first | (go_at_call 32; (with_reducible refine Calls.mono (hD W.drew (hEnv.mv hm0 (fun _ _ h => h)).env) ?_); rintro e' w1 ⟨rfl, hb1⟩; (have hm1 : Mv (fun _ => False) W w1 := hm0.trans hb1); try unfold str) | (go_at_call 33; (with_reducible refine Calls.mono (hSW w1) ?_); rintro e' w2 ⟨rfl, hb2⟩; have hm2 : Mv (fun _ => False) W w2 := hm1.trans (Mv.below hb2)))
  all_goals go_wp2_with fail
  all_goals exact bodyPost_ret (v := .string ⟨(jn [declT ty nm, [59]]).toArray⟩) (by simp [results, Tryz.results24, go_sem]) rfl ⟨rfl, hm2⟩
set_option maxHeartbeats 8000000 in
theorem structT (ty nm : Bs) (fs : List Fd) (ps : List Pm) (bd : Option St) (_hnm : ascB nm = true) (hfs : ∀ f ∈ fs, ascB f.ty = true ∧ ascB f.nm = true) (hlen : (jn (([115, 116, 114, 117, 99, 116] :: nm :: [123] :: fdsT fs) ++ [[125], [59]])).length ≤ 1000000000000) (W : World) (K : Nat → Prop) (b : Nat) (hI : ImAt W K b ⟨1, ty, nm, fs, ps, bd⟩) (hEnv : EnvA W) :
    Calls Tryz.prog 24 #[.pointer (some ⟨b, 0, none⟩)] W fun r W' => r = .returned (str (jn (([115, 116, 114, 117, 99, 116] :: nm :: [123] :: fdsT fs) ++ [[125], [59]]))) ∧ Mv (fun _ => False) W W' := by
  obtain ⟨vf, vp, vb, qs, c0, c3, c4, c5, c6, c7, hF, -⟩ := hI.cells
  obtain ⟨aa, cc, rfl, hq1, hq2, hq3⟩ := hF.form
  have hml : fs.length ≤ 9223372036854775807 := by unfold maxLen at hq2; omega
  unfold str
  have hm0 : Mv (fun _ => False) W (W.alloc (.cells #[.string ⟨#[115, 116, 114, 117, 99, 116]⟩, .string ⟨nm.toArray⟩, .string ⟨#[123]⟩] 9)) := Mv.alloc W _
  have c5' := hm0.cell c5 (fun h => h)
  have hr0 : (W.alloc (.cells #[.string ⟨#[115, 116, 114, 117, 99, 116]⟩, .string ⟨nm.toArray⟩, .string ⟨#[123]⟩] 9)).ownsRow W.heap.size 9 1 (.slice (some ⟨W.heap.size, 0, none⟩) 3 3) 3 (([115, 116, 114, 117, 99, 116] :: nm :: [123] :: fdsT (fs.take 0)).map str) := World.ownsRow_lit W #[.string ⟨#[115, 116, 114, 117, 99, 116]⟩, .string ⟨nm.toArray⟩, .string ⟨#[123]⟩] 3 (Nat.le_refl _) (by decide) rfl
  go_enter Tryz.func24, Tryz.ntmps24
  go_wp2_with fail
  generalize hW1 : W.alloc (.cells #[.string ⟨#[115, 116, 114, 117, 99, 116]⟩, .string ⟨nm.toArray⟩, .string ⟨#[123]⟩] 9) = W1 at *
  have hs1 : W1.heap.size = W.heap.size + 1 := by rw [← hW1]; simp
  clear hW1
  obtain ⟨i0, hi, hz0, hz1, hz2⟩ := info_parts info9
  have hjl := jn_len (([115, 116, 114, 117, 99, 116] :: nm :: [123] :: fdsT fs) ++ [[125], [59]])
  have hsum : ∀ l : List Bs, l.length ≤ (l.map fun x => x.length + 1).sum := by
    intro l
    induction l with
    | nil => simp
    | cons x l ih => simp only [List.length_cons, List.map_cons, List.sum_cons]; omega
  have hs := hsum (([115, 116, 114, 117, 99, 116] :: nm :: [123] :: fdsT fs) ++ [[125], [59]])
  have hLn : fs.length ≤ 1000000000003 := by
    rw [if_neg (by simp)] at hjl
    simp only [List.length_cons, List.length_append, fdsT_len, List.length_nil] at hs
    omega
  clear hsum hs hjl
  go_loopg [3, 25] fs.length (fun g s3 s25 wr => ∃ j : Nat, j ≤ fs.length ∧ fs.length - j ≤ g ∧ s25 = .int .i64 j ∧ wr.ownsRow W.heap.size 9 1 s3 (3 + 2 * j) (([115, 116, 114, 117, 99, 116] :: nm :: [123] :: fdsT (fs.take j)).map str) ∧ Mv (fun _ => False) W wr)
  case atStart => exact ⟨0, by omega, by omega, rfl, hr0, hm0⟩
  case round =>
    obtain ⟨j, hj, hg, rfl, hr, hm⟩ := hrel
    by_cases hlt : j < fs.length
    · obtain ⟨gb, rfl, hKg, hgl, hcs⟩ := hq3 (by omega)
      obtain ⟨q1, q2⟩ := fdCells_get fs j hlt
      have d0 := hm.cell ((hcs (j * 2) (by omega)).trans q1) (fun h => h)
      have d1 := hm.cell ((hcs (j * 2 + 1) (by omega)).trans q2) (fun h => h)
      have hlt' : (j : Int) < fs.length := by omega
      obtain ⟨r1, r2⟩ := hfs _ (List.getElem_mem hlt)
      have hD := fun w' (h : Env w') => declaredZ fs[j].ty fs[j].nm (ascB_len r1) (ascB_asc r1) (ascB_len r2) w' h
      have hct : fdsT (fs.take (j + 1)) = fdsT (fs.take j) ++ [declT fs[j].ty fs[j].nm, [59]] := by
        rw [← List.take_append_getElem hlt, fdsT_snoc]
      unfold str at d0 d1 hD
      generalize fs[j].ty = fty at *
      generalize fs[j].nm = fnm at *
      go_wp2_with fail
      have hma := hm.more (.cells #[.string ⟨fty.toArray⟩, .string ⟨fnm.toArray⟩] 86)
      refine (hD _ (hEnv.mv hma (fun _ _ h => h)).env).mono ?_
      rintro e' w1 ⟨rfl, hn1⟩
      have hm1 := hma.trans hn1
      have hr1 := ownsRow_keep (hr.alloc (.cells #[.string ⟨fty.toArray⟩, .string ⟨fnm.toArray⟩] 86)) hn1 (fun _ _ h => h)
      try unfold str
      go_wp2_with (at_builtin; refine wpList_append_lies _ rfl _ _ 36 rfl W.heap.size 9 i0 (.string ⟨#[]⟩) 1 16 Tryz.underlying36 hi hz0 hz1 hz2 rfl (by decide) _ _ _ rfl (hr1.alloc _) _ 2 2 [str (declT fty fnm), str [59]] rfl rfl (World.news_of_block (heap_alloc_new w1 _)) (by simp [str, Value.oneCell']) (by decide) (by unfold maxLen; omega) (by omega) (Nat.le_trans hm1.size (by simp)) _ rfl ?_)
      intro g2 cap2 w2 hown2 hgr2 hat2 hgl2
      have hm2 := (hm1.more _).fresh (Mv.of_grown hgr2 (fun r e => e)) (fun k hk => (ownsRow_own hr1 k hk).1)
      go_wp2_with fail
      go_roundg (fs.length - (j + 1))
      case measure => omega
      case rel => exact ⟨j + 1, by omega, by omega, by simp, by rw [hct]; simpa [Nat.mul_add, Nat.add_assoc] using hown2, hm2⟩
    · obtain rfl : j = fs.length := by omega
      rw [List.take_length] at hr
      have C := fun B v W' h => joinOwn (([115, 116, 114, 117, 99, 116] :: nm :: [123] :: fdsT fs) ++ [[125], [59]]) B v W' h (by simp only [List.length_cons, List.length_append, fdsT_len, List.length_nil]; omega) (by omega)
      go_wp2_with (at_builtin; refine wpList_append_lies _ rfl _ _ 36 rfl W.heap.size 9 i0 (.string ⟨#[]⟩) 1 16 Tryz.underlying36 hi hz0 hz1 hz2 rfl (by decide) _ _ _ rfl (hr.alloc _) _ 2 2 [str [125], str [59]] rfl rfl (World.news_of_block (heap_alloc_new wr _)) (by simp [str, Value.oneCell']) (by decide) (by unfold maxLen; omega) (by omega) (Nat.le_trans hm.size (by simp)) _ rfl ?_)
      intro g2 cap2 w2 hown2 hgr2 hat2 hgl2
      have hm2 := (hm.more _).fresh (Mv.of_grown hgr2 (fun r e => e)) (fun k hk => (ownsRow_own hr k hk).1)
      go_wp2_with fail
      have hN : List.length (α := Bs) (([115, 116, 114, 117, 99, 116] :: nm :: [123] :: fdsT fs) ++ [[125], [59]]) = 3 + 2 * fs.length + 2 := by simp only [List.length_cons, List.length_append, fdsT_len, List.length_nil]; omega
      refine (C W.heap.size _ _ (by rw [hN]; simpa using hown2)).mono ?_
      rintro e' w3 ⟨rfl, hb3⟩
      go_wp2_with fail
      exact bodyPost_ret (v := .string ⟨(jn (([115, 116, 114, 117, 99, 116] :: nm :: [123] :: fdsT fs) ++ [[125], [59]])).toArray⟩) (by simp [results, Tryz.results24, go_sem]) rfl ⟨rfl, hm2.trans (Mv.below hb3)⟩
theorem pmCells_len (l : List ((Int × Int) × Pm)) : (pmCells l).length = 5 * l.length := by
  induction l with
  | nil => rfl
  | cons x l ih => unfold pmCells at ih ⊢; simp only [List.flatMap_cons, List.length_append, ih, List.length_cons, List.length_nil]; omega
theorem pmCells_get : ∀ (l : List ((Int × Int) × Pm)) (j : Nat) (h : j < l.length), (pmCells l)[j * 5]? = some (.int .i64 l[j].1.1) ∧ (pmCells l)[j * 5 + 1]? = some (.int .i64 l[j].1.2) ∧ (pmCells l)[j * 5 + 2]? = some (.bool l[j].2.pub) ∧ (pmCells l)[j * 5 + 3]? = some (str l[j].2.ty) ∧ (pmCells l)[j * 5 + 4]? = some (str l[j].2.nm)
  | x :: l, 0, _ => ⟨rfl, rfl, rfl, rfl, rfl⟩
  | x :: l, j + 1, h => by
    have := pmCells_get l j (by simpa using h)
    have e0 : (j + 1) * 5 = (j * 5) + 5 := by omega
    have e1 : (j + 1) * 5 + 1 = (j * 5 + 1) + 5 := by omega
    have e2 : (j + 1) * 5 + 2 = (j * 5 + 2) + 5 := by omega
    have e3 : (j + 1) * 5 + 3 = (j * 5 + 3) + 5 := by omega
    have e4 : (j + 1) * 5 + 4 = (j * 5 + 4) + 5 := by omega
    rw [e0]
    have hc : pmCells (x :: l) = .int .i64 x.1.1 :: .int .i64 x.1.2 :: .bool x.2.pub :: str x.2.ty :: str x.2.nm :: pmCells l := rfl
    rw [hc]
    simpa using this
def pmsN (l : List Pm) : Nat := (pmsT l).length
theorem pmsT_len (l : List Pm) : (pmsT l).length ≤ 3 * l.length ∧ l.length ≤ (pmsT l).length := by
  have h1 : ∀ p : Pm, 1 ≤ (pmT p).length ∧ (pmT p).length ≤ 2 := by intro p; unfold pmT; cases p.pub <;> simp
  have h2 : ∀ l : List Pm, (l.flatMap fun q => [44] :: pmT q).length ≤ 3 * l.length ∧ l.length ≤ (l.flatMap fun q => [44] :: pmT q).length := by
    intro l
    induction l with
    | nil => simp
    | cons x l ih => have := h1 x; simp only [List.flatMap_cons, List.length_append, List.length_cons]; omega
  cases l with
  | nil => simp [pmsT]
  | cons x l => have := h1 x; have := h2 l; simp only [pmsT, List.length_append, List.length_cons]; omega
theorem pmsT_take (l : List Pm) (j : Nat) (h : j < l.length) : pmsT (l.take (j + 1)) = pmsT (l.take j) ++ ((if j = 0 then [] else [[44]]) ++ ((if l[j].pub then [[112, 117, 98, 108, 105, 99]] else []) ++ [declT l[j].ty l[j].nm])) := by
  rw [← List.take_append_getElem h, pmsT_snoc]
  by_cases hk : j = 0
  · subst hk; simp [pmsT, pmT]
  · rw [if_neg, if_neg hk]
    · rfl
    · intro h0
      have := congrArg List.length h0
      rw [List.length_take, List.length_nil] at this
      omega
theorem parStep {w w' : World} {q B n : Nat} {cs : Array Value} {v : Value} {xs : List Value} {o : Obj} (hA : w.heap[q]? = some (.cells cs 90 (0, 0))) (hr : w.ownsRow B 9 1 v n xs) (hgr : (w.alloc o).grownBy w' v.ownBlock) : w'.heap[q]? = some (.cells cs 90 (0, 0)) := by
  have m : Mv (fun k => v.ownBlock = some k) w w' := (Mv.alloc w o).trans (Mv.of_grown hgr (fun r e => e))
  refine (m.same q (heap_lt hA) (fun e => ?_)).trans hA
  obtain ⟨-, -, cur, h⟩ := ownsRow_own hr q e
  rw [hA] at h
  cases h
theorem parCells {w : World} {q : Nat} {a b c d e : Value} (hA : w.heap[q]? = some (.cells #[a, b, c, d, e] 90 (0, 0))) : w.cell? ⟨q, 2, none⟩ = some c ∧ w.cell? ⟨q, 3, none⟩ = some d ∧ w.cell? ⟨q, 4, none⟩ = some e := by
  refine ⟨?_, ?_, ?_⟩ <;> simp [World.cell?, hA]
set_option maxHeartbeats 16000000 in
theorem funcT (ty nm : Bs) (fs : List Fd) (ps : List Pm) (bd : St) (hty : ascB ty = true) (hnm : ascB nm = true) (hps : ∀ f ∈ ps, ascB f.ty = true ∧ ascB f.nm = true) (hbd : okS bd = true) (hlen : (jn [typedT ty, callT nm (jn (pmsT ps)), textS bd]).length ≤ 1000000000000) (W : World) (K : Nat → Prop) (b : Nat) (hI : ImAt W K b ⟨3, ty, nm, fs, ps, some bd⟩) (hEnv : EnvA W) :
    Calls Tryz.prog 24 #[.pointer (some ⟨b, 0, none⟩)] W fun r W' => r = .returned (str (jn [typedT ty, callT nm (jn (pmsT ps)), textS bd])) ∧ Mv (fun _ => False) W W' := by
  obtain ⟨vf, vp, vb, qs, c0, c3, c4, c5, c6, c7, -, hqs, hF, hbo⟩ := hI.cells
  obtain ⟨b2, rfl, hS2⟩ := hbo bd rfl
  unfold ptr at c7
  have hql : qs.length = ps.length := by rw [← hqs]; simp
  obtain ⟨aa, cc, rfl, hq1, hq2, hq3⟩ := hF.form
  have hml : ps.length ≤ 9223372036854775807 := by unfold maxLen at hq2; omega
  have hcl : (callT nm (jn (pmsT ps))).length ≤ 1000000000000 := Nat.le_trans (jn_mem (xs := [typedT ty, callT nm (jn (pmsT ps)), textS bd]) (by simp)) hlen
  have hjl : (jn (pmsT ps)).length ≤ 1000000000000 := Nat.le_trans (callT_le _ _) hcl
  have hPb := textSZ bd hbd (Nat.le_trans (jn_mem (xs := [typedT ty, callT nm (jn (pmsT ps)), textS bd]) (by simp)) hlen)
  have hnl := ascB_len hnm
  have hCL := fun w' => callZ nm (jn (pmsT ps)) w' (by omega)
  have hTy := fun w' => wordsOfZ ty (ascB_len hty) (ascB_asc hty) w'
  have hSW : ∀ w1, Calls Tryz.prog 33 #[.slice (some ⟨w1.heap.size, 0, none⟩) 3 3] (w1.alloc (.cells #[.string ⟨(typedT ty).toArray⟩, .string ⟨(callT nm (jn (pmsT ps))).toArray⟩, .string ⟨(textS bd).toArray⟩] 9)) (fun e' w' => e' = .returned (.string ⟨(jn [typedT ty, callT nm (jn (pmsT ps)), textS bd]).toArray⟩) ∧ Below w1.heap.size w1 w') := fun w1 => wordsLit [typedT ty, callT nm (jn (pmsT ps)), textS bd] w1 (by simp) (by omega)
  generalize textS bd = tb at *
  unfold str at *
  go_enter Tryz.func24, Tryz.ntmps24
  go_wp2_with fail
  obtain ⟨i0, hi, hz0, hz1, hz2⟩ := info_parts info9
  obtain ⟨hp1, hp2⟩ := pmsT_len ps
  have hLn : ps.length ≤ 1000000000003 := by
    have hjl2 := jn_len (pmsT ps)
    have hsum : ∀ l : List Bs, l.length ≤ (l.map fun x => x.length + 1).sum := by
      intro l
      induction l with
      | nil => simp
      | cons x l ih => simp only [List.length_cons, List.map_cons, List.sum_cons]; omega
    have hs := hsum (pmsT ps)
    split at hjl2
    · rename_i h0; rw [h0, List.length_nil] at hp2; omega
    · omega
  go_loopg [6, 60] ps.length (fun g s6 s60 wr => ∃ j : Nat, j ≤ ps.length ∧ ps.length - j ≤ g ∧ s60 = .int .i64 j ∧ wr.ownsRow W.heap.size 9 1 s6 (pmsT (ps.take j)).length ((pmsT (ps.take j)).map str) ∧ Mv (fun _ => False) W wr)
  case atStart => exact ⟨0, by omega, by omega, rfl, World.ownsRow_nil _ _ _ _, Mv.refl _ _⟩
  case round =>
    obtain ⟨j, hj, hg, rfl, hr, hm⟩ := hrel
    by_cases hlt : j < ps.length
    · have hltq : j < qs.length := by omega
      obtain ⟨gb, rfl, hKg, hgl, hcs⟩ := hq3 (by omega)
      obtain ⟨q0, q1, q2, q3, q4⟩ := pmCells_get qs j hltq
      have hpj : ps[j] = qs[j].2 := by simp only [← hqs, List.getElem_map]
      have hct := pmsT_take ps j hlt
      have htl := (pmsT_len (ps.take j)).1
      rw [List.length_take, Nat.min_eq_left hj] at htl
      obtain ⟨r1, r2⟩ := hps _ (List.getElem_mem hlt)
      rw [hpj] at hct r1 r2
      have d0 := hm.cell ((hcs (j * 5) (by omega)).trans q0) (fun h => h)
      have d1 := hm.cell ((hcs (j * 5 + 1) (by omega)).trans q1) (fun h => h)
      have d2 := hm.cell ((hcs (j * 5 + 2) (by omega)).trans q2) (fun h => h)
      have d3 := hm.cell ((hcs (j * 5 + 3) (by omega)).trans q3) (fun h => h)
      have d4 := hm.cell ((hcs (j * 5 + 4) (by omega)).trans q4) (fun h => h)
      have hlt' : (j : Int) < ps.length := by omega
      have hD := fun w' (h : Env w') => declaredZ qs[j].2.ty qs[j].2.nm (ascB_len r1) (ascB_asc r1) (ascB_len r2) w' h
      unfold str at d3 d4 hD
      generalize qs[j].2.ty = pty at *
      generalize qs[j].2.nm = pnm at *
      generalize qs[j].1.1 = l1 at *
      generalize qs[j].1.2 = l2 at *
      clear q0 q1 q2 q3 q4 hpj
      by_cases hj0 : j = 0
      · subst hj0
        replace hr : wr.ownsRow W.heap.size 9 1 u6 0 [] := hr
        cases hpub : qs[0].2.pub
        · rw [hpub] at hct d2
          have hA0 : (wr.alloc (.cells #[.int .i64 l1, .int .i64 l2, .bool false, .string ⟨pty.toArray⟩, .string ⟨pnm.toArray⟩] 90)).heap[wr.heap.size]? = _ := heap_alloc_new wr _
          have hma := hm.more (.cells #[.int .i64 l1, .int .i64 l2, .bool false, .string ⟨pty.toArray⟩, .string ⟨pnm.toArray⟩] 90)
          have hra := hr.alloc (.cells #[.int .i64 l1, .int .i64 l2, .bool false, .string ⟨pty.toArray⟩, .string ⟨pnm.toArray⟩] 90)
          have hnA : ∀ o, ((wr.alloc (.cells #[.int .i64 l1, .int .i64 l2, .bool false, .string ⟨pty.toArray⟩, .string ⟨pnm.toArray⟩] 90)).alloc o).heap[wr.heap.size + 1]? = some o := fun o => by have := heap_alloc_new (wr.alloc (.cells #[.int .i64 l1, .int .i64 l2, .bool false, .string ⟨pty.toArray⟩, .string ⟨pnm.toArray⟩] 90)) o; simpa using this
          obtain ⟨z2, z3, z4⟩ := parCells hA0
          go_wp2_with fail
          refine (hD _ (hEnv.mv hma (fun _ _ h => h)).env).mono ?_
          rintro e' w1 ⟨rfl, hn1⟩
          have hm1 := hma.trans hn1
          have hr1 := ownsRow_keep hra hn1 (fun _ _ h => h)
          try unfold str
          go_wp2_with (at_builtin; refine wpList_append_lies _ rfl _ _ 36 rfl W.heap.size 9 i0 (.string ⟨#[]⟩) 1 16 Tryz.underlying36 hi hz0 hz1 hz2 rfl (by decide) _ _ _ rfl (hr1.alloc _) _ 1 1 [str (declT pty pnm)] rfl rfl (World.news_of_block (heap_alloc_new w1 _)) (by simp [str, Value.oneCell']) (by decide) (by unfold maxLen; omega) (by omega) (Nat.le_trans hm1.size (by simp)) _ rfl ?_)
          intro g2 cap2 w2 hr2 hgr2 hat2 hgl2
          have hm2 := (hm1.more _).fresh (Mv.of_grown hgr2 (fun r e => e)) (fun k hk => (ownsRow_own hr1 k hk).1)
          go_wp2_with fail
          go_roundg (ps.length - (0 + 1))
          case measure => omega
          case rel => exact ⟨0 + 1, by omega, by omega, by simp, by rw [hct]; simpa [show pmsT [] = [] from rfl] using hr2, hm2⟩
        · rw [hpub] at hct d2
          have hA0 : (wr.alloc (.cells #[.int .i64 l1, .int .i64 l2, .bool true, .string ⟨pty.toArray⟩, .string ⟨pnm.toArray⟩] 90)).heap[wr.heap.size]? = _ := heap_alloc_new wr _
          have hma := hm.more (.cells #[.int .i64 l1, .int .i64 l2, .bool true, .string ⟨pty.toArray⟩, .string ⟨pnm.toArray⟩] 90)
          have hra := hr.alloc (.cells #[.int .i64 l1, .int .i64 l2, .bool true, .string ⟨pty.toArray⟩, .string ⟨pnm.toArray⟩] 90)
          have hnA : ∀ o, ((wr.alloc (.cells #[.int .i64 l1, .int .i64 l2, .bool true, .string ⟨pty.toArray⟩, .string ⟨pnm.toArray⟩] 90)).alloc o).heap[wr.heap.size + 1]? = some o := fun o => by have := heap_alloc_new (wr.alloc (.cells #[.int .i64 l1, .int .i64 l2, .bool true, .string ⟨pty.toArray⟩, .string ⟨pnm.toArray⟩] 90)) o; simpa using this
          obtain ⟨z2, z3, z4⟩ := parCells hA0
          go_wp2_with (at_builtin; refine wpList_append_lies _ rfl _ _ 36 rfl W.heap.size 9 i0 (.string ⟨#[]⟩) 1 16 Tryz.underlying36 hi hz0 hz1 hz2 rfl (by decide) _ _ _ rfl (hra.alloc _) _ 1 1 [str [112, 117, 98, 108, 105, 99]] rfl rfl (World.news_of_block (hnA _)) (by simp [str, Value.oneCell']) (by decide) (by unfold maxLen; omega) (by omega) (Nat.le_trans hma.size (by simp)) _ rfl ?_)
          intro g1 cap1 w1 hr1 hgr1 hat1 hgl1
          have hm1 := (hma.more _).fresh (Mv.of_grown hgr1 (fun r e => e)) (fun k hk => (ownsRow_own hra k hk).1)
          have hA1 := parStep hA0 hra hgr1
          obtain ⟨z2, z3, z4⟩ := parCells hA1
          go_wp2_with fail
          refine (hD _ (hEnv.mv hm1 (fun _ _ h => h)).env).mono ?_
          rintro e' w2 ⟨rfl, hn2⟩
          have hm2 := hm1.trans hn2
          have hr2 := ownsRow_keep hr1 hn2 (fun _ _ h => h)
          try unfold str
          go_wp2_with (at_builtin; refine wpList_append_lies _ rfl _ _ 36 rfl W.heap.size 9 i0 (.string ⟨#[]⟩) 1 16 Tryz.underlying36 hi hz0 hz1 hz2 rfl (by decide) _ _ _ rfl (hr2.alloc _) _ 1 1 [str (declT pty pnm)] rfl rfl (World.news_of_block (heap_alloc_new w2 _)) (by simp [str, Value.oneCell']) (by decide) (by unfold maxLen; omega) (by omega) (Nat.le_trans hm2.size (by simp)) _ rfl ?_)
          intro g3 cap3 w3 hr3 hgr3 hat3 hgl3
          have hm3 := (hm2.more _).fresh (Mv.of_grown hgr3 (fun r e => e)) (fun k hk => (ownsRow_own hr2 k hk).1)
          go_wp2_with fail
          go_roundg (ps.length - (0 + 1))
          case measure => omega
          case rel => exact ⟨0 + 1, by omega, by omega, by simp, by rw [hct]; simpa [show pmsT [] = [] from rfl] using hr3, hm3⟩
      · have hjp : (0 : Int) < j := by omega
        cases hpub : qs[j].2.pub
        · rw [hpub] at hct d2
          have hA0 : (wr.alloc (.cells #[.int .i64 l1, .int .i64 l2, .bool false, .string ⟨pty.toArray⟩, .string ⟨pnm.toArray⟩] 90)).heap[wr.heap.size]? = _ := heap_alloc_new wr _
          have hma := hm.more (.cells #[.int .i64 l1, .int .i64 l2, .bool false, .string ⟨pty.toArray⟩, .string ⟨pnm.toArray⟩] 90)
          have hra := hr.alloc (.cells #[.int .i64 l1, .int .i64 l2, .bool false, .string ⟨pty.toArray⟩, .string ⟨pnm.toArray⟩] 90)
          have hnA : ∀ o, ((wr.alloc (.cells #[.int .i64 l1, .int .i64 l2, .bool false, .string ⟨pty.toArray⟩, .string ⟨pnm.toArray⟩] 90)).alloc o).heap[wr.heap.size + 1]? = some o := fun o => by have := heap_alloc_new (wr.alloc (.cells #[.int .i64 l1, .int .i64 l2, .bool false, .string ⟨pty.toArray⟩, .string ⟨pnm.toArray⟩] 90)) o; simpa using this
          obtain ⟨z2, z3, z4⟩ := parCells hA0
          go_wp2_with (at_builtin; refine wpList_append_lies _ rfl _ _ 36 rfl W.heap.size 9 i0 (.string ⟨#[]⟩) 1 16 Tryz.underlying36 hi hz0 hz1 hz2 rfl (by decide) _ _ _ rfl (hra.alloc _) _ 1 1 [str [44]] rfl rfl (World.news_of_block (hnA _)) (by simp [str, Value.oneCell']) (by decide) (by unfold maxLen; omega) (by omega) (Nat.le_trans hma.size (by simp)) _ rfl ?_)
          intro g1 cap1 w1 hr1 hgr1 hat1 hgl1
          have hm1 := (hma.more _).fresh (Mv.of_grown hgr1 (fun r e => e)) (fun k hk => (ownsRow_own hra k hk).1)
          have hA1 := parStep hA0 hra hgr1
          obtain ⟨z2, z3, z4⟩ := parCells hA1
          go_wp2_with fail
          refine (hD _ (hEnv.mv hm1 (fun _ _ h => h)).env).mono ?_
          rintro e' w2 ⟨rfl, hn2⟩
          have hm2 := hm1.trans hn2
          have hr2 := ownsRow_keep hr1 hn2 (fun _ _ h => h)
          try unfold str
          go_wp2_with (at_builtin; refine wpList_append_lies _ rfl _ _ 36 rfl W.heap.size 9 i0 (.string ⟨#[]⟩) 1 16 Tryz.underlying36 hi hz0 hz1 hz2 rfl (by decide) _ _ _ rfl (hr2.alloc _) _ 1 1 [str (declT pty pnm)] rfl rfl (World.news_of_block (heap_alloc_new w2 _)) (by simp [str, Value.oneCell']) (by decide) (by unfold maxLen; omega) (by omega) (Nat.le_trans hm2.size (by simp)) _ rfl ?_)
          intro g3 cap3 w3 hr3 hgr3 hat3 hgl3
          have hm3 := (hm2.more _).fresh (Mv.of_grown hgr3 (fun r e => e)) (fun k hk => (ownsRow_own hr2 k hk).1)
          go_wp2_with fail
          go_roundg (ps.length - (j + 1))
          case measure => omega
          case rel => exact ⟨j + 1, by omega, by omega, by simp, by rw [hct]; simpa [if_neg hj0, Nat.add_assoc] using hr3, hm3⟩
        · rw [hpub] at hct d2
          have hA0 : (wr.alloc (.cells #[.int .i64 l1, .int .i64 l2, .bool true, .string ⟨pty.toArray⟩, .string ⟨pnm.toArray⟩] 90)).heap[wr.heap.size]? = _ := heap_alloc_new wr _
          have hma := hm.more (.cells #[.int .i64 l1, .int .i64 l2, .bool true, .string ⟨pty.toArray⟩, .string ⟨pnm.toArray⟩] 90)
          have hra := hr.alloc (.cells #[.int .i64 l1, .int .i64 l2, .bool true, .string ⟨pty.toArray⟩, .string ⟨pnm.toArray⟩] 90)
          have hnA : ∀ o, ((wr.alloc (.cells #[.int .i64 l1, .int .i64 l2, .bool true, .string ⟨pty.toArray⟩, .string ⟨pnm.toArray⟩] 90)).alloc o).heap[wr.heap.size + 1]? = some o := fun o => by have := heap_alloc_new (wr.alloc (.cells #[.int .i64 l1, .int .i64 l2, .bool true, .string ⟨pty.toArray⟩, .string ⟨pnm.toArray⟩] 90)) o; simpa using this
          obtain ⟨z2, z3, z4⟩ := parCells hA0
          go_wp2_with (at_builtin; refine wpList_append_lies _ rfl _ _ 36 rfl W.heap.size 9 i0 (.string ⟨#[]⟩) 1 16 Tryz.underlying36 hi hz0 hz1 hz2 rfl (by decide) _ _ _ rfl (hra.alloc _) _ 1 1 [str [44]] rfl rfl (World.news_of_block (hnA _)) (by simp [str, Value.oneCell']) (by decide) (by unfold maxLen; omega) (by omega) (Nat.le_trans hma.size (by simp)) _ rfl ?_)
          intro g1 cap1 w1 hr1 hgr1 hat1 hgl1
          have hm1 := (hma.more _).fresh (Mv.of_grown hgr1 (fun r e => e)) (fun k hk => (ownsRow_own hra k hk).1)
          have hA1 := parStep hA0 hra hgr1
          obtain ⟨z2, z3, z4⟩ := parCells hA1
          go_wp2_with (at_builtin; refine wpList_append_lies _ rfl _ _ 36 rfl W.heap.size 9 i0 (.string ⟨#[]⟩) 1 16 Tryz.underlying36 hi hz0 hz1 hz2 rfl (by decide) _ _ _ rfl (hr1.alloc _) _ 1 1 [str [112, 117, 98, 108, 105, 99]] rfl rfl (World.news_of_block (heap_alloc_new w1 _)) (by simp [str, Value.oneCell']) (by decide) (by unfold maxLen; omega) (by omega) (Nat.le_trans hm1.size (by simp)) _ rfl ?_)
          intro g2 cap2 w2 hr2 hgr2 hat2 hgl2
          have hm2 := (hm1.more _).fresh (Mv.of_grown hgr2 (fun r e => e)) (fun k hk => (ownsRow_own hr1 k hk).1)
          have hA2 := parStep hA1 hr1 hgr2
          obtain ⟨z2, z3, z4⟩ := parCells hA2
          go_wp2_with fail
          refine (hD _ (hEnv.mv hm2 (fun _ _ h => h)).env).mono ?_
          rintro e' w3 ⟨rfl, hn3⟩
          have hm3 := hm2.trans hn3
          have hr3 := ownsRow_keep hr2 hn3 (fun _ _ h => h)
          try unfold str
          go_wp2_with (at_builtin; refine wpList_append_lies _ rfl _ _ 36 rfl W.heap.size 9 i0 (.string ⟨#[]⟩) 1 16 Tryz.underlying36 hi hz0 hz1 hz2 rfl (by decide) _ _ _ rfl (hr3.alloc _) _ 1 1 [str (declT pty pnm)] rfl rfl (World.news_of_block (heap_alloc_new w3 _)) (by simp [str, Value.oneCell']) (by decide) (by unfold maxLen; omega) (by omega) (Nat.le_trans hm3.size (by simp)) _ rfl ?_)
          intro g4 cap4 w4 hr4 hgr4 hat4 hgl4
          have hm4 := (hm3.more _).fresh (Mv.of_grown hgr4 (fun r e => e)) (fun k hk => (ownsRow_own hr3 k hk).1)
          go_wp2_with fail
          go_roundg (ps.length - (j + 1))
          case measure => omega
          case rel => exact ⟨j + 1, by omega, by omega, by simp, by rw [hct]; simpa [if_neg hj0, Nat.add_assoc] using hr4, hm4⟩
    · obtain rfl : j = ps.length := by omega
      rw [List.take_length] at hr
      have CJ := fun W' h => joinOwn (pmsT ps) W.heap.size u6 W' h (by omega) (by omega)
      obtain ⟨va, vc, rfl⟩ : ∃ va vc, u6 = .slice va (pmsT ps).length vc := by
        obtain ⟨-, ⟨rfl, h⟩ | ⟨g, cap, cur, rfl, -⟩⟩ := hr
        · exact ⟨none, 0, by rw [h]⟩
        · exact ⟨_, cap, rfl⟩
      have hm0 : Mv (fun _ => False) W wr.drew := hm.drawn
      have hrd : wr.drew.ownsRow W.heap.size 9 1 (.slice va (pmsT ps).length vc) (pmsT ps).length ((pmsT ps).map str) := hr
      have hS : ∀ w', Mv (fun _ => False) W w' → w'.cell? ⟨b, 3, none⟩ = some (.string ⟨ty.toArray⟩) ∧ w'.cell? ⟨b, 4, none⟩ = some (.string ⟨nm.toArray⟩) ∧ w'.cell? ⟨b, 7, none⟩ = some (.pointer (some ⟨b2, 0, none⟩)) := fun w' hm => ⟨hm.cell c3 (fun h => h), hm.cell c4 (fun h => h), hm.cell c7 (fun h => h)⟩
      go_wp2_with fail
      go_region_held (fun w' => w'.cell? ⟨b, 3, none⟩ = some (.string ⟨ty.toArray⟩) ∧ w'.cell? ⟨b, 4, none⟩ = some (.string ⟨nm.toArray⟩) ∧ w'.cell? ⟨b, 7, none⟩ = some (.pointer (some ⟨b2, 0, none⟩)))
        (first | exact hS _ hm0 | exact hS _ (hm0.more _) | exact hS _ hm1 | exact hS _ (hm1.more _) | exact hS _ hm2 | exact hS _ (hm2.more _) | exact hS _ hm3 | exact hS _ (hm3.more _) | exact hS _ hm4 | exact hS _ (hm4.more _) | exact hS _ hm5 | exact hS _ (hm5.more _))
        (first | (go_at_call 34; (with_reducible refine Calls.mono (hTy wr.drew) ?_); rintro e' w1 ⟨rfl, hb1⟩; have hm1 : Mv (fun _ => False) W w1 := hm0.trans (Mv.below hb1)) | (go_at_call 25; (with_reducible refine Calls.mono (CJ w1 (ownsRow_keep hrd (Mv.below (X := fun _ => False) hb1) (fun _ _ h => h))) ?_); rintro e' w2 ⟨rfl, hb2⟩; have hm2 : Mv (fun _ => False) W w2 := hm1.trans (Mv.below hb2)) | (go_at_call 35; (with_reducible refine Calls.mono (hCL w2) ?_); rintro e' w3 ⟨rfl, hb3⟩; have hm3 : Mv (fun _ => False) W w3 := hm2.trans (Mv.below hb3)) | (go_at_call 36; (with_reducible refine Calls.mono (hPb w3 K b2 (hS2.mv (Keeps.of hm3 (fun _ _ h => h)) (fun _ h => h)) (hEnv.mv hm3 (fun _ _ h => h))) ?_); rintro e' w4 ⟨rfl, hb4⟩; have hm4 : Mv (fun _ => False) W w4 := hm3.trans hb4) | (go_at_call 33; (with_reducible refine Calls.mono (hSW w4) ?_); rintro e' w5 ⟨rfl, hb5⟩; have hm5 : Mv (fun _ => False) W w5 := hm4.trans (Mv.below hb5)))
      all_goals go_wp2_with fail
      all_goals exact bodyPost_ret (v := .string ⟨(jn [typedT ty, callT nm (jn (pmsT ps)), tb]).toArray⟩) (by simp [results, Tryz.results24, go_sem]) rfl ⟨rfl, hm5⟩
end Go.Proofs.YtjgpbpmicopemaaGreatDoor

/-
  A program's text; its functions; its nodes.
-/
namespace Go.Proofs.YtjgpbpmicopemaaGreatDoor
open Go.RowKit Go.Shelf
set_option maxRecDepth 20000

theorem itemTextZ (x : Im) (hok : okI x = true) (hlen : (textI x).length ≤ 1000000000000) (W : World) (K : Nat → Prop) (b : Nat) (hI : ImAt W K b x) (hEnv : EnvA W) :
    Calls Tryz.prog 24 #[.pointer (some ⟨b, 0, none⟩)] W fun r W' => r = .returned (str (textI x)) ∧ Mv (fun _ => False) W W' := by
  obtain ⟨k, ty, nm, fs, ps, bd⟩ := x
  unfold okI at hok
  simp only [Bool.and_eq_true, decide_eq_true_eq, List.all_eq_true] at hok
  obtain ⟨⟨⟨⟨⟨⟨hk1, hk2⟩, hty⟩, hnm⟩, hfs⟩, hps⟩, hbd⟩ := hok
  unfold textI at hlen ⊢
  simp only at hlen ⊢
  rcases (by omega : k = 1 ∨ k = 2 ∨ k = 3) with rfl | rfl | rfl
  · simp only [if_true] at hlen ⊢
    exact structT ty nm fs ps bd hnm hfs hlen W K b hI hEnv
  · simp only [show ¬ ((2 : Int) = 1) by decide, if_true, if_false] at hlen ⊢
    exact globalT ty nm fs ps bd hty hnm hlen W K b hI hEnv
  · simp only [show ¬ ((3 : Int) = 1) by decide, show ¬ ((3 : Int) = 2) by decide, if_false] at hlen ⊢
    cases bd with
    | none => simp at hbd
    | some bd =>
      simp only [Bool.and_eq_true] at hbd
      exact funcT ty nm fs ps bd hty hnm hps hbd.1 hlen W K b hI hEnv
theorem PgAt.get {W : World} {K : Nat → Prop} {b : Nat} {x : Pg} (h : PgAt W K b x) : ∃ (v : Value) (bs : List Nat), W.cell? ⟨b, 0, none⟩ = some v ∧ W.cell? ⟨b, 1, none⟩ = some (.int .i64 x.nodes) ∧ PtrsAt W K 68 v bs ∧ bs.length = x.items.length ∧ ∀ (k : Nat) (e : Im), x.items[k]? = some e → ∃ c, bs[k]? = some c ∧ ImAt W K c e := by
  obtain ⟨-, v, bs, hb, hv, hl, hx⟩ := h
  refine ⟨v, bs, ?_, ?_, hv, hl, fun k e he => ?_⟩
  · simp [World.cell?, hb]
  · simp [World.cell?, hb]
  · have hk : k < bs.length := by
      rw [hl]
      have := List.getElem?_eq_some_iff.1 he
      exact this.1
    exact ⟨bs[k], List.getElem?_eq_getElem hk, hx k e _ he (List.getElem?_eq_getElem hk)⟩
set_option maxHeartbeats 8000000 in
/-- how many nodes it has -/
theorem nodesZ {W : World} {K : Nat → Prop} {b : Nat} {x : Pg} (h : PgAt W K b x) : Calls Tryz.prog 13 #[.pointer (some ⟨b, 0, none⟩)] W fun r W' => r = .returned (.int .i64 x.nodes) ∧ Mv (fun _ => False) W W' := by
  obtain ⟨v, bs, c0, c1, -⟩ := h.get
  go_enter Tryz.func13, Tryz.ntmps13
  go_wp2_with fail
  exact bodyPost_ret (v := .int .i64 x.nodes) (by simp [results, Tryz.results13, go_sem]) rfl ⟨rfl, Mv.refl _ _⟩
set_option maxHeartbeats 8000000 in
/-- its text -/
theorem programTextZ (x : Pg) (hok : ∀ i ∈ x.items, okI i = true) (hlen : (textP x).length ≤ 1000000000000) (W : World) (K : Nat → Prop) (b : Nat) (hP : PgAt W K b x) (hEnv : EnvA W) :
    Calls Tryz.prog 12 #[.pointer (some ⟨b, 0, none⟩)] W fun r W' => r = .returned (str (textP x)) ∧ Mv (fun _ => False) W W' := by
  obtain ⟨v, bs, c0, c1, hv, hl, hget⟩ := hP.get
  unfold textP at hlen ⊢
  obtain ⟨L, n⟩ := x
  simp only at hok hlen hl hget ⊢
  clear c1
  obtain ⟨aa, cc, rfl, hq1, hq2, hq3⟩ := hv.form
  rw [hl] at hq1 hv c0
  have hml : L.length ≤ 9223372036854775807 := by unfold maxLen at hq2; omega
  unfold str
  go_enter Tryz.func12, Tryz.ntmps12
  go_wp2_with fail
  obtain ⟨i0, hi, hz0, hz1, hz2⟩ := info_parts info9
  have hjl := jn_len (L.map textI)
  have hsum : ∀ l : List Bs, l.length ≤ (l.map fun x => x.length + 1).sum := by
    intro l
    induction l with
    | nil => simp
    | cons x l ih => simp only [List.length_cons, List.map_cons, List.sum_cons]; omega
  have hs := hsum (L.map textI)
  have hLn : L.length ≤ 1000000000003 := by
    rw [List.length_map] at hs
    split at hjl
    · rename_i h0; rw [List.map_eq_nil_iff] at h0; rw [h0]; simp
    · omega
  clear hsum hs hjl
  go_loopg [3, 11] L.length (fun g s3 s11 wr => ∃ j : Nat, j ≤ L.length ∧ L.length - j ≤ g ∧ s11 = .int .i64 j ∧ wr.ownsRow W.heap.size 9 1 s3 j (((L.map textI).take j).map str) ∧ Mv (fun _ => False) W wr)
  case atStart => exact ⟨0, by omega, by omega, rfl, World.ownsRow_nil _ _ _ _, Mv.refl _ _⟩
  case round =>
    obtain ⟨j, hj, hg, rfl, hr, hm⟩ := hrel
    by_cases hlt : j < L.length
    · obtain ⟨b', hb', hE⟩ := hget j L[j] (List.getElem?_eq_getElem hlt)
      obtain ⟨gb, rfl, hKg, hgl, hcs⟩ := hq3 (by intro h0; rw [h0] at hl; simp at hl; omega)
      have d0 := hm.cell (hcs j b' hb') (fun h => h)
      unfold ptr at d0
      have hlt' : (j : Int) < L.length := by omega
      have hmem : L[j] ∈ L := List.getElem_mem hlt
      have hPj := itemTextZ L[j] (hok _ hmem) (Nat.le_trans (jn_mem (xs := L.map textI) (List.mem_map_of_mem hmem)) hlen)
      have hct : (L.map textI).take (j + 1) = (L.map textI).take j ++ [textI L[j]] := by
        rw [← List.take_append_getElem (by simpa using hlt), List.getElem_map]
      clear hok hget
      generalize textI L[j] = tj at *
      go_wp2_with fail
      refine (hPj wr K b' (hE.mv (Keeps.of hm (fun _ _ h => h)) (fun _ h => h)) (hEnv.mv hm (fun _ _ h => h))).mono ?_
      rintro e w1 ⟨rfl, hn1⟩
      have hm1 := hm.trans hn1
      unfold str
      have hr1 := ownsRow_keep hr hn1 (fun _ _ h => h)
      go_wp2_with (at_builtin; refine wpList_append_lies _ rfl _ _ 36 rfl W.heap.size 9 i0 (.string ⟨#[]⟩) 1 16 Tryz.underlying36 hi hz0 hz1 hz2 rfl (by decide) _ _ _ rfl (hr1.alloc _) _ 1 1 [str tj] rfl rfl (World.news_of_block (heap_alloc_new w1 _)) (by simp [str, Value.oneCell']) (by decide) (by unfold maxLen; omega) (by omega) (Nat.le_trans hm1.size (by simp)) _ rfl ?_)
      intro g2 cap2 w2 hown2 hgr2 hat2 hgl2
      have hm2 := (hm1.more _).fresh (Mv.of_grown hgr2 (fun r e => e)) (fun k hk => (ownsRow_own hr1 k hk).1)
      go_wp2_with fail
      go_roundg (L.length - (j + 1))
      case measure => omega
      case rel => exact ⟨j + 1, by omega, by omega, by simp, by rw [hct]; simpa using hown2, hm2⟩
    · obtain rfl : j = L.length := by omega
      have htk : (L.map textI).take L.length = L.map textI := List.take_of_length_le (by simp)
      rw [htk] at hr
      have C := fun W' h => joinOwn (L.map textI) W.heap.size u3 W' h (by rw [List.length_map]; omega) (by omega)
      rw [List.length_map] at C
      go_wp2_with fail
      refine (C _ hr).mono ?_
      rintro e w1 ⟨rfl, hb1⟩
      go_wp2_with fail
      exact bodyPost_ret (v := .string ⟨(jn (L.map textI)).toArray⟩) (by simp [results, Tryz.results12, go_sem]) rfl ⟨rfl, hm.trans (Mv.below hb1)⟩
def fnsL (l : List Im) : List Bs := (l.filter fun x => decide (x.k = 3)).map Im.nm
set_option maxHeartbeats 8000000 in
/-- its functions' names -/
theorem functionsZ (x : Pg) (hn : x.items.length ≤ 1000000) (W : World) (K : Nat → Prop) (b : Nat) (hP : PgAt W K b x) :
    Calls Tryz.prog 10 #[.pointer (some ⟨b, 0, none⟩)] W fun r W' => (∃ v, r = .returned v ∧ W'.ownsRow W.heap.size 9 1 v (functionsP x).length ((functionsP x).map str)) ∧ Mv (fun _ => False) W W' := by
  obtain ⟨v, bs, c0, c1, hv, hl, hget⟩ := hP.get
  obtain ⟨L, n⟩ := x
  rw [show functionsP ⟨L, n⟩ = fnsL L from rfl]
  simp only at hn hl hget
  clear c1
  obtain ⟨aa, cc, rfl, hq1, hq2, hq3⟩ := hv.form
  rw [hl] at hq1 hv c0
  have hml : L.length ≤ 9223372036854775807 := by unfold maxLen at hq2; omega
  go_enter Tryz.func10, Tryz.ntmps10
  go_wp2_with fail
  obtain ⟨i0, hi, hz0, hz1, hz2⟩ := info_parts info9
  go_loopg [3, 11] L.length (fun g s3 s11 wr => ∃ j : Nat, j ≤ L.length ∧ L.length - j ≤ g ∧ s11 = .int .i64 j ∧ wr.ownsRow W.heap.size 9 1 s3 (fnsL (L.take j)).length ((fnsL (L.take j)).map str) ∧ Mv (fun _ => False) W wr)
  case atStart => exact ⟨0, by omega, by omega, rfl, World.ownsRow_nil _ _ _ _, Mv.refl _ _⟩
  case round =>
    obtain ⟨j, hj, hg, rfl, hr, hm⟩ := hrel
    by_cases hlt : j < L.length
    · obtain ⟨b', hb', hE⟩ := hget j L[j] (List.getElem?_eq_getElem hlt)
      obtain ⟨gb, rfl, hKg, hgl, hcs⟩ := hq3 (by intro h0; rw [h0] at hl; simp at hl; omega)
      have d0 := hm.cell (hcs j b' hb') (fun h => h)
      unfold ptr at d0
      have hlt' : (j : Int) < L.length := by omega
      have hct : fnsL (L.take (j + 1)) = fnsL (L.take j) ++ (if L[j].k = 3 then [L[j].nm] else []) := by
        rw [← List.take_append_getElem hlt]
        unfold fnsL
        rw [List.filter_append, List.map_append]
        by_cases h3 : L[j].k = 3 <;> simp [h3]
      have hfl : (fnsL (L.take j)).length ≤ j := by
        unfold fnsL
        rw [List.length_map]
        refine Nat.le_trans (List.length_filter_le _ _) ?_
        rw [List.length_take]
        omega
      generalize L[j] = x at *
      obtain ⟨k, ty, nm, fs, ps, bd⟩ := x
      obtain ⟨vf, vp, vb, qs, e0, e3, e4, -⟩ := hE.cells
      have f0 := hm.cell e0 (fun h => h)
      have f4 := hm.cell e4 (fun h => h)
      simp only at hct
      by_cases h3 : k = 3
      · subst h3
        rw [if_pos rfl] at hct
        go_wp2_with (at_builtin; refine wpList_append_lies _ rfl _ _ 36 rfl W.heap.size 9 i0 (.string ⟨#[]⟩) 1 16 Tryz.underlying36 hi hz0 hz1 hz2 rfl (by decide) _ _ _ rfl (hr.alloc _) _ 1 1 [str nm] rfl rfl (World.news_of_block (heap_alloc_new wr _)) (by simp [str, Value.oneCell']) (by decide) (by unfold maxLen; omega) (by omega) (Nat.le_trans hm.size (by simp)) _ rfl ?_)
        intro g2 cap2 w2 hown2 hgr2 hat2 hgl2
        have hm2 := (hm.more _).fresh (Mv.of_grown hgr2 (fun r e => e)) (fun k hk => (ownsRow_own hr k hk).1)
        go_wp2_with fail
        go_roundg (L.length - (j + 1))
        case measure => omega
        case rel => exact ⟨j + 1, by omega, by omega, by simp, by rw [hct]; simpa using hown2, hm2⟩
      · rw [if_neg h3, List.append_nil] at hct
        have hk3 : (k == 3) = false := by simpa using h3
        go_wp2_with fail
        go_roundg (L.length - (j + 1))
        case measure => omega
        case rel => exact ⟨j + 1, by omega, by omega, by simp, by rw [hct]; exact hr, hm⟩
    · obtain rfl : j = L.length := by omega
      rw [List.take_length] at hr
      go_wp2_with fail
      exact bodyPost_ret (v := u3) (by simp [results, Tryz.results10, go_sem]) rfl ⟨⟨u3, rfl, hr⟩, hm⟩
end Go.Proofs.YtjgpbpmicopemaaGreatDoor

/-
  The law's awake: it answers true.
-/
namespace Go.Proofs.YtjgpbpmicopemaaGreatDoor
open Go.RowKit Go.Shelf
set_option maxRecDepth 20000

/-- what every call's world has -/
structure EnvB (w : World) : Prop where
  env : EnvA w
  n8 : 8 ≤ w.heap.size
theorem EnvB.mv {w w' : World} (h : EnvB w) (m : Mv (fun _ => False) w w') : EnvB w' := ⟨h.env.mv m (fun _ _ h => h), Nat.le_trans h.n8 m.size⟩
def BM (b : Bool) (w : World) (e : Ending) (w' : World) : Prop := e = .returned (.bool b) ∧ Mv (fun _ => False) w w'
theorem parse_any (l : Bs) (hl : l.length ≤ 9223372036854775807) (w : World) (hE : EnvB w) : Calls Tryz.prog 8 #[.string ⟨l.toArray⟩] w (RParse l w) := parseZ l hl (okWs_all l) w hE.env hE.n8
/-- a text that is a program -/
theorem parse_run {t txt : Bs} {fns : List Bs} (h : runOk t txt fns = true) (he : wordsE t = 0) (hl : t.length ≤ 1000) (w : World) (hE : EnvB w) : Calls Tryz.prog 8 #[.string ⟨t.toArray⟩] w fun e w' => Mv (fun _ => False) w w' ∧
    ∃ b pg, e = .returned (.tuple #[.pointer (some ⟨b, 0, none⟩), .agg #[.int .i64 0, .int .i64 0], .int .i64 0]) ∧ PgAt w' (fun k => w.heap.size ≤ k) b pg ∧ textP pg = txt ∧ (∀ i ∈ pg.items, okI i = true) ∧ functionsP pg = fns ∧ 3 < pg.nodes ∧ pg.items.length ≤ 10 := by
  obtain ⟨pg, s, hr, ho, ht, hok, hf, hn, hi⟩ := runOk_of h
  refine (parse_any t (by omega) w hE).mono ?_
  rintro e w1 ⟨hm1, h⟩
  rw [if_neg (by simp [he]), hr] at h
  simp only [ho, Bool.false_eq_true, if_false] at h
  obtain ⟨b, rfl, hP⟩ := h
  exact ⟨hm1, b, pg, rfl, hP, ht, hok, hf, hn, hi⟩
theorem parse_bad {t : Bs} {p : Int × Int} (h : runBad t p = true) (he : wordsE t = 0) (hl : t.length ≤ 1000) (w : World) (hE : EnvB w) : Calls Tryz.prog 8 #[.string ⟨t.toArray⟩] w fun e w' => Mv (fun _ => False) w w' ∧
    e = .returned (.tuple #[.pointer none, .agg #[.int .i64 p.1, .int .i64 p.2], .int .i64 4]) := by
  obtain ⟨s, hr, hp⟩ := runBad_of h
  refine (parse_any t (by omega) w hE).mono ?_
  rintro e w1 ⟨hm1, h⟩
  rw [if_neg (by simp [he]), hr] at h
  simp only [hp] at h
  exact ⟨hm1, h⟩
theorem parse_lex {t : Bs} {p : Int × Int} (he : wordsE t = 3 ∧ wordsP t = p) (hl : t.length ≤ 1000) (w : World) (hE : EnvB w) : Calls Tryz.prog 8 #[.string ⟨t.toArray⟩] w fun e w' => Mv (fun _ => False) w w' ∧
    e = .returned (.tuple #[.pointer none, .agg #[.int .i64 p.1, .int .i64 p.2], .int .i64 3]) := by
  refine (parse_any t (by omega) w hE).mono ?_
  rintro e w1 ⟨hm1, h⟩
  rw [if_pos (by simp [he.1]), he.1, he.2] at h
  exact ⟨hm1, h⟩
theorem functionsOne {w : World} {K : Nat → Prop} {b : Nat} {pg : Pg} {f : Bs} (hP : PgAt w K b pg) (hf : functionsP pg = [f]) (hi : pg.items.length ≤ 10) : Calls Tryz.prog 10 #[.pointer (some ⟨b, 0, none⟩)] w fun e w' => Mv (fun _ => False) w w' ∧ ∃ g c, e = .returned (.slice (some ⟨g, 0, none⟩) 1 c) ∧ g < w'.heap.size ∧ w'.cell? ⟨g, 0, none⟩ = some (.string ⟨f.toArray⟩) := by
  refine (functionsZ pg (by omega) w K b hP).mono ?_
  rintro e w' ⟨⟨v, rfl, hr⟩, hm⟩
  refine ⟨hm, ?_⟩
  rw [hf] at hr
  obtain ⟨-, ⟨-, h0⟩ | ⟨g, cap, cur, rfl, -, hg, -, -, -, htk⟩⟩ := hr
  · cases h0
  · refine ⟨g, cap, rfl, heap_lt hg, ?_⟩
    have : cur.toList[0]? = some (str f) := by
      have h2 := congrArg (fun l => l[0]?) htk
      simpa [List.getElem?_take] using h2
    simp only [World.cell?, hg]
    simpa [str] using this
set_option maxHeartbeats 8000000 in
theorem awake_any (w : World) (hE : EnvB w) : Calls Tryz.prog 6 #[] w (BM true w) := by
  have C1 := fun w' h => parse_run run1 err1 (by decide) w' h
  have C2 : ∀ {w' : World} {K : Nat → Prop} {b : Nat} {pg : Pg}, PgAt w' K b pg → functionsP pg = [[102]] → pg.items.length ≤ 10 → _ := fun {w' K b pg} a1 a2 a3 => functionsOne (w := w') (K := K) (b := b) (pg := pg) a1 a2 a3
  have hx1 : x1.length ≤ 1000000000000 := by decide
  have C3 : ∀ (w' : World) (K : Nat → Prop) (b : Nat) (pg : Pg), PgAt w' K b pg → textP pg = x1 → (∀ i ∈ pg.items, okI i = true) → EnvA w' → Calls Tryz.prog 12 #[.pointer (some ⟨b, 0, none⟩)] w' fun r W' => r = .returned (.string ⟨x1.toArray⟩) ∧ Mv (fun _ => False) w' W' := fun w' K b pg a1 a2 a3 a4 => by
    rw [← a2]
    exact programTextZ pg a3 (by rw [a2]; exact hx1) w' K b a1 a4
  clear hx1
  go_enter Tryz.func6, Tryz.ntmps6
  go_wp2_with fail
  refine (C1 _ hE).mono ?_
  rintro e w1 ⟨hm1, b, pg, rfl, hP, ht, hok, hf, hn, hi⟩
  clear C1
  go_wp2_with fail
  have hma := hm1.more (.cells #[.int .i64 0, .int .i64 0] 26)
  have hPa : PgAt (w1.alloc (.cells #[.int .i64 0, .int .i64 0] 26)) (fun k => w.heap.size ≤ k) b pg := hP.mv (Keeps.of (Mv.alloc (X := fun _ => False) _ _) (fun _ _ h => h)) (fun _ h => h)
  generalize w1.alloc (.cells #[.int .i64 0, .int .i64 0] 26) = wa at *
  refine (C2 hPa hf hi).mono ?_
  rintro e w2 ⟨hm2, g, c, rfl, hgl, hg0⟩
  have hMM2 := hma.trans hm2
  have hP2 : PgAt w2 (fun k => w.heap.size ≤ k) b pg := hPa.mv (Keeps.of hm2 (fun _ _ h => h)) (fun _ h => h)
  go_wp2_with fail
  refine (C3 _ _ _ _ hP2 ht hok (hE.mv hMM2).env).mono ?_
  rintro e w3 ⟨rfl, hm3⟩
  have hP3 : PgAt w3 (fun k => w.heap.size ≤ k) b pg := hP2.mv (Keeps.of hm3 (fun _ _ h => h)) (fun _ h => h)
  have hg3 := hm3.cell hg0 (fun h => h)
  have CN := nodesZ hP3
  have hMM3 := hMM2.trans hm3
  have hn' : (3 : Int) < pg.nodes := hn
  generalize pg.nodes = nn at *
  go_wp2_with fail
  refine CN.mono ?_
  rintro e w4 ⟨rfl, hm4⟩
  go_wp2_with fail
  go_ret
  exact ⟨by simp, hMM3.trans hm4⟩
end Go.Proofs.YtjgpbpmicopemaaGreatDoor
