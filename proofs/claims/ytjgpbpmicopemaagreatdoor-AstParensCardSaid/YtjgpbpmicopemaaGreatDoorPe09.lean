import Derived.Test.YtjgpbpmicopemaaGreatDoorPe08
import Derived.Test.YtjgpbpmicopemaaGreatDoorPe07
import Derived.Test.YtjgpbpmicopemaaGreatDoorPb15
import Derived.Test.YtjgpbpmicopemaaGreatDoorPb04

namespace Go.Proofs.YtjgpbpmicopemaaGreatDoor
open Go.RowKit Go.Shelf
set_option maxRecDepth 20000
def RFew (l : Bs) (w : World) (e : Ending) (w' : World) : Prop := ∃ b : Bool, e = .returned (.bool b) ∧ Mv (fun _ => False) w w' ∧ (b = true → wordsE l = 0 ∧ (wordsL l).length ≤ 200)
theorem words4 (l : Bs) (hl : l.length ≤ 9223372036854775807) (w : World) : Calls Tryz.prog 9 #[.string ⟨l.toArray⟩] w fun e w' => Mv (fun _ => False) w w' ∧ ∃ (a : Option Addr) (m c : Nat) (p q n : Int), e = .returned (.tuple #[.slice a m c, .agg #[.int .i64 p, .int .i64 q], .int .i64 n]) ∧
    (wordsE l = 0 → n = 0) ∧ (n = 0 → wordsE l = 0 ∧ m = (wordsL l).length ∧ (wordsL l ≠ [] → ∃ g, a = some ⟨g, 0, none⟩ ∧ g < w'.heap.size ∧ ∀ (j : Nat) (x : It), (wordsL l)[j]? = some x → W5 w' g j x)) := by
  have C := rwords_any l hl w
  unfold str at C
  refine C.mono ?_
  rintro e w1 ⟨v, p, n, rfl, pre, hrow, hb, hcase⟩
  obtain ⟨a, c, rfl, hg1, hg2⟩ := words_row hrow
  refine ⟨Mv.below hb, a, _, c, p.1, p.2, n, rfl, fun he => ?_, fun hn => ?_⟩
  · obtain ⟨-, e2, e3⟩ := wordsL_goods he
    rcases hcase with ⟨h1, -⟩ | ⟨-, -, -, h4⟩
    · omega
    · rw [h4, e2]; rfl
  rcases hcase with ⟨-, -, -, h4⟩ | ⟨h1, h2, -, h4⟩
  · omega
  · have hf : (faultO l).isSome = false := by
      cases hx : (faultO l).isSome
      · rfl
      · rw [hx] at h4; simp at h4; omega
    have he : wordsE l = 0 := by
      unfold wordsE
      rw [if_neg (by omega), hf]
      rfl
    obtain ⟨e1, -, -⟩ := wordsL_goods he
    rw [e1] at h2
    subst h2
    exact ⟨he, rfl, hg1⟩
set_option maxHeartbeats 8000000 in
theorem few_any (l : Bs) (hl : l.length ≤ 9223372036854775807) (w : World) : Calls Tryz.prog 7 #[.string ⟨l.toArray⟩] w (RFew l w) := by
  have C1 := fun w' => words4 l hl w'
  have C2 := fun w' he => parse5 l he w'
  go_enter Tryz.func7, Tryz.ntmps7
  go_wp2_with fail
  refine (C1 _).mono ?_
  rintro e w1 ⟨hm1, a, m, c, p, q, n, rfl, -, hn⟩
  by_cases h0 : n = 0
  · obtain ⟨he, hm, -⟩ := hn h0
    subst h0
    by_cases h200 : 200 < m
    · have h200' : (200 : Int) < m := by omega
      go_wp2_with fail
      exact bodyPost_ret (v := .bool false) (by simp [results, Tryz.results7, go_sem]) rfl ⟨false, rfl, hm1.trans (Mv.alloc _ _), by simp⟩
    · have h200' : ¬ (200 : Int) < m := by omega
      go_wp2_with fail
      have hma := hm1.more (.cells #[.int .i64 p, .int .i64 q] 26)
      generalize w1.alloc (.cells #[.int .i64 p, .int .i64 q] 26) = wa at *
      refine (C2 _ he).mono ?_
      rintro e w2 ⟨hm2, Q, p2, q2, n2, v1, v2, v3, v4, nn, dd, m3, rfl, hq, a3, c3, rfl⟩
      have hM2 := hma.trans hm2
      have hq' := at_alloc hq (.cells #[.int .i64 p2, .int .i64 q2] 26)
      have y2 : (w2.alloc (.cells #[.int .i64 p2, .int .i64 q2] 26)).cell? ⟨Q, 2, none⟩ = some (.slice a3 m3 c3) := by unfold World.cell?; rw [hq']; rfl
      have y5 : (w2.alloc (.cells #[.int .i64 p2, .int .i64 q2] 26)).cell? ⟨Q, 5, none⟩ = some (.int .i64 dd) := by unfold World.cell?; rw [hq']; rfl
      have hM3 := hM2.more (.cells #[.int .i64 p2, .int .i64 q2] 26)
      go_wp2_with fail
      all_goals go_ret
      all_goals exact ⟨_, rfl, hM3, fun _ => ⟨he, by omega⟩⟩
  · have hb : (n == 0) = false := by simpa using h0
    have hb' : (n != 0) = true := by simpa using h0
    go_wp2_with fail
    exact bodyPost_ret (v := .bool false) (by simp [results, Tryz.results7, go_sem]) rfl ⟨false, rfl, hm1.trans (Mv.alloc _ _), by simp⟩
end Go.Proofs.YtjgpbpmicopemaaGreatDoor

namespace Go.Proofs.YtjgpbpmicopemaaGreatDoor
open Go.RowKit
def Tk (m : Nat) (s t : Sx) : Prop := OkWs t.ws ∧ t.ws.length + m ≤ s.ws.length
theorem Tk.trans {m n : Nat} {s t u : Sx} (h1 : Tk m s t) (h2 : Tk n t u) : Tk (m + n) s u := ⟨h2.1, by have := h1.2; have := h2.2; omega⟩
theorem OkWs.suf {l l' : List It} (h : OkWs l) (hs : l' <:+ l) : OkWs l' := ⟨Nat.le_trans hs.length_le h.1, fun x hx => h.2 x (hs.subset hx)⟩
theorem ascB_of {t : Bs} (h1 : t.length ≤ 400000) (h2 : ∀ c ∈ t, c.toNat < 128) : ascB t = true := by
  unfold ascB
  simp only [Bool.and_eq_true, List.all_eq_true, decide_eq_true_eq]
  exact ⟨h2, h1⟩
section
variable {β : Type} {s : Sx} {R : β → Sx → Prop}
theorem tk_take (h : OkWs s.ws) : Lo takeP s (fun w t => OkW w ∧ Tk 1 s t) := fun w t e => by
  obtain ⟨h1, h2, h3⟩ := takeP_ok e h
  exact ⟨h1, h2, by rw [h3]; simp⟩
theorem tk_tail (h : OkWs s.ws) {t : Bs} (hb : isB s.ws t = true) : Tk 1 s { s with ws := s.ws.tail } := by
  cases hw : s.ws with
  | nil => rw [hw] at hb; cases hb
  | cons x l => rw [hw] at h; exact ⟨h.tail, by rw [hw]; simp⟩
theorem tk_must (h : OkWs s.ws) (t : Bs) : Lo (mustP t) s (fun _ u => Tk 1 s u) := fun a u e => by
  unfold mustP at e
  split at e
  · rename_i hb; cases e; exact tk_tail h hb
  · cases e
theorem tk_name (h : OkWs s.ws) : Lo nameP s (fun n u => n.length ≤ 65536 ∧ ascB n = true ∧ Tk 1 s u) := fun n u e => by
  obtain ⟨h1, h2⟩ := nameP_len e h
  refine ⟨h1, ascB_of (by omega) h2, ?_⟩
  unfold nameP at e
  cases hw : s.ws with
  | nil => rw [hw] at e; cases e
  | cons x l =>
    rw [hw] at e h
    simp only at e
    split at e
    · cases e; exact ⟨h.tail, by rw [hw]; simp⟩
    · cases e
theorem Lo.mayK {t : Bs} {h : Bool → Pr β} (hw : OkWs s.ws) (h1 : ∀ u, Tk 1 s u → Lo (h true) u R) (h0 : Lo (h false) s R) : Lo (mayP t >>= h) s R := by
  intro b u e
  cases hb : isB s.ws t
  · rw [bind_ok (show mayP t s = .ok false s by unfold mayP; simp [hb])] at e
    exact h0 b u e
  · rw [bind_ok (show mayP t s = .ok true { s with ws := s.ws.tail } by unfold mayP; simp [hb])] at e
    exact h1 _ (tk_tail hw hb) b u e
theorem Lo.deepK {α : Type} {g : Pr α} {Q : α → Sx → Prop} (hg : Lo g s.down (fun a t => Q a t.up)) : Lo (deepP g) s Q := by
  intro a t e
  unfold deepP at e
  cases x : g s.down with
  | out => rw [x] at e; cases e
  | bad u => rw [x] at e; cases e
  | ok b u => rw [x] at e; cases e; exact hg _ _ x
theorem tk_stars (h : OkWs s.ws) (b : Bs) : Lo (starsP b) s (fun t u => (∀ c ∈ t, c ∈ b ∨ c = 42) ∧ Tk 0 s u) := fun t u e => by
  unfold starsP at e
  cases e
  refine ⟨fun c hc => ?_, h.drop _, by simp⟩
  rcases List.mem_append.1 hc with hc | hc
  · exact .inl hc
  · exact .inr (List.eq_of_mem_replicate hc)
theorem tk_typ (h : OkWs s.ws) : Lo typP s (fun t u => t.length ≤ 200000 ∧ ascB t = true ∧ Tk 1 s u) := fun t u e => by
  have hl := typ_len e h
  have key : Lo typP s (fun t u => (∀ c ∈ t, c.toNat < 128) ∧ Tk 1 s u) := by
    unfold typP
    refine Lo.ask rfl ?_
    split
    · refine Lo.bind (tk_take h) (fun w u hu => ?_)
      split
      · refine Lo.bind (tk_name hu.2.1) (fun n v hv => ?_)
        refine (tk_stars hv.2.2.1 _).mono (fun t x hx => ⟨fun c hc => ?_, hx.2.1, by have := hx.2.2; have := hv.2.2.2; have := hu.2.2; omega⟩)
        rcases hx.1 c hc with hc | rfl
        · rcases List.mem_append.1 hc with hc | hc
          · have : ∀ c ∈ ([115, 116, 114, 117, 99, 116, 32] : Bs), c.toNat < 128 := by decide
            exact this c hc
          · exact ascB_asc hv.2.1 c hc
        · decide
      · refine (tk_stars hu.2.1 _).mono (fun t x hx => ⟨fun c hc => ?_, hx.2.1, by have := hx.2.2; have := hu.2.2; omega⟩)
        rcases hx.1 c hc with hc | rfl
        · exact hu.1.a c hc
        · decide
    · exact Lo.fail
  exact ⟨hl, ascB_of (by omega) (key _ _ e).1, (key _ _ e).2⟩
theorem digits_low (u : Nat) : ∀ c ∈ Lib.decDigits u, c.toNat < 128 := by
  induction u using Nat.strongRecOn with
  | _ u ih =>
    intro c hc
    have h1 : ∀ k : Nat, k < 10 → (UInt8.ofNat (48 + k)).toNat < 128 := by decide
    rw [Lib.decDigits] at hc
    split at hc
    · rename_i h
      rw [List.mem_singleton.1 hc]
      exact h1 u h
    · rename_i h
      rcases List.mem_append.1 hc with hc | hc
      · exact ih (u / 10) (by omega) c hc
      · rw [List.mem_singleton.1 hc]
        exact h1 _ (Nat.mod_lt _ (by decide))
theorem itoaA_low (n : Int) : ∀ c ∈ Lib.itoa n, c.toNat < 128 := fun c hc => by
  unfold Lib.itoa at hc
  split at hc
  · rcases List.mem_cons.1 hc with rfl | hc
    · decide
    · exact digits_low _ c hc
  · exact digits_low _ c hc
theorem tk_array (h : OkWs s.ws) {t : Bs} (ht : t.length ≤ 200000) (ha : ascB t = true) : Lo (arrayP t) s (fun t' u => t'.length ≤ 200100 ∧ ascB t' = true ∧ Tk 0 s u) := by
  unfold arrayP
  refine Lo.mayK h (fun u hu => ?_) (Lo.pure ⟨by omega, ha, h, by simp⟩)
  simp only [if_true]
  have hn : Lo numP u (fun n v => n.length ≤ 21 ∧ (∀ c ∈ n, c.toNat < 128) ∧ Tk 1 u v) := fun n v e => by
    unfold numP at e
    cases hw : u.ws with
    | nil => rw [hw] at e; cases e
    | cons x l =>
      have h1 := hu.1
      rw [hw] at e h1
      simp only at e
      split at e
      · cases e
        have hx := h1.2 x (by simp)
        exact ⟨Lib.itoa_length_le _ hx.n1 hx.n2, itoaA_low _, h1.tail, by rw [hw]; simp⟩
      · cases e
  refine Lo.bind hn (fun n v hv => Lo.bind (tk_must hv.2.2.1 _) (fun _ x hx => Lo.pure ?_))
  have h1 := hu.2
  have h2 := hv.2.2.2
  have h3 := hx.2
  have h4 := hv.1
  refine ⟨?_, ascB_of ?_ ?_, hx.1, by omega⟩
  · simp only [List.length_append, List.length_cons, List.length_nil]; omega
  · simp only [List.length_append, List.length_cons, List.length_nil]; omega
  · intro c hc
    simp only [List.mem_append, List.mem_cons, List.not_mem_nil, or_false] at hc
    rcases hc with ((hc | rfl) | hc) | rfl
    · exact ascB_asc ha c hc
    · decide
    · exact hv.2.1 c hc
    · decide
end
theorem tk_expr {k n : Int} {op nm ty : Bs} {args : List Ex} {s : Sx} {Q : Ex → Sx → Prop} (H : ∀ tl t, t.ws = s.ws → Q (.mk k op nm n ty (.of args) tl) t) : Lo (exprP k op nm n ty args) s Q := fun e t x => by
  unfold exprP at x
  cases x
  exact H _ _ rfl
theorem okEs_of : ∀ {l : List Ex}, (∀ e ∈ l, okE e = true) → okEs (.of l) = true
  | [], _ => rfl
  | e :: l, h => by
    show okEs (.cons e (.of l)) = true
    unfold okEs
    rw [h e (by simp), okEs_of (fun x hx => h x (by simp [hx]))]
    rfl
theorem textsE_of : ∀ l : List Ex, textsE (.of l) = l.map textE
  | [] => rfl
  | e :: l => by
    show textsE (.cons e (.of l)) = _
    unfold textsE
    rw [textsE_of l]
    rfl
def sumT (l : List Ex) : Nat := (l.map fun e => (textE e).length + 4).sum
theorem commasT_len (l : List Bs) : (jn (commas l)).length ≤ (l.map fun t => t.length + 4).sum := by
  have := jn_len (commas l)
  cases l with
  | nil => simp [commas, jn, Lib.join, List.intercalate]
  | cons t l =>
    rw [if_neg (by simp [commas])] at this
    have h2 : ∀ l : List Bs, ((l.flatMap fun x => [[44], x]).map fun x => x.length + 1).sum ≤ (l.map fun t => t.length + 4).sum := fun l => by
      induction l with
      | nil => simp
      | cons y l ih => simp only [List.flatMap_cons, List.map_append, List.sum_append, List.map_cons, List.sum_cons, List.map_nil, List.sum_nil, List.length_cons, List.length_nil] at ih ⊢; omega
    have h3 := h2 l
    simp only [commas, List.map_cons, List.sum_cons] at this h3 ⊢
    have h4 : (List.map (fun x : Bs => x.length + 1) (List.flatMap (fun x => [[44], x]) l)).sum = (List.map (fun x : List UInt8 => x.length + 1) (List.flatMap (fun x => [[44], x]) l)).sum := rfl
    omega
theorem callT_len (nm inner : Bs) : (callT nm inner).length ≤ nm.length + inner.length + 10 := by
  unfold callT
  split
  · have := jn_len [nm, [40], [41]]; simp at this; omega
  · have := jn_len [nm, [40], inner, [41]]; simp at this; omega
theorem jn4_len (a b c d : Bs) : (jn [a, b, c, d]).length = a.length + b.length + c.length + d.length + 3 := by
  have := jn_len [a, b, c, d]; simp at this; omega
theorem jn3_len (a b c : Bs) : (jn [a, b, c]).length = a.length + b.length + c.length + 2 := by
  have := jn_len [a, b, c]; simp at this; omega
theorem jn5_len (a b c d e : Bs) : (jn [a, b, c, d, e]).length = a.length + b.length + c.length + d.length + e.length + 4 := by
  have := jn_len [a, b, c, d, e]; simp at this; omega
theorem jn6_len (a b c d e f : Bs) : (jn [a, b, c, d, e, f]).length = a.length + b.length + c.length + d.length + e.length + f.length + 5 := by
  have := jn_len [a, b, c, d, e, f]; simp at this; omega
def Fe (M : Nat) (e : Ex) (t : Sx) : Prop := okE e = true ∧ OkWs t.ws ∧ (textE e).length + 1000000 * t.ws.length ≤ M
structure FairE (f : Nat) : Prop where
  binary : ∀ lev s M, OkWs s.ws → 1000000 * s.ws.length ≤ M → Lo (binaryP f lev) s (Fe M)
  bloop : ∀ lev e s M, OkWs s.ws → okE e = true → (textE e).length + 1000000 * s.ws.length ≤ M → Lo (binLoop f lev e) s (Fe M)
  unary : ∀ s M, OkWs s.ws → 1000000 * s.ws.length ≤ M → Lo (unaryP f) s (Fe M)
  post : ∀ s M, OkWs s.ws → 1000000 * s.ws.length ≤ M → Lo (postfixP f) s (Fe M)
  ploop : ∀ e s M, OkWs s.ws → okE e = true → (textE e).length + 1000000 * s.ws.length ≤ M → Lo (postLoop f e) s (Fe M)
  primary : ∀ s M, OkWs s.ws → 1000000 * s.ws.length ≤ M → Lo (primaryP f) s (Fe M)
  within : ∀ s M, OkWs s.ws → 1000000 * s.ws.length ≤ M → Lo (withinP f) s (Fe M)
  args : ∀ more l s M, OkWs s.ws → (∀ e ∈ l, okE e = true) → sumT l + 1000000 * s.ws.length ≤ M → Lo (argsP f more l) s (fun l' t => (∀ e ∈ l', okE e = true) ∧ OkWs t.ws ∧ sumT l' + 1000000 * t.ws.length ≤ M)
theorem asc_nil : ascB [] = true := rfl
theorem fe_mk {M : Nat} {k n : Int} {op nm ty : Bs} {args : List Ex} {s : Sx} (hs : OkWs s.ws) (hk : 1 ≤ k ∧ k ≤ 11) (hn : -9223372036854775808 ≤ n ∧ n ≤ 9223372036854775807) (hty : ascB ty = true) (hnm : ascB nm = true)
    (hc : (if k = 3 ∨ k = 5 ∨ k = 8 ∨ k = 9 then args.length = 1 else if k = 4 ∨ k = 7 then args.length = 2 else True)) (ha : ∀ e ∈ args, okE e = true) (hl : ∀ tl, (textE (.mk k op nm n ty (.of args) tl)).length + 1000000 * s.ws.length ≤ M) : Lo (exprP k op nm n ty args) s (Fe M) := by
  refine tk_expr (fun tl t ht => ⟨?_, by rw [ht]; exact hs, by rw [ht]; exact hl tl⟩)
  unfold okE
  rw [okEs_of ha, hty, hnm, textsE_of, List.length_map]
  simp only [Bool.and_eq_true, decide_eq_true_eq, Bool.and_true]
  refine ⟨⟨⟨⟨hk.1, hk.2⟩, hn.1⟩, hn.2⟩, ?_⟩
  split
  · rename_i h; rw [if_pos h] at hc; simpa using hc
  · rename_i h
    rw [if_neg h] at hc
    split
    · rename_i h2; rw [if_pos h2] at hc; simpa using hc
    · rfl
theorem fairE : ∀ f, FairE f
  | 0 => by constructor <;> intros <;> exact Lo.out
  | f + 1 => by
    have ih := fairE f
    constructor
    · intro lev s M hw hM
      unfold binaryP
      exact Lo.bind (ih.unary s M hw hM) (fun e t ht => ih.bloop lev e t M ht.2.1 ht.1 ht.2.2)
    · intro lev e s M hw he hM
      unfold binLoop
      refine Lo.ask rfl ?_
      split
      · exact Lo.pure ⟨he, hw, hM⟩
      · refine Lo.bind (tk_take hw) (fun w t ht => ?_)
        have h1 := ht.2.2
        refine Lo.bind (ih.binary _ t _ ht.2.1 (Nat.le_refl _)) (fun r u hu => ?_)
        have h2 := hu.2.2
        have h3 := ht.1.t
        refine Lo.bind (Q := Fe M) (fe_mk hu.2.1 (by decide) (by decide) asc_nil asc_nil (by simp) (by intro x hx; simp at hx; rcases hx with rfl | rfl; exact he; exact hu.1) (fun tl => ?_)) (fun e' v hv => ih.bloop lev e' v M hv.2.1 hv.1 hv.2.2)
        unfold textE
        simp only [textsE_of, List.map_cons, List.map_nil, List.getD_cons_zero, List.getD_cons_succ]
        simp only [show ¬ (4 : Int) = 1 by decide, show ¬ (4 : Int) = 2 by decide, show ¬ (4 : Int) = 3 by decide, if_false, if_true]
        rw [jn5_len]
        simp only [List.length_cons, List.length_nil]
        omega
    · intro s M hw hM
      unfold unaryP
      refine Lo.deepK ?_
      refine Lo.ask rfl ?_
      split
      · refine Lo.bind (tk_take (s := s.down) hw) (fun w t ht => ?_)
        have h1 : t.ws.length + 1 ≤ s.ws.length := ht.2.2
        refine Lo.bind (ih.unary t _ ht.2.1 (Nat.le_refl _)) (fun r u hu => ?_)
        have h2 := hu.2.2
        have h3 := ht.1.t
        refine fe_mk (M := M) hu.2.1 (by decide) (by decide) asc_nil asc_nil (by simp) (by intro x hx; simp at hx; subst hx; exact hu.1) (fun tl => ?_)
        unfold textE
        simp only [textsE_of, List.map_cons, List.map_nil, List.getD_cons_zero]
        simp only [show ¬ (3 : Int) = 1 by decide, show ¬ (3 : Int) = 2 by decide, if_false, if_true]
        rw [jn4_len]
        simp only [List.length_cons, List.length_nil]
        omega
      · refine Lo.ask rfl ?_
        split
        · refine Lo.bind (tk_take (s := s.down) hw) (fun w t ht => ?_)
          have h1 : t.ws.length + 1 ≤ s.ws.length := ht.2.2
          refine Lo.bind (tk_typ ht.2.1) (fun ty t2 ht2 => ?_)
          refine Lo.bind (tk_must ht2.2.2.1 _) (fun _ t3 ht3 => ?_)
          refine Lo.bind (ih.unary t3 _ ht3.1 (Nat.le_refl _)) (fun r u hu => ?_)
          have h2 := hu.2.2
          have h3 := ht2.1
          have h4 := ht2.2.2.2
          have h5 := ht3.2
          have h6 := typedT_le ty
          refine fe_mk (M := M) hu.2.1 (by decide) (by decide) ht2.2.1 asc_nil (by simp) (by intro x hx; simp at hx; subst hx; exact hu.1) (fun tl => ?_)
          unfold textE
          simp only [textsE_of, List.map_cons, List.map_nil, List.getD_cons_zero]
          simp only [show ¬ (5 : Int) = 1 by decide, show ¬ (5 : Int) = 2 by decide, show ¬ (5 : Int) = 3 by decide, show ¬ (5 : Int) = 4 by decide, if_false, if_true]
          rw [jn6_len]
          simp only [List.length_cons, List.length_nil]
          omega
        · exact ih.post s.down M hw hM
    · intro s M hw hM
      unfold postfixP
      exact Lo.bind (ih.primary s M hw hM) (fun e t ht => ih.ploop e t M ht.2.1 ht.1 ht.2.2)
    · intro e s M hw he hM
      unfold postLoop
      refine Lo.mayK hw (fun t ht => ?_) ?_
      · simp only [if_true]
        have h1 := ht.2
        refine Lo.bind (ih.binary 0 t _ ht.1 (Nat.le_refl _)) (fun i u hu => ?_)
        have h2 := hu.2.2
        refine Lo.bind (tk_must hu.2.1 _) (fun _ v hv => ?_)
        have h3 := hv.2
        refine Lo.bind (Q := Fe M) (fe_mk hv.1 (by decide) (by decide) asc_nil asc_nil (by simp) (by intro x hx; simp at hx; rcases hx with rfl | rfl; exact he; exact hu.1) (fun tl => ?_)) (fun e' v hv => ih.ploop e' v M hv.2.1 hv.1 hv.2.2)
        unfold textE
        simp only [textsE_of, List.map_cons, List.map_nil, List.getD_cons_zero, List.getD_cons_succ]
        simp only [show ¬ (7 : Int) = 1 by decide, show ¬ (7 : Int) = 2 by decide, show ¬ (7 : Int) = 3 by decide, show ¬ (7 : Int) = 4 by decide, show ¬ (7 : Int) = 5 by decide, show ¬ (7 : Int) = 6 by decide, if_false, if_true]
        rw [jn4_len]
        simp only [List.length_cons, List.length_nil]
        omega
      · simp only [Bool.false_eq_true, if_false]
        refine Lo.mayK hw (fun t ht => ?_) ?_
        · simp only [if_true]
          have h1 := ht.2
          refine Lo.bind (tk_name ht.1) (fun n u hu => ?_)
          have h2 := hu.1
          have h3 := hu.2.2.2
          refine Lo.bind (Q := Fe M) (fe_mk hu.2.2.1 (by decide) (by decide) asc_nil hu.2.1 (by simp) (by intro x hx; simp at hx; subst hx; exact he) (fun tl => ?_)) (fun e' v hv => ih.ploop e' v M hv.2.1 hv.1 hv.2.2)
          unfold textE
          simp only [textsE_of, List.map_cons, List.map_nil, List.getD_cons_zero]
          simp only [show ¬ (8 : Int) = 1 by decide, show ¬ (8 : Int) = 2 by decide, show ¬ (8 : Int) = 3 by decide, show ¬ (8 : Int) = 4 by decide, show ¬ (8 : Int) = 5 by decide, show ¬ (8 : Int) = 6 by decide, show ¬ (8 : Int) = 7 by decide, if_false, if_true]
          rw [jn3_len]
          simp only [List.length_cons, List.length_nil]
          omega
        · simp only [Bool.false_eq_true, if_false]
          refine Lo.mayK hw (fun t ht => ?_) ?_
          · simp only [if_true]
            have h1 := ht.2
            refine Lo.bind (tk_name ht.1) (fun n u hu => ?_)
            have h2 := hu.1
            have h3 := hu.2.2.2
            refine Lo.bind (Q := Fe M) (fe_mk hu.2.2.1 (by decide) (by decide) asc_nil hu.2.1 (by simp) (by intro x hx; simp at hx; subst hx; exact he) (fun tl => ?_)) (fun e' v hv => ih.ploop e' v M hv.2.1 hv.1 hv.2.2)
            unfold textE
            simp only [textsE_of, List.map_cons, List.map_nil, List.getD_cons_zero]
            simp only [show ¬ (9 : Int) = 1 by decide, show ¬ (9 : Int) = 2 by decide, show ¬ (9 : Int) = 3 by decide, show ¬ (9 : Int) = 4 by decide, show ¬ (9 : Int) = 5 by decide, show ¬ (9 : Int) = 6 by decide, show ¬ (9 : Int) = 7 by decide, show ¬ (9 : Int) = 8 by decide, if_false, if_true]
            rw [jn3_len]
            simp only [List.length_cons, List.length_nil]
            omega
          · simp only [Bool.false_eq_true, if_false]
            exact Lo.pure ⟨he, hw, hM⟩
    · intro s M hw hM
      unfold primaryP
      refine Lo.ask rfl ?_
      split
      · exact ih.within s M hw hM
      · refine Lo.mayK hw (fun t ht => ?_) ?_
        · simp only [if_true]
          have h1 := ht.2
          refine Lo.bind (tk_must ht.1 _) (fun _ t2 ht2 => Lo.bind (tk_must ht2.1 _) (fun _ t3 ht3 => ?_))
          have h2 := ht2.2
          have h3 := ht3.2
          refine fe_mk (M := M) ht3.1 (by decide) (by decide) asc_nil asc_nil (by decide) (by simp) (fun tl => ?_)
          unfold textE
          simp only [show ¬ (10 : Int) = 1 by decide, show ¬ (10 : Int) = 2 by decide, show ¬ (10 : Int) = 3 by decide, show ¬ (10 : Int) = 4 by decide, show ¬ (10 : Int) = 5 by decide, show ¬ (10 : Int) = 6 by decide, show ¬ (10 : Int) = 7 by decide, show ¬ (10 : Int) = 8 by decide, show ¬ (10 : Int) = 9 by decide, if_false, if_true]
          have h4 := callT_len [105, 110] []
          simp only [List.length_cons, List.length_nil] at h4
          omega
        · simp only [Bool.false_eq_true, if_false]
          refine Lo.mayK hw (fun t ht => ?_) ?_
          · simp only [if_true]
            have h1 := ht.2
            refine Lo.bind (tk_must ht.1 _) (fun _ t2 ht2 => Lo.bind (tk_typ ht2.1) (fun ty t3 ht3 => Lo.bind (tk_array ht3.2.2.1 ht3.1 ht3.2.1) (fun ty2 t4 ht4 => Lo.bind (tk_must ht4.2.2.1 _) (fun _ t5 ht5 => ?_))))
            have h2 := ht2.2
            have h3 := ht3.2.2.2
            have h4 := ht4.2.2.2
            have h5 := ht5.2
            have h6 := typedT_le ty2
            have h7 := ht4.1
            refine fe_mk (M := M) ht5.1 (by decide) (by decide) ht4.2.1 asc_nil (by decide) (by simp) (fun tl => ?_)
            unfold textE
            simp only [show ¬ (11 : Int) = 1 by decide, show ¬ (11 : Int) = 2 by decide, show ¬ (11 : Int) = 3 by decide, show ¬ (11 : Int) = 4 by decide, show ¬ (11 : Int) = 5 by decide, show ¬ (11 : Int) = 6 by decide, show ¬ (11 : Int) = 7 by decide, show ¬ (11 : Int) = 8 by decide, show ¬ (11 : Int) = 9 by decide, show ¬ (11 : Int) = 10 by decide, if_false]
            have h8 := callT_len [115, 105, 122, 101, 111, 102] (typedT ty2)
            simp only [List.length_cons, List.length_nil] at h8
            omega
          · simp only [Bool.false_eq_true, if_false]
            refine Lo.ask rfl ?_
            split
            · refine Lo.bind (tk_take hw) (fun w t ht => ?_)
              have h1 := ht.2.2
              refine fe_mk (M := M) ht.2.1 (by decide) ⟨ht.1.n1, ht.1.n2⟩ asc_nil asc_nil (by decide) (by simp) (fun tl => ?_)
              unfold textE
              simp only [if_true]
              have h2 := Lib.itoa_length_le _ ht.1.n1 ht.1.n2
              omega
            · refine Lo.bind (tk_name hw) (fun nm t ht => ?_)
              have h1 := ht.2.2.2
              have h0 := ht.1
              refine Lo.mayK ht.2.2.1 (fun t2 ht2 => ?_) ?_
              · simp only [if_true]
                have h2 := ht2.2
                have key : ∀ m t3, Tk 0 t2 t3 → Lo (do
                    let args ← argsP f m []
                    exprP 6 [] nm 0 [] args) t3 (Fe M) := by
                  intro m t3 ht3
                  have h3 := ht3.2
                  refine Lo.bind (ih.args m [] t3 (1000000 * t3.ws.length) ht3.1 (by simp) (by simp [sumT])) (fun l u hu => ?_)
                  have h4 := hu.2.2
                  refine fe_mk (M := M) hu.2.1 (by decide) (by decide) asc_nil ht.2.1 (by simp) hu.1 (fun tl => ?_)
                  unfold textE
                  simp only [show ¬ (6 : Int) = 1 by decide, show ¬ (6 : Int) = 2 by decide, show ¬ (6 : Int) = 3 by decide, show ¬ (6 : Int) = 4 by decide, show ¬ (6 : Int) = 5 by decide, if_false, if_true, textsE_of]
                  have h5 := commasT_len (l.map textE)
                  have h6 := callT_len nm (jn (commas (l.map textE)))
                  have h7 : ((l.map textE).map fun t => t.length + 4).sum = sumT l := by unfold sumT; rw [List.map_map]; rfl
                  omega
                exact Lo.mayK ht2.1 (fun t3 ht3 => key _ t3 ⟨ht3.1, by have := ht3.2; omega⟩) (key _ t2 ⟨ht2.1, by omega⟩)
              · simp only [Bool.false_eq_true, if_false]
                refine fe_mk (M := M) ht.2.2.1 (by decide) (by decide) asc_nil ht.2.1 (by decide) (by simp) (fun tl => ?_)
                unfold textE
                simp only [show ¬ (2 : Int) = 1 by decide, if_false, if_true]
                omega
    · intro s M hw hM
      unfold withinP
      refine Lo.bind (tk_must hw _) (fun _ t ht => ?_)
      have h1 := ht.2
      refine Lo.bind (ih.binary 0 t M ht.1 (by omega)) (fun e u hu => ?_)
      have h2 := hu.2.2
      refine Lo.bind (tk_must hu.2.1 _) (fun _ v hv => Lo.pure ⟨hu.1, hv.1, ?_⟩)
      have h3 := hv.2
      omega
    · intro more l s M hw hl hM
      unfold argsP
      cases more
      · simp only [Bool.false_eq_true, if_false]
        exact Lo.pure ⟨hl, hw, hM⟩
      · simp only [if_true]
        refine Lo.bind (ih.binary 0 s _ hw (Nat.le_refl _)) (fun e u hu => ?_)
        have h1 := hu.2.2
        have hok : ∀ x ∈ l ++ [e], okE x = true := fun x hx => by
          rcases List.mem_append.1 hx with hx | hx
          · exact hl x hx
          · rw [List.mem_singleton.1 hx]; exact hu.1
        have hs : sumT (l ++ [e]) = sumT l + ((textE e).length + 4) := by simp [sumT]
        refine Lo.mayK hu.2.1 (fun t ht => ?_) ?_
        · simp only [if_true]
          have h2 := ht.2
          exact ih.args true (l ++ [e]) t M ht.1 hok (by omega)
        · simp only [Bool.false_eq_true, if_false]
          refine Lo.bind (tk_must hu.2.1 _) (fun _ t ht => ?_)
          have h2 := ht.2
          exact ih.args false (l ++ [e]) t M ht.1 hok (by omega)
end Go.Proofs.YtjgpbpmicopemaaGreatDoor

namespace Go.Proofs.YtjgpbpmicopemaaGreatDoor
open Go.RowKit
def Le {α : Type} (g g' : Pr α) : Prop := ∀ s, g s = .out ∨ g' s = g s
section
variable {α β : Type} {g g' : Pr α} {h h' : α → Pr β}
theorem Le.refl (g : Pr α) : Le g g := fun _ => .inr rfl
theorem Le.out : Le (fun _ => .out) g := fun _ => .inl rfl
theorem Le.bind (hg : Le g g') (hh : ∀ a, Le (h a) (h' a)) : Le (g >>= h) (g' >>= h') := by
  intro s
  rcases hg s with e | e
  · exact .inl (bind_out e)
  · cases x : g s with
    | out => exact .inl (bind_out x)
    | bad t => rw [x] at e; exact .inr (by rw [bind_bad e, bind_bad x])
    | ok a t => rw [x] at e; rw [bind_ok e, bind_ok x]; exact hh a t
theorem Le.deep (hg : Le g g') : Le (deepP g) (deepP g') := by
  intro s
  unfold deepP
  rcases hg s.down with e | e
  · exact .inl (by rw [e])
  · exact .inr (by rw [e])
theorem Le.ask {γ : Type} {q : Pr γ} {h h' : γ → Pr β} (hh : ∀ b, Le (h b) (h' b)) : Le (q >>= h) (q >>= h') := Le.bind (Le.refl q) hh
theorem Le.ite {c : Prop} [Decidable c] {a a' b b' : Pr α} (h1 : Le a a') (h2 : Le b b') : Le (if c then a else b) (if c then a' else b') := by
  split
  · exact h1
  · exact h2
end
structure LeE (f : Nat) : Prop where
  binary : ∀ lev, Le (binaryP f lev) (binaryP (f + 1) lev)
  bloop : ∀ lev e, Le (binLoop f lev e) (binLoop (f + 1) lev e)
  unary : Le (unaryP f) (unaryP (f + 1))
  post : Le (postfixP f) (postfixP (f + 1))
  ploop : ∀ e, Le (postLoop f e) (postLoop (f + 1) e)
  primary : Le (primaryP f) (primaryP (f + 1))
  within : Le (withinP f) (withinP (f + 1))
  args : ∀ more l, Le (argsP f more l) (argsP (f + 1) more l)
theorem leE : ∀ f, LeE f
  | 0 => by
    constructor
    · intro lev s; exact .inl rfl
    · intro lev e s; exact .inl rfl
    · intro s; exact .inl rfl
    · intro s; exact .inl rfl
    · intro e s; exact .inl rfl
    · intro s; exact .inl rfl
    · intro s; exact .inl rfl
    · intro m l s; exact .inl rfl
  | f + 1 => by
    have ih := leE f
    constructor
    · intro lev
      unfold binaryP
      exact Le.bind ih.unary (fun e => ih.bloop lev e)
    · intro lev e
      unfold binLoop
      exact Le.ask (fun n => Le.ite (Le.refl _) (Le.ask fun w => Le.bind (ih.binary _) (fun r => Le.ask fun e' => ih.bloop lev e')))
    · unfold unaryP
      exact Le.deep (Le.ask fun b => Le.ite (Le.ask fun w => Le.bind ih.unary (fun a => Le.refl _)) (Le.ask fun c => Le.ite (Le.ask fun w => Le.ask fun t => Le.ask fun _ => Le.bind ih.unary (fun a => Le.refl _)) ih.post))
    · unfold postfixP
      exact Le.bind ih.primary (fun e => ih.ploop e)
    · intro e
      unfold postLoop
      exact Le.ask fun b => Le.ite (Le.bind (ih.binary 0) (fun i => Le.ask fun _ => Le.ask fun e' => ih.ploop e')) (Le.ask fun c => Le.ite (Le.ask fun n => Le.ask fun e' => ih.ploop e') (Le.ask fun d => Le.ite (Le.ask fun n => Le.ask fun e' => ih.ploop e') (Le.refl _)))
    · unfold primaryP
      exact Le.ask fun a => Le.ite ih.within (Le.ask fun b => Le.ite (Le.refl _) (Le.ask fun c => Le.ite (Le.refl _) (Le.ask fun d => Le.ite (Le.refl _) (Le.ask fun nm => Le.ask fun x => Le.ite (Le.ask fun m => Le.bind (ih.args _ _) (fun l => Le.refl _)) (Le.refl _)))))
    · unfold withinP
      exact Le.ask fun _ => Le.bind (ih.binary 0) (fun e => Le.refl _)
    · intro more l
      unfold argsP
      exact Le.ite (Le.bind (ih.binary 0) (fun e => Le.ask fun b => Le.ite (ih.args _ _) (Le.ask fun _ => ih.args _ _))) (Le.refl _)
theorem binary_more {f : Nat} {lev : Int} {s : Sx} {e : Ex} {t : Sx} (h : binaryP f lev s = .ok e t) : ∀ k, binaryP (f + k) lev s = .ok e t
  | 0 => h
  | k + 1 => by
    have := binary_more h k
    rcases (leE (f + k)).binary lev s with x | x
    · rw [this] at x; cases x
    · rw [show f + (k + 1) = f + k + 1 from rfl, x, this]
theorem binary_same {f f' : Nat} {lev : Int} {s : Sx} {e : Ex} {t : Sx} (h : binaryP f lev s = .ok e t) (h' : binaryP f' lev s ≠ .out) : binaryP f' lev s = .ok e t := by
  rcases Nat.le_total f f' with hf | hf
  · obtain ⟨k, rfl⟩ := Nat.le.dest hf
    exact binary_more h k
  · obtain ⟨k, rfl⟩ := Nat.le.dest hf
    have key : ∀ k, binaryP (f' + k) lev s = binaryP f' lev s := by
      intro k
      induction k with
      | zero => rfl
      | succ k ih =>
        rcases (leE (f' + k)).binary lev s with x | x
        · rw [ih] at x; exact absurd x h'
        · rw [show f' + (k + 1) = f' + k + 1 from rfl, x, ih]
    rw [← key k]
    exact h
end Go.Proofs.YtjgpbpmicopemaaGreatDoor
