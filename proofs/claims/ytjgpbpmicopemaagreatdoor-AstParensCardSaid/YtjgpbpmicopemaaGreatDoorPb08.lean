import Derived.Test.YtjgpbpmicopemaaGreatDoorPb07
import Derived.Lib.Repeat
import Derived.Lib.ItoaLen
import Derived.Test.YtjgpbpmicopemaaGreatDoorPb06
import Derived.Laws.AppendOwn
import Derived.Deep.RegionHeld3

/-
  The parser's stars, typ, array.
-/
namespace Go.Proofs.YtjgpbpmicopemaaGreatDoor
open Go.RowKit Go.Shelf
set_option maxRecDepth 20000

theorem repeat_star : ∀ n, Lib.repeatL [42] n = List.replicate n 42
  | 0 => rfl
  | n + 1 => by
    show [42] ++ Lib.repeatL [42] n = _
    rw [repeat_star n]
    rfl
theorem starN_le : ∀ ws : List It, starN ws ≤ ws.length
  | [] => Nat.le_refl _
  | x :: xs => by
    unfold starN
    have := starN_le xs
    split
    · simp only [List.length_cons]; omega
    · omega
theorem starN_drop : ∀ (ws : List It) (k : Nat), k ≤ starN ws → starN (ws.drop k) = starN ws - k
  | [], k, h => by simp [starN]
  | x :: xs, 0, h => rfl
  | x :: xs, k + 1, h => by
    unfold starN at h
    split at h
    · rename_i hb
      have := starN_drop xs k (by omega)
      simp only [List.drop_succ_cons]
      rw [this]
      conv => rhs; unfold starN
      rw [if_pos hb]
      omega
    · omega
theorem starN_is (ws : List It) : isB ws [42] = decide (0 < starN ws) := by
  cases ws with
  | nil => rfl
  | cons x xs =>
    unfold starN
    cases hb : isB (x :: xs) [42] <;> simp
set_option maxHeartbeats 1000000 in
theorem starsZ (p : Nat) (E : Int × Int) (s : Sx) (b : Bs) (w : World) (h : PrAt w p E s) (hb : b.length ≤ 200000) : Calls Tryz.prog 54 #[.pointer (some ⟨p, 0, none⟩), str b] w (Post p E w (fun _ _ v t => v = str t) (starsP b s)) := by
  have hws := h.kind.1
  have hle := starN_le s.ws
  have Cm := fun s' w' h' => mayZ p E s' [42] w' h'
  unfold str at *
  go_enter Tryz.func54, Tryz.ntmps54
  go_wp2_with fail
  go_loopg [5] (starN s.ws + 1) (fun g s5 wr => ∃ k : Nat, k ≤ starN s.ws ∧ starN s.ws - k + 1 ≤ g ∧ s5 = .int .i64 k ∧ PrAt wr p E { s with ws := s.ws.drop k } ∧ Mv (fun k => k = p) w wr)
  case atStart => exact ⟨0, by omega, by omega, rfl, h, Mv.refl _ _⟩
  case round =>
    obtain ⟨k, hk, hg, rfl, hP, hm⟩ := hrel
    have C1 := Cm _ _ hP
    have hN := starN_drop s.ws k hk
    have hS := starN_is (s.ws.drop k)
    unfold mayP at C1
    simp only at C1
    by_cases hlt : k < starN s.ws
    · rw [hS, hN] at C1
      simp only [show 0 < starN s.ws - k by omega, decide_true, if_true] at C1
      go_wp2_with fail
      refine C1.mono ?_
      rintro e w1 ⟨hm1, hP1, v, rfl, rfl⟩
      go_wp2_with fail
      go_roundg (starN s.ws - k)
      case measure => omega
      case rel => exact ⟨k + 1, by omega, by omega, by simp, by simpa using hP1, hm.trans hm1⟩
    · rw [hS, hN] at C1
      obtain rfl : k = starN s.ws := by omega
      simp only [show ¬ 0 < starN s.ws - starN s.ws by omega, decide_false, Bool.false_eq_true, if_false] at C1
      have C2 := fun w' => Tryz.strings_Repeat ⟨#[42]⟩ (starN s.ws) w' (by omega) (by simp [ByteArray.size]; omega)
      go_wp2_with fail
      refine C1.mono ?_
      rintro e w1 ⟨hm1, hP1, v, rfl, rfl⟩
      go_wp2_with fail
      refine (C2 _).mono ?_
      rintro e w2 ⟨rfl, hb2⟩
      have hlen : b.length + starN s.ws ≤ 9223372036854775807 := by omega
      have hrep : (Lib.repeatL [42] (starN s.ws)).length = starN s.ws := by rw [repeat_star]; simp
      go_wp2_with fail
      refine bodyPost_ret (v := .string ⟨(b ++ List.replicate (starN s.ws) 42).toArray⟩) (by simp [results, Tryz.results54, go_sem, ByteArray.ext_iff, ByteArray.data_append, repeat_star]) rfl ⟨(hm.trans hm1).trans (Mv.below hb2), ?_, _, rfl, ?_⟩
      · exact hP1.below hb2
      · rfl
theorem nameP_len {s s' : Sx} {t : Bs} (h : nameP s = .ok t s') (hw : OkWs s.ws) : t.length ≤ 65536 ∧ ∀ c ∈ t, c.toNat < 128 := by
  simp only [nameP] at h
  cases hs : s.ws with
  | nil => rw [hs] at h; cases h
  | cons x xs =>
    rw [hs] at h
    simp only at h
    have hx := hw.2 x (by rw [hs]; simp)
    split at h
    · cases h; exact ⟨hx.t, hx.a⟩
    · cases h
set_option maxHeartbeats 2000000 in
theorem typZ (p : Nat) (E : Int × Int) (s : Sx) (w : World) (h : PrAt w p E s) : Calls Tryz.prog 51 #[.pointer (some ⟨p, 0, none⟩)] w (Post p E w (fun _ _ v t => v = str t) (typP s)) := by
  obtain ⟨R, hG⟩ : ∃ R, R = typP s := ⟨_, rfl⟩
  have hno : R ≠ .out := by rw [hG]; exact typ_fine.1
  rw [← hG]
  unfold typP at hG
  rw [bind_ok (rfl : typedP s = .ok (typedB s.ws) s)] at hG
  have C0 := typedZ p E s w h
  have Cf := fun s' w' h' => failZ p E s' w' h'
  have Ct := fun s' w' h' hn => takeZ p E s' w' h' hn
  cases hb : typedB s.ws
  · rw [hb] at hG C0
    simp only [Bool.false_eq_true, if_false] at hG
    go_enter Tryz.func51, Tryz.ntmps51
    go_wp2_with fail
    refine C0.mono ?_
    rintro e w1 ⟨rfl, hb1⟩
    go_wp2_with fail
    refine (Cf _ _ (h.below hb1)).mono ?_
    rintro e w2 ⟨hm2, rfl, hP2⟩
    go_wp2_with fail
    exact ⟨rfl, Post.badly hG ((Mv.below hb1).trans hm2) hP2⟩
  · rw [hb] at hG C0
    simp only [if_true] at hG
    go_enter Tryz.func51, Tryz.ntmps51
    go_wp2_with fail
    refine C0.mono ?_
    rintro e w1 ⟨rfl, hb1⟩
    have hP1 := h.below hb1
    go_wp2_with fail
    refine (Ct _ _ hP1 (typedB_ne hb)).mono ?_
    intro e w2 hq
    obtain ⟨s2, hR, rfl, hP2, hm2⟩ | ⟨x, s2, v, hx2, hG, rfl, rfl, hP2, hm2⟩ := hq.split hG hno
    · go_wp2_with fail
      exact ⟨rfl, Post.badly hR ((Mv.below hb1).trans hm2) hP2⟩
    have hxw : OkW x := by
      simp only [takeP] at hx2
      cases hs : s.ws with
      | nil => rw [hs] at hx2; cases hx2
      | cons y ys => rw [hs] at hx2; cases hx2; exact h.kind.2 _ (by rw [hs]; simp)
    have hfd := field114_1
    unfold str
    by_cases hst : x.d.t = [115, 116, 114, 117, 99, 116]
    · rw [if_pos hst] at hG
      go_wp2_with fail
      refine (nameZ p E s2 _ (hP2.below (belowAlloc _ _))).mono ?_
      intro e w3 hq
      obtain ⟨s3, hR, rfl, hP3, hm3⟩ | ⟨n, s3, v, hx3, hG, rfl, rfl, hP3, hm3⟩ := hq.split hG hno
      · go_wp2_with fail
        exact ⟨rfl, Post.badly hR ((((Mv.below hb1).trans hm2).more _).trans hm3) hP3⟩
      have hn := (nameP_len hx3 hP2.kind).1
      unfold str
      have hlen : 7 + n.length ≤ 9223372036854775807 := by omega
      go_wp2_with fail
      have hC := starsZ p E s3 ([115, 116, 114, 117, 99, 116, 32] ++ n) _ hP3 (by simp; omega)
      refine Calls.mono (by
        have he : (Value.string ((⟨#[115, 116, 114, 117, 99, 116, 32]⟩ : ByteArray) ++ ⟨n.toArray⟩)) = str ([115, 116, 114, 117, 99, 116, 32] ++ n) := by
          unfold str
          simp [ByteArray.ext_iff, ByteArray.data_append]
        rw [he]
        exact hC) ?_
      intro e w4 hq
      have hd := hq.done hG ((((Mv.below hb1).trans hm2).more _).trans hm3) (enc' := fun _ _ v t => v = str t) (fun _ _ h => h)
      cases R with
      | out => exact absurd rfl hno
      | bad s' =>
        obtain ⟨h1, rfl, h3⟩ := hd
        go_wp2_with fail
        exact ⟨rfl, h1, rfl, h3⟩
      | ok t s' =>
        obtain ⟨h1, h3, v, rfl, rfl⟩ := hd
        unfold str
        go_wp2_with fail
        exact bodyPost_ret (v := .string ⟨t.toArray⟩) (by simp [results, Tryz.results51, go_sem]) rfl ⟨h1, h3, _, rfl, rfl⟩
    · rw [if_neg hst] at hG
      have hst' : (x.d.t == [115, 116, 114, 117, 99, 116]) = false := by simpa using hst
      go_wp2_with fail
      refine (starsZ p E s2 x.d.t _ (hP2.below (belowAlloc _ _)) (by have := hxw.t; omega)).mono ?_
      intro e w4 hq
      have hd := hq.done hG (((Mv.below hb1).trans hm2).more _) (enc' := fun _ _ v t => v = str t) (fun _ _ h => h)
      cases R with
      | out => exact absurd rfl hno
      | bad s' =>
        obtain ⟨h1, rfl, h3⟩ := hd
        go_wp2_with fail
        exact ⟨rfl, h1, rfl, h3⟩
      | ok t s' =>
        obtain ⟨h1, h3, v, rfl, rfl⟩ := hd
        unfold str
        go_wp2_with fail
        exact bodyPost_ret (v := .string ⟨t.toArray⟩) (by simp [results, Tryz.results51, go_sem]) rfl ⟨h1, h3, _, rfl, rfl⟩
theorem numP_len {s s' : Sx} {t : Bs} (h : numP s = .ok t s') (hw : OkWs s.ws) : t.length ≤ 21 := by
  simp only [numP] at h
  cases hs : s.ws with
  | nil => rw [hs] at h; cases h
  | cons x xs =>
    rw [hs] at h
    simp only at h
    have hx := hw.2 x (by rw [hs]; simp)
    split at h
    · cases h; exact Lib.itoa_length_le _ hx.n1 hx.n2
    · cases h
theorem takeP_ok {s s' : Sx} {x : It} (h : takeP s = .ok x s') (hw : OkWs s.ws) : OkW x ∧ OkWs s'.ws ∧ s.ws = x :: s'.ws := by
  simp only [takeP] at h
  cases hs : s.ws with
  | nil => rw [hs] at h; cases h
  | cons y ys =>
    rw [hs] at h hw
    cases h
    exact ⟨hw.2 _ (by simp), hw.tail, rfl⟩
theorem OkWs.drop {l : List It} (h : OkWs l) (n : Nat) : OkWs (l.drop n) := ⟨by have := h.1; simp; omega, fun x hx => h.2 x (List.mem_of_mem_drop hx)⟩
theorem typ_len {s s' : Sx} {t : Bs} (h : typP s = .ok t s') (hw : OkWs s.ws) : t.length ≤ 200000 := by
  unfold typP at h
  rw [bind_ok (rfl : typedP s = .ok (typedB s.ws) s)] at h
  cases hb : typedB s.ws
  · rw [hb] at h; simp only [Bool.false_eq_true, if_false] at h; cases h
  rw [hb] at h
  simp only [if_true] at h
  cases hx : takeP s with
  | out => rw [bind_out hx] at h; cases h
  | bad s1 => rw [bind_bad hx] at h; cases h
  | ok x s1 =>
    rw [bind_ok hx] at h
    obtain ⟨h1, h2, h3⟩ := takeP_ok hx hw
    have hl := hw.1
    split at h
    · cases hn : nameP s1 with
      | out => rw [bind_out hn] at h; cases h
      | bad s2 => rw [bind_bad hn] at h; cases h
      | ok n s2 =>
        rw [bind_ok hn] at h
        have h4 := (nameP_len hn h2).1
        have h5 := starN_le s2.ws
        have h6 := Sf.name.2 n s2 hn
        cases h
        simp only [List.length_append, List.length_replicate, List.length_cons, List.length_nil]
        have : s1.ws.length + 1 = s.ws.length := by rw [h3]; simp
        omega
    · have h5 := starN_le s1.ws
      have h7 := h1.t
      cases h
      simp only [List.length_append, List.length_replicate]
      have : s1.ws.length + 1 = s.ws.length := by rw [h3]; simp
      omega
set_option maxHeartbeats 2000000 in
theorem arrayZ (p : Nat) (E : Int × Int) (s : Sx) (t : Bs) (w : World) (h : PrAt w p E s) (ht : t.length ≤ 200000) : Calls Tryz.prog 52 #[.pointer (some ⟨p, 0, none⟩), str t] w (Post p E w (fun _ _ v t => v = str t) (arrayP t s)) := by
  obtain ⟨R, hG⟩ : ∃ R, R = arrayP t s := ⟨_, rfl⟩
  have hno : R ≠ .out := by rw [hG]; exact array_fine.1
  rw [← hG]
  unfold arrayP at hG
  have C1 := mayZ p E s [91] w h
  unfold str at *
  go_enter Tryz.func52, Tryz.ntmps52
  go_wp2_with fail
  refine C1.mono ?_
  intro e w1 hq
  obtain ⟨s1, hR, rfl, hP1, hm1⟩ | ⟨b, s1, v, hx1, hG, rfl, rfl, hP1, hm1⟩ := hq.split hG hno
  · go_wp2_with fail
    exact ⟨rfl, Post.badly hR hm1 hP1⟩
  cases b
  · simp only [Bool.false_eq_true, if_false] at hG
    go_wp2_with fail
    exact bodyPost_ret (v := .string ⟨t.toArray⟩) (by simp [results, Tryz.results52, go_sem]) rfl (Post.well hG hm1 hP1 rfl)
  · simp only [if_true] at hG
    go_wp2_with fail
    refine (numberZ p E s1 _ hP1).mono ?_
    intro e w2 hq
    obtain ⟨s2, hR, rfl, hP2, hm2⟩ | ⟨n, s2, v, hx2, hG, rfl, rfl, hP2, hm2⟩ := hq.split hG hno
    · go_wp2_with fail
      exact ⟨rfl, Post.badly hR (hm1.trans hm2) hP2⟩
    have hn := numP_len hx2 hP1.kind
    unfold str
    go_wp2_with fail
    refine (mustZ p E s2 [93] _ hP2).mono ?_
    intro e w3 hq
    obtain ⟨s3, hR, rfl, hP3, hm3⟩ | ⟨_, s3, v, hx3, hG, rfl, -, hP3, hm3⟩ := hq.split hG hno
    · go_wp2_with fail
      exact ⟨rfl, Post.badly hR ((hm1.trans hm2).trans hm3) hP3⟩
    have q1 : t.length + 1 ≤ 9223372036854775807 := by omega
    have q2 : t.length + 1 + n.length ≤ 9223372036854775807 := by omega
    have q3 : t.length + 1 + n.length + 1 ≤ 9223372036854775807 := by omega
    go_wp2_with fail
    exact bodyPost_ret (v := .string ⟨(t ++ [91] ++ n ++ [93]).toArray⟩) (by simp [results, Tryz.results52, go_sem, ByteArray.ext_iff, ByteArray.data_append]) rfl (Post.well hG ((hm1.trans hm2).trans hm3) hP3 rfl)
end Go.Proofs.YtjgpbpmicopemaaGreatDoor

/-
  Trees and lists of trees in memory: more laws.
-/
namespace Go.Proofs.YtjgpbpmicopemaaGreatDoor
open Go.RowKit Go.Shelf

section
variable {W W' : World} {K K' : Nat → Prop}
theorem ExsAt.get : ∀ {args : List Ex} {bs : List Nat}, ExsAt W K bs (.of args) → bs.length = args.length ∧ ∀ (k : Nat) (e : Ex), args[k]? = some e → ∃ b : Nat, bs[k]? = some b ∧ ExAt W K b e
  | [], [], _ => ⟨rfl, fun k e h => by simp at h⟩
  | [], b :: bs, h => by unfold Exs.of ExsAt at h; exact h.elim
  | e :: l, [], h => by unfold Exs.of ExsAt at h; exact h.elim
  | e :: l, b :: bs, h => by
    unfold Exs.of ExsAt at h
    obtain ⟨h1, h2⟩ := ExsAt.get h.2
    refine ⟨by simp [h1], fun k e' he => ?_⟩
    cases k with
    | zero => simp at he; subst he; exact ⟨b, rfl, h.1⟩
    | succ k => exact h2 k e' (by simpa using he)
theorem ExsAt.snoc {b : Nat} {e : Ex} (hb : ExAt W K b e) : ∀ {args : List Ex} {bs : List Nat}, ExsAt W K bs (.of args) → ExsAt W K (bs ++ [b]) (.of (args ++ [e]))
  | [], [], _ => by
    show ExsAt W K [b] (.cons e .nil)
    unfold ExsAt
    exact ⟨hb, by unfold ExsAt; trivial⟩
  | [], b :: bs, h => by unfold Exs.of ExsAt at h; exact h.elim
  | e :: l, [], h => by unfold Exs.of ExsAt at h; exact h.elim
  | e :: l, b :: bs, h => by
    unfold Exs.of ExsAt at h
    rw [List.cons_append, List.cons_append]
    unfold Exs.of ExsAt
    exact ⟨h.1, ExsAt.snoc hb h.2⟩
theorem StsAt.get : ∀ {args : List St} {bs : List Nat}, StsAt W K bs (.of args) → bs.length = args.length ∧ ∀ (k : Nat) (e : St), args[k]? = some e → ∃ b : Nat, bs[k]? = some b ∧ StAt W K b e
  | [], [], _ => ⟨rfl, fun k e h => by simp at h⟩
  | [], b :: bs, h => by unfold Sts.of StsAt at h; exact h.elim
  | e :: l, [], h => by unfold Sts.of StsAt at h; exact h.elim
  | e :: l, b :: bs, h => by
    unfold Sts.of StsAt at h
    obtain ⟨h1, h2⟩ := StsAt.get h.2
    refine ⟨by simp [h1], fun k e' he => ?_⟩
    cases k with
    | zero => simp at he; subst he; exact ⟨b, rfl, h.1⟩
    | succ k => exact h2 k e' (by simpa using he)
theorem StsAt.snoc {b : Nat} {e : St} (hb : StAt W K b e) : ∀ {args : List St} {bs : List Nat}, StsAt W K bs (.of args) → StsAt W K (bs ++ [b]) (.of (args ++ [e]))
  | [], [], _ => by
    show StsAt W K [b] (.cons e .nil)
    unfold StsAt
    exact ⟨hb, by unfold StsAt; trivial⟩
  | [], b :: bs, h => by unfold Sts.of StsAt at h; exact h.elim
  | e :: l, [], h => by unfold Sts.of StsAt at h; exact h.elim
  | e :: l, b :: bs, h => by
    unfold Sts.of StsAt at h
    rw [List.cons_append, List.cons_append]
    unfold Sts.of StsAt
    exact ⟨h.1, StsAt.snoc hb h.2⟩
theorem ExAt.tall {b : Nat} {e : Ex} (h : ExAt W K b e) : W.cell? ⟨b, 8, none⟩ = some (.int .i64 e.tall) ∧ K b ∧ b < W.heap.size := by
  cases e
  unfold ExAt at h
  obtain ⟨h1, ln, cl, v, bs, h2, h3, h4⟩ := h
  exact ⟨by simp [World.cell?, h2, Ex.tall], h1, heap_lt h2⟩
theorem StAt.tall {b : Nat} {e : St} (h : StAt W K b e) : W.cell? ⟨b, 8, none⟩ = some (.int .i64 e.tall) ∧ K b ∧ b < W.heap.size := by
  cases e
  unfold StAt at h
  obtain ⟨h1, ln, cl, ve, vp, v, bs, h2, h3, h4⟩ := h
  exact ⟨by simp [World.cell?, h2, St.tall], h1, heap_lt h2⟩
theorem PtrsAt.form {T : Nat} {v : Value} {bs : List Nat} (h : PtrsAt W K T v bs) : ∃ a c, v = .slice a bs.length c ∧ bs.length ≤ c ∧ c ≤ maxLen ∧ (bs ≠ [] → ∃ g, a = some ⟨g, 0, none⟩ ∧ K g ∧ g < W.heap.size ∧ ∀ k b, bs[k]? = some b → W.cell? ⟨g, k, none⟩ = some (ptr b)) := by
  obtain ⟨rfl, rfl⟩ | ⟨g, cap, rest, rfl, e3, e4, e5, e6⟩ := h
  · exact ⟨none, 0, rfl, Nat.le_refl _, Nat.zero_le _, fun h => absurd rfl h⟩
  · refine ⟨_, cap, rfl, e4, e5, fun _ => ⟨g, rfl, e3, heap_lt e6, fun k b hk => ?_⟩⟩
    have hl : k < bs.length := by
      rcases Nat.lt_or_ge k bs.length with h | h
      · exact h
      · rw [List.getElem?_eq_none h] at hk; cases hk
    have hg : bs[k] = b := by rw [List.getElem?_eq_getElem hl] at hk; simpa using hk
    unfold World.cell?
    rw [e6]
    simp [List.getElem?_append_left, hl, hg]
/-- all of it lies in the world -/
theorem PtrsAt.within {T : Nat} {v : Value} {bs : List Nat} (h : PtrsAt W K T v bs) : PtrsAt W (fun k => K k ∧ k < W.heap.size) T v bs := by
  obtain h | ⟨g, cap, rest, e1, e3, e4, e5, e6⟩ := h
  · exact .inl h
  · exact .inr ⟨g, cap, rest, e1, ⟨e3, heap_lt e6⟩, e4, e5, e6⟩
mutual
theorem ExAt.within : ∀ {b : Nat} {e : Ex}, ExAt W K b e → ExAt W (fun k => K k ∧ k < W.heap.size) b e
  | b, .mk k op nm n ty args tall, h => by
    unfold ExAt at h ⊢
    obtain ⟨h1, ln, cl, v, bs, h2, h3, h4⟩ := h
    exact ⟨⟨h1, heap_lt h2⟩, ln, cl, v, bs, h2, h3.within, ExsAt.within h4⟩
theorem ExsAt.within : ∀ {bs : List Nat} {e : Exs}, ExsAt W K bs e → ExsAt W (fun k => K k ∧ k < W.heap.size) bs e
  | [], .nil, _ => by unfold ExsAt; trivial
  | b :: bs, .cons e es, h => by
    unfold ExsAt at h ⊢
    exact ⟨ExAt.within h.1, ExsAt.within h.2⟩
  | [], .cons _ _, h => by unfold ExsAt at h; exact h.elim
  | _ :: _, .nil, h => by unfold ExsAt at h; exact h.elim
end
theorem ExO.within {v : Value} : ∀ {e : Option Ex}, ExO W K v e → ExO W (fun k => K k ∧ k < W.heap.size) v e
  | none, h => h
  | some _, ⟨b, e1, e2⟩ => ⟨b, e1, e2.within⟩
mutual
theorem StAt.within : ∀ {b : Nat} {e : St}, StAt W K b e → StAt W (fun k => K k ∧ k < W.heap.size) b e
  | b, .mk k nm ty e pl l tall, h => by
    unfold StAt at h ⊢
    obtain ⟨h1, ln, cl, ve, vp, v, bs, h2, h3, h4, h5, h6⟩ := h
    exact ⟨⟨h1, heap_lt h2⟩, ln, cl, ve, vp, v, bs, h2, h3.within, h4.within, h5.within, StsAt.within h6⟩
theorem StsAt.within : ∀ {bs : List Nat} {e : Sts}, StsAt W K bs e → StsAt W (fun k => K k ∧ k < W.heap.size) bs e
  | [], .nil, _ => by unfold StsAt; trivial
  | b :: bs, .cons e es, h => by
    unfold StsAt at h ⊢
    exact ⟨StAt.within h.1, StsAt.within h.2⟩
  | [], .cons _ _, h => by unfold StsAt at h; exact h.elim
  | _ :: _, .nil, h => by unfold StsAt at h; exact h.elim
end
/-- what a later world has of it: only blocks that were not there, or not within K, changed -/
theorem Keeps.but {X : Nat → Prop} (m : Mv X W W') (h : ∀ k, K k → X k → ¬ k < W.heap.size) : Keeps K W W' := fun k hk hl => m.same k hl (fun hx => h k hk hx hl)
end
theorem Mv.cell {X : Nat → Prop} {W W' : World} (m : Mv X W W') {a : Addr} {v : Value} (h : W.cell? a = some v) (hx : ¬ X a.block) : W'.cell? a = some v := by
  rw [← h]
  exact World.cell?_of_block (m.same a.block (cell_lt h) hx)
section
variable {α β : Type} {p : Nat} {E : Int × Int} {w w1 w' : World} {enc enc' : World → World → Value → α → Prop} {encb : World → World → Value → β → Prop} {R : Re β} {s s' : Sx} {x : Pr α} {k : α → Pr β} {e : Ending} {v : Value}
/-- how a part ended within a bigger one -/
theorem Post.cut (h : Post p E w1 enc (x s) e w') (hG : (x >>= k) s = R) (hno : R ≠ .out) (hm : Mv (fun k => k = p) w w1) :
    (∃ s' : Sx, e = .panicked [{ v := flt (posOf E s'.ws), recovered := false }] ∧ Post p E w encb R (.panicked [{ v := flt (posOf E s'.ws), recovered := false }]) w') ∨
    (∃ a s' v, x s = .ok a s' ∧ k a s' = R ∧ e = .returned v ∧ enc w1 w' v a ∧ PrAt w' p E s' ∧ Mv (fun k => k = p) w w' ∧ Mv (fun k => k = p) w1 w') := by
  have hm0 := h.1
  obtain ⟨s1, hR, rfl, hP1, hm1⟩ | ⟨a, s1, v, hx1, hG, rfl, he, hP1, hm1⟩ := h.split hG.symm hno
  · exact .inl ⟨s1, rfl, Post.badly hR (hm.trans hm1) hP1⟩
  · exact .inr ⟨a, s1, v, hx1, hG.symm, rfl, he, hP1, hm.trans hm1, hm0⟩
theorem ne_cut (hG : (x >>= k) s = R) (hno : R ≠ .out) : x s ≠ .out := ne_left hG.symm hno
theorem Post.wellc {b : β} (h : .ok b s' = R) (hm : Mv (fun k => k = p) w w') (hP : PrAt w' p E s') (he : encb w w' v b) : Post p E w encb R (.returned v) w' := Post.well h.symm hm hP he
/-- the last part -/
theorem Post.last {y : Re β} (h : Post p E w1 encb y e w') (hG : y = R) (hno : R ≠ .out) (hm : Mv (fun k => k = p) w w1) (he : ∀ v b, encb w1 w' v b → encb w w' v b) :
    (∃ s' : Sx, e = .panicked [{ v := flt (posOf E s'.ws), recovered := false }] ∧ Post p E w encb R (.panicked [{ v := flt (posOf E s'.ws), recovered := false }]) w') ∨
    (∃ v a, e = .returned v ∧ encb w1 w' v a ∧ Post p E w encb R (.returned v) w') := by
  have hd := h.done hG.symm hm he
  subst hG
  cases y with
  | out => exact absurd rfl hno
  | bad s' =>
    obtain ⟨h1, rfl, h3⟩ := hd
    exact .inl ⟨s', rfl, h1, rfl, h3⟩
  | ok a s' =>
    obtain ⟨-, -, v, rfl, h4⟩ := h
    exact .inr ⟨v, a, rfl, h4, hd⟩
end
/-- a literal of one, of two -/
theorem PtrsAt.one {W : World} {K : Nat → Prop} {T : Nat} (a : Nat) (hK : K W.heap.size) : PtrsAt (W.alloc (.cells #[ptr a] T)) K T (.slice (some ⟨W.heap.size, 0, none⟩) 1 1) [a] :=
  .inr ⟨W.heap.size, 1, [], rfl, hK, by simp, by decide, heap_alloc_new W _⟩
theorem PtrsAt.two {W : World} {K : Nat → Prop} {T : Nat} (a b : Nat) (hK : K W.heap.size) : PtrsAt (W.alloc (.cells #[ptr a, ptr b] T)) K T (.slice (some ⟨W.heap.size, 0, none⟩) 2 2) [a, b] :=
  .inr ⟨W.heap.size, 2, [], rfl, hK, by simp, by decide, heap_alloc_new W _⟩
theorem ExsAt.one {W : World} {K : Nat → Prop} {a : Nat} {e : Ex} (h : ExAt W K a e) : ExsAt W K [a] (.of [e]) := by
  show ExsAt W K [a] (.cons e .nil)
  unfold ExsAt
  exact ⟨h, by unfold ExsAt; trivial⟩
theorem ExsAt.two {W : World} {K : Nat → Prop} {a b : Nat} {e r : Ex} (h : ExAt W K a e) (h' : ExAt W K b r) : ExsAt W K [a, b] (.of [e, r]) := by
  show ExsAt W K [a, b] (.cons e (.cons r .nil))
  unfold ExsAt
  exact ⟨h, ExsAt.one h'⟩
theorem ExsAt.none {W : World} {K : Nat → Prop} : ExsAt W K [] (.of []) := by
  show ExsAt W K [] .nil
  unfold ExsAt
  trivial
theorem StsAt.none {W : World} {K : Nat → Prop} : StsAt W K [] (.of []) := by
  show StsAt W K [] .nil
  unfold StsAt
  trivial
/-- a row of pointers that is owned, as a list in memory -/
theorem PtrsAt.ofOwn {W : World} {B T : Nat} {v : Value} {bs : List Nat} (h : W.ownsRow B T 1 v bs.length (bs.map ptr)) : PtrsAt W (fun k => B ≤ k) T v bs := by
  obtain ⟨h1, ⟨rfl, h2⟩ | ⟨g, cap, cur, rfl, h3, h4, h5, h6, h7, h8⟩⟩ := h
  · exact .inl ⟨rfl, List.length_eq_zero_iff.1 h2⟩
  · refine .inr ⟨g, cap, cur.toList.drop bs.length, rfl, h3, h5, h6, ?_⟩
    rw [Nat.mul_one] at h8
    rw [h4, ← h8, List.take_append_drop]
end Go.Proofs.YtjgpbpmicopemaaGreatDoor

/-
  The parser's expr: an expression made.
-/
namespace Go.Proofs.YtjgpbpmicopemaaGreatDoor
open Go.RowKit Go.Shelf
set_option maxRecDepth 20000

theorem maxE_snoc : ∀ (l : List Ex) (t : Int) (e : Ex), maxE t (l ++ [e]) = max (maxE t l) e.tall
  | [], _, _ => rfl
  | x :: l, t, e => maxE_snoc l (max t x.tall) e
set_option maxHeartbeats 2000000 in
theorem exprZ (p : Nat) (E : Int × Int) (s : Sx) (k ln cl : Int) (op nm : Bs) (n : Int) (ty : Bs) (args : List Ex) (w : World) (h : PrAt w p E s) (K : Nat → Prop) (hK : ∀ k, w.heap.size ≤ k → K k)
    (v : Value) (bs : List Nat) (hv : PtrsAt w K 122 v bs) (hx : ExsAt w K bs (.of args)) (hp : ¬ K p) :
    Calls Tryz.prog 125 #[.pointer (some ⟨p, 0, none⟩), .agg #[.int .i64 k, .int .i64 ln, .int .i64 cl, .string ⟨op.toArray⟩, .string ⟨nm.toArray⟩, .int .i64 n, .string ⟨ty.toArray⟩, v, .int .i64 0]] w
      (Post p E w (fun _ w' v e => ∃ b, v = ptr b ∧ ExAt w' K b e) (exprP k op nm n ty args s)) := by
  obtain ⟨a, c, rfl, hc1, hc2, hv2⟩ := hv.form
  obtain ⟨hl, hget⟩ := hx.get
  rw [hl] at hc1
  have hml : args.length ≤ 9223372036854775807 := by unfold maxLen at hc2; omega
  have Cn := fun t w' h' => nodeZ p E s t w' h'
  rw [hl]
  go_enter Tryz.func125, Tryz.ntmps125
  go_wp2_with fail
  go_loopg [6, 10] args.length (fun g s6 s10 wr => ∃ j : Nat, j ≤ args.length ∧ args.length - j ≤ g ∧ s10 = .int .i64 j ∧
    wr.heap[w.heap.size]? = some (.cells #[.int .i64 k, .int .i64 ln, .int .i64 cl, .string ⟨op.toArray⟩, .string ⟨nm.toArray⟩, .int .i64 n, .string ⟨ty.toArray⟩, .slice a args.length c, .int .i64 (maxE 0 (args.take j))] 142 (0, 0)) ∧ Mv (fun _ => False) w wr)
  case atStart => exact ⟨0, by omega, by omega, rfl, heap_alloc_new w _, Mv.alloc _ _⟩
  case round =>
    obtain ⟨j, hj, hg, rfl, hbx, hm⟩ := hrel
    have c8 : wr.cell? ⟨w.heap.size, 8, none⟩ = some (.int .i64 (maxE 0 (args.take j))) := by simp [World.cell?, hbx]
    have cf : wr.frozen? ⟨w.heap.size, 8, none⟩ = false := by simp [World.frozen?, hbx]
    by_cases hlt : j < args.length
    · obtain ⟨b, hb, hE⟩ := hget j args[j] (List.getElem?_eq_getElem hlt)
      obtain ⟨gb, rfl, hKg, hgl, hcs⟩ := hv2 (by intro h0; rw [h0] at hl; simp at hl; omega)
      have d0 := hm.cell (hcs j b hb) (fun h => h)
      have d1 := hm.cell hE.tall.1 (fun h => h)
      have hlt' : (j : Int) < args.length := by omega
      unfold ptr at d0
      have d1' : wr.drew.cell? ⟨b, 8, none⟩ = some (.int .i64 args[j].tall) := d1
      have c8' : wr.drew.cell? ⟨w.heap.size, 8, none⟩ = some (.int .i64 (maxE 0 (args.take j))) := c8
      have cf' : wr.drew.frozen? ⟨w.heap.size, 8, none⟩ = false := cf
      go_wp2_with fail
      go_region
      all_goals go_wp2_with fail
      all_goals go_roundg (args.length - (j + 1))
      case measure => omega
      case rel =>
        refine ⟨j + 1, by omega, by omega, by simp, ?_, ((hm.setNew (Nat.le_refl _)).drawn)⟩
        rw [← List.take_append_getElem hlt, maxE_snoc]
        exact set_same hbx
    · obtain rfl : j = args.length := by omega
      rw [List.take_length] at hbx c8
      have hpl := h.lt
      go_wp2_with fail
      refine (Cn _ _ (h.none hm)).mono ?_
      rintro e w2 ⟨hm2, hP2, v, rfl, rfl⟩
      have hb2 := (hm2.same w.heap.size (heap_lt hbx) (by omega)).trans hbx
      have e8 : w2.cell? ⟨w.heap.size, 8, none⟩ = some (.int .i64 (maxE 0 args)) := by simp [World.cell?, hb2]
      have ef : w2.frozen? ⟨w.heap.size, 8, none⟩ = false := by simp [World.frozen?, hb2]
      go_wp2_with fail
      refine bodyPost_ret (v := ptr w.heap.size) (by simp [results, Tryz.results125, go_sem, ptr]) rfl ⟨(hm.weak.trans hm2).setNew (Nat.le_refl _), ?_⟩
      have hm3 : Mv (fun k => k = w.heap.size) w2 (w2.setCell ⟨w.heap.size, 8, none⟩ (.int .i64 (wrap64 (maxE 0 args + 1)))) := Mv.setCell _ _ rfl
      refine ⟨hP2.tame hm3 ?_, _, rfl, w.heap.size, rfl, ?_⟩
      · rintro k rfl hk
        have := h.1.1
        exact ⟨by omega, by omega, fun cur T r hT => by rw [hb2] at hT; cases hT; decide⟩
      · unfold ExAt
        have hk2 : Keeps (fun k => K k ∧ k < w.heap.size) w (w2.setCell ⟨w.heap.size, 8, none⟩ (.int .i64 (wrap64 (maxE 0 args + 1)))) :=
          Keeps.but (X := fun k => k = p ∨ k = w.heap.size) (((hm.weak (X := fun k => k = p)).trans hm2).mono (fun _ _ h => Or.inl h) |>.trans (hm3.mono (fun _ _ h => Or.inr h))) (fun k hk hx => by
            rcases hx with rfl | rfl
            · exact absurd hk.1 hp
            · omega)
        exact ⟨hK _ (Nat.le_refl _), ln, cl, _, bs, set_same hb2, by rw [← hl]; exact hv.within.mv hk2 (fun _ h => h.1), hx.within.mv hk2 (fun _ h => h.1)⟩
end Go.Proofs.YtjgpbpmicopemaaGreatDoor

/-
  The parser's stmt: a statement made.
-/
namespace Go.Proofs.YtjgpbpmicopemaaGreatDoor
open Go.RowKit Go.Shelf
set_option maxRecDepth 20000

theorem maxS_snoc : ∀ (l : List St) (t : Int) (e : St), maxS t (l ++ [e]) = max (maxS t l) e.tall
  | [], _, _ => rfl
  | x :: l, t, e => maxS_snoc l (max t x.tall) e
theorem ExO.ptr {W : World} {K : Nat → Prop} {v : Value} {o : Option Ex} (h : ExO W K v o) : ∃ q : Option Addr, v = .pointer q ∧ ((q = none ∧ o = none) ∨ ∃ b e, q = some ⟨b, 0, none⟩ ∧ o = some e ∧ ExAt W K b e) := by
  cases o with
  | none => exact ⟨none, h, .inl ⟨rfl, rfl⟩⟩
  | some e =>
    obtain ⟨b, h1, h2⟩ := h
    exact ⟨_, h1, .inr ⟨b, e, rfl, rfl, h2⟩⟩
/-- the height after so many of the two -/
def two (e pl : Option Ex) : Nat → Int
  | 0 => 0
  | 1 => maxO 0 e
  | _ => maxO (maxO 0 e) pl
set_option maxHeartbeats 4000000 in
theorem stmtZ (p : Nat) (E : Int × Int) (s : Sx) (k ln cl : Int) (nm ty : Bs) (e pl : Option Ex) (ve vp : Value) (l : List St) (w : World) (h : PrAt w p E s) (K : Nat → Prop) (hK : ∀ k, w.heap.size ≤ k → K k)
    (v : Value) (bs : List Nat) (he : ExO w K ve e) (hpl : ExO w K vp pl) (hv : PtrsAt w K 71 v bs) (hx : StsAt w K bs (.of l)) (hp : ¬ K p) :
    Calls Tryz.prog 83 #[.pointer (some ⟨p, 0, none⟩), .agg #[.int .i64 k, .int .i64 ln, .int .i64 cl, .string ⟨nm.toArray⟩, .string ⟨ty.toArray⟩, ve, vp, v, .int .i64 0]] w
      (Post p E w (fun _ w' v e => ∃ b, v = ptr b ∧ StAt w' K b e) (stmtP k nm ty e pl l s)) := by
  obtain ⟨a, c, rfl, hc1, hc2, hv2⟩ := hv.form
  obtain ⟨hl, hget⟩ := hx.get
  rw [hl] at hc1
  have hml : l.length ≤ 9223372036854775807 := by unfold maxLen at hc2; omega
  have Cn := fun t w' h' => nodeZ p E s t w' h'
  obtain ⟨qe, rfl, hqe⟩ := he.ptr
  obtain ⟨qp, rfl, hqp⟩ := hpl.ptr
  rw [hl]
  have hpl0 := h.lt
  go_enter Tryz.func83, Tryz.ntmps83
  go_wp2_with fail
  go_loopg [6, 15] 2 (fun g s6 s15 wr => ∃ j : Nat, j ≤ 2 ∧ 2 - j ≤ g ∧ s15 = .int .i64 j ∧
    wr.heap[w.heap.size]? = some (.cells #[.int .i64 k, .int .i64 ln, .int .i64 cl, .string ⟨nm.toArray⟩, .string ⟨ty.toArray⟩, .pointer qe, .pointer qp, .slice a l.length c, .int .i64 (two e pl j)] 125 (0, 0)) ∧
    wr.heap[w.heap.size + 1]? = some (.cells #[.pointer qe, .pointer qp] 122 (0, 0)) ∧ Mv (fun _ => False) w wr)
  case atStart => exact ⟨0, by omega, by omega, rfl, at_alloc (heap_alloc_new w _) _, by have := heap_alloc_new (w.alloc (.cells #[.int .i64 k, .int .i64 ln, .int .i64 cl, .string ⟨nm.toArray⟩, .string ⟨ty.toArray⟩, .pointer qe, .pointer qp, .slice a l.length c, .int .i64 0] 125)) (.cells #[.pointer qe, .pointer qp] 122); simpa using this, (Mv.alloc _ _).more _⟩
  case round =>
    obtain ⟨j, hj, hg, rfl, hbx, hlx, hm⟩ := hrel
    have c8 : wr.cell? ⟨w.heap.size, 8, none⟩ = some (.int .i64 (two e pl j)) := by simp [World.cell?, hbx]
    have cf : wr.frozen? ⟨w.heap.size, 8, none⟩ = false := by simp [World.frozen?, hbx]
    by_cases hlt : j < 2
    · obtain ⟨q, o, hqc, hqo, hst⟩ : ∃ (q : Option Addr) (o : Option Ex), wr.cell? ⟨w.heap.size + 1, j, none⟩ = some (.pointer q) ∧ ((q = none ∧ o = none) ∨ ∃ b e, q = some ⟨b, 0, none⟩ ∧ o = some e ∧ ExAt w K b e) ∧ two e pl (j + 1) = maxO (two e pl j) o := by
        rcases (show j = 0 ∨ j = 1 by omega) with rfl | rfl
        · exact ⟨qe, e, by simp [World.cell?, hlx], hqe, rfl⟩
        · exact ⟨qp, pl, by simp [World.cell?, hlx], hqp, rfl⟩
      have hlt' : (j : Int) < 2 := by omega
      rcases hqo with ⟨rfl, rfl⟩ | ⟨b, e1, rfl, rfl, hE⟩
      · go_wp2_with fail
        go_roundg (2 - (j + 1))
        case measure => omega
        case rel => exact ⟨j + 1, by omega, by omega, by simp, by rw [hst]; exact hbx, hlx, hm⟩
      · have d1' : wr.drew.cell? ⟨b, 8, none⟩ = some (.int .i64 e1.tall) := hm.cell hE.tall.1 (fun h => h)
        have c8' : wr.drew.cell? ⟨w.heap.size, 8, none⟩ = some (.int .i64 (two e pl j)) := c8
        have cf' : wr.drew.frozen? ⟨w.heap.size, 8, none⟩ = false := cf
        go_wp2_with fail
        go_region
        all_goals go_wp2_with fail
        all_goals go_roundg (2 - (j + 1))
        case measure => omega
        case rel => exact ⟨j + 1, by omega, by omega, by simp, by rw [hst]; exact set_same hbx, (set_other (by omega)).trans hlx, ((hm.setNew (Nat.le_refl _)).drawn)⟩
    · obtain rfl : j = 2 := by omega
      have c7 : wr.cell? ⟨w.heap.size, 7, none⟩ = some (.slice a l.length c) := by simp [World.cell?, hbx]
      clear hlx hlt hg hj
      go_wp2_with fail
      go_loopg [8, 33] l.length (fun g s8 s33 wr => ∃ j : Nat, j ≤ l.length ∧ l.length - j ≤ g ∧ s33 = .int .i64 j ∧
        wr.heap[w.heap.size]? = some (.cells #[.int .i64 k, .int .i64 ln, .int .i64 cl, .string ⟨nm.toArray⟩, .string ⟨ty.toArray⟩, .pointer qe, .pointer qp, .slice a l.length c, .int .i64 (maxS (two e pl 2) (l.take j))] 125 (0, 0)) ∧ Mv (fun _ => False) w wr)
      case atStart => exact ⟨0, by omega, by omega, rfl, hbx, hm⟩
      case round =>
        clear hbx hm c7 c8 cf
        obtain ⟨j, hj, hg, rfl, hbx, hm⟩ := hrel
        have c8 : wr.cell? ⟨w.heap.size, 8, none⟩ = some (.int .i64 (maxS (two e pl 2) (l.take j))) := by simp [World.cell?, hbx]
        have cf : wr.frozen? ⟨w.heap.size, 8, none⟩ = false := by simp [World.frozen?, hbx]
        by_cases hlt : j < l.length
        · obtain ⟨b, hb, hE⟩ := hget j l[j] (List.getElem?_eq_getElem hlt)
          obtain ⟨gb, rfl, hKg, hgl, hcs⟩ := hv2 (by intro h0; rw [h0] at hl; simp at hl; omega)
          have d0 := hm.cell (hcs j b hb) (fun h => h)
          have d1 := hm.cell hE.tall.1 (fun h => h)
          have hlt' : (j : Int) < l.length := by omega
          unfold ptr at d0
          have d1' : wr.drew.cell? ⟨b, 8, none⟩ = some (.int .i64 l[j].tall) := d1
          have c8' : wr.drew.cell? ⟨w.heap.size, 8, none⟩ = some (.int .i64 (maxS (two e pl 2) (l.take j))) := c8
          have cf' : wr.drew.frozen? ⟨w.heap.size, 8, none⟩ = false := cf
          go_wp2_with fail
          go_region
          all_goals go_wp2_with fail
          all_goals go_roundg (l.length - (j + 1))
          case measure => omega
          case rel =>
            refine ⟨j + 1, by omega, by omega, by simp, ?_, ((hm.setNew (Nat.le_refl _)).drawn)⟩
            rw [← List.take_append_getElem hlt, maxS_snoc]
            exact set_same hbx
        · obtain rfl : j = l.length := by omega
          rw [List.take_length] at hbx c8
          go_wp2_with fail
          refine (Cn _ _ (h.none hm)).mono ?_
          rintro e' w2 ⟨hm2, hP2, v, rfl, rfl⟩
          have hb2 := (hm2.same w.heap.size (heap_lt hbx) (by omega)).trans hbx
          have e8 : w2.cell? ⟨w.heap.size, 8, none⟩ = some (.int .i64 (maxS (two e pl 2) l)) := by simp [World.cell?, hb2]
          have ef : w2.frozen? ⟨w.heap.size, 8, none⟩ = false := by simp [World.frozen?, hb2]
          go_wp2_with fail
          refine bodyPost_ret (v := ptr w.heap.size) (by simp [results, Tryz.results83, go_sem, ptr]) rfl ⟨(hm.weak.trans hm2).setNew (Nat.le_refl _), ?_⟩
          have hm3 : Mv (fun k => k = w.heap.size) w2 (w2.setCell ⟨w.heap.size, 8, none⟩ (.int .i64 (wrap64 (maxS (two e pl 2) l + 1)))) := Mv.setCell _ _ rfl
          refine ⟨hP2.tame hm3 ?_, _, rfl, w.heap.size, rfl, ?_⟩
          · rintro k rfl hk
            have := h.1.1
            exact ⟨by omega, by omega, fun cur T r hT => by rw [hb2] at hT; cases hT; decide⟩
          · unfold StAt
            have hk2 : Keeps (fun k => K k ∧ k < w.heap.size) w (w2.setCell ⟨w.heap.size, 8, none⟩ (.int .i64 (wrap64 (maxS (two e pl 2) l + 1)))) :=
              Keeps.but (X := fun k => k = p ∨ k = w.heap.size) (((hm.weak (X := fun k => k = p)).trans hm2).mono (fun _ _ h => Or.inl h) |>.trans (hm3.mono (fun _ _ h => Or.inr h))) (fun k hk hx => by
                rcases hx with rfl | rfl
                · exact absurd hk.1 hp
                · omega)
            exact ⟨hK _ (Nat.le_refl _), ln, cl, _, _, _, bs, set_same hb2, he.within.mv hk2 (fun _ h => h.1), hpl.within.mv hk2 (fun _ h => h.1), by rw [← hl]; exact hv.within.mv hk2 (fun _ h => h.1), hx.within.mv hk2 (fun _ h => h.1)⟩
end Go.Proofs.YtjgpbpmicopemaaGreatDoor

/-
  The parser's within, binary.
-/
namespace Go.Proofs.YtjgpbpmicopemaaGreatDoor
open Go.RowKit Go.Shelf
set_option maxRecDepth 20000

/-- a pointer to an expression that is new -/
def encE (w w' : World) (v : Value) (e : Ex) : Prop := ∃ b, v = ptr b ∧ ExAt w' (fun k => w.heap.size ≤ k) b e
theorem ExAt.later {w w1 w2 w3 : World} {p b : Nat} {e : Ex} (h : ExAt w2 (fun k => w1.heap.size ≤ k) b e) (hs : w.heap.size ≤ w1.heap.size) (m : Mv (fun k => k = p) w2 w3) (hp : p < w.heap.size) : ExAt w3 (fun k => w.heap.size ≤ k) b e :=
  h.mv (Keeps.of m (fun k hk hx => by subst hx; omega)) (fun k hk => by omega)
theorem encE.later {w w1 w2 w3 : World} {p : Nat} {v : Value} {e : Ex} (h : encE w1 w2 v e) (hs : w.heap.size ≤ w1.heap.size) (m : Mv (fun k => k = p) w2 w3) (hp : p < w.heap.size) : encE w w3 v e := by
  obtain ⟨b, h1, h2⟩ := h
  exact ⟨b, h1, h2.later hs m hp⟩
/-- the expression parser's parts with this fuel keep their promise -/
structure AllE (p : Nat) (E : Int × Int) (f : Nat) : Prop where
  binary : ∀ lev s w, 0 ≤ lev → lev ≤ 10 → PrAt w p E s → binaryP f lev s ≠ .out → Calls Tryz.prog 106 #[.pointer (some ⟨p, 0, none⟩), .int .i64 lev] w (Post p E w encE (binaryP f lev s))
  unary : ∀ s w, PrAt w p E s → unaryP f s ≠ .out → Calls Tryz.prog 123 #[.pointer (some ⟨p, 0, none⟩)] w (Post p E w encE (unaryP f s))
  post : ∀ s w, PrAt w p E s → postfixP f s ≠ .out → Calls Tryz.prog 145 #[.pointer (some ⟨p, 0, none⟩)] w (Post p E w encE (postfixP f s))
  primary : ∀ s w, PrAt w p E s → primaryP f s ≠ .out → Calls Tryz.prog 162 #[.pointer (some ⟨p, 0, none⟩)] w (Post p E w encE (primaryP f s))
  within : ∀ s w, PrAt w p E s → withinP f s ≠ .out → Calls Tryz.prog 107 #[.pointer (some ⟨p, 0, none⟩)] w (Post p E w encE (withinP f s))
theorem withinZ {p : Nat} {E : Int × Int} {f : Nat} (ih : AllE p E f) (s : Sx) (w : World) (h : PrAt w p E s) (hno : withinP (f + 1) s ≠ .out) : Calls Tryz.prog 107 #[.pointer (some ⟨p, 0, none⟩)] w (Post p E w encE (withinP (f + 1) s)) := by
  obtain ⟨R, hG⟩ : ∃ R, withinP (f + 1) s = R := ⟨_, rfl⟩
  rw [hG] at hno ⊢
  unfold withinP at hG
  have hlt := h.lt
  go_enter Tryz.func107, Tryz.ntmps107
  go_wp2_with fail
  refine (mustZ p E s [40] _ h).mono ?_
  intro e w1 hq
  obtain ⟨s1, rfl, hB⟩ | ⟨_, s1, v, hx1, hG, rfl, -, hP1, hM1, hm1⟩ := hq.cut hG hno (Mv.refl _ _)
  · go_wp2_with fail
    exact ⟨rfl, hB⟩
  go_wp2_with fail
  refine (ih.binary 0 s1 _ (by omega) (by omega) hP1 (ne_cut hG hno)).mono ?_
  intro e w2 hq
  obtain ⟨s2, rfl, hB⟩ | ⟨a, s2, v, hx2, hG, rfl, ⟨b, rfl, hE⟩, hP2, hM2, hm2⟩ := hq.cut hG hno hM1
  · go_wp2_with fail
    exact ⟨rfl, hB⟩
  unfold ptr
  go_wp2_with fail
  refine (mustZ p E s2 [41] _ hP2).mono ?_
  intro e w3 hq
  obtain ⟨s3, rfl, hB⟩ | ⟨_, s3, v, hx3, hG, rfl, -, hP3, hM3, hm3⟩ := hq.cut hG hno hM2
  · go_wp2_with fail
    exact ⟨rfl, hB⟩
  go_wp2_with fail
  exact bodyPost_ret (v := ptr b) (by simp [results, Tryz.results107, go_sem, ptr]) rfl (Post.wellc hG hM3 hP3 ⟨b, rfl, hE.later hM1.size hm3 hlt⟩)
theorem levI_le (ws : List It) : ∀ (l : List (List Bs)) (i : Nat), levI ws i l ≤ i + l.length - 1
  | [], i => by unfold levI; simp only [List.length_nil]; omega
  | x :: l, i => by
    unfold levI
    split
    · simp only [List.length_cons]; omega
    · have := levI_le ws l (i + 1)
      simp only [List.length_cons]
      omega
theorem levelI_le (ws : List It) : levelI ws ≤ 9 := by
  have := levI_le ws levels 0
  simp [levels] at this
  exact this
theorem wrap64_id (n : Int) (h : -9223372036854775808 ≤ n ∧ n ≤ 9223372036854775807) : wrap64 n = n := by unfold wrap64; omega
set_option maxHeartbeats 1000000 in
theorem binaryZ {p : Nat} {E : Int × Int} {f : Nat} (ih : ∀ f', f' ≤ f → AllE p E f') (lev : Int) (s : Sx) (w : World) (h0 : 0 ≤ lev) (h1 : lev ≤ 10) (h : PrAt w p E s) (hno : binaryP (f + 1) lev s ≠ .out) :
    Calls Tryz.prog 106 #[.pointer (some ⟨p, 0, none⟩), .int .i64 lev] w (Post p E w encE (binaryP (f + 1) lev s)) := by
  obtain ⟨R, hG⟩ : ∃ R, binaryP (f + 1) lev s = R := ⟨_, rfl⟩
  rw [hG] at hno ⊢
  unfold binaryP at hG
  have hlt := h.lt
  go_enter Tryz.func106, Tryz.ntmps106
  go_wp2_with fail
  refine ((ih f (Nat.le_refl _)).unary s _ h (ne_cut hG hno)).mono ?_
  intro e w1 hq
  obtain ⟨s1, rfl, hB⟩ | ⟨a, s1, v, hx1, hG, rfl, ⟨b, rfl, hE⟩, hP1, hM1, hm1⟩ := hq.cut hG hno (Mv.refl _ _)
  · go_wp2_with fail
    exact ⟨rfl, hB⟩
  unfold ptr
  go_wp2_with fail
  go_loopg [5, 6, 7] f (fun g s5 s6 s7 wr => ∃ (f' : Nat) (e' : Ex) (s' : Sx) (b : Nat), f' ≤ f ∧ f' ≤ g ∧ s5 = .pointer (some ⟨b, 0, none⟩) ∧ binLoop f' lev e' s' = R ∧ ExAt wr (fun k => w.heap.size ≤ k) b e' ∧ PrAt wr p E s' ∧ Mv (fun k => k = p) w wr)
  case atStart => exact ⟨f, a, s1, b, Nat.le_refl _, Nat.le_refl _, rfl, hG, hE.later (Nat.le_refl _) (Mv.refl _ _) hlt, hP1, hM1⟩
  case round =>
    clear hE hP1 hM1 hm1 hG hx1
    obtain ⟨f', e', s', b', hf, hg, rfl, hG, hE, hP1, hM1⟩ := hrel
    cases f' with
    | zero => exact absurd (by rw [← hG]; rfl) hno
    | succ f' =>
      unfold binLoop at hG
      rw [bind_ok (rfl : levelP s' = .ok (levelI s'.ws) s')] at hG
      have hl9 := levelI_le s'.ws
      go_wp2_with fail
      refine (levelZ p E s' _ hP1).mono ?_
      rintro e w2 ⟨rfl, hb2⟩
      have hP2 := hP1.below hb2
      have hM2 := hM1.trans (Mv.below (X := fun k => k = p) hb2)
      by_cases hc : levelI s'.ws < lev
      · rw [if_pos hc] at hG
        go_wp2_with fail
        exact bodyPost_ret (v := ptr b') (by simp [results, Tryz.results106, go_sem, ptr]) rfl (Post.wellc hG hM2 hP2 ⟨b', rfl, hE.later (Nat.le_refl _) (Mv.below hb2) hlt⟩)
      · rw [if_neg hc] at hG
        go_wp2_with fail
        refine (takeZ p E s' _ hP2 (take_ne (ne_cut hG hno))).mono ?_
        intro e w3 hq
        obtain ⟨s3, rfl, hB⟩ | ⟨x, s3, v, hx3, hG, rfl, rfl, hP3, hM3, hm3⟩ := hq.cut hG hno hM2
        · go_wp2_with fail
          exact ⟨rfl, hB⟩
        unfold str
        go_wp2_with fail
        have hP4 := hP3.below (belowAlloc w3 (.cells #[.int .i64 x.d.k, .string ⟨x.d.t.toArray⟩, .int .i64 x.d.n, .int .i64 x.p.1, .int .i64 x.p.2] 114))
        have hM4 := hM3.more (.cells #[.int .i64 x.d.k, .string ⟨x.d.t.toArray⟩, .int .i64 x.d.n, .int .i64 x.p.1, .int .i64 x.p.2] 114)
        have hE4 := hE.later (w := w) (Nat.le_refl _) (((Mv.below hb2).trans hm3).more (.cells #[.int .i64 x.d.k, .string ⟨x.d.t.toArray⟩, .int .i64 x.d.n, .int .i64 x.p.1, .int .i64 x.p.2] 114)) hlt
        have hbx := heap_alloc_new w3 (.cells #[.int .i64 x.d.k, .string ⟨x.d.t.toArray⟩, .int .i64 x.d.n, .int .i64 x.p.1, .int .i64 x.p.2] 114)
        generalize w3.alloc (.cells #[.int .i64 x.d.k, .string ⟨x.d.t.toArray⟩, .int .i64 x.d.n, .int .i64 x.p.1, .int .i64 x.p.2] 114) = w4 at *
        have b1 : w4.drew.cell? ⟨w3.heap.size, 1, none⟩ = some (.string ⟨x.d.t.toArray⟩) := by show w4.cell? _ = _; simp [World.cell?, hbx]
        have b3 : w4.drew.cell? ⟨w3.heap.size, 3, none⟩ = some (.int .i64 x.p.1) := by show w4.cell? _ = _; simp [World.cell?, hbx]
        have b4 : w4.drew.cell? ⟨w3.heap.size, 4, none⟩ = some (.int .i64 x.p.2) := by show w4.cell? _ = _; simp [World.cell?, hbx]
        have hP4d := hP4.none (Mv.drew w4)
        have hM4d := hM4.drawn
        have hE4d := hE4.later (w := w) (Nat.le_refl _) (Mv.drew w4) hlt
        have hbox : ∀ w', Mv (fun k => k = p) w4.drew w' → w'.cell? ⟨w3.heap.size, 1, none⟩ = some (.string ⟨x.d.t.toArray⟩) ∧ w'.cell? ⟨w3.heap.size, 3, none⟩ = some (.int .i64 x.p.1) ∧ w'.cell? ⟨w3.heap.size, 4, none⟩ = some (.int .i64 x.p.2) ∧
            (∀ o, (w'.alloc o).cell? ⟨w3.heap.size, 1, none⟩ = some (.string ⟨x.d.t.toArray⟩)) ∧ (∀ o, (w'.alloc o).cell? ⟨w3.heap.size, 3, none⟩ = some (.int .i64 x.p.1)) ∧ (∀ o, (w'.alloc o).cell? ⟨w3.heap.size, 4, none⟩ = some (.int .i64 x.p.2)) := fun w' m =>
          have hne : w3.heap.size ≠ p := by have := hP3.lt; omega
          ⟨m.cell b1 hne, m.cell b3 hne, m.cell b4 hne, fun o => cell_alloc (m.cell b1 hne) o, fun o => cell_alloc (m.cell b3 hne) o, fun o => cell_alloc (m.cell b4 hne) o⟩
        clear hbx hE hP1 hP2 hP3 hP4 hM1 hM2 hM3 hM4 hE4 hm3
        clear hb2
        have hC := (ih f' (by omega)).binary (levelI s'.ws + 1) s3 _ (by omega) (by omega) hP4d (ne_cut hG hno)
        have hwr : IntKind.i64.wrap (levelI s'.ws + 1) = levelI s'.ws + 1 := by
          have := wrap64_id (levelI s'.ws + 1) (by omega)
          simpa only [wrap64, IntKind.wrap_i64] using this
        generalize levelI s'.ws = lv at *
        have hws : w.heap.size ≤ w4.drew.heap.size := hM4d.size
        have hX : ∀ (w5 : World) (br : Nat) (r : Ex) (s5 : Sx), Mv (fun k => k = p) w4.drew w5 → PrAt w5 p E s5 → ExAt w5 (fun k => w4.drew.heap.size ≤ k) br r →
            Calls Tryz.prog 125 #[.pointer (some ⟨p, 0, none⟩), .agg #[.int .i64 4, .int .i64 x.p.1, .int .i64 x.p.2, .string ⟨x.d.t.toArray⟩, .string ⟨#[]⟩, .int .i64 0, .string ⟨#[]⟩, .slice (some ⟨w5.heap.size, 0, none⟩) 2 2, .int .i64 0]] (w5.alloc (.cells #[.pointer (some ⟨b', 0, none⟩), .pointer (some ⟨br, 0, none⟩)] 122))
              (Post p E (w5.alloc (.cells #[.pointer (some ⟨b', 0, none⟩), .pointer (some ⟨br, 0, none⟩)] 122)) (fun _ w' v e => ∃ b, v = ptr b ∧ ExAt w' (fun k => w.heap.size ≤ k) b e) (exprP 4 x.d.t [] 0 [] [e', r] s5)) := fun w5 br r s5 m5 hP5 hr =>
          exprZ p E s5 4 x.p.1 x.p.2 x.d.t [] 0 [] [e', r] _ (hP5.below (belowAlloc _ _)) (fun k => w.heap.size ≤ k) (fun k hk => by have := m5.size; have := (belowAlloc w5 (.cells #[.pointer (some ⟨b', 0, none⟩), .pointer (some ⟨br, 0, none⟩)] 122)).size; omega) _ _
            (PtrsAt.two b' br (by have := m5.size; omega)) (ExsAt.two (hE4d.later (Nat.le_refl _) (m5.more _) hlt) (hr.later hws (Mv.alloc _ _) hlt)) (by omega)
        go_region_held (fun w' => w'.cell? ⟨w3.heap.size, 1, none⟩ = some (.string ⟨x.d.t.toArray⟩) ∧ w'.cell? ⟨w3.heap.size, 3, none⟩ = some (.int .i64 x.p.1) ∧ w'.cell? ⟨w3.heap.size, 4, none⟩ = some (.int .i64 x.p.2))
          (first | exact ⟨b1, b3, b4⟩ | exact ⟨z1, z3, z4⟩ | exact ⟨za1 _, za3 _, za4 _⟩ | exact ⟨y1, y3, y4⟩)
          (first | (go_at_call 106; refine hC.mono ?_; intro e w5 hq; obtain ⟨s5, rfl, hB⟩ | ⟨r, s5, v, hx5, hG5, rfl, ⟨br, rfl, hr⟩, hP5, hM5, hm5⟩ := hq.cut hG hno hM4d; (· exact ⟨rfl, hB⟩); (obtain ⟨z1, z3, z4, za1, za3, za4⟩ := hbox _ hm5); unfold ptr) | (go_at_call 125; refine (hX _ _ _ _ hm5 hP5 hr).mono ?_; rintro e w6 ⟨hm6, hP6, v, rfl, b6, rfl, hE6⟩; obtain ⟨y1, y3, y4, -⟩ := hbox _ ((hm5.more _).trans hm6); unfold ptr))
        all_goals go_wp2_with fail
        all_goals go_roundg f'
        case measure => omega
        case rel => exact ⟨f', _, _, b6, by omega, Nat.le_refl _, rfl, hG5, hE6, hP6, (hM5.more _).trans hm6⟩
end Go.Proofs.YtjgpbpmicopemaaGreatDoor
