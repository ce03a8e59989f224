/-
  The parser's item.
-/
import Derived.Test.YtjgpbpmicopemaaGreatDoorPb11
namespace Go.Proofs.YtjgpbpmicopemaaGreatDoor
open Go.RowKit Go.Shelf
set_option maxRecDepth 20000

set_option maxHeartbeats 16000000 in
theorem itemZ {p : Nat} {E : Int × Int} {f : Nat} (hf0 : f ≤ 10000000) (s : Sx) (w : World) (h : PrAt w p E s) (hno : itemP f s ≠ .out) :
    Calls Tryz.prog 30 #[.pointer (some ⟨p, 0, none⟩)] w (Post p E w encI (itemP f s)) := by
  obtain ⟨R, hG⟩ : ∃ R, itemP f s = R := ⟨_, rfl⟩
  rw [hG] at hno ⊢
  unfold itemP at hG
  have hlt := h.lt
  have ih := allS p E f hf0
  go_enter Tryz.func30, Tryz.ntmps30
  go_wp2_with fail
  refine (atZ p E s _ h).mono ?_
  rintro e w1 ⟨rfl, hb1⟩
  have hpw1 : p < w1.heap.size := Nat.lt_of_lt_of_le hlt hb1.size
  have b2 : Box p E w w1.heap.size 73 (w1.alloc (.cells #[.int .i64 2, .int .i64 (posOf E s.ws).1, .int .i64 (posOf E s.ws).2, .string ⟨#[]⟩, .string ⟨#[]⟩, .slice none 0 0, .slice none 0 0, .pointer none] 73)) s _ := ⟨(h.below hb1).below (belowAlloc _ _), (Mv.below hb1).more _, heap_alloc_new w1 (.cells #[.int .i64 2, .int .i64 (posOf E s.ws).1, .int .i64 (posOf E s.ws).2, .string ⟨#[]⟩, .string ⟨#[]⟩, .slice none 0 0, .slice none 0 0, .pointer none] 73), hpw1, hb1.size, by decide⟩
  go_wp2_with fail
  generalize w1.alloc (.cells #[.int .i64 2, .int .i64 (posOf E s.ws).1, .int .i64 (posOf E s.ws).2, .string ⟨#[]⟩, .string ⟨#[]⟩, .slice none 0 0, .slice none 0 0, .pointer none] 73) = w2 at *
  refine (mayZ p E s [115, 116, 114, 117, 99, 116] _ b2.P).mono ?_
  intro e w3 hq
  obtain ⟨s3, rfl, hB⟩ | ⟨k3, s3, v3, hx3, hG, rfl, rfl, hP3, hM3, hm3⟩ := hq.cut hG hno b2.M
  · go_wp2_with fail
    exact ⟨rfl, hB⟩
  have b3 := b2.call hP3 hM3 hm3
  clear hP3 hM3
  cases k3
  · simp only [Bool.false_eq_true, if_false] at hG
    go_wp2_with fail
    refine (typZ p E s3 _ b3.P).mono ?_
    intro e w4 hq
    obtain ⟨s4, rfl, hB⟩ | ⟨t4, s4, v4, hx4, hG, rfl, rfl, hP4, hM4, hm4⟩ := hq.cut hG hno b3.M
    · go_wp2_with fail
      exact ⟨rfl, hB⟩
    have b4 := b3.call hP4 hM4 hm4
    clear hP4 hM4
    have hl4 := typ_len hx4 b3.P.kind
    unfold str
    obtain ⟨c0, c1, c2, c3, c4, c5, c6, c7, cf⟩ := cells8 b4.box
    go_wp2_with fail
    have b5 := b4.put (cs' := #[.int .i64 2, .int .i64 (posOf E s.ws).1, .int .i64 (posOf E s.ws).2, .string ⟨t4.toArray⟩, .string ⟨#[]⟩, .slice none 0 0, .slice none 0 0, .pointer none]) ((Mv.setCell (X := fun k => k = w1.heap.size) _ _ rfl)) ((set_same b4.box) : (w4.setCell ⟨w1.heap.size, 3, none⟩ (.string ⟨t4.toArray⟩)).heap[w1.heap.size]? = _)
    clear c0 c1 c2 c3 c4 c5 c6 c7 cf
    generalize w4.setCell ⟨w1.heap.size, 3, none⟩ (.string ⟨t4.toArray⟩) = w5 at *
    unfold restP at hG
    refine (atZ p E s4 _ b5.P).mono ?_
    rintro e w10 ⟨rfl, hb10⟩
    have b10 := b5.call (b5.P.below hb10) (b5.M.trans (Mv.below hb10)) (Mv.below hb10)
    obtain ⟨c0, c1, c2, c3, c4, c5, c6, c7, cf⟩ := cells8 b10.box
    go_wp2_with fail
    have b11 := b10.put (cs' := #[.int .i64 2, .int .i64 (posOf E s4.ws).1, .int .i64 (posOf E s4.ws).2, .string ⟨t4.toArray⟩, .string ⟨#[]⟩, .slice none 0 0, .slice none 0 0, .pointer none]) ((Mv.setCell (X := fun k => k = w1.heap.size) _ _ rfl).trans (Mv.setCell (X := fun k => k = w1.heap.size) _ _ rfl)) ((set_same (set_same b10.box)) : ((w10.setCell ⟨w1.heap.size, 1, none⟩ (.int .i64 (posOf E s4.ws).1)).setCell ⟨w1.heap.size, 2, none⟩ (.int .i64 (posOf E s4.ws).2)).heap[w1.heap.size]? = _)
    clear c0 c1 c2 c3 c4 c5 c6 c7 cf
    generalize (w10.setCell ⟨w1.heap.size, 1, none⟩ (.int .i64 (posOf E s4.ws).1)).setCell ⟨w1.heap.size, 2, none⟩ (.int .i64 (posOf E s4.ws).2) = w11 at *
    refine (nameZ p E s4 _ b11.P).mono ?_
    intro e w12 hq
    obtain ⟨s12, rfl, hB⟩ | ⟨n12, s12, v12, hx12, hG, rfl, rfl, hP12, hM12, hm12⟩ := hq.cut hG hno b11.M
    · go_wp2_with fail
      exact ⟨rfl, hB⟩
    have b12 := b11.call hP12 hM12 hm12
    clear hP12 hM12
    unfold str
    obtain ⟨c0, c1, c2, c3, c4, c5, c6, c7, cf⟩ := cells8 b12.box
    go_wp2_with fail
    have b13 := b12.put (cs' := #[.int .i64 2, .int .i64 (posOf E s4.ws).1, .int .i64 (posOf E s4.ws).2, .string ⟨t4.toArray⟩, .string ⟨n12.toArray⟩, .slice none 0 0, .slice none 0 0, .pointer none]) ((Mv.setCell (X := fun k => k = w1.heap.size) _ _ rfl)) ((set_same b12.box) : (w12.setCell ⟨w1.heap.size, 4, none⟩ (.string ⟨n12.toArray⟩)).heap[w1.heap.size]? = _)
    clear c0 c1 c2 c3 c4 c5 c6 c7 cf
    generalize w12.setCell ⟨w1.heap.size, 4, none⟩ (.string ⟨n12.toArray⟩) = w13 at *
    rw [bind_ok (rfl : isP [40] s12 = .ok (isB s12.ws [40]) s12)] at hG
    refine (isZ p E s12 [40] _ b13.P).mono ?_
    rintro e w' ⟨rfl, rfl⟩
    cases hb14 : isB s12.ws [40]
    · rw [hb14] at hG
      simp only [Bool.false_eq_true, if_false] at hG
      obtain ⟨c0, c1, c2, c3, c4, c5, c6, c7, cf⟩ := cells8 b13.box
      go_wp2_with fail
      refine (arrayZ p E s12 t4 _ b13.P hl4).mono ?_
      intro e w15 hq
      obtain ⟨s15, rfl, hB⟩ | ⟨t15, s15, v15, hx15, hG, rfl, rfl, hP15, hM15, hm15⟩ := hq.cut hG hno b13.M
      · go_wp2_with fail
        exact ⟨rfl, hB⟩
      have b15 := b13.call hP15 hM15 hm15
      clear hP15 hM15
      unfold str
      clear c0 c1 c2 c3 c4 c5 c6 c7 cf
      obtain ⟨c0, c1, c2, c3, c4, c5, c6, c7, cf⟩ := cells8 b15.box
      go_wp2_with fail
      have b16 := b15.put (cs' := #[.int .i64 2, .int .i64 (posOf E s4.ws).1, .int .i64 (posOf E s4.ws).2, .string ⟨t15.toArray⟩, .string ⟨n12.toArray⟩, .slice none 0 0, .slice none 0 0, .pointer none]) ((Mv.setCell (X := fun k => k = w1.heap.size) _ _ rfl)) ((set_same b15.box) : (w15.setCell ⟨w1.heap.size, 3, none⟩ (.string ⟨t15.toArray⟩)).heap[w1.heap.size]? = _)
      clear c0 c1 c2 c3 c4 c5 c6 c7 cf
      generalize w15.setCell ⟨w1.heap.size, 3, none⟩ (.string ⟨t15.toArray⟩) = w16 at *
      refine (mustZ p E s15 [59] _ b16.P).mono ?_
      intro e w17 hq
      obtain ⟨s17, rfl, hB⟩ | ⟨_, s17, v17, hx17, hG, rfl, -, hP17, hM17, hm17⟩ := hq.cut hG hno b16.M
      · go_wp2_with fail
        exact ⟨rfl, hB⟩
      have b17 := b16.call hP17 hM17 hm17
      clear hP17 hM17
      go_wp2_with fail
      exact bodyPost_ret (v := ptr w1.heap.size) (by simp [results, Tryz.results30, go_sem, ptr]) rfl (Post.wellc hG b17.M b17.P ⟨_, rfl, b17.wB, _, _, _, _, _, [], b17.box, RowIn.nil _ _ _ _, rfl, RowIn.nil _ _ _ _, rfl⟩)
    · rw [hb14] at hG
      simp only [if_true] at hG
      have hfu : funcP s12 = .ok () { s12 with funcs := wrap64 (s12.funcs + 1), over := s12.over || !decide (wrap64 (s12.funcs + 1) ≤ 100) } := rfl
      rw [bind_ok hfu] at hG
      obtain ⟨bb, cc, oo, g1, g2, g3, g4, g5⟩ := b13.P.cells
      obtain ⟨-, -, -, -, p4, -, -, pf⟩ := cells7 g5
      have hPf := b13.P.putFuncs (wrap64 (s12.funcs + 1))
      have hmf : Mv (fun k => k = p) w13 (w13.setCell ⟨p, 4, none⟩ (.int .i64 (wrap64 (s12.funcs + 1)))) := Mv.setCell _ _ rfl
      have b15 := b13.call hPf (b13.M.trans hmf) hmf
      clear g1 g2 g3 g4 g5 hPf
      go_wp2_with fail
      clear p4 pf
      have C1 := fun b => limitZ p E _ b _ b15.P
      refine (C1 _).mono ?_
      rintro e w16 ⟨hm16, hP16, v, rfl, -⟩
      have b16 := b15.call hP16 (b15.M.trans hm16) hm16
      clear C1 hP16
      go_wp2_with fail
      refine (takeZ p E _ _ b16.P (isB_ne hb14)).mono ?_
      intro e w17 hq
      obtain ⟨s17, rfl, hB⟩ | ⟨x17, s17, v17, hx17, hG, rfl, rfl, hP17, hM17, hm17⟩ := hq.cut hG hno b16.M
      · go_wp2_with fail
        exact ⟨rfl, hB⟩
      have b17 := b16.call hP17 hM17 hm17
      clear hP17 hM17
      obtain ⟨c0, c1, c2, c3, c4, c5, c6, c7, cf⟩ := cells8 b17.box
      go_wp2_with fail
      have b18 := b17.put (cs' := #[.int .i64 3, .int .i64 (posOf E s4.ws).1, .int .i64 (posOf E s4.ws).2, .string ⟨t4.toArray⟩, .string ⟨n12.toArray⟩, .slice none 0 0, .slice none 0 0, .pointer none]) ((Mv.setCell (X := fun k => k = w1.heap.size) _ _ rfl)) ((set_same b17.box) : (w17.setCell ⟨w1.heap.size, 0, none⟩ (.int .i64 3)).heap[w1.heap.size]? = _)
      clear c0 c1 c2 c3 c4 c5 c6 c7 cf
      generalize w17.setCell ⟨w1.heap.size, 0, none⟩ (.int .i64 3) = w18 at *
      refine (mayZ p E s17 [41] _ b18.P).mono ?_
      intro e w19 hq
      obtain ⟨s19, rfl, hB⟩ | ⟨k19, s19, v19, hx19, hG, rfl, rfl, hP19, hM19, hm19⟩ := hq.cut hG hno b18.M
      · go_wp2_with fail
        exact ⟨rfl, hB⟩
      have b19 := b18.call hP19 hM19 hm19
      clear hP19 hM19
      generalize hm9 : (!k19) = m9 at hG
      have hpb : p < w19.heap.size := b19.P.lt
      have hBb : w1.heap.size < w19.heap.size := b19.lt
      have hwb : w.heap.size ≤ w19.heap.size := b19.M.size
      obtain ⟨i0, hi, hz0, hz1, hz2⟩ := info_parts info90
      go_wp2_with fail
      go_loopg [5, 6] f (fun g s5 s6 wr => ∃ (f' : Nat) (more : Bool) (l : List Pm) (qs : List ((Int × Int) × Pm)) (s' : Sx) (v : Value), l.length + f' ≤ f ∧ f' ≤ g ∧ s5 = .bool more ∧ (paramsP f' more l >>= fun ps => blockP f >>= fun b => pure ⟨3, t4, n12, [], ps, some b⟩) s' = R ∧ qs.map (·.2) = l ∧ wr.ownsRow w19.heap.size 90 5 v l.length (pmCells qs) ∧ Box p E w w1.heap.size 73 wr s' #[.int .i64 3, .int .i64 (posOf E s4.ws).1, .int .i64 (posOf E s4.ws).2, .string ⟨t4.toArray⟩, .string ⟨n12.toArray⟩, .slice none 0 0, v, .pointer none] ∧ w19.heap.size ≤ wr.heap.size)
      case atStart => exact ⟨f, m9, [], [], s19, _, by simp, Nat.le_refl _, rfl, hG, rfl, World.ownsRow_nil _ _ _ _, b19, Nat.le_refl _⟩
      case round =>
        clear hG b19 b18 b17 b16 b15 b13 b12
        obtain ⟨f', more, l, qs, s', v, hfl, hg', rfl, hG, hqs, hr50, b50, h50⟩ := hrel
        cases f' with
        | zero => exact absurd (by rw [← hG]; rfl) hno
        | succ f' =>
          unfold paramsP at hG
          cases more
          · simp only [Bool.false_eq_true, if_false] at hG
            go_wp2_with fail
            refine (ih.block s' _ b50.P (ne_cut hG hno)).mono ?_
            intro e w51 hq
            obtain ⟨s51, rfl, hB⟩ | ⟨a51, s51, v51, hx51, hG, rfl, ⟨x51, rfl, hE51⟩, hP51, hM51, hm51⟩ := hq.cut hG hno b50.M
            · go_wp2_with fail
              exact ⟨rfl, hB⟩
            have b51 := b50.call hP51 hM51 hm51
            have hr51 := ownsRow_mv' hr50 hm51 hpb
            obtain ⟨c0, c1, c2, c3, c4, c5, c6, c7, cf⟩ := cells8 b51.box
            unfold ptr
            go_wp2_with fail
            have hm52 : Mv (fun k => k = w1.heap.size) w51 (w51.setCell ⟨w1.heap.size, 7, none⟩ (.pointer (some ⟨x51, 0, none⟩))) := Mv.setCell _ _ rfl
            have b52 := b51.put (cs' := #[.int .i64 3, .int .i64 (posOf E s4.ws).1, .int .i64 (posOf E s4.ws).2, .string ⟨t4.toArray⟩, .string ⟨n12.toArray⟩, .slice none 0 0, v, .pointer (some ⟨x51, 0, none⟩)]) hm52 (set_same b51.box)
            have hr52 := ownsRow_mv' hr51 hm52 hBb
            have hE52 : StAt (w51.setCell ⟨w1.heap.size, 7, none⟩ (.pointer (some ⟨x51, 0, none⟩))) (fun k => w.heap.size ≤ k) x51 a51 := hE51.mv (Keeps.of hm52 (fun k hk hx => by have hz := b50.lt; omega)) (fun k hk => Nat.le_trans b50.M.size hk)
            exact bodyPost_ret (v := ptr w1.heap.size) (by simp [results, Tryz.results30, go_sem, ptr]) rfl (Post.wellc hG b52.M b52.P ⟨_, rfl, b52.wB, _, _, _, _, _, qs, b52.box, RowIn.nil _ _ _ _, hqs, (RowIn.ofOwn hr52).mv (fun _ _ _ => rfl) (fun k hk => by omega), x51, rfl, hE52⟩)
          · simp only [if_true] at hG
            rw [pr_assoc] at hG
            go_wp2_with fail
            refine (atZ p E s' _ b50.P).mono ?_
            rintro e w51 ⟨rfl, hb51⟩
            have b51 := b50.call (b50.P.below hb51) (b50.M.trans (Mv.below hb51)) (Mv.below hb51)
            have hr51 := ownsRow_mv' hr50 (Mv.below (X := fun k => k = p) hb51) hpb
            have h51 := Nat.le_trans h50 hb51.size
            go_wp2_with fail
            refine (mayZ p E s' [112, 117, 98, 108, 105, 99] _ b51.P).mono ?_
            intro e w52 hq
            obtain ⟨s52, rfl, hB⟩ | ⟨k52, s52, v52, hx52, hG, rfl, rfl, hP52, hM52, hm52⟩ := hq.cut hG hno b51.M
            · go_wp2_with fail
              exact ⟨rfl, hB⟩
            have b52 := b51.call hP52 hM52 hm52
            clear hP52 hM52
            have hr52 := ownsRow_mv' hr51 hm52 hpb
            have h52 := Nat.le_trans h51 hm52.size
            have hov : ∀ k, v.ownBlock = some k → k < w52.heap.size := fun k hk => (ownsRow_own hr52 k hk).2.1
            have hf53 := heap_alloc_new w52 (.cells #[.int .i64 (posOf E s'.ws).1, .int .i64 (posOf E s'.ws).2, .bool k52, .string ⟨#[]⟩, .string ⟨#[]⟩] 90)
            have b53 := b52.call (b52.P.below (belowAlloc w52 (.cells #[.int .i64 (posOf E s'.ws).1, .int .i64 (posOf E s'.ws).2, .bool k52, .string ⟨#[]⟩, .string ⟨#[]⟩] 90))) (b52.M.more _) (Mv.alloc _ _)
            have hr53 := hr52.alloc (.cells #[.int .i64 (posOf E s'.ws).1, .int .i64 (posOf E s'.ws).2, .bool k52, .string ⟨#[]⟩, .string ⟨#[]⟩] 90)
            have hpF : p < w52.heap.size := b52.P.lt
            have hwF : w.heap.size ≤ w52.heap.size := b52.M.size
            have hBF : w1.heap.size ≠ w52.heap.size := by have := b52.lt; omega
            have h53 : w52.heap.size ≤ (w52.alloc (.cells #[.int .i64 (posOf E s'.ws).1, .int .i64 (posOf E s'.ws).2, .bool k52, .string ⟨#[]⟩, .string ⟨#[]⟩] 90)).heap.size := by simp
            go_wp2_with fail
            generalize w52.alloc (.cells #[.int .i64 (posOf E s'.ws).1, .int .i64 (posOf E s'.ws).2, .bool k52, .string ⟨#[]⟩, .string ⟨#[]⟩] 90) = w53a at *
            generalize w52.heap.size = F at *
            rw [pr_assoc] at hG
            refine (typZ p E s52 _ b53.P).mono ?_
            intro e w54 hq
            obtain ⟨s53, rfl, hB⟩ | ⟨t54, s53, v54, hx54, hG, rfl, rfl, hP54, hM54, hm54⟩ := hq.cut hG hno b53.M
            · go_wp2_with fail
              exact ⟨rfl, hB⟩
            have b54 := b53.call hP54 hM54 hm54
            clear hP54 hM54
            have hl54 := typ_len hx54 b53.P.kind
            unfold str
            have hf54 := (hm54.same _ (heap_lt hf53) (by omega)).trans hf53
            have hr54 := ownsRow_mv' hr53 hm54 hpb
            have e0 := (cells5 hf54).1
            have e1 := (cells5 hf54).2.1
            have e2 := (cells5 hf54).2.2.1
            have e3 := (cells5 hf54).2.2.2.1
            have e4 := (cells5 hf54).2.2.2.2
            have ef : ∀ i, w54.frozen? ⟨F, i, none⟩ = false := fun i => by unfold World.frozen?; rw [hf54]; rfl
            go_wp2_with fail
            clear e0 e1 e2 e3 e4 ef
            have hmF55 : Mv (fun k => k = F) w54 (w54.setCell ⟨F, 3, none⟩ (.string ⟨t54.toArray⟩)) := (Mv.setCell (X := fun k => k = F) _ _ rfl)
            have b55 := b54.other hf54 hpF hwF (by decide) hBF hmF55
            have hf55 : (w54.setCell ⟨F, 3, none⟩ (.string ⟨t54.toArray⟩)).heap[F]? = some (.cells #[.int .i64 (posOf E s'.ws).1, .int .i64 (posOf E s'.ws).2, .bool k52, .string ⟨t54.toArray⟩, .string ⟨#[]⟩] 90 (0, 0)) := (set_same hf54)
            have hr55 := ownsRow_keep hr54 hmF55 (fun k hk he => by have := hov k hk; omega)
            generalize w54.setCell ⟨F, 3, none⟩ (.string ⟨t54.toArray⟩) = w55 at *
            refine (atZ p E s53 _ b55.P).mono ?_
            rintro e w56 ⟨rfl, hb56⟩
            have b56 := b55.call (b55.P.below hb56) (b55.M.trans (Mv.below hb56)) (Mv.below hb56)
            have hr56 := ownsRow_mv' hr55 (Mv.below (X := fun k => k = p) hb56) hpb
            have hf56 := (hb56.block _ (heap_lt hf55)).trans hf55
            have e0 := (cells5 hf56).1
            have e1 := (cells5 hf56).2.1
            have e2 := (cells5 hf56).2.2.1
            have e3 := (cells5 hf56).2.2.2.1
            have e4 := (cells5 hf56).2.2.2.2
            have ef : ∀ i, w56.frozen? ⟨F, i, none⟩ = false := fun i => by unfold World.frozen?; rw [hf56]; rfl
            go_wp2_with fail
            clear e0 e1 e2 e3 e4 ef
            have hmF57 : Mv (fun k => k = F) w56 ((w56.setCell ⟨F, 0, none⟩ (.int .i64 (posOf E s53.ws).1)).setCell ⟨F, 1, none⟩ (.int .i64 (posOf E s53.ws).2)) := (Mv.setCell (X := fun k => k = F) _ _ rfl).trans (Mv.setCell (X := fun k => k = F) _ _ rfl)
            have b57 := b56.other hf56 hpF hwF (by decide) hBF hmF57
            have hf57 : ((w56.setCell ⟨F, 0, none⟩ (.int .i64 (posOf E s53.ws).1)).setCell ⟨F, 1, none⟩ (.int .i64 (posOf E s53.ws).2)).heap[F]? = some (.cells #[.int .i64 (posOf E s53.ws).1, .int .i64 (posOf E s53.ws).2, .bool k52, .string ⟨t54.toArray⟩, .string ⟨#[]⟩] 90 (0, 0)) := (set_same (set_same hf56))
            have hr57 := ownsRow_keep hr56 hmF57 (fun k hk he => by have := hov k hk; omega)
            generalize (w56.setCell ⟨F, 0, none⟩ (.int .i64 (posOf E s53.ws).1)).setCell ⟨F, 1, none⟩ (.int .i64 (posOf E s53.ws).2) = w57 at *
            rw [pr_assoc] at hG
            refine (nameZ p E s53 _ b57.P).mono ?_
            intro e w58 hq
            obtain ⟨s58, rfl, hB⟩ | ⟨n58, s58, v58, hx58, hG, rfl, rfl, hP58, hM58, hm58⟩ := hq.cut hG hno b57.M
            · go_wp2_with fail
              exact ⟨rfl, hB⟩
            have b58 := b57.call hP58 hM58 hm58
            clear hP58 hM58
            unfold str
            have hf58 := (hm58.same _ (heap_lt hf57) (by omega)).trans hf57
            have hr58 := ownsRow_mv' hr57 hm58 hpb
            have e0 := (cells5 hf58).1
            have e1 := (cells5 hf58).2.1
            have e2 := (cells5 hf58).2.2.1
            have e3 := (cells5 hf58).2.2.2.1
            have e4 := (cells5 hf58).2.2.2.2
            have ef : ∀ i, w58.frozen? ⟨F, i, none⟩ = false := fun i => by unfold World.frozen?; rw [hf58]; rfl
            go_wp2_with fail
            clear e0 e1 e2 e3 e4 ef
            have hmF59 : Mv (fun k => k = F) w58 (w58.setCell ⟨F, 4, none⟩ (.string ⟨n58.toArray⟩)) := (Mv.setCell (X := fun k => k = F) _ _ rfl)
            have b59 := b58.other hf58 hpF hwF (by decide) hBF hmF59
            have hf59 : (w58.setCell ⟨F, 4, none⟩ (.string ⟨n58.toArray⟩)).heap[F]? = some (.cells #[.int .i64 (posOf E s53.ws).1, .int .i64 (posOf E s53.ws).2, .bool k52, .string ⟨t54.toArray⟩, .string ⟨n58.toArray⟩] 90 (0, 0)) := (set_same hf58)
            have hr59 := ownsRow_keep hr58 hmF59 (fun k hk he => by have := hov k hk; omega)
            generalize w58.setCell ⟨F, 4, none⟩ (.string ⟨n58.toArray⟩) = w59 at *
            have z := cells5 (W := w59.drew) (show w59.drew.heap[F]? = _ from hf59)
            obtain ⟨z0, z1, z2, z3, z4⟩ := z
            have z5 : w59.drew.cell? ⟨w1.heap.size, 6, none⟩ = some v := (cells8 b59.box).2.2.2.2.2.2.1
            have a0 := fun o => cell_alloc z0 o
            have a1 := fun o => cell_alloc z1 o
            have a2 := fun o => cell_alloc z2 o
            have a3 := fun o => cell_alloc z3 o
            have a4 := fun o => cell_alloc z4 o
            have a5 := fun o => cell_alloc z5 o
            have x0 : ∀ o, (w59.alloc o).drew.cell? ⟨F, 0, none⟩ = some (.int .i64 (posOf E s53.ws).1) := fun o => a0 o
            have x1 : ∀ o, (w59.alloc o).drew.cell? ⟨F, 1, none⟩ = some (.int .i64 (posOf E s53.ws).2) := fun o => a1 o
            have x2 : ∀ o, (w59.alloc o).drew.cell? ⟨F, 2, none⟩ = some (.bool k52) := fun o => a2 o
            have x3 : ∀ o, (w59.alloc o).drew.cell? ⟨F, 3, none⟩ = some (.string ⟨t54.toArray⟩) := fun o => a3 o
            have x4 : ∀ o, (w59.alloc o).drew.cell? ⟨F, 4, none⟩ = some (.string ⟨n58.toArray⟩) := fun o => a4 o
            have x5 : ∀ o, (w59.alloc o).drew.cell? ⟨w1.heap.size, 6, none⟩ = some v := fun o => a5 o
            have b60 : Box p E w w1.heap.size 73 w59.drew s58 _ := b59.call (b59.P.none (Mv.drew _)) b59.M.drawn (Mv.drew _)
            have hr60 : w59.drew.ownsRow w19.heap.size 90 5 v l.length (pmCells qs) := hr59
            have h60 : w19.heap.size ≤ w59.drew.heap.size := by have := hm54.size; have := hmF55.size; have := hb56.size; have := hmF57.size; have := hm58.size; have := hmF59.size; show _ ≤ w59.heap.size; omega
            go_wp2_with fail
            go_region_law (first | (refine step_append_lies _ rfl _ _ 70 rfl w19.heap.size 90 i0 (.agg #[.int .i64 0, .int .i64 0, .bool false, .string ⟨#[]⟩, .string ⟨#[]⟩]) 5 56 Tryz.underlying70 hi hz0 hz1 hz2 rfl (by decide) v l.length (pmCells qs) rfl (hr60.alloc _) _ 1 1 [.int .i64 (posOf E s53.ws).1, .int .i64 (posOf E s53.ws).2, .bool k52, .string ⟨t54.toArray⟩, .string ⟨n58.toArray⟩] rfl rfl (World.news_of_block (heap_alloc_new w59.drew _)) (by simp [Value.oneCell']) (by decide) (by unfold maxLen; omega) (by omega) (Nat.le_trans h60 (by simp)) _ rfl ?_; intro gg cap w61 hown' hgr hat hgl; (obtain ⟨-, -, -, -, -, -, d6, -, df⟩ := cells8 (row_step (by decide) hr60 b60 hBb hwb (belowAlloc _ _) hgr).box)))
            all_goals
              have b61 := row_step (by decide) hr60 b60 hBb hwb (belowAlloc _ _) hgr
              have hm62 : Mv (fun k => k = w1.heap.size) w61 (w61.setCell ⟨w1.heap.size, 6, none⟩ (.slice (some ⟨gg, 0, none⟩) (l.length + 1) cap)) := Mv.setCell _ _ rfl
              have b62 := b61.put (cs' := #[.int .i64 3, .int .i64 (posOf E s4.ws).1, .int .i64 (posOf E s4.ws).2, .string ⟨t4.toArray⟩, .string ⟨n12.toArray⟩, .slice none 0 0, .slice (some ⟨gg, 0, none⟩) (l.length + 1) cap, .pointer none]) hm62 (set_same b61.box)
              have hr62 := ownsRow_mv' hown' hm62 hBb
              have h62 : w19.heap.size ≤ (w61.setCell ⟨w1.heap.size, 6, none⟩ (.slice (some ⟨gg, 0, none⟩) (l.length + 1) cap)).heap.size := Nat.le_trans h60 (Nat.le_trans (belowAlloc w59.drew _).size (Nat.le_trans hgr.size hm62.size))
              have hqs' : (qs ++ [((posOf E s53.ws), (⟨k52, t54, n58⟩ : Pm))]).map (·.2) = l ++ [⟨k52, t54, n58⟩] := by simp [hqs]
              have hr63 : (w61.setCell ⟨w1.heap.size, 6, none⟩ (.slice (some ⟨gg, 0, none⟩) (l.length + 1) cap)).ownsRow w19.heap.size 90 5 (.slice (some ⟨gg, 0, none⟩) (l.length + 1) cap) (l ++ [(⟨k52, t54, n58⟩ : Pm)]).length (pmCells (qs ++ [((posOf E s53.ws), (⟨k52, t54, n58⟩ : Pm))])) := by rw [pmCells_snoc]; simpa [str] using hr62
              clear hown' hgr hat hgl d6 df b60 hr60 b59 hr59 hf59 z0 z1 z2 z3 z4 z5 a0 a1 a2 a3 a4 a5 x0 x1 x2 x3 x4 x5 hr62 b61 hm62
              generalize w61.setCell ⟨w1.heap.size, 6, none⟩ (.slice (some ⟨gg, 0, none⟩) (l.length + 1) cap) = w62 at *
              rw [pr_assoc] at hG
              go_wp2_with fail
              refine (mayZ p E s58 [44] _ b62.P).mono ?_
              intro e w64 hq
              obtain ⟨s64, rfl, hB⟩ | ⟨k64, s64, v64, hx64, hG, rfl, rfl, hP64, hM64, hm64⟩ := hq.cut hG hno b62.M
              · go_wp2_with fail
                exact ⟨rfl, hB⟩
              have b64 := b62.call hP64 hM64 hm64
              clear hP64 hM64
              have hr64 := ownsRow_mv' hr63 hm64 hpb
              have h64 := Nat.le_trans h62 hm64.size
              cases k64
              · simp only [Bool.false_eq_true, if_false] at hG
                rw [pr_assoc] at hG
                go_wp2_with fail
                refine (mustZ p E s64 [41] _ b64.P).mono ?_
                intro e w65 hq
                obtain ⟨s65, rfl, hB⟩ | ⟨_, s65, v65, hx65, hG, rfl, -, hP65, hM65, hm65⟩ := hq.cut hG hno b64.M
                · go_wp2_with fail
                  exact ⟨rfl, hB⟩
                have b65 := b64.call hP65 hM65 hm65
                clear hP65 hM65
                go_wp2_with fail
                go_roundg f'
                all_goals first | omega | exact ⟨f', false, _, _, s65, _, by simp; omega, Nat.le_refl _, rfl, hG, hqs', ownsRow_mv' hr64 hm65 hpb, b65, Nat.le_trans h64 hm65.size⟩
              · simp only [if_true] at hG
                go_wp2_with fail
                go_roundg f'
                all_goals first | omega | exact ⟨f', true, _, _, s64, _, by simp; omega, Nat.le_refl _, rfl, hG, hqs', hr64, b64, h64⟩
  · simp only [if_true] at hG
    go_wp2_with fail
    refine (nameZ p E s3 _ b3.P).mono ?_
    intro e w6 hq
    obtain ⟨s6, rfl, hB⟩ | ⟨n6, s6, v6, hx6, hG, rfl, rfl, hP6, hM6, hm6⟩ := hq.cut hG hno b3.M
    · go_wp2_with fail
      exact ⟨rfl, hB⟩
    have b6 := b3.call hP6 hM6 hm6
    clear hP6 hM6
    unfold str
    have hn6 := (nameP_len hx6 b3.P.kind).1
    obtain ⟨c0, c1, c2, c3, c4, c5, c6, c7, cf⟩ := cells8 b6.box
    go_wp2_with fail
    have b7 := b6.put (cs' := #[.int .i64 2, .int .i64 (posOf E s.ws).1, .int .i64 (posOf E s.ws).2, .string ⟨#[]⟩, .string ⟨n6.toArray⟩, .slice none 0 0, .slice none 0 0, .pointer none]) ((Mv.setCell (X := fun k => k = w1.heap.size) _ _ rfl)) ((set_same b6.box) : (w6.setCell ⟨w1.heap.size, 4, none⟩ (.string ⟨n6.toArray⟩)).heap[w1.heap.size]? = _)
    clear c0 c1 c2 c3 c4 c5 c6 c7 cf
    generalize w6.setCell ⟨w1.heap.size, 4, none⟩ (.string ⟨n6.toArray⟩) = w7 at *
    refine (mayZ p E s6 [123] _ b7.P).mono ?_
    intro e w8 hq
    obtain ⟨s8, rfl, hB⟩ | ⟨k8, s8, v8, hx8, hG, rfl, rfl, hP8, hM8, hm8⟩ := hq.cut hG hno b7.M
    · go_wp2_with fail
      exact ⟨rfl, hB⟩
    have b8 := b7.call hP8 hM8 hm8
    clear hP8 hM8
    cases k8
    · simp only [Bool.false_eq_true, if_false] at hG
      have hlen : 7 + n6.length ≤ 9223372036854775807 := by omega
      obtain ⟨c0, c1, c2, c3, c4, c5, c6, c7, cf⟩ := cells8 b8.box
      go_wp2_with fail
      have hC := starsZ p E s8 ([115, 116, 114, 117, 99, 116, 32] ++ n6) _ b8.P (by simp; omega)
      have he : (Value.string ((⟨#[115, 116, 114, 117, 99, 116, 32]⟩ : ByteArray) ++ ⟨n6.toArray⟩)) = str ([115, 116, 114, 117, 99, 116, 32] ++ n6) := by
        unfold str
        simp [ByteArray.ext_iff, ByteArray.data_append]
      rw [← he] at hC
      clear he
      refine (hC).mono ?_
      intro e w9 hq
      obtain ⟨s9, rfl, hB⟩ | ⟨t9, s9, v9, hx9, hG, rfl, rfl, hP9, hM9, hm9⟩ := hq.cut hG hno b8.M
      · go_wp2_with fail
        exact ⟨rfl, hB⟩
      have b9 := b8.call hP9 hM9 hm9
      clear hP9 hM9
      unfold str
      have hl9 : t9.length ≤ 200000 := by
        have h5 := starN_le s8.ws
        have h6 := b8.P.kind.1
        cases hx9
        simp only [List.length_append, List.length_replicate, List.length_cons, List.length_nil]
        omega
      clear c0 c1 c2 c3 c4 c5 c6 c7 cf
      obtain ⟨c0, c1, c2, c3, c4, c5, c6, c7, cf⟩ := cells8 b9.box
      go_wp2_with fail
      have b10 := b9.put (cs' := #[.int .i64 2, .int .i64 (posOf E s.ws).1, .int .i64 (posOf E s.ws).2, .string ⟨t9.toArray⟩, .string ⟨n6.toArray⟩, .slice none 0 0, .slice none 0 0, .pointer none]) ((Mv.setCell (X := fun k => k = w1.heap.size) _ _ rfl)) ((set_same b9.box) : (w9.setCell ⟨w1.heap.size, 3, none⟩ (.string ⟨t9.toArray⟩)).heap[w1.heap.size]? = _)
      clear c0 c1 c2 c3 c4 c5 c6 c7 cf
      generalize w9.setCell ⟨w1.heap.size, 3, none⟩ (.string ⟨t9.toArray⟩) = w10 at *
      unfold restP at hG
      refine (atZ p E s9 _ b10.P).mono ?_
      rintro e w20 ⟨rfl, hb20⟩
      have b20 := b10.call (b10.P.below hb20) (b10.M.trans (Mv.below hb20)) (Mv.below hb20)
      obtain ⟨c0, c1, c2, c3, c4, c5, c6, c7, cf⟩ := cells8 b20.box
      go_wp2_with fail
      have b21 := b20.put (cs' := #[.int .i64 2, .int .i64 (posOf E s9.ws).1, .int .i64 (posOf E s9.ws).2, .string ⟨t9.toArray⟩, .string ⟨n6.toArray⟩, .slice none 0 0, .slice none 0 0, .pointer none]) ((Mv.setCell (X := fun k => k = w1.heap.size) _ _ rfl).trans (Mv.setCell (X := fun k => k = w1.heap.size) _ _ rfl)) ((set_same (set_same b20.box)) : ((w20.setCell ⟨w1.heap.size, 1, none⟩ (.int .i64 (posOf E s9.ws).1)).setCell ⟨w1.heap.size, 2, none⟩ (.int .i64 (posOf E s9.ws).2)).heap[w1.heap.size]? = _)
      clear c0 c1 c2 c3 c4 c5 c6 c7 cf
      generalize (w20.setCell ⟨w1.heap.size, 1, none⟩ (.int .i64 (posOf E s9.ws).1)).setCell ⟨w1.heap.size, 2, none⟩ (.int .i64 (posOf E s9.ws).2) = w21 at *
      refine (nameZ p E s9 _ b21.P).mono ?_
      intro e w22 hq
      obtain ⟨s22, rfl, hB⟩ | ⟨n22, s22, v22, hx22, hG, rfl, rfl, hP22, hM22, hm22⟩ := hq.cut hG hno b21.M
      · go_wp2_with fail
        exact ⟨rfl, hB⟩
      have b22 := b21.call hP22 hM22 hm22
      clear hP22 hM22
      unfold str
      obtain ⟨c0, c1, c2, c3, c4, c5, c6, c7, cf⟩ := cells8 b22.box
      go_wp2_with fail
      have b23 := b22.put (cs' := #[.int .i64 2, .int .i64 (posOf E s9.ws).1, .int .i64 (posOf E s9.ws).2, .string ⟨t9.toArray⟩, .string ⟨n22.toArray⟩, .slice none 0 0, .slice none 0 0, .pointer none]) ((Mv.setCell (X := fun k => k = w1.heap.size) _ _ rfl)) ((set_same b22.box) : (w22.setCell ⟨w1.heap.size, 4, none⟩ (.string ⟨n22.toArray⟩)).heap[w1.heap.size]? = _)
      clear c0 c1 c2 c3 c4 c5 c6 c7 cf
      generalize w22.setCell ⟨w1.heap.size, 4, none⟩ (.string ⟨n22.toArray⟩) = w23 at *
      rw [bind_ok (rfl : isP [40] s22 = .ok (isB s22.ws [40]) s22)] at hG
      refine (isZ p E s22 [40] _ b23.P).mono ?_
      rintro e w' ⟨rfl, rfl⟩
      cases hb24 : isB s22.ws [40]
      · rw [hb24] at hG
        simp only [Bool.false_eq_true, if_false] at hG
        obtain ⟨c0, c1, c2, c3, c4, c5, c6, c7, cf⟩ := cells8 b23.box
        go_wp2_with fail
        refine (arrayZ p E s22 t9 _ b23.P hl9).mono ?_
        intro e w25 hq
        obtain ⟨s25, rfl, hB⟩ | ⟨t25, s25, v25, hx25, hG, rfl, rfl, hP25, hM25, hm25⟩ := hq.cut hG hno b23.M
        · go_wp2_with fail
          exact ⟨rfl, hB⟩
        have b25 := b23.call hP25 hM25 hm25
        clear hP25 hM25
        unfold str
        clear c0 c1 c2 c3 c4 c5 c6 c7 cf
        obtain ⟨c0, c1, c2, c3, c4, c5, c6, c7, cf⟩ := cells8 b25.box
        go_wp2_with fail
        have b26 := b25.put (cs' := #[.int .i64 2, .int .i64 (posOf E s9.ws).1, .int .i64 (posOf E s9.ws).2, .string ⟨t25.toArray⟩, .string ⟨n22.toArray⟩, .slice none 0 0, .slice none 0 0, .pointer none]) ((Mv.setCell (X := fun k => k = w1.heap.size) _ _ rfl)) ((set_same b25.box) : (w25.setCell ⟨w1.heap.size, 3, none⟩ (.string ⟨t25.toArray⟩)).heap[w1.heap.size]? = _)
        clear c0 c1 c2 c3 c4 c5 c6 c7 cf
        generalize w25.setCell ⟨w1.heap.size, 3, none⟩ (.string ⟨t25.toArray⟩) = w26 at *
        refine (mustZ p E s25 [59] _ b26.P).mono ?_
        intro e w27 hq
        obtain ⟨s27, rfl, hB⟩ | ⟨_, s27, v27, hx27, hG, rfl, -, hP27, hM27, hm27⟩ := hq.cut hG hno b26.M
        · go_wp2_with fail
          exact ⟨rfl, hB⟩
        have b27 := b26.call hP27 hM27 hm27
        clear hP27 hM27
        go_wp2_with fail
        exact bodyPost_ret (v := ptr w1.heap.size) (by simp [results, Tryz.results30, go_sem, ptr]) rfl (Post.wellc hG b27.M b27.P ⟨_, rfl, b27.wB, _, _, _, _, _, [], b27.box, RowIn.nil _ _ _ _, rfl, RowIn.nil _ _ _ _, rfl⟩)
      · rw [hb24] at hG
        simp only [if_true] at hG
        have hfu : funcP s22 = .ok () { s22 with funcs := wrap64 (s22.funcs + 1), over := s22.over || !decide (wrap64 (s22.funcs + 1) ≤ 100) } := rfl
        rw [bind_ok hfu] at hG
        obtain ⟨bb, cc, oo, g1, g2, g3, g4, g5⟩ := b23.P.cells
        obtain ⟨-, -, -, -, p4, -, -, pf⟩ := cells7 g5
        have hPf := b23.P.putFuncs (wrap64 (s22.funcs + 1))
        have hmf : Mv (fun k => k = p) w23 (w23.setCell ⟨p, 4, none⟩ (.int .i64 (wrap64 (s22.funcs + 1)))) := Mv.setCell _ _ rfl
        have b25 := b23.call hPf (b23.M.trans hmf) hmf
        clear g1 g2 g3 g4 g5 hPf
        go_wp2_with fail
        clear p4 pf
        have C1 := fun b => limitZ p E _ b _ b25.P
        refine (C1 _).mono ?_
        rintro e w26 ⟨hm26, hP26, v, rfl, -⟩
        have b26 := b25.call hP26 (b25.M.trans hm26) hm26
        clear C1 hP26
        go_wp2_with fail
        refine (takeZ p E _ _ b26.P (isB_ne hb24)).mono ?_
        intro e w27 hq
        obtain ⟨s27, rfl, hB⟩ | ⟨x27, s27, v27, hx27, hG, rfl, rfl, hP27, hM27, hm27⟩ := hq.cut hG hno b26.M
        · go_wp2_with fail
          exact ⟨rfl, hB⟩
        have b27 := b26.call hP27 hM27 hm27
        clear hP27 hM27
        obtain ⟨c0, c1, c2, c3, c4, c5, c6, c7, cf⟩ := cells8 b27.box
        go_wp2_with fail
        have b28 := b27.put (cs' := #[.int .i64 3, .int .i64 (posOf E s9.ws).1, .int .i64 (posOf E s9.ws).2, .string ⟨t9.toArray⟩, .string ⟨n22.toArray⟩, .slice none 0 0, .slice none 0 0, .pointer none]) ((Mv.setCell (X := fun k => k = w1.heap.size) _ _ rfl)) ((set_same b27.box) : (w27.setCell ⟨w1.heap.size, 0, none⟩ (.int .i64 3)).heap[w1.heap.size]? = _)
        clear c0 c1 c2 c3 c4 c5 c6 c7 cf
        generalize w27.setCell ⟨w1.heap.size, 0, none⟩ (.int .i64 3) = w28 at *
        refine (mayZ p E s27 [41] _ b28.P).mono ?_
        intro e w29 hq
        obtain ⟨s29, rfl, hB⟩ | ⟨k29, s29, v29, hx29, hG, rfl, rfl, hP29, hM29, hm29⟩ := hq.cut hG hno b28.M
        · go_wp2_with fail
          exact ⟨rfl, hB⟩
        have b29 := b28.call hP29 hM29 hm29
        clear hP29 hM29
        generalize hm9 : (!k29) = m9 at hG
        have hpb : p < w29.heap.size := b29.P.lt
        have hBb : w1.heap.size < w29.heap.size := b29.lt
        have hwb : w.heap.size ≤ w29.heap.size := b29.M.size
        obtain ⟨i0, hi, hz0, hz1, hz2⟩ := info_parts info90
        go_wp2_with fail
        go_loopg [5, 6] f (fun g s5 s6 wr => ∃ (f' : Nat) (more : Bool) (l : List Pm) (qs : List ((Int × Int) × Pm)) (s' : Sx) (v : Value), l.length + f' ≤ f ∧ f' ≤ g ∧ s5 = .bool more ∧ (paramsP f' more l >>= fun ps => blockP f >>= fun b => pure ⟨3, t9, n22, [], ps, some b⟩) s' = R ∧ qs.map (·.2) = l ∧ wr.ownsRow w29.heap.size 90 5 v l.length (pmCells qs) ∧ Box p E w w1.heap.size 73 wr s' #[.int .i64 3, .int .i64 (posOf E s9.ws).1, .int .i64 (posOf E s9.ws).2, .string ⟨t9.toArray⟩, .string ⟨n22.toArray⟩, .slice none 0 0, v, .pointer none] ∧ w29.heap.size ≤ wr.heap.size)
        case atStart => exact ⟨f, m9, [], [], s29, _, by simp, Nat.le_refl _, rfl, hG, rfl, World.ownsRow_nil _ _ _ _, b29, Nat.le_refl _⟩
        case round =>
          clear hG b29 b28 b27 b26 b25 b23 b22
          obtain ⟨f', more, l, qs, s', v, hfl, hg', rfl, hG, hqs, hr50, b50, h50⟩ := hrel
          cases f' with
          | zero => exact absurd (by rw [← hG]; rfl) hno
          | succ f' =>
            unfold paramsP at hG
            cases more
            · simp only [Bool.false_eq_true, if_false] at hG
              go_wp2_with fail
              refine (ih.block s' _ b50.P (ne_cut hG hno)).mono ?_
              intro e w51 hq
              obtain ⟨s51, rfl, hB⟩ | ⟨a51, s51, v51, hx51, hG, rfl, ⟨x51, rfl, hE51⟩, hP51, hM51, hm51⟩ := hq.cut hG hno b50.M
              · go_wp2_with fail
                exact ⟨rfl, hB⟩
              have b51 := b50.call hP51 hM51 hm51
              have hr51 := ownsRow_mv' hr50 hm51 hpb
              obtain ⟨c0, c1, c2, c3, c4, c5, c6, c7, cf⟩ := cells8 b51.box
              unfold ptr
              go_wp2_with fail
              have hm52 : Mv (fun k => k = w1.heap.size) w51 (w51.setCell ⟨w1.heap.size, 7, none⟩ (.pointer (some ⟨x51, 0, none⟩))) := Mv.setCell _ _ rfl
              have b52 := b51.put (cs' := #[.int .i64 3, .int .i64 (posOf E s9.ws).1, .int .i64 (posOf E s9.ws).2, .string ⟨t9.toArray⟩, .string ⟨n22.toArray⟩, .slice none 0 0, v, .pointer (some ⟨x51, 0, none⟩)]) hm52 (set_same b51.box)
              have hr52 := ownsRow_mv' hr51 hm52 hBb
              have hE52 : StAt (w51.setCell ⟨w1.heap.size, 7, none⟩ (.pointer (some ⟨x51, 0, none⟩))) (fun k => w.heap.size ≤ k) x51 a51 := hE51.mv (Keeps.of hm52 (fun k hk hx => by have hz := b50.lt; omega)) (fun k hk => Nat.le_trans b50.M.size hk)
              exact bodyPost_ret (v := ptr w1.heap.size) (by simp [results, Tryz.results30, go_sem, ptr]) rfl (Post.wellc hG b52.M b52.P ⟨_, rfl, b52.wB, _, _, _, _, _, qs, b52.box, RowIn.nil _ _ _ _, hqs, (RowIn.ofOwn hr52).mv (fun _ _ _ => rfl) (fun k hk => by omega), x51, rfl, hE52⟩)
            · simp only [if_true] at hG
              rw [pr_assoc] at hG
              go_wp2_with fail
              refine (atZ p E s' _ b50.P).mono ?_
              rintro e w51 ⟨rfl, hb51⟩
              have b51 := b50.call (b50.P.below hb51) (b50.M.trans (Mv.below hb51)) (Mv.below hb51)
              have hr51 := ownsRow_mv' hr50 (Mv.below (X := fun k => k = p) hb51) hpb
              have h51 := Nat.le_trans h50 hb51.size
              go_wp2_with fail
              refine (mayZ p E s' [112, 117, 98, 108, 105, 99] _ b51.P).mono ?_
              intro e w52 hq
              obtain ⟨s52, rfl, hB⟩ | ⟨k52, s52, v52, hx52, hG, rfl, rfl, hP52, hM52, hm52⟩ := hq.cut hG hno b51.M
              · go_wp2_with fail
                exact ⟨rfl, hB⟩
              have b52 := b51.call hP52 hM52 hm52
              clear hP52 hM52
              have hr52 := ownsRow_mv' hr51 hm52 hpb
              have h52 := Nat.le_trans h51 hm52.size
              have hov : ∀ k, v.ownBlock = some k → k < w52.heap.size := fun k hk => (ownsRow_own hr52 k hk).2.1
              have hf53 := heap_alloc_new w52 (.cells #[.int .i64 (posOf E s'.ws).1, .int .i64 (posOf E s'.ws).2, .bool k52, .string ⟨#[]⟩, .string ⟨#[]⟩] 90)
              have b53 := b52.call (b52.P.below (belowAlloc w52 (.cells #[.int .i64 (posOf E s'.ws).1, .int .i64 (posOf E s'.ws).2, .bool k52, .string ⟨#[]⟩, .string ⟨#[]⟩] 90))) (b52.M.more _) (Mv.alloc _ _)
              have hr53 := hr52.alloc (.cells #[.int .i64 (posOf E s'.ws).1, .int .i64 (posOf E s'.ws).2, .bool k52, .string ⟨#[]⟩, .string ⟨#[]⟩] 90)
              have hpF : p < w52.heap.size := b52.P.lt
              have hwF : w.heap.size ≤ w52.heap.size := b52.M.size
              have hBF : w1.heap.size ≠ w52.heap.size := by have := b52.lt; omega
              have h53 : w52.heap.size ≤ (w52.alloc (.cells #[.int .i64 (posOf E s'.ws).1, .int .i64 (posOf E s'.ws).2, .bool k52, .string ⟨#[]⟩, .string ⟨#[]⟩] 90)).heap.size := by simp
              go_wp2_with fail
              generalize w52.alloc (.cells #[.int .i64 (posOf E s'.ws).1, .int .i64 (posOf E s'.ws).2, .bool k52, .string ⟨#[]⟩, .string ⟨#[]⟩] 90) = w53a at *
              generalize w52.heap.size = F at *
              rw [pr_assoc] at hG
              refine (typZ p E s52 _ b53.P).mono ?_
              intro e w54 hq
              obtain ⟨s53, rfl, hB⟩ | ⟨t54, s53, v54, hx54, hG, rfl, rfl, hP54, hM54, hm54⟩ := hq.cut hG hno b53.M
              · go_wp2_with fail
                exact ⟨rfl, hB⟩
              have b54 := b53.call hP54 hM54 hm54
              clear hP54 hM54
              have hl54 := typ_len hx54 b53.P.kind
              unfold str
              have hf54 := (hm54.same _ (heap_lt hf53) (by omega)).trans hf53
              have hr54 := ownsRow_mv' hr53 hm54 hpb
              have e0 := (cells5 hf54).1
              have e1 := (cells5 hf54).2.1
              have e2 := (cells5 hf54).2.2.1
              have e3 := (cells5 hf54).2.2.2.1
              have e4 := (cells5 hf54).2.2.2.2
              have ef : ∀ i, w54.frozen? ⟨F, i, none⟩ = false := fun i => by unfold World.frozen?; rw [hf54]; rfl
              go_wp2_with fail
              clear e0 e1 e2 e3 e4 ef
              have hmF55 : Mv (fun k => k = F) w54 (w54.setCell ⟨F, 3, none⟩ (.string ⟨t54.toArray⟩)) := (Mv.setCell (X := fun k => k = F) _ _ rfl)
              have b55 := b54.other hf54 hpF hwF (by decide) hBF hmF55
              have hf55 : (w54.setCell ⟨F, 3, none⟩ (.string ⟨t54.toArray⟩)).heap[F]? = some (.cells #[.int .i64 (posOf E s'.ws).1, .int .i64 (posOf E s'.ws).2, .bool k52, .string ⟨t54.toArray⟩, .string ⟨#[]⟩] 90 (0, 0)) := (set_same hf54)
              have hr55 := ownsRow_keep hr54 hmF55 (fun k hk he => by have := hov k hk; omega)
              generalize w54.setCell ⟨F, 3, none⟩ (.string ⟨t54.toArray⟩) = w55 at *
              refine (atZ p E s53 _ b55.P).mono ?_
              rintro e w56 ⟨rfl, hb56⟩
              have b56 := b55.call (b55.P.below hb56) (b55.M.trans (Mv.below hb56)) (Mv.below hb56)
              have hr56 := ownsRow_mv' hr55 (Mv.below (X := fun k => k = p) hb56) hpb
              have hf56 := (hb56.block _ (heap_lt hf55)).trans hf55
              have e0 := (cells5 hf56).1
              have e1 := (cells5 hf56).2.1
              have e2 := (cells5 hf56).2.2.1
              have e3 := (cells5 hf56).2.2.2.1
              have e4 := (cells5 hf56).2.2.2.2
              have ef : ∀ i, w56.frozen? ⟨F, i, none⟩ = false := fun i => by unfold World.frozen?; rw [hf56]; rfl
              go_wp2_with fail
              clear e0 e1 e2 e3 e4 ef
              have hmF57 : Mv (fun k => k = F) w56 ((w56.setCell ⟨F, 0, none⟩ (.int .i64 (posOf E s53.ws).1)).setCell ⟨F, 1, none⟩ (.int .i64 (posOf E s53.ws).2)) := (Mv.setCell (X := fun k => k = F) _ _ rfl).trans (Mv.setCell (X := fun k => k = F) _ _ rfl)
              have b57 := b56.other hf56 hpF hwF (by decide) hBF hmF57
              have hf57 : ((w56.setCell ⟨F, 0, none⟩ (.int .i64 (posOf E s53.ws).1)).setCell ⟨F, 1, none⟩ (.int .i64 (posOf E s53.ws).2)).heap[F]? = some (.cells #[.int .i64 (posOf E s53.ws).1, .int .i64 (posOf E s53.ws).2, .bool k52, .string ⟨t54.toArray⟩, .string ⟨#[]⟩] 90 (0, 0)) := (set_same (set_same hf56))
              have hr57 := ownsRow_keep hr56 hmF57 (fun k hk he => by have := hov k hk; omega)
              generalize (w56.setCell ⟨F, 0, none⟩ (.int .i64 (posOf E s53.ws).1)).setCell ⟨F, 1, none⟩ (.int .i64 (posOf E s53.ws).2) = w57 at *
              rw [pr_assoc] at hG
              refine (nameZ p E s53 _ b57.P).mono ?_
              intro e w58 hq
              obtain ⟨s58, rfl, hB⟩ | ⟨n58, s58, v58, hx58, hG, rfl, rfl, hP58, hM58, hm58⟩ := hq.cut hG hno b57.M
              · go_wp2_with fail
                exact ⟨rfl, hB⟩
              have b58 := b57.call hP58 hM58 hm58
              clear hP58 hM58
              unfold str
              have hf58 := (hm58.same _ (heap_lt hf57) (by omega)).trans hf57
              have hr58 := ownsRow_mv' hr57 hm58 hpb
              have e0 := (cells5 hf58).1
              have e1 := (cells5 hf58).2.1
              have e2 := (cells5 hf58).2.2.1
              have e3 := (cells5 hf58).2.2.2.1
              have e4 := (cells5 hf58).2.2.2.2
              have ef : ∀ i, w58.frozen? ⟨F, i, none⟩ = false := fun i => by unfold World.frozen?; rw [hf58]; rfl
              go_wp2_with fail
              clear e0 e1 e2 e3 e4 ef
              have hmF59 : Mv (fun k => k = F) w58 (w58.setCell ⟨F, 4, none⟩ (.string ⟨n58.toArray⟩)) := (Mv.setCell (X := fun k => k = F) _ _ rfl)
              have b59 := b58.other hf58 hpF hwF (by decide) hBF hmF59
              have hf59 : (w58.setCell ⟨F, 4, none⟩ (.string ⟨n58.toArray⟩)).heap[F]? = some (.cells #[.int .i64 (posOf E s53.ws).1, .int .i64 (posOf E s53.ws).2, .bool k52, .string ⟨t54.toArray⟩, .string ⟨n58.toArray⟩] 90 (0, 0)) := (set_same hf58)
              have hr59 := ownsRow_keep hr58 hmF59 (fun k hk he => by have := hov k hk; omega)
              generalize w58.setCell ⟨F, 4, none⟩ (.string ⟨n58.toArray⟩) = w59 at *
              have z := cells5 (W := w59.drew) (show w59.drew.heap[F]? = _ from hf59)
              obtain ⟨z0, z1, z2, z3, z4⟩ := z
              have z5 : w59.drew.cell? ⟨w1.heap.size, 6, none⟩ = some v := (cells8 b59.box).2.2.2.2.2.2.1
              have a0 := fun o => cell_alloc z0 o
              have a1 := fun o => cell_alloc z1 o
              have a2 := fun o => cell_alloc z2 o
              have a3 := fun o => cell_alloc z3 o
              have a4 := fun o => cell_alloc z4 o
              have a5 := fun o => cell_alloc z5 o
              have x0 : ∀ o, (w59.alloc o).drew.cell? ⟨F, 0, none⟩ = some (.int .i64 (posOf E s53.ws).1) := fun o => a0 o
              have x1 : ∀ o, (w59.alloc o).drew.cell? ⟨F, 1, none⟩ = some (.int .i64 (posOf E s53.ws).2) := fun o => a1 o
              have x2 : ∀ o, (w59.alloc o).drew.cell? ⟨F, 2, none⟩ = some (.bool k52) := fun o => a2 o
              have x3 : ∀ o, (w59.alloc o).drew.cell? ⟨F, 3, none⟩ = some (.string ⟨t54.toArray⟩) := fun o => a3 o
              have x4 : ∀ o, (w59.alloc o).drew.cell? ⟨F, 4, none⟩ = some (.string ⟨n58.toArray⟩) := fun o => a4 o
              have x5 : ∀ o, (w59.alloc o).drew.cell? ⟨w1.heap.size, 6, none⟩ = some v := fun o => a5 o
              have b60 : Box p E w w1.heap.size 73 w59.drew s58 _ := b59.call (b59.P.none (Mv.drew _)) b59.M.drawn (Mv.drew _)
              have hr60 : w59.drew.ownsRow w29.heap.size 90 5 v l.length (pmCells qs) := hr59
              have h60 : w29.heap.size ≤ w59.drew.heap.size := by have := hm54.size; have := hmF55.size; have := hb56.size; have := hmF57.size; have := hm58.size; have := hmF59.size; show _ ≤ w59.heap.size; omega
              go_wp2_with fail
              go_region_law (first | (refine step_append_lies _ rfl _ _ 70 rfl w29.heap.size 90 i0 (.agg #[.int .i64 0, .int .i64 0, .bool false, .string ⟨#[]⟩, .string ⟨#[]⟩]) 5 56 Tryz.underlying70 hi hz0 hz1 hz2 rfl (by decide) v l.length (pmCells qs) rfl (hr60.alloc _) _ 1 1 [.int .i64 (posOf E s53.ws).1, .int .i64 (posOf E s53.ws).2, .bool k52, .string ⟨t54.toArray⟩, .string ⟨n58.toArray⟩] rfl rfl (World.news_of_block (heap_alloc_new w59.drew _)) (by simp [Value.oneCell']) (by decide) (by unfold maxLen; omega) (by omega) (Nat.le_trans h60 (by simp)) _ rfl ?_; intro gg cap w61 hown' hgr hat hgl; (obtain ⟨-, -, -, -, -, -, d6, -, df⟩ := cells8 (row_step (by decide) hr60 b60 hBb hwb (belowAlloc _ _) hgr).box)))
              all_goals
                have b61 := row_step (by decide) hr60 b60 hBb hwb (belowAlloc _ _) hgr
                have hm62 : Mv (fun k => k = w1.heap.size) w61 (w61.setCell ⟨w1.heap.size, 6, none⟩ (.slice (some ⟨gg, 0, none⟩) (l.length + 1) cap)) := Mv.setCell _ _ rfl
                have b62 := b61.put (cs' := #[.int .i64 3, .int .i64 (posOf E s9.ws).1, .int .i64 (posOf E s9.ws).2, .string ⟨t9.toArray⟩, .string ⟨n22.toArray⟩, .slice none 0 0, .slice (some ⟨gg, 0, none⟩) (l.length + 1) cap, .pointer none]) hm62 (set_same b61.box)
                have hr62 := ownsRow_mv' hown' hm62 hBb
                have h62 : w29.heap.size ≤ (w61.setCell ⟨w1.heap.size, 6, none⟩ (.slice (some ⟨gg, 0, none⟩) (l.length + 1) cap)).heap.size := Nat.le_trans h60 (Nat.le_trans (belowAlloc w59.drew _).size (Nat.le_trans hgr.size hm62.size))
                have hqs' : (qs ++ [((posOf E s53.ws), (⟨k52, t54, n58⟩ : Pm))]).map (·.2) = l ++ [⟨k52, t54, n58⟩] := by simp [hqs]
                have hr63 : (w61.setCell ⟨w1.heap.size, 6, none⟩ (.slice (some ⟨gg, 0, none⟩) (l.length + 1) cap)).ownsRow w29.heap.size 90 5 (.slice (some ⟨gg, 0, none⟩) (l.length + 1) cap) (l ++ [(⟨k52, t54, n58⟩ : Pm)]).length (pmCells (qs ++ [((posOf E s53.ws), (⟨k52, t54, n58⟩ : Pm))])) := by rw [pmCells_snoc]; simpa [str] using hr62
                clear hown' hgr hat hgl d6 df b60 hr60 b59 hr59 hf59 z0 z1 z2 z3 z4 z5 a0 a1 a2 a3 a4 a5 x0 x1 x2 x3 x4 x5 hr62 b61 hm62
                generalize w61.setCell ⟨w1.heap.size, 6, none⟩ (.slice (some ⟨gg, 0, none⟩) (l.length + 1) cap) = w62 at *
                rw [pr_assoc] at hG
                go_wp2_with fail
                refine (mayZ p E s58 [44] _ b62.P).mono ?_
                intro e w64 hq
                obtain ⟨s64, rfl, hB⟩ | ⟨k64, s64, v64, hx64, hG, rfl, rfl, hP64, hM64, hm64⟩ := hq.cut hG hno b62.M
                · go_wp2_with fail
                  exact ⟨rfl, hB⟩
                have b64 := b62.call hP64 hM64 hm64
                clear hP64 hM64
                have hr64 := ownsRow_mv' hr63 hm64 hpb
                have h64 := Nat.le_trans h62 hm64.size
                cases k64
                · simp only [Bool.false_eq_true, if_false] at hG
                  rw [pr_assoc] at hG
                  go_wp2_with fail
                  refine (mustZ p E s64 [41] _ b64.P).mono ?_
                  intro e w65 hq
                  obtain ⟨s65, rfl, hB⟩ | ⟨_, s65, v65, hx65, hG, rfl, -, hP65, hM65, hm65⟩ := hq.cut hG hno b64.M
                  · go_wp2_with fail
                    exact ⟨rfl, hB⟩
                  have b65 := b64.call hP65 hM65 hm65
                  clear hP65 hM65
                  go_wp2_with fail
                  go_roundg f'
                  all_goals first | omega | exact ⟨f', false, _, _, s65, _, by simp; omega, Nat.le_refl _, rfl, hG, hqs', ownsRow_mv' hr64 hm65 hpb, b65, Nat.le_trans h64 hm65.size⟩
                · simp only [if_true] at hG
                  go_wp2_with fail
                  go_roundg f'
                  all_goals first | omega | exact ⟨f', true, _, _, s64, _, by simp; omega, Nat.le_refl _, rfl, hG, hqs', hr64, b64, h64⟩
    · simp only [if_true] at hG
      obtain ⟨c0, c1, c2, c3, c4, c5, c6, c7, cf⟩ := cells8 b8.box
      go_wp2_with fail
      have b20 := b8.put (cs' := #[.int .i64 1, .int .i64 (posOf E s.ws).1, .int .i64 (posOf E s.ws).2, .string ⟨#[]⟩, .string ⟨n6.toArray⟩, .slice none 0 0, .slice none 0 0, .pointer none]) ((Mv.setCell (X := fun k => k = w1.heap.size) _ _ rfl)) ((set_same b8.box) : (w8.setCell ⟨w1.heap.size, 0, none⟩ (.int .i64 1)).heap[w1.heap.size]? = _)
      clear c0 c1 c2 c3 c4 c5 c6 c7 cf
      generalize w8.setCell ⟨w1.heap.size, 0, none⟩ (.int .i64 1) = w20 at *
      have hpb : p < w20.heap.size := b20.P.lt
      have hBb : w1.heap.size < w20.heap.size := b20.lt
      have hwb : w.heap.size ≤ w20.heap.size := b20.M.size
      obtain ⟨i0, hi, hz0, hz1, hz2⟩ := info_parts info86
      go_loopg [4] f (fun g s4 wr => ∃ (f' : Nat) (l : List Fd) (s' : Sx) (v : Value), l.length + f' ≤ f ∧ f' ≤ g ∧ (fieldsP f' l >>= fun l => mustP [59] >>= fun _ => pure ⟨1, [], n6, l, [], none⟩) s' = R ∧ wr.ownsRow w20.heap.size 86 2 v l.length (fdCells l) ∧ Box p E w w1.heap.size 73 wr s' #[.int .i64 1, .int .i64 (posOf E s.ws).1, .int .i64 (posOf E s.ws).2, .string ⟨#[]⟩, .string ⟨n6.toArray⟩, v, .slice none 0 0, .pointer none] ∧ w20.heap.size ≤ wr.heap.size)
      case atStart => exact ⟨f, [], s8, _, by simp, Nat.le_refl _, hG, World.ownsRow_nil _ _ _ _, b20, Nat.le_refl _⟩
      case round =>
        clear hG b2 b3 b6 b7 b8 b20
        obtain ⟨f', l, s', v, hfl, hg', hG, hr30, b30, h30⟩ := hrel
        cases f' with
        | zero => exact absurd (by rw [← hG]; rfl) hno
        | succ f' =>
          unfold fieldsP at hG
          rw [pr_assoc] at hG
          go_wp2_with fail
          refine (mayZ p E s' [125] _ b30.P).mono ?_
          intro e w31 hq
          obtain ⟨s31, rfl, hB⟩ | ⟨k31, s31, v31, hx31, hG, rfl, rfl, hP31, hM31, hm31⟩ := hq.cut hG hno b30.M
          · go_wp2_with fail
            exact ⟨rfl, hB⟩
          have b31 := b30.call hP31 hM31 hm31
          clear hP31 hM31
          have hr31 := ownsRow_mv' hr30 hm31 hpb
          have h31 := Nat.le_trans h30 hm31.size
          cases k31
          · simp only [Bool.false_eq_true, if_false] at hG
            rw [pr_assoc] at hG
            go_wp2_with fail
            refine (typZ p E s31 _ b31.P).mono ?_
            intro e w33 hq
            obtain ⟨s33, rfl, hB⟩ | ⟨t33, s33, v33, hx33, hG, rfl, rfl, hP33, hM33, hm33⟩ := hq.cut hG hno b31.M
            · go_wp2_with fail
              exact ⟨rfl, hB⟩
            have b33 := b31.call hP33 hM33 hm33
            clear hP33 hM33
            have hl33 := typ_len hx33 b31.P.kind
            unfold str
            have hr33 := ownsRow_mv' hr31 hm33 hpb
            have h33 := Nat.le_trans h31 hm33.size
            have hov : ∀ k, v.ownBlock = some k → k < w33.heap.size := fun k hk => (ownsRow_own hr33 k hk).2.1
            have hf34 := heap_alloc_new w33 (.cells #[.string ⟨t33.toArray⟩, .string ⟨#[]⟩] 86)
            have b34 := b33.call (b33.P.below (belowAlloc w33 (.cells #[.string ⟨t33.toArray⟩, .string ⟨#[]⟩] 86))) (b33.M.more _) (Mv.alloc _ _)
            have hr34 := hr33.alloc (.cells #[.string ⟨t33.toArray⟩, .string ⟨#[]⟩] 86)
            have hpF : p < w33.heap.size := b33.P.lt
            have hwF : w.heap.size ≤ w33.heap.size := b33.M.size
            have hBF : w1.heap.size ≠ w33.heap.size := by have := b33.lt; omega
            have hm34 : w33.heap.size ≤ (w33.alloc (.cells #[.string ⟨t33.toArray⟩, .string ⟨#[]⟩] 86)).heap.size := by simp
            go_wp2_with fail
            generalize w33.alloc (.cells #[.string ⟨t33.toArray⟩, .string ⟨#[]⟩] 86) = w34 at *
            generalize w33.heap.size = F at *
            rw [pr_assoc] at hG
            refine (nameZ p E s33 _ b34.P).mono ?_
            intro e w35 hq
            obtain ⟨s35, rfl, hB⟩ | ⟨n35, s35, v35, hx35, hG, rfl, rfl, hP35, hM35, hm35⟩ := hq.cut hG hno b34.M
            · go_wp2_with fail
              exact ⟨rfl, hB⟩
            have b35 := b34.call hP35 hM35 hm35
            clear hP35 hM35
            unfold str
            have hf35 := (hm35.same _ (heap_lt hf34) (by omega)).trans hf34
            have hr35 := ownsRow_mv' hr34 hm35 hpb
            have e0 : w35.cell? ⟨F, 0, none⟩ = some (.string ⟨t33.toArray⟩) := by unfold World.cell?; rw [hf35]; rfl
            have e1 : w35.cell? ⟨F, 1, none⟩ = some (.string ⟨#[]⟩) := by unfold World.cell?; rw [hf35]; rfl
            have ef : ∀ i, w35.frozen? ⟨F, i, none⟩ = false := fun i => by unfold World.frozen?; rw [hf35]; rfl
            go_wp2_with fail
            clear e0 e1 ef
            have hmF36 : Mv (fun k => k = F) w35 (w35.setCell ⟨F, 1, none⟩ (.string ⟨n35.toArray⟩)) := Mv.setCell _ _ rfl
            have b36 := b35.other hf35 hpF hwF (by decide) hBF hmF36
            have hf36 : (w35.setCell ⟨F, 1, none⟩ (.string ⟨n35.toArray⟩)).heap[F]? = some (.cells #[.string ⟨t33.toArray⟩, .string ⟨n35.toArray⟩] 86 (0, 0)) := set_same hf35
            have hr36 := ownsRow_keep hr35 hmF36 (fun k hk he => by have := hov k hk; omega)
            generalize w35.setCell ⟨F, 1, none⟩ (.string ⟨n35.toArray⟩) = w36 at *
            rw [pr_assoc] at hG
            refine (arrayZ p E s35 t33 _ b36.P hl33).mono ?_
            intro e w37 hq
            obtain ⟨s37, rfl, hB⟩ | ⟨t37, s37, v37, hx37, hG, rfl, rfl, hP37, hM37, hm37⟩ := hq.cut hG hno b36.M
            · go_wp2_with fail
              exact ⟨rfl, hB⟩
            have b37 := b36.call hP37 hM37 hm37
            clear hP37 hM37
            unfold str
            have hf37 := (hm37.same _ (heap_lt hf36) (by omega)).trans hf36
            have hr37 := ownsRow_mv' hr36 hm37 hpb
            have e0 : w37.cell? ⟨F, 0, none⟩ = some (.string ⟨t33.toArray⟩) := by unfold World.cell?; rw [hf37]; rfl
            have ef : ∀ i, w37.frozen? ⟨F, i, none⟩ = false := fun i => by unfold World.frozen?; rw [hf37]; rfl
            go_wp2_with fail
            clear e0 ef
            have hmF38 : Mv (fun k => k = F) w37 (w37.setCell ⟨F, 0, none⟩ (.string ⟨t37.toArray⟩)) := Mv.setCell _ _ rfl
            have b38 := b37.other hf37 hpF hwF (by decide) hBF hmF38
            have hf38 : (w37.setCell ⟨F, 0, none⟩ (.string ⟨t37.toArray⟩)).heap[F]? = some (.cells #[.string ⟨t37.toArray⟩, .string ⟨n35.toArray⟩] 86 (0, 0)) := set_same hf37
            have hr38 := ownsRow_keep hr37 hmF38 (fun k hk he => by have := hov k hk; omega)
            generalize w37.setCell ⟨F, 0, none⟩ (.string ⟨t37.toArray⟩) = w38 at *
            rw [pr_assoc] at hG
            refine (mustZ p E s37 [59] _ b38.P).mono ?_
            intro e w39 hq
            obtain ⟨s39, rfl, hB⟩ | ⟨_, s39, v39, hx39, hG, rfl, -, hP39, hM39, hm39⟩ := hq.cut hG hno b38.M
            · go_wp2_with fail
              exact ⟨rfl, hB⟩
            have b39 := b38.call hP39 hM39 hm39
            clear hP39 hM39
            have hf39 := (hm39.same _ (heap_lt hf38) (by omega)).trans hf38
            have hr39 := ownsRow_mv' hr38 hm39 hpb
            have e0 : w39.drew.cell? ⟨F, 0, none⟩ = some (.string ⟨t37.toArray⟩) := by show w39.cell? _ = _; unfold World.cell?; rw [hf39]; rfl
            have e1 : w39.drew.cell? ⟨F, 1, none⟩ = some (.string ⟨n35.toArray⟩) := by show w39.cell? _ = _; unfold World.cell?; rw [hf39]; rfl
            have e5 : w39.drew.cell? ⟨w1.heap.size, 5, none⟩ = some v := (cells8 b39.box).2.2.2.2.2.1
            have a0 := fun o => cell_alloc e0 o
            have a1 := fun o => cell_alloc e1 o
            have a5 := fun o => cell_alloc e5 o
            have x0 : ∀ o, (w39.alloc o).drew.cell? ⟨F, 0, none⟩ = some (.string ⟨t37.toArray⟩) := fun o => a0 o
            have x1 : ∀ o, (w39.alloc o).drew.cell? ⟨F, 1, none⟩ = some (.string ⟨n35.toArray⟩) := fun o => a1 o
            have x5 : ∀ o, (w39.alloc o).drew.cell? ⟨w1.heap.size, 5, none⟩ = some v := fun o => a5 o
            have b40 : Box p E w w1.heap.size 73 w39.drew s39 _ := b39.call (b39.P.none (Mv.drew _)) b39.M.drawn (Mv.drew _)
            have hr40 : w39.drew.ownsRow w20.heap.size 86 2 v l.length (fdCells l) := hr39
            have h40 : w20.heap.size ≤ w39.drew.heap.size := by have := hm35.size; have := hm37.size; have := hm39.size; have := hmF36.size; have := hmF38.size; show _ ≤ w39.heap.size; omega
            go_wp2_with fail
            go_region_law (first | (refine step_append_lies _ rfl _ _ 69 rfl w20.heap.size 86 i0 (.agg #[.string ⟨#[]⟩, .string ⟨#[]⟩]) 2 32 Tryz.underlying69 hi hz0 hz1 hz2 rfl (by decide) v l.length (fdCells l) rfl (hr40.alloc _) _ 1 1 [.string ⟨t37.toArray⟩, .string ⟨n35.toArray⟩] rfl rfl (World.news_of_block (heap_alloc_new w39.drew _)) (by simp [Value.oneCell']) (by decide) (by unfold maxLen; omega) (by omega) (Nat.le_trans h40 (by simp)) _ rfl ?_; intro gg cap w41 hown' hgr hat hgl; (obtain ⟨-, -, -, -, -, d5, -, -, df⟩ := cells8 (row_step (by decide) hr40 b40 hBb hwb (belowAlloc _ _) hgr).box)))
            all_goals
              have b41 := row_step (by decide) hr40 b40 hBb hwb (belowAlloc _ _) hgr
              have hm42 : Mv (fun k => k = w1.heap.size) w41 (w41.setCell ⟨w1.heap.size, 5, none⟩ (.slice (some ⟨gg, 0, none⟩) (l.length + 1) cap)) := Mv.setCell _ _ rfl
              have b42 := b41.put (cs' := #[.int .i64 1, .int .i64 (posOf E s.ws).1, .int .i64 (posOf E s.ws).2, .string ⟨#[]⟩, .string ⟨n6.toArray⟩, .slice (some ⟨gg, 0, none⟩) (l.length + 1) cap, .slice none 0 0, .pointer none]) hm42 (set_same b41.box)
              have hr42 := ownsRow_mv' hown' hm42 hBb
              go_wp2_with fail
              go_roundg f'
            all_goals first | omega | exact ⟨f', l ++ [⟨t37, n35⟩], s39, _, by simp; omega, Nat.le_refl _, hG, by rw [fdCells_snoc]; simpa [str] using hr42, b42, Nat.le_trans h40 (Nat.le_trans (belowAlloc w39.drew _).size (Nat.le_trans hgr.size hm42.size))⟩
          · simp only [if_true] at hG
            go_wp2_with fail
            refine (mustZ p E s31 [59] _ b31.P).mono ?_
            intro e w32 hq
            obtain ⟨s32, rfl, hB⟩ | ⟨_, s32, v32, hx32, hG, rfl, -, hP32, hM32, hm32⟩ := hq.cut hG hno b31.M
            · go_wp2_with fail
              exact ⟨rfl, hB⟩
            have b32 := b31.call hP32 hM32 hm32
            clear hP32 hM32
            go_wp2_with fail
            exact bodyPost_ret (v := ptr w1.heap.size) (by simp [results, Tryz.results30, go_sem, ptr]) rfl (Post.wellc hG b32.M b32.P ⟨_, rfl, b32.wB, _, _, _, _, _, [], b32.box, (RowIn.ofOwn (ownsRow_mv' hr31 hm32 hpb)).mv (fun _ _ _ => rfl) (fun k hk => by omega), rfl, RowIn.nil _ _ _ _, rfl⟩)
end Go.Proofs.YtjgpbpmicopemaaGreatDoor
