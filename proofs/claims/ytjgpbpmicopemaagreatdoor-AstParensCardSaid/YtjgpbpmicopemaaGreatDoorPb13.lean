import Derived.Test.YtjgpbpmicopemaaGreatDoorPb12
import Derived.Recover
import Derived.Test.YtjgpbpmicopemaaGreatDoorPb05
import Derived.Test.YtjgpbpmicopemaaGreatDoorPb07
import Derived.Test.YtjgpbpmicopemaaGreatDoorPb04
import Derived.Lib.Join
import Derived.Lib.IndexMore
import Derived.Lib.Strings

/-
  The parser's program.
-/
namespace Go.Proofs.YtjgpbpmicopemaaGreatDoor
open Go.RowKit Go.Shelf
set_option maxRecDepth 20000

/-- a tree in memory -/
def PgAt (W : World) (K : Nat → Prop) (b : Nat) (x : Pg) : Prop :=
  K b ∧ ∃ (v : Value) (bs : List Nat), W.heap[b]? = some (.cells #[v, .int .i64 x.nodes] 67 (0, 0)) ∧ PtrsAt W K 68 v bs ∧ bs.length = x.items.length ∧ ∀ (k : Nat) (e : Im) (c : Nat), x.items[k]? = some e → bs[k]? = some c → ImAt W K c e
def encP (w w' : World) (v : Value) (x : Pg) : Prop := ∃ b, v = ptr b ∧ PgAt w' (fun k => w.heap.size ≤ k) b x
def progRe : Re (List Im) → Re Pg
  | .ok l s => .ok ⟨l, s.nodes⟩ s
  | .bad s => .bad s
  | .out => .out
theorem programP_eq (f : Nat) (s : Sx) : programP f s = progRe (itemsP f [] s) := by
  unfold programP progRe
  cases itemsP f [] s <;> rfl
theorem prog_bad {p : Nat} {E : Int × Int} {w w' : World} {enc : World → World → Value → List Im → Prop} {R : Re (List Im)} {c : List PanicEntry} (h : Post p E w enc R (.panicked c) w') (hno : R ≠ .out) : Post p E w encP (progRe R) (.panicked c) w' := by
  obtain ⟨h1, h2⟩ := h
  cases R with
  | out => exact absurd rfl hno
  | bad s' => exact ⟨h1, h2⟩
  | ok a s' => obtain ⟨_, v, h3, _⟩ := h2; cases h3
theorem info68 : (Tryz.prog.info? 68).map (fun i => (i.zero, i.size, i.bytes)) = some (some (.pointer none), 1, 8) := by kernel_rfl
theorem cells2 {W : World} {B : Nat} {a b : Value} {T : TypeId} (hb : W.heap[B]? = some (.cells #[a, b] T (0, 0))) : W.cell? ⟨B, 0, none⟩ = some a ∧ W.cell? ⟨B, 1, none⟩ = some b ∧ ∀ i, W.frozen? ⟨B, i, none⟩ = false := by
  refine ⟨?_, ?_, ?_⟩ <;> simp [World.cell?, World.frozen?, hb]
set_option maxHeartbeats 8000000 in
theorem programZ {p : Nat} {E : Int × Int} {f : Nat} (hf0 : f ≤ 10000000) (s : Sx) (w : World) (h : PrAt w p E s) (hno : programP f s ≠ .out) :
    Calls Tryz.prog 18 #[.pointer (some ⟨p, 0, none⟩)] w (Post p E w encP (programP f s)) := by
  rw [programP_eq] at hno ⊢
  obtain ⟨R, hG⟩ : ∃ R, itemsP f [] s = R := ⟨_, rfl⟩
  rw [hG] at hno ⊢
  have hno : R ≠ .out := by rintro rfl; exact hno rfl
  have hlt := h.lt
  have b0 : Box p E w w.heap.size 67 (w.alloc (.cells #[.slice none 0 0, .int .i64 0] 67)) s #[.slice none 0 0, .int .i64 0] := ⟨h.below (belowAlloc _ _), Mv.alloc _ _, heap_alloc_new w _, hlt, Nat.le_refl _, by decide⟩
  have hB : w.heap.size < (w.alloc (.cells #[.slice none 0 0, .int .i64 0] 67)).heap.size := by simp
  go_enter Tryz.func18, Tryz.ntmps18
  go_wp2_with fail
  generalize w.alloc (.cells #[.slice none 0 0, .int .i64 0] 67) = w4 at *
  have hlt4 : p < w4.heap.size := b0.P.lt
  obtain ⟨i0, hi, hz0, hz1, hz2⟩ := info_parts info68
  go_loopg [8] f (fun g s8 wr => ∃ (f' : Nat) (l : List Im) (s' : Sx) (v : Value), l.length + f' ≤ f ∧ f' ≤ g ∧ itemsP f' l s' = R ∧ Chain sortI 68 w4 wr v l ∧ Box p E w w.heap.size 67 wr s' #[v, .int .i64 0] ∧ w4.heap.size ≤ wr.heap.size)
  case atStart => exact ⟨f, [], s, _, by simp, Nat.le_refl _, hG, Chain.nil _ _ _ _, b0, Nat.le_refl _⟩
  case round =>
    clear hG b0
    obtain ⟨f', l, s', v, hfl, hg', hG, hCh, b1, h41⟩ := hrel
    cases f' with
    | zero => exact absurd (by rw [← hG]; rfl) hno
    | succ f' =>
      unfold itemsP at hG
      obtain ⟨bb, cc, oo, g1, g2, g3, g4, g5⟩ := b1.P.cells
      obtain ⟨c0, -, -, c3, -, -, -, -⟩ := cells7 g5
      have hml : s'.ws.length ≤ 9223372036854775807 := by unfold maxLen at g2; omega
      obtain ⟨o0, o1, of⟩ := cells2 b1.box
      by_cases hem : s'.ws = []
      · have hG : Re.ok l s' = R := by rw [hem] at hG; simpa using hG
        rw [hem] at c0
        simp only [List.length_nil] at c0
        go_wp2_with fail
        have hm5 : Mv (fun k => k = w.heap.size) wr (wr.setCell ⟨w.heap.size, 1, none⟩ (.int .i64 s'.nodes)) := Mv.setCell _ _ rfl
        have b5 := b1.put (cs' := #[v, .int .i64 s'.nodes]) hm5 (set_same b1.box)
        have hC5 := hCh.mv hm5 hB
        refine bodyPost_ret (v := ptr w.heap.size) (by simp [results, Tryz.results18, go_sem, ptr]) rfl ?_
        rw [← hG]
        refine ⟨b5.M, b5.P, _, rfl, w.heap.size, rfl, Nat.le_refl _, v, ?_⟩
        obtain ⟨bs, q1, q2, q3⟩ := hC5
        exact ⟨bs, b5.box, (PtrsAt.ofOwn (q1 ▸ q2)).mv (fun _ _ _ => rfl) (fun k hk => by omega), q1, fun k e c hk hc => sortI.mv (q3 k e c hk hc) (fun _ _ _ => rfl) (fun j hj => Nat.le_trans (Nat.le_of_lt hB) hj.1)⟩
      · have hG : (itemP f' >>= fun x => itemsP f' (l ++ [x])) s' = R := by
          have : s'.ws.isEmpty = false := by cases hw : s'.ws with
            | nil => exact absurd hw hem
            | cons x xs => rfl
          rw [this] at hG
          simpa using hG
        have hpos : (0 : Int) < s'.ws.length := by have := List.length_pos_iff.2 hem; omega
        have b2 : Box p E w w.heap.size 67 wr.drew s' _ := b1.call (b1.P.none (Mv.drew _)) b1.M.drawn (Mv.drew _)
        have hCh2 := hCh.mv (p := p) (Mv.drew wr) hlt4
        have hN := itemZ (f := f') (by omega) s' wr.drew b2.P (ne_cut hG hno)
        have z0 : wr.drew.cell? ⟨w.heap.size, 0, none⟩ = some v := o0
        have h42 : w4.heap.size ≤ wr.drew.heap.size := h41
        have hfacts : ∀ w7, Mv (fun k => k = p) wr.drew w7 → w7.cell? ⟨w.heap.size, 0, none⟩ = some v ∧ (∀ o, (w7.alloc o).cell? ⟨w.heap.size, 0, none⟩ = some v) ∧ ∃ bs : List Nat, bs.length = l.length ∧ w7.ownsRow w4.heap.size 68 1 v l.length (bs.map ptr) ∧ ∀ (k : Nat) (e : Im) (b : Nat), l[k]? = some e → bs[k]? = some b → ImAt w7 (fun j => w4.heap.size ≤ j ∧ v.ownBlock ≠ some j) b e := fun w7 m => by
          have c := m.cell z0 (by show w.heap.size ≠ p; omega)
          exact ⟨c, fun o => cell_alloc c o, hCh2.mv m hlt4⟩
        clear g1 g3 g4 g5 hCh b1
        go_wp2_with fail
        go_region_law (first | (go_simp; go_at_call 30; (with_reducible refine Calls.mono hN ?_); intro e w7 hq; obtain ⟨s7, rfl, hBd⟩ | ⟨a7, s7, v7, hx7, hG7, rfl, ⟨b7, rfl, hE7⟩, hP7, hM7, hm7⟩ := hq.cut hG hno b2.M; (· exact ⟨rfl, prog_bad (enc := fun _ _ _ _ => False) hBd hno⟩); (obtain ⟨d7, da7, bs, q1, q2, q3⟩ := hfacts _ hm7); (have b3 := b2.call hP7 hM7 hm7); unfold ptr) | (refine step_append_lies _ rfl _ _ 65 rfl w4.heap.size 68 i0 (.pointer none) 1 8 Tryz.underlying65 hi hz0 hz1 hz2 rfl (by decide) v l.length (bs.map ptr) rfl (q2.alloc _) _ 1 1 [ptr b7] rfl rfl (World.news_of_block (heap_alloc_new w7 _)) (by simp [ptr, Value.oneCell']) (by decide) (by unfold maxLen; omega) (by omega) (Nat.le_trans h42 (Nat.le_trans hm7.size (by simp))) _ rfl ?_; intro gg cap w9 hown' hgr hat hgl; (obtain ⟨y0, -, yf⟩ := cells2 (row_step (by decide) q2 b3 hB (by omega) (belowAlloc _ _) hgr).box)))
        all_goals
          have b9 := row_step (by decide) q2 b3 hB (by omega) (belowAlloc w7 _) hgr
          have hCh9 := Chain.push (S := sortI) (W1 := wr.drew) q1 q3 h42 (fun k hk => (hCh2.own k hk).2.1) hE7 (belowAlloc w7 _) hown' hgr (by simpa using hat)
          have hm10 : Mv (fun k => k = w.heap.size) w9 (w9.setCell ⟨w.heap.size, 0, none⟩ (.slice (some ⟨gg, 0, none⟩) (l.length + 1) cap)) := Mv.setCell _ _ rfl
          have b10 := b9.put (cs' := #[.slice (some ⟨gg, 0, none⟩) (l.length + 1) cap, .int .i64 0]) hm10 (set_same b9.box)
          have hCh10 := hCh9.mv hm10 hB
          have h10 := Nat.le_trans h42 (Nat.le_trans hm7.size (Nat.le_trans (belowAlloc w7 _).size (Nat.le_trans hgr.size hm10.size)))
          go_wp2_with fail
          go_roundg f'
        all_goals first | omega | exact ⟨f', l ++ [a7], s7, _, by simp; omega, Nat.le_refl _, hG7, hCh10, b10, h10⟩
end Go.Proofs.YtjgpbpmicopemaaGreatDoor

/-
  Parse's deferred closure.
-/
namespace Go.Proofs.YtjgpbpmicopemaaGreatDoor
open Go.RowKit Go.Shelf
set_option maxRecDepth 20000

theorem assert58 (x y z : Value) (w : World) : Sem.run Tryz.prog (Instr.typeAssert (.iface 58 (.agg #[x, y, z])) 20 58 true) w = .ok (.tuple #[.agg #[x, y, z], .bool true]) w := by kernel_rfl
set_option maxHeartbeats 4000000 in
theorem catchZ (a b c Ta Tb Tc : Nat) (va x y z : Value) (pos : Int × Int) (w : World) (ha : w.heap[a]? = some (.cells #[va] Ta (0, 0))) (hb : w.heap[b]? = some (.cells #[x, y] Tb (0, 0))) (hc : w.heap[c]? = some (.cells #[z] Tc (0, 0))) (hab : a ≠ b) (hac : a ≠ c) (hbc : b ≠ c) :
    CallsD Tryz.prog 17 #[.pointer (some ⟨a, 0, none⟩), .pointer (some ⟨b, 0, none⟩), .pointer (some ⟨c, 0, none⟩)] (.panicking [{ v := flt pos, recovered := false }]) w fun e u' w' =>
      e = .returned (.tuple #[]) ∧ u' = .panicking [{ v := flt pos, recovered := true }] ∧ w'.heap[a]? = some (.cells #[.pointer none] Ta (0, 0)) ∧ w'.heap[b]? = some (.cells #[.int .i64 pos.1, .int .i64 pos.2] Tb (0, 0)) ∧ w'.heap[c]? = some (.cells #[.int .i64 4] Tc (0, 0)) ∧ Mv (fun k => k = a ∨ k = b ∨ k = c) w w' := by
  have hta := assert58
  have a0 : ∀ o, (w.alloc o).drew.cell? ⟨a, 0, none⟩ = some va := fun o => cell_alloc (by unfold World.cell?; rw [ha]; rfl) o
  have b0 : ∀ o, (w.alloc o).drew.cell? ⟨b, 0, none⟩ = some x := fun o => cell_alloc (by unfold World.cell?; rw [hb]; rfl) o
  have b1 : ∀ o, (w.alloc o).drew.cell? ⟨b, 1, none⟩ = some y := fun o => cell_alloc (by unfold World.cell?; rw [hb]; rfl) o
  have c0 : ∀ o, (w.alloc o).drew.cell? ⟨c, 0, none⟩ = some z := fun o => cell_alloc (by unfold World.cell?; rw [hc]; rfl) o
  have fa : ∀ o i, (w.alloc o).drew.frozen? ⟨a, i, none⟩ = false := fun o i => by show (w.alloc o).frozen? _ = _; unfold World.frozen?; rw [at_alloc ha o]; rfl
  have fb : ∀ o i, (w.alloc o).drew.frozen? ⟨b, i, none⟩ = false := fun o i => by show (w.alloc o).frozen? _ = _; unfold World.frozen?; rw [at_alloc hb o]; rfl
  have fc : ∀ o i, (w.alloc o).drew.frozen? ⟨c, i, none⟩ = false := fun o i => by show (w.alloc o).frozen? _ = _; unfold World.frozen?; rw [at_alloc hc o]; rfl
  have la := heap_lt ha
  have lb := heap_lt hb
  have lc := heap_lt hc
  unfold flt
  refine callsD_of_wpS Tryz.func17 rfl fun c₀ cs hu => ?_
  apply wpS_seq
  apply wpS_region
  simp [wpOpsS, go_sem, recoverD, hu, Tryz.ntmps17, Exit.thenS]
  refine wpS_of_wp ?_
  simp only [Array.replicate_succ, Array.replicate_zero, List.push_toArray, List.append_toArray, List.nil_append, List.cons_append, List.setIfInBounds_toArray, List.set_cons_succ, List.set_cons_zero]
  go_wp2_with fail
  have hf := heap_alloc_new w (.cells #[.int .i64 pos.1, .int .i64 pos.2, .int .i64 4] 58)
  have f0 : (w.alloc (.cells #[.int .i64 pos.1, .int .i64 pos.2, .int .i64 4] 58)).drew.cell? ⟨w.heap.size, 0, none⟩ = some (.int .i64 pos.1) := by show (w.alloc _).cell? _ = _; unfold World.cell?; rw [hf]; rfl
  have f1 : (w.alloc (.cells #[.int .i64 pos.1, .int .i64 pos.2, .int .i64 4] 58)).drew.cell? ⟨w.heap.size, 1, none⟩ = some (.int .i64 pos.2) := by show (w.alloc _).cell? _ = _; unfold World.cell?; rw [hf]; rfl
  have f2 : (w.alloc (.cells #[.int .i64 pos.1, .int .i64 pos.2, .int .i64 4] 58)).drew.cell? ⟨w.heap.size, 2, none⟩ = some (.int .i64 4) := by show (w.alloc _).cell? _ = _; unfold World.cell?; rw [hf]; rfl
  have a0 := a0 (.cells #[.int .i64 pos.1, .int .i64 pos.2, .int .i64 4] 58)
  have b0 := b0 (.cells #[.int .i64 pos.1, .int .i64 pos.2, .int .i64 4] 58)
  have b1 := b1 (.cells #[.int .i64 pos.1, .int .i64 pos.2, .int .i64 4] 58)
  have c0 := c0 (.cells #[.int .i64 pos.1, .int .i64 pos.2, .int .i64 4] 58)
  have fa := fa (.cells #[.int .i64 pos.1, .int .i64 pos.2, .int .i64 4] 58)
  have fb := fb (.cells #[.int .i64 pos.1, .int .i64 pos.2, .int .i64 4] 58)
  have fc := fc (.cells #[.int .i64 pos.1, .int .i64 pos.2, .int .i64 4] 58)
  have ha1 := at_alloc ha (.cells #[.int .i64 pos.1, .int .i64 pos.2, .int .i64 4] 58)
  have hb1 := at_alloc hb (.cells #[.int .i64 pos.1, .int .i64 pos.2, .int .i64 4] 58)
  have hc1 := at_alloc hc (.cells #[.int .i64 pos.1, .int .i64 pos.2, .int .i64 4] 58)
  have hm1 : Mv (fun k => k = a ∨ k = b ∨ k = c) w (w.alloc (.cells #[.int .i64 pos.1, .int .i64 pos.2, .int .i64 4] 58)) := Mv.alloc _ _
  generalize w.alloc (.cells #[.int .i64 pos.1, .int .i64 pos.2, .int .i64 4] 58) = w1 at *
  have na : a ≠ w.heap.size := by omega
  have nb : b ≠ w.heap.size := by omega
  have nc : c ≠ w.heap.size := by omega
  generalize w.heap.size = F at *
  have g0 : w1.cell? ⟨F, 0, none⟩ = some (.int .i64 pos.1) := f0
  have g1 : w1.cell? ⟨F, 1, none⟩ = some (.int .i64 pos.2) := f1
  have g2 : w1.cell? ⟨F, 2, none⟩ = some (.int .i64 4) := f2
  have ga : w1.cell? ⟨a, 0, none⟩ = some va := a0
  have gb : w1.cell? ⟨b, 0, none⟩ = some x := b0
  have gb1 : w1.cell? ⟨b, 1, none⟩ = some y := b1
  have gc : w1.cell? ⟨c, 0, none⟩ = some z := c0
  have ka : ∀ i, w1.frozen? ⟨a, i, none⟩ = false := fa
  have kb : ∀ i, w1.frozen? ⟨b, i, none⟩ = false := fb
  have kc : ∀ i, w1.frozen? ⟨c, i, none⟩ = false := fc
  have sa := na.symm
  have sb := nb.symm
  have sc := nc.symm
  have sab := hab.symm
  have sac := hac.symm
  have sbc := hbc.symm
  clear hf ha hb hc
  go_region
  have H1 := set_same (i := 0) (v := .pointer none) ha1
  have H2 := set_same (i := 1) (v := .int .i64 pos.2) (set_same (i := 0) (v := .int .i64 pos.1) ((set_other (i := 0) (v := .pointer none) hab.symm).trans hb1))
  have H3 := set_same (i := 0) (v := .int .i64 4) ((set_other (i := 1) (v := .int .i64 pos.2) hbc.symm).trans ((set_other (i := 0) (v := .int .i64 pos.1) hbc.symm).trans ((set_other (i := 0) (v := .pointer none) hac.symm).trans hc1)))
  exact ⟨rfl, _, rfl, .tuple #[], (by simp [results, Tryz.results17, go_sem]), rfl, rfl, (set_other hac).trans ((set_other hab).trans ((set_other hab).trans H1)), (set_other hbc).trans H2, H3,
    ((((hm1.trans (Mv.setCell _ _ (.inl rfl))).trans (Mv.setCell _ _ (.inr (.inl rfl)))).trans (Mv.setCell _ _ (.inr (.inl rfl)))).trans (Mv.setCell _ _ (.inr (.inr rfl)))).drawn⟩
theorem catchIdle (a b c : Nat) (w : World) :
    CallsD Tryz.prog 17 #[.pointer (some ⟨a, 0, none⟩), .pointer (some ⟨b, 0, none⟩), .pointer (some ⟨c, 0, none⟩)] .returning w fun e u' w' => e = .returned (.tuple #[]) ∧ u' = .returning ∧ Below w.heap.size w w' := by
  refine callsD_of_wpS Tryz.func17 rfl fun c₀ cs hu => ?_
  apply wpS_seq
  apply wpS_region
  simp [wpOpsS, go_sem, recoverD, hu, Tryz.ntmps17, Exit.thenS]
  refine wpS_of_wp ?_
  simp only [Array.replicate_succ, Array.replicate_zero, List.push_toArray, List.append_toArray, List.nil_append, List.cons_append, List.setIfInBounds_toArray, List.set_cons_succ, List.set_cons_zero]
  go_wp2_with fail
  cases c₀
  simp_all [bodyPostS, results, Tryz.results17, Below.refl]
end Go.Proofs.YtjgpbpmicopemaaGreatDoor

/-
  Parse.
-/
namespace Go.Proofs.YtjgpbpmicopemaaGreatDoor
open Go.RowKit Go.Shelf
set_option maxRecDepth 20000

/-- how the parser begins -/
def begS (l : Bs) : Sx := ⟨wordsL l, 0, 0, 0, false⟩
def fuelP : Nat := 700000
/-- what Parse answers -/
def RParse (l : Bs) (w : World) (e : Ending) (w' : World) : Prop :=
  Mv (fun _ => False) w w' ∧
    (if wordsE l ≠ 0 then e = .returned (.tuple #[.pointer none, .agg #[.int .i64 (wordsP l).1, .int .i64 (wordsP l).2], .int .i64 (wordsE l)])
    else match programP fuelP (begS l) with
      | .out => True
      | .bad s' => e = .returned (.tuple #[.pointer none, .agg #[.int .i64 (posOf (nextP (1, 1) l) s'.ws).1, .int .i64 (posOf (nextP (1, 1) l) s'.ws).2], .int .i64 4])
      | .ok pg s' => if s'.over then ∃ q : Int × Int, e = .returned (.tuple #[.pointer none, .agg #[.int .i64 q.1, .int .i64 q.2], .int .i64 2])
        else ∃ b, e = .returned (.tuple #[ptr b, .agg #[.int .i64 0, .int .i64 0], .int .i64 0]) ∧ PgAt w' (fun k => w.heap.size ≤ k) b pg)
theorem endZ (l : Bs) (hl : l.length ≤ 65536) (w : World) : Calls Tryz.prog 16 #[str l] w (RP (nextP (1, 1) l) w) := by
  have C1 := fun w' => next_any 1 1 l hl (by decide) (by decide) (by decide) (by decide) w'
  unfold RP str at *
  go_enter Tryz.func16, Tryz.ntmps16
  go_wp2_with fail
  refine (C1 _).mono ?_
  rintro e w1 ⟨rfl, hb⟩
  have hbx := (hb.block _ (heap_lt (heap_alloc_new w (.cells #[.int .i64 0, .int .i64 0] 26)))).trans (heap_alloc_new w (.cells #[.int .i64 0, .int .i64 0] 26))
  obtain ⟨d0, d1, df⟩ := cells2 hbx
  have hb0 : Below w.heap.size w w1 := (belowAlloc w (.cells #[.int .i64 0, .int .i64 0] 26)).trans (hb.mono (by simp))
  go_wp2_with fail
  have hby : ((w1.setCell ⟨w.heap.size, 0, none⟩ (.int .i64 (nextP (1, 1) l).1)).setCell ⟨w.heap.size, 1, none⟩ (.int .i64 (nextP (1, 1) l).2)).heap[w.heap.size]? = some (.cells #[.int .i64 (nextP (1, 1) l).1, .int .i64 (nextP (1, 1) l).2] 26 (0, 0)) := set_same (set_same hbx)
  obtain ⟨u0, u1, -⟩ := cells2 hby
  generalize hW : (w1.setCell ⟨w.heap.size, 0, none⟩ (.int .i64 (nextP (1, 1) l).1)).setCell ⟨w.heap.size, 1, none⟩ (.int .i64 (nextP (1, 1) l).2) = W at *
  have hbW : Below w.heap.size w W := by rw [← hW]; exact (hb0.setCell (p := ⟨w.heap.size, 0, none⟩) (Nat.le_refl _) _).setCell (p := ⟨w.heap.size, 1, none⟩) (Nat.le_refl _) _
  exact bodyPost_ret (v := .agg #[.int .i64 (nextP (1, 1) l).1, .int .i64 (nextP (1, 1) l).2]) (by simp [results, Tryz.results16, go_sem, u0, u1]) rfl ⟨rfl, hbW⟩
theorem rowAt_of {W : World} {g : Nat} {cur : Array Value} (hg : W.heap[g]? = some (.cells cur 114 (0, 0))) : ∀ (l : List It) (o : Nat), (cur.toList.drop o).take (l.length * 5) = l.flatMap It.cells → RowAt W g o l
  | [], _, _ => trivial
  | x :: xs, o, h => by
    have hc : ∀ i (hi : i < 5), cur.toList[o + i]? = (It.cells x)[i]? := fun i hi => by
      have h1 : ((cur.toList.drop o).take ((x :: xs).length * 5))[i]? = cur.toList[o + i]? := by
        rw [List.getElem?_take, if_pos (by simp only [List.length_cons]; omega), List.getElem?_drop]
      rw [← h1, h, List.flatMap_cons, List.getElem?_append_left (by simp [It.cells]; omega)]
    have key : ∀ i (hi : i < 5) v, (It.cells x)[i]? = some v → W.cell? ⟨g, o + i, none⟩ = some v := fun i hi v hv => by
      have := hc i hi
      rw [hv] at this
      unfold World.cell?
      rw [hg]
      simpa using this
    refine ⟨key 0 (by decide) _ rfl, key 1 (by decide) _ rfl, key 2 (by decide) _ rfl, key 3 (by decide) _ rfl, key 4 (by decide) _ rfl, rowAt_of hg xs (o + 5) ?_⟩
    have h2 := congrArg (List.drop 5) h
    rw [List.drop_take, List.drop_drop, List.flatMap_cons, List.drop_left' (by simp [It.cells])] at h2
    have e1 : (x :: xs).length * 5 - 5 = xs.length * 5 := by simp only [List.length_cons]; omega
    rw [e1] at h2
    exact h2
/-- the three boxes of the results -/
structure Out3 (W : World) (A : Nat) (x y1 y2 z : Value) : Prop where
  a : W.heap[A]? = some (.cells #[x] 24 (0, 0))
  b : W.heap[A + 1]? = some (.cells #[y1, y2] 26 (0, 0))
  c : W.heap[A + 1 + 1]? = some (.cells #[z] 27 (0, 0))
section
variable {W : World} {A : Nat} {x y1 y2 z : Value}
theorem Out3.cells (h : Out3 W A x y1 y2 z) : W.cell? ⟨A, 0, none⟩ = some x ∧ W.cell? ⟨A + 1, 0, none⟩ = some y1 ∧ W.cell? ⟨A + 1, 1, none⟩ = some y2 ∧ W.cell? ⟨A + 1 + 1, 0, none⟩ = some z ∧ (∀ i, W.frozen? ⟨A, i, none⟩ = false) ∧ (∀ i, W.frozen? ⟨A + 1, i, none⟩ = false) ∧ (∀ i, W.frozen? ⟨A + 1 + 1, i, none⟩ = false) := by
  refine ⟨?_, ?_, ?_, ?_, ?_, ?_, ?_⟩ <;> simp [World.cell?, World.frozen?, h.a, h.b, h.c]
theorem Out3.drew (h : Out3 W A x y1 y2 z) : Out3 W.drew A x y1 y2 z := ⟨h.a, h.b, h.c⟩
theorem Out3.put (h : Out3 W A x y1 y2 z) (x' y1' y2' z' : Value) : Out3 ((((W.setCell ⟨A, 0, none⟩ x').setCell ⟨A + 1, 0, none⟩ y1').setCell ⟨A + 1, 1, none⟩ y2').setCell ⟨A + 1 + 1, 0, none⟩ z') A x' y1' y2' z' :=
  ⟨(set_other (by omega)).trans ((set_other (by omega)).trans ((set_other (by omega)).trans (set_same h.a))), (set_other (by omega)).trans (set_same (set_same ((set_other (by omega)).trans h.b))), set_same ((set_other (by omega)).trans ((set_other (by omega)).trans ((set_other (by omega)).trans h.c)))⟩
theorem Out3.put3 (h : Out3 W A x y1 y2 z) (y1' y2' z' : Value) : Out3 (((W.setCell ⟨A + 1, 0, none⟩ y1').setCell ⟨A + 1, 1, none⟩ y2').setCell ⟨A + 1 + 1, 0, none⟩ z') A x y1' y2' z' :=
  ⟨(set_other (by omega)).trans ((set_other (by omega)).trans ((set_other (by omega)).trans h.a)), (set_other (by omega)).trans (set_same (set_same h.b)), set_same ((set_other (by omega)).trans ((set_other (by omega)).trans h.c))⟩
theorem Out3.putA (h : Out3 W A x y1 y2 z) (x' : Value) : Out3 (W.setCell ⟨A, 0, none⟩ x') A x' y1 y2 z :=
  ⟨set_same h.a, (set_other (by omega)).trans h.b, (set_other (by omega)).trans h.c⟩
theorem Out3.keep {X : Nat → Prop} {W' : World} (h : Out3 W A x y1 y2 z) (m : Mv X W W') (hX : ∀ k, X k → A + 1 + 1 < k) : Out3 W' A x y1 y2 z :=
  ⟨(m.same _ (heap_lt h.a) (fun hx => by have := hX _ hx; omega)).trans h.a, (m.same _ (heap_lt h.b) (fun hx => by have := hX _ hx; omega)).trans h.b, (m.same _ (heap_lt h.c) (fun hx => by have := hX _ hx; omega)).trans h.c⟩
end
theorem PgAt.mv {W W' : World} {K K' : Nat → Prop} {b : Nat} {x : Pg} (h : PgAt W K b x) (m : Keeps K W W') (hK : ∀ k, K k → K' k) : PgAt W' K' b x := by
  obtain ⟨k1, v1, bs, k2, k3, k4, k5⟩ := h
  exact ⟨hK _ k1, v1, bs, (m b k1 (heap_lt k2)).trans k2, k3.mv m hK, k4, fun i x c hi hc => (k5 i x c hi hc).mv m hK⟩
theorem Mv.own3 {w W W' : World} (h : Mv (fun _ => False) w W) (m : Mv (fun k => w.heap.size ≤ k) W W') : Mv (fun _ => False) w W' := h.fresh m (fun _ h => h)
set_option maxHeartbeats 8000000 in
theorem parseZ (l : Bs) (hl : l.length ≤ 9223372036854775807) (hok : OkWs (wordsL l)) (w : World) (hE : EnvA w) (h8 : 8 ≤ w.heap.size) : Calls Tryz.prog 8 #[str l] w (RParse l w) := by
  have hmf : ∀ (fn : Fn) (first cap : Array Value) (w : World), (Instr.makeFunc fn first cap).run Tryz.prog w = .ok (.func fn first cap) w := fun _ _ _ _ => rfl
  have C1 := fun w' h => words_any l hl w' h
  unfold RWs str at *
  go_enter_defers Tryz.func8, Tryz.ntmps8
  go_wp2_with fail
  have hW1 : Below w.heap.size w (((w.alloc (.cells #[.pointer none] 24)).alloc (.cells #[.int .i64 0, .int .i64 0] 26)).alloc (.cells #[.int .i64 0] 27)) := (((Below.refl _ _).alloc (Nat.le_refl _) _).alloc (by simp) _).alloc (by simp; omega) _
  have ha := at_alloc (at_alloc (heap_alloc_new w (.cells #[.pointer none] 24)) (.cells #[.int .i64 0, .int .i64 0] 26)) (.cells #[.int .i64 0] 27)
  have hb : (((w.alloc (.cells #[.pointer none] 24)).alloc (.cells #[.int .i64 0, .int .i64 0] 26)).alloc (.cells #[.int .i64 0] 27)).heap[w.heap.size + 1]? = _ := at_alloc (by have := heap_alloc_new (w.alloc (.cells #[.pointer none] 24)) (.cells #[.int .i64 0, .int .i64 0] 26); simpa using this) (.cells #[.int .i64 0] 27)
  have hc : (((w.alloc (.cells #[.pointer none] 24)).alloc (.cells #[.int .i64 0, .int .i64 0] 26)).alloc (.cells #[.int .i64 0] 27)).heap[w.heap.size + 1 + 1]? = some (.cells #[.int .i64 0] 27 (0, 0)) := by have := heap_alloc_new ((w.alloc (.cells #[.pointer none] 24)).alloc (.cells #[.int .i64 0, .int .i64 0] 26)) (.cells #[.int .i64 0] 27); simpa using this
  have hs1 : (((w.alloc (.cells #[.pointer none] 24)).alloc (.cells #[.int .i64 0, .int .i64 0] 26)).alloc (.cells #[.int .i64 0] 27)).heap.size = w.heap.size + 1 + 1 + 1 := by simp
  have hE1 := hE.below hW1
  generalize ((w.alloc (.cells #[.pointer none] 24)).alloc (.cells #[.int .i64 0, .int .i64 0] 26)).alloc (.cells #[.int .i64 0] 27) = w1 at *
  have hM1 : Mv (fun _ => False) w w1 := Mv.below hW1
  clear hW1
  refine (C1 _ hE1.env).mono ?_
  rintro e w2 ⟨v, rfl, hrow, hb2⟩
  have hE2 := hE1.below hb2
  have ha2 := (hb2.block _ (heap_lt ha)).trans ha
  have hb2' := (hb2.block _ (heap_lt hb)).trans hb
  have hc2 := (hb2.block _ (heap_lt hc)).trans hc
  have hs2 := hb2.size
  have hM2 := hM1.trans (Mv.below hb2)
  have h3 : Out3 w2 w.heap.size _ _ _ _ := ⟨ha2, hb2', hc2⟩
  obtain ⟨z0, d0, d1, e0, zf, df, ef⟩ := h3.cells
  clear ha hb hc hb2 C1 hE1 hM1
  have h3b := h3.put3 (.int .i64 (wordsP l).1) (.int .i64 (wordsP l).2) (.int .i64 (wordsE l))
  have hm3 : Mv (fun k => k = w.heap.size + 1 ∨ k = w.heap.size + 1 + 1) w2 (((w2.setCell ⟨w.heap.size + 1, 0, none⟩ (.int .i64 (wordsP l).1)).setCell ⟨w.heap.size + 1, 1, none⟩ (.int .i64 (wordsP l).2)).setCell ⟨w.heap.size + 1 + 1, 0, none⟩ (.int .i64 (wordsE l))) := ((Mv.setCell _ _ (.inl rfl)).trans (Mv.setCell _ _ (.inl rfl))).trans (Mv.setCell _ _ (.inr rfl))
  have hM3 := hM2.own3 (hm3.mono (fun k _ h => by rcases h with rfl | rfl <;> omega))
  by_cases hwe : wordsE l = 0
  · rw [hwe] at h3b hm3 hM3 ⊢
    have hl2 : l.length ≤ 65536 := by
      unfold wordsE at hwe
      rcases Nat.lt_or_ge 65536 l.length with h | h
      · rw [if_pos h] at hwe; cases hwe
      · exact h
    go_wp2_with fail
    generalize ((w2.setCell ⟨w.heap.size + 1, 0, none⟩ (.int .i64 (wordsP l).1)).setCell ⟨w.heap.size + 1, 1, none⟩ (.int .i64 (wordsP l).2)).setCell ⟨w.heap.size + 1 + 1, 0, none⟩ (.int .i64 0) = w3 at *
    have hE3 : EnvA w3 := hE2.mv hm3 (fun k hk hx => by rcases hx with rfl | rfl <;> omega)
    have hrow3 : w3.ownsRow w1.heap.size 114 5 v (wordsL l).length ((wordsL l).flatMap It.cells) := ownsRow_keep hrow hm3 (fun k hk hx => by have := (ownsRow_own hrow k hk).1; rcases hx with rfl | rfl <;> omega)
    clear h3 z0 d0 d1 e0 zf df ef ha2 hb2' hc2 hm3 hE2 hrow hM2
    refine (endZ l hl2 _).mono ?_
    rintro e w4 ⟨rfl, hb4⟩
    have h4 : Out3 w4 w.heap.size _ _ _ _ := h3b.keep (Mv.below (X := fun _ => False) hb4) (fun _ h => h.elim)
    have hM4 := hM3.trans (Mv.below hb4)
    have hE4 := hE3.below hb4
    have hrow4 := ownsRow_keep hrow3 (Mv.below (X := fun _ => False) hb4) (fun _ _ h => h)
    clear h3b hM3 hE3 hrow3
    obtain ⟨va, vc, rfl⟩ : ∃ va vc, v = .slice va (wordsL l).length vc := by
      obtain ⟨-, ⟨rfl, h⟩ | ⟨g, cap, cur, rfl, -⟩⟩ := hrow4
      · exact ⟨none, 0, by rw [h]⟩
      · exact ⟨_, cap, rfl⟩
    have hw4 : w.heap.size + 1 + 1 + 1 ≤ w4.heap.size := by have := h4.c; have := heap_lt this; omega
    have hP5 : PrAt (w4.alloc (.cells #[.slice va (wordsL l).length vc, .int .i64 (nextP (1, 1) l).1, .int .i64 (nextP (1, 1) l).2, .int .i64 0, .int .i64 0, .int .i64 0, .pointer none] 56)) w4.heap.size (nextP (1, 1) l) (begS l) := by
      refine ⟨⟨by omega, hE4.below (belowAlloc _ _), hok⟩, _, _, heap_alloc_new w4 _, ?_, rfl⟩
      obtain ⟨-, ⟨h1, h2⟩ | ⟨g, cap, cur, h1, h2, h3, h5, h6, h7, h8'⟩⟩ := hrow4
      · obtain ⟨rfl, h1', rfl⟩ := Value.slice.inj h1
        exact ⟨none, 0, rfl, by show (wordsL l).length ≤ 0; omega, Nat.zero_le _, fun hne => absurd (List.length_eq_zero_iff.1 h2) hne⟩
      · cases h1
        have hgl := heap_lt h3
        exact ⟨_, _, rfl, h5, h6, fun _ => ⟨g, 0, rfl, by omega, ⟨cur, at_alloc h3 _⟩, rowAt_of (at_alloc h3 _) (wordsL l) 0 (by rw [List.drop_zero]; exact h8')⟩⟩
    have h5 : Out3 (w4.alloc (.cells #[.slice va (wordsL l).length vc, .int .i64 (nextP (1, 1) l).1, .int .i64 (nextP (1, 1) l).2, .int .i64 0, .int .i64 0, .int .i64 0, .pointer none] 56)) w.heap.size _ _ _ _ := h4.keep (Mv.alloc (X := fun _ => False) _ _) (fun _ h => h.elim)
    have hM5 := hM4.more (.cells #[.slice va (wordsL l).length vc, .int .i64 (nextP (1, 1) l).1, .int .i64 (nextP (1, 1) l).2, .int .i64 0, .int .i64 0, .int .i64 0, .pointer none] 56)
    have hno : programP fuelP (begS l) ≠ .out := program_fine (by show 10 * (wordsL l).length + 9 ≤ 700000; have := hok.1; omega)
    have hs5 : (w4.alloc (.cells #[.slice va (wordsL l).length vc, .int .i64 (nextP (1, 1) l).1, .int .i64 (nextP (1, 1) l).2, .int .i64 0, .int .i64 0, .int .i64 0, .pointer none] 56)).heap.size = w4.heap.size + 1 := by simp
    clear hrow4 hE4 h4 hM4
    go_wp2_with fail
    generalize w4.alloc (.cells #[.slice va (wordsL l).length vc, .int .i64 (nextP (1, 1) l).1, .int .i64 (nextP (1, 1) l).2, .int .i64 0, .int .i64 0, .int .i64 0, .pointer none] 56) = w5 at *
    generalize hp : w4.heap.size = p at *
    refine (programZ (f := fuelP) (by decide) (begS l) _ hP5 hno).mono ?_
    intro e w6 hq
    obtain ⟨hm6, hq⟩ := hq
    have h6 := h5.keep hm6 (fun k hk => by subst hk; omega)
    have hM6 := hM5.fresh hm6 (fun k hk => by subst hk; omega)
    cases hx : programP fuelP (begS l) with
    | out => exact absurd hx hno
    | bad s' =>
      rw [hx] at hq
      obtain ⟨rfl, s'', hP6⟩ := hq
      go_wp2_with fail
      refine leaves_cons (f := 17) (args := #[.pointer (some ⟨w.heap.size, 0, none⟩), .pointer (some ⟨w.heap.size + 1, 0, none⟩), .pointer (some ⟨w.heap.size + 1 + 1, 0, none⟩)]) (by simp) (by simp [go_sem]) ?_
      refine (catchZ _ _ _ _ _ _ _ _ _ _ _ w6 h6.a h6.b h6.c (by omega) (by omega) (by omega)).mono ?_
      rintro e u' w7 ⟨rfl, rfl, q1, q2, q3, hm7⟩
      obtain ⟨u0, u1, u2, u3, -⟩ := (⟨q1, q2, q3⟩ : Out3 w7 w.heap.size _ _ _ _).cells
      show Leaves _ _ _ _ [] .returning _
      refine ⟨.tuple #[.pointer none, .agg #[.int .i64 (posOf (nextP (1, 1) l) s'.ws).1, .int .i64 (posOf (nextP (1, 1) l) s'.ws).2], .int .i64 4], by simp [results, Tryz.results8, go_sem, u0, u1, u2, u3], hM6.own3 (hm7.mono (fun k _ h => by rcases h with rfl | rfl | rfl <;> omega)), ?_⟩
      rw [if_neg (by simpa using hwe), hx]
    | ok pg s' =>
      rw [hx] at hq
      obtain ⟨hP6, v6, rfl, b6, rfl, hPg⟩ := hq
      unfold ptr
      obtain ⟨z0, d0, d1, e0, zf, df, ef⟩ := h6.cells
      obtain ⟨bb, cc, oo, g1, g2, g3, g4, g5⟩ := hP6.cells
      obtain ⟨-, -, -, -, -, -, p6, pf⟩ := cells7 g5
      have h7 := h6.putA (.pointer (some ⟨b6, 0, none⟩))
      have hm7 : Mv (fun k => k = w.heap.size) w6 (w6.setCell ⟨w.heap.size, 0, none⟩ (.pointer (some ⟨b6, 0, none⟩))) := Mv.setCell _ _ rfl
      have hM7 := hM6.fresh hm7 (fun k hk => by subst hk; exact Nat.le_refl _)
      have p7 := hm7.cell p6 (by show p ≠ _; omega)
      have hPg7 : PgAt (w6.setCell ⟨w.heap.size, 0, none⟩ (.pointer (some ⟨b6, 0, none⟩))) (fun k => w5.heap.size ≤ k) b6 pg := by
        obtain ⟨k1, v1, bs, k2, k3, k4, k5⟩ := hPg
        have hk : Keeps (fun k => w5.heap.size ≤ k) w6 (w6.setCell ⟨w.heap.size, 0, none⟩ (.pointer (some ⟨b6, 0, none⟩))) := Keeps.of hm7 (fun k hk hx => by omega)
        exact ⟨k1, v1, bs, (hm7.same _ (heap_lt k2) (by omega)).trans k2, k3.mv hk (fun k hk => hk), k4, fun i x c hi hc => (k5 i x c hi hc).mv hk (fun k hk => hk)⟩
      cases ho : s'.over
      · rw [ho] at g4
        unfold OverAt at g4
        subst g4
        go_wp2_with fail
        have h8 := h7.put (.pointer (some ⟨b6, 0, none⟩)) (.int .i64 0) (.int .i64 0) (.int .i64 0)
        have hm8 : Mv (fun k => k = w.heap.size ∨ k = w.heap.size + 1 ∨ k = w.heap.size + 1 + 1) (w6.setCell ⟨w.heap.size, 0, none⟩ (.pointer (some ⟨b6, 0, none⟩))) (((((w6.setCell ⟨w.heap.size, 0, none⟩ (.pointer (some ⟨b6, 0, none⟩))).setCell ⟨w.heap.size, 0, none⟩ (.pointer (some ⟨b6, 0, none⟩))).setCell ⟨w.heap.size + 1, 0, none⟩ (.int .i64 0)).setCell ⟨w.heap.size + 1, 1, none⟩ (.int .i64 0)).setCell ⟨w.heap.size + 1 + 1, 0, none⟩ (.int .i64 0)) :=
          (((Mv.setCell _ _ (.inl rfl)).trans (Mv.setCell _ _ (.inr (.inl rfl)))).trans (Mv.setCell _ _ (.inr (.inl rfl)))).trans (Mv.setCell _ _ (.inr (.inr rfl)))
        generalize ((((w6.setCell ⟨w.heap.size, 0, none⟩ (.pointer (some ⟨b6, 0, none⟩))).setCell ⟨w.heap.size, 0, none⟩ (.pointer (some ⟨b6, 0, none⟩))).setCell ⟨w.heap.size + 1, 0, none⟩ (.int .i64 0)).setCell ⟨w.heap.size + 1, 1, none⟩ (.int .i64 0)).setCell ⟨w.heap.size + 1 + 1, 0, none⟩ (.int .i64 0) = w8 at *
        refine leaves_cons (f := 17) (args := #[.pointer (some ⟨w.heap.size, 0, none⟩), .pointer (some ⟨w.heap.size + 1, 0, none⟩), .pointer (some ⟨w.heap.size + 1 + 1, 0, none⟩)]) (by simp) (by simp [go_sem]) ?_
        refine (catchIdle _ _ _ w8).mono ?_
        rintro e u' w9 ⟨rfl, rfl, hb9⟩
        have h9 := h8.keep (Mv.below (X := fun _ => False) hb9) (fun _ h => h.elim)
        obtain ⟨u0, u1, u2, u3, -⟩ := h9.cells
        show Leaves _ _ _ _ [] .returning _
        refine ⟨.tuple #[.pointer (some ⟨b6, 0, none⟩), .agg #[.int .i64 0, .int .i64 0], .int .i64 0], by simp [results, Tryz.results8, go_sem, u0, u1, u2, u3], (hM7.own3 (hm8.mono (fun k _ h => by rcases h with rfl | rfl | rfl <;> omega))).trans (Mv.below hb9), ?_⟩
        rw [if_neg (by simpa using hwe), hx]
        simp only [ho, Bool.false_eq_true, if_false]
        refine ⟨b6, rfl, hPg7.mv (K' := fun k => w.heap.size ≤ k) (Keeps.of (X := fun k => k = w.heap.size ∨ k = w.heap.size + 1 ∨ k = w.heap.size + 1 + 1) (hm8.trans (Mv.below hb9)) (fun k hk hx => by omega)) (fun k hk => by omega)⟩
      · rw [ho] at g4
        obtain ⟨q, pos, rfl, hqp, hqa⟩ := g4
        have hqA : q ≠ w.heap.size := by rintro rfl; have := h6.a; unfold PlcAt at hqa; rw [this] at hqa; cases hqa
        have hqA' := hqA.symm
        have hpA : p ≠ w.heap.size := by omega
        have hpA' := hpA.symm
        have hq7 : PlcAt (w6.setCell ⟨w.heap.size, 0, none⟩ (.pointer (some ⟨b6, 0, none⟩))) q pos := hqa.mv hm7 hqA
        go_wp2_with fail
        clear z0 d0 d1 e0 zf df ef p6 pf g1 g3 g5 hPg hPg7 hP6 hqa
        generalize w6.setCell ⟨w.heap.size, 0, none⟩ (.pointer (some ⟨b6, 0, none⟩)) = w7 at *
        obtain ⟨z0, d0, d1, e0, zf, df, ef⟩ := h7.cells
        obtain ⟨z0', d0', d1', e0', zf', df', ef'⟩ := h7.drew.cells
        have p7' : w7.drew.cell? ⟨p, 6, none⟩ = some (.pointer (some ⟨q, 0, none⟩)) := p7
        obtain ⟨r0, r1, -⟩ := cells2 hq7
        have r0' : w7.drew.cell? ⟨q, 0, none⟩ = some (.int .i64 pos.1) := r0
        have r1' : w7.drew.cell? ⟨q, 1, none⟩ = some (.int .i64 pos.2) := r1
        go_region
        have h8 := (h7.put (.pointer none) (.int .i64 pos.1) (.int .i64 pos.2) (.int .i64 2)).drew
        have hm8 : Mv (fun k => k = w.heap.size ∨ k = w.heap.size + 1 ∨ k = w.heap.size + 1 + 1) w7 (((((w7.setCell ⟨w.heap.size, 0, none⟩ (.pointer none)).setCell ⟨w.heap.size + 1, 0, none⟩ (.int .i64 pos.1)).setCell ⟨w.heap.size + 1, 1, none⟩ (.int .i64 pos.2)).setCell ⟨w.heap.size + 1 + 1, 0, none⟩ (.int .i64 2)).drew) :=
          ((((Mv.setCell _ _ (.inl rfl)).trans (Mv.setCell _ _ (.inr (.inl rfl)))).trans (Mv.setCell _ _ (.inr (.inl rfl)))).trans (Mv.setCell _ _ (.inr (.inr rfl)))).drawn
        generalize ((((w7.setCell ⟨w.heap.size, 0, none⟩ (.pointer none)).setCell ⟨w.heap.size + 1, 0, none⟩ (.int .i64 pos.1)).setCell ⟨w.heap.size + 1, 1, none⟩ (.int .i64 pos.2)).setCell ⟨w.heap.size + 1 + 1, 0, none⟩ (.int .i64 2)).drew = w8 at *
        clear z0 d0 d1 e0 zf df ef z0' d0' d1' e0' zf' df' ef' p7 p7' r0 r1 r0' r1' hq7
        go_wp2_with fail
        refine leaves_cons (f := 17) (args := #[.pointer (some ⟨w.heap.size, 0, none⟩), .pointer (some ⟨w.heap.size + 1, 0, none⟩), .pointer (some ⟨w.heap.size + 1 + 1, 0, none⟩)]) (by simp) (by simp [go_sem]) ?_
        refine (catchIdle _ _ _ w8).mono ?_
        rintro e u' w9 ⟨rfl, rfl, hb9⟩
        have h9 := h8.keep (Mv.below (X := fun _ => False) hb9) (fun _ h => h.elim)
        obtain ⟨u0, u1, u2, u3, -⟩ := h9.cells
        show Leaves _ _ _ _ [] .returning _
        refine ⟨.tuple #[.pointer none, .agg #[.int .i64 pos.1, .int .i64 pos.2], .int .i64 2], by simp [results, Tryz.results8, go_sem, u0, u1, u2, u3], (hM7.own3 (hm8.mono (fun k _ h => by rcases h with rfl | rfl | rfl <;> omega))).trans (Mv.below hb9), ?_⟩
        rw [if_neg (by simpa using hwe), hx]
        simp only [ho, if_true]
        exact ⟨pos, rfl⟩
  · have hwe' : (wordsE l != 0) = true := by simpa using hwe
    go_wp2_with fail
    generalize ((w2.setCell ⟨w.heap.size + 1, 0, none⟩ (.int .i64 (wordsP l).1)).setCell ⟨w.heap.size + 1, 1, none⟩ (.int .i64 (wordsP l).2)).setCell ⟨w.heap.size + 1 + 1, 0, none⟩ (.int .i64 (wordsE l)) = w3 at *
    clear h3 z0 d0 d1 e0 zf df ef ha2 hb2' hc2
    obtain ⟨z0, d0, d1, e0, zf, df, ef⟩ := h3b.cells
    obtain ⟨z0', d0', d1', e0', zf', df', ef'⟩ := h3b.drew.cells
    go_region
    have h4 := (h3b.put (.pointer none) (.int .i64 (wordsP l).1) (.int .i64 (wordsP l).2) (.int .i64 (wordsE l))).drew
    have hm4 : Mv (fun k => w.heap.size ≤ k) w3 ((((w3.setCell ⟨w.heap.size, 0, none⟩ (.pointer none)).setCell ⟨w.heap.size + 1, 0, none⟩ (.int .i64 (wordsP l).1)).setCell ⟨w.heap.size + 1, 1, none⟩ (.int .i64 (wordsP l).2)).setCell ⟨w.heap.size + 1 + 1, 0, none⟩ (.int .i64 (wordsE l))).drew := ((((Mv.setCell _ _ (Nat.le_refl _)).trans (Mv.setCell _ _ (Nat.le_succ _))).trans (Mv.setCell _ _ (Nat.le_succ _))).trans (Mv.setCell _ _ (by omega))).drawn
    generalize ((((w3.setCell ⟨w.heap.size, 0, none⟩ (.pointer none)).setCell ⟨w.heap.size + 1, 0, none⟩ (.int .i64 (wordsP l).1)).setCell ⟨w.heap.size + 1, 1, none⟩ (.int .i64 (wordsP l).2)).setCell ⟨w.heap.size + 1 + 1, 0, none⟩ (.int .i64 (wordsE l))).drew = w4 at *
    go_wp2_with fail
    obtain ⟨u0, u1, u2, u3, -⟩ := h4.cells
    refine ⟨.tuple #[.pointer none, .agg #[.int .i64 (wordsP l).1, .int .i64 (wordsP l).2], .int .i64 (wordsE l)], by simp [results, Tryz.results8, go_sem, u0, u1, u2, u3], hM3.own3 hm4, ?_⟩
    rw [if_pos hwe]
end Go.Proofs.YtjgpbpmicopemaaGreatDoor

/-
  The trees' texts as plain functions. No program in sight.
-/
namespace Go.Proofs.YtjgpbpmicopemaaGreatDoor
open Go.RowKit

/-- words, one blank between -/
def jn (l : List Bs) : Bs := Lib.join l [32]
/-- a type's words -/
def typedT : Bs → Bs
  | [] => []
  | c :: l => (if c = 42 ∨ c = 91 ∨ c = 93 then [32] else []) ++ c :: ((if c = 91 then [32] else []) ++ typedT l)
def declT (ty nm : Bs) : Bs :=
  if (Lib.cut ty [91]).2.2 then jn [typedT (Lib.cut ty [91]).1, nm, [91], Lib.trimSuffix (Lib.cut ty [91]).2.1 [93], [93]]
  else jn [typedT (Lib.cut ty [91]).1, nm]
def callT (nm inner : Bs) : Bs := if inner = [] then jn [nm, [40], [41]] else jn [nm, [40], inner, [41]]
/-- a comma between -/
def commas : List Bs → List Bs
  | [] => []
  | t :: l => t :: l.flatMap fun x => [[44], x]
theorem commas_snoc (l : List Bs) (x : Bs) : commas (l ++ [x]) = if l = [] then [x] else commas l ++ [[44], x] := by
  cases l with
  | nil => simp [commas]
  | cons t l => simp [commas]
mutual
/-- an expression's text -/
def textE : Ex → Bs
  | .mk k op nm n ty args _ =>
    if k = 1 then Lib.itoa n
    else if k = 2 then nm
    else if k = 3 then jn [[40], op, (textsE args).getD 0 [], [41]]
    else if k = 4 then jn [[40], (textsE args).getD 0 [], op, (textsE args).getD 1 [], [41]]
    else if k = 5 then jn [[40], [40], typedT ty, [41], (textsE args).getD 0 [], [41]]
    else if k = 6 then callT nm (jn (commas (textsE args)))
    else if k = 7 then jn [(textsE args).getD 0 [], [91], (textsE args).getD 1 [], [93]]
    else if k = 8 then jn [(textsE args).getD 0 [], [46], nm]
    else if k = 9 then jn [(textsE args).getD 0 [], [45, 62], nm]
    else if k = 10 then callT [105, 110] []
    else callT [115, 105, 122, 101, 111, 102] (typedT ty)
def textsE : Exs → List Bs
  | .nil => []
  | .cons e l => textE e :: textsE l
end
def textO : Option Ex → Bs
  | none => []
  | some e => textE e
def St.kind : St → Int | .mk k _ _ _ _ _ _ => k
def kindsS : Sts → List Int
  | .nil => []
  | .cons s l => s.kind :: kindsS l
/-- as a block -/
def braceT (k : Int) (t : Bs) : Bs := if k = 1 then t else jn [[123], t, [125]]
mutual
/-- a statement's text -/
def textS : St → Bs
  | .mk k nm ty e pl l _ =>
    if k = 1 then jn ([123] :: (textsS l ++ [[125]]))
    else if k = 2 then [59]
    else if k = 3 then (match e with
      | some e => jn [declT ty nm, [61], textE e, [59]]
      | none => jn [declT ty nm, [59]])
    else if k = 4 then jn [textO pl, [61], textO e, [59]]
    else if k = 5 then jn [textO e, [59]]
    else if k = 6 then
      if 1 < (textsS l).length then jn [jn [[105, 102], [40], textO e, [41], braceT ((kindsS l).getD 0 0) ((textsS l).getD 0 [])], [101, 108, 115, 101], braceT ((kindsS l).getD 1 0) ((textsS l).getD 1 [])]
      else jn [[105, 102], [40], textO e, [41], braceT ((kindsS l).getD 0 0) ((textsS l).getD 0 [])]
    else if k = 7 then jn [[119, 104, 105, 108, 101], [40], textO e, [41], braceT ((kindsS l).getD 0 0) ((textsS l).getD 0 [])]
    else if k = 8 then [98, 114, 101, 97, 107, 32, 59]
    else if k = 9 then [99, 111, 110, 116, 105, 110, 117, 101, 32, 59]
    else if k = 11 then jn [callT [111, 117, 116] (textO e), [59]]
    else (match e with
      | none => [114, 101, 116, 117, 114, 110, 32, 59]
      | some e => jn [[114, 101, 116, 117, 114, 110], textE e, [59]])
def textsS : Sts → List Bs
  | .nil => []
  | .cons s l => textS s :: textsS l
end
def pmT (p : Pm) : List Bs := (if p.pub then [[112, 117, 98, 108, 105, 99]] else []) ++ [declT p.ty p.nm]
def pmsT : List Pm → List Bs
  | [] => []
  | p :: l => pmT p ++ l.flatMap fun q => [44] :: pmT q
theorem pmsT_snoc (l : List Pm) (x : Pm) : pmsT (l ++ [x]) = if l = [] then pmT x else pmsT l ++ ([44] :: pmT x) := by
  cases l with
  | nil => simp [pmsT]
  | cons t l => simp [pmsT]
def fdsT (l : List Fd) : List Bs := l.flatMap fun f => [declT f.ty f.nm, [59]]
/-- an item's text -/
def textI (x : Im) : Bs :=
  if x.k = 1 then jn (([115, 116, 114, 117, 99, 116] :: x.nm :: [123] :: fdsT x.fs) ++ [[125], [59]])
  else if x.k = 2 then jn [declT x.ty x.nm, [59]]
  else jn [typedT x.ty, callT x.nm (jn (pmsT x.ps)), (match x.bd with | some b => textS b | none => [])]
def textP (p : Pg) : Bs := jn (p.items.map textI)
def functionsP (p : Pg) : List Bs := (p.items.filter fun x => decide (x.k = 3)).map Im.nm
/-- bytes that are letters of seven bits; a text of a fair length -/
def ascB (t : Bs) : Bool := t.all (fun c => decide (c.toNat < 128)) && decide (t.length ≤ 400000)
mutual
/-- a tree as a parser makes it -/
def okE : Ex → Bool
  | .mk k _ nm n ty args _ =>
    decide (1 ≤ k) && decide (k ≤ 11) && decide (-9223372036854775808 ≤ n) && decide (n ≤ 9223372036854775807) && ascB ty && ascB nm &&
    (if k = 3 ∨ k = 5 ∨ k = 8 ∨ k = 9 then decide ((textsE args).length = 1) else if k = 4 ∨ k = 7 then decide ((textsE args).length = 2) else true) && okEs args
def okEs : Exs → Bool
  | .nil => true
  | .cons e l => okE e && okEs l
end
def okO : Option Ex → Bool
  | none => true
  | some e => okE e
mutual
def okS : St → Bool
  | .mk k nm ty e pl l _ =>
    decide (1 ≤ k) && decide (k ≤ 11) && ascB ty && ascB nm && okO e && okO pl &&
    (if k = 4 then e.isSome && pl.isSome else if k = 5 ∨ k = 11 then e.isSome else if k = 6 then e.isSome && decide (1 ≤ (textsS l).length ∧ (textsS l).length ≤ 2) else if k = 7 then e.isSome && decide ((textsS l).length = 1) else true) && okSs l
def okSs : Sts → Bool
  | .nil => true
  | .cons s l => okS s && okSs l
end
def okI (x : Im) : Bool :=
  decide (1 ≤ x.k) && decide (x.k ≤ 3) && ascB x.ty && ascB x.nm && x.fs.all (fun f => ascB f.ty && ascB f.nm) && x.ps.all (fun f => ascB f.ty && ascB f.nm) &&
  (match x.bd with | some b => okS b && decide (x.k = 3) | none => decide (x.k ≠ 3))
end Go.Proofs.YtjgpbpmicopemaaGreatDoor

/-
  The places of the words: where each word stands; no program in sight.
-/
namespace Go.Proofs.YtjgpbpmicopemaaGreatDoor
open Go.RowKit

/-- the words stand in the text, each behind the one ahead of it, from a byte on -/
def Stands (l : List UInt8) : Nat → List It → Prop
  | _, [] => True
  | k, x :: xs => ∃ j, k ≤ j ∧ x.p = nextP (1, 1) (l.take j) ∧ 1 ≤ x.d.t.length ∧ j + x.d.t.length ≤ l.length ∧ x.d.t = (l.drop j).take x.d.t.length ∧ Stands l (j + x.d.t.length) xs
theorem Stands.less {l : List UInt8} : ∀ {xs : List It} {k m : Nat}, Stands l k xs → m ≤ k → Stands l m xs
  | [], _, _, _, _ => trivial
  | _ :: _, _, _, ⟨j, h1, h2⟩, hm => ⟨j, Nat.le_trans hm h1, h2⟩
theorem stands_len {l : List UInt8} : ∀ {xs : List It} {k : Nat}, Stands l k xs → k ≤ l.length → k + xs.length ≤ l.length
  | [], _, _, hk => by simpa using hk
  | x :: xs, k, ⟨j, h1, h2, h3, h4, h5, h6⟩, _ => by
    have := stands_len h6 h4
    simp only [List.length_cons]
    omega
theorem word_text (c : UInt8) (l : List UInt8) (d : Wd) (h : wordO (c :: l) = some d) : d.t = (c :: l).take d.t.length := by
  unfold wordO at h
  split at h
  · split at h
    · injection h with h
      subst h
      show (c :: l).take _ = (c :: l).take ((c :: l).take _).length
      rw [List.length_take, Nat.min_eq_left (nameN_le _)]
    · cases h
  · split at h
    · cases hv : numV ((c :: l).take (nameN (c :: l))) with
      | none => rw [hv] at h; cases h
      | some v =>
        rw [hv] at h
        injection h with h
        subst h
        show (c :: l).take _ = (c :: l).take ((c :: l).take _).length
        rw [List.length_take, Nat.min_eq_left (nameN_le _)]
    · split at h
      · injection h with h
        subst h
        show (c :: l).take _ = (c :: l).take ((c :: l).take _).length
        rw [List.length_take, ← List.take_take, List.take_length]
      · cases h
theorem stands_scan (l : List UInt8) : ∀ (f k : Nat), k ≤ l.length → (∀ x ∈ scanF f (nextP (1, 1) (l.take k)) (l.drop k), x.bad = false) → Stands l k (scanF f (nextP (1, 1) (l.take k)) (l.drop k))
  | 0, _, _, _ => trivial
  | f + 1, k, hk, h => by
    cases hd : l.drop k with
    | nil => exact trivial
    | cons c r =>
      have hlen : (l.drop k).length = (c :: r).length := by rw [hd]
      rw [List.length_drop] at hlen
      rw [hd] at h
      have go : ∀ n : Nat, n ≤ (c :: r).length → nextP (nextP (1, 1) (l.take k)) ((c :: r).take n) = nextP (1, 1) (l.take (k + n)) ∧ (c :: r).drop n = l.drop (k + n) := fun n _ => by
        rw [← hd, ← nextP_append, ← List.take_add, List.drop_drop]
        exact ⟨rfl, rfl⟩
      unfold scanF at h ⊢
      split at h
      · exact absurd (h (itBad _) (List.mem_singleton_self _)) (by simp [itBad])
      · rename_i hb
        rw [if_neg hb]
        have hb' : (blankV (c :: r)).2 = true := by simpa using hb
        obtain ⟨hlo, hhi⟩ := blank_low c r hb'
        split at h
        · rename_i hn
          rw [if_pos hn]
          have hle : (blankV (c :: r)).1.toNat ≤ (c :: r).length := by omega
          obtain ⟨e1, e2⟩ := go _ hle
          rw [e1, e2] at h ⊢
          exact (stands_scan l f (k + (blankV (c :: r)).1.toNat) (by omega) h).less (by omega)
        · rename_i hn
          rw [if_neg hn]
          cases hw : wordO (c :: r) with
          | none => rw [hw] at h; exact absurd (h (itBad _) (List.mem_singleton_self _)) (by simp [itBad])
          | some d =>
            rw [hw] at h
            obtain ⟨w1, w2⟩ := word_low c r d hw
            obtain ⟨e1, e2⟩ := go _ w2
            simp only at h ⊢
            rw [e1, e2] at h ⊢
            exact ⟨k, Nat.le_refl _, rfl, w1, by show k + d.t.length ≤ _; omega, by rw [hd]; exact word_text c r d hw, stands_scan l f (k + d.t.length) (by omega) (fun x hx => h x (by simp [hx]))⟩
theorem goods_scan (l : List UInt8) (h : (faultO l).isSome = false) : goods l = scanL l ∧ ∀ x ∈ scanL l, x.bad = false := by
  have h1 : ∀ x ∈ scanL l, x.bad = false := by
    unfold faultO at h
    intro x hx
    have := List.find?_eq_none.1 (Option.not_isSome_iff_eq_none.1 (by rw [h]; simp)) x hx
    simpa using this
  exact ⟨(goods_all l h1).1, h1⟩
theorem words_ok (l : List UInt8) (h : wordsE l = 0) : l.length ≤ 65536 ∧ (faultO l).isSome = false ∧ wordsL l = scanL l ∧ ∀ x ∈ scanL l, x.bad = false := by
  unfold wordsE at h
  split at h
  · cases h
  · rename_i h1
    split at h
    · cases h
    · rename_i h2
      have h2' : (faultO l).isSome = false := by simpa using h2
      unfold wordsL
      rw [if_neg h1, if_neg h2]
      exact ⟨by omega, h2', (goods_scan l h2').1, (goods_scan l h2').2⟩
theorem stands_words (l : List UInt8) (h : wordsE l = 0) : Stands l 0 (wordsL l) := by
  obtain ⟨-, -, h2, h3⟩ := words_ok l h
  rw [h2]
  have := stands_scan l (l.length + 1) 0 (Nat.zero_le _)
  exact this h3
/-- places rise -/
def Ahead (p q : Int × Int) : Prop := p.1 < q.1 ∨ p.1 = q.1 ∧ p.2 < q.2
theorem ahead_step (p : Int × Int) (c : UInt8) : Ahead p (if c = 10 then (p.1 + 1, 1) else (p.1, p.2 + 1)) := by
  unfold Ahead
  split
  · left; show p.1 < p.1 + 1; omega
  · right; exact ⟨rfl, by show p.2 < p.2 + 1; omega⟩
theorem ahead_trans {p q r : Int × Int} (h : Ahead p q) (g : Ahead q r) : Ahead p r := by
  unfold Ahead at *
  omega
theorem ahead_pos (l : List UInt8) (i : Nat) : ∀ n, i + n + 1 ≤ l.length → Ahead (nextP (1, 1) (l.take i)) (nextP (1, 1) (l.take (i + n + 1)))
  | 0, h => by
    rw [← List.take_append_getElem (show i + 0 < l.length by omega), nextP_snoc]
    exact ahead_step _ _
  | n + 1, h => by
    refine ahead_trans (ahead_pos l i n (by omega)) ?_
    rw [show i + (n + 1) + 1 = (i + n + 1) + 1 from rfl, ← List.take_append_getElem (show i + n + 1 < l.length by omega), nextP_snoc]
    exact ahead_step _ _
theorem pos_inj (l : List UInt8) (i j : Nat) (hij : i ≤ j) (hj : j ≤ l.length) (h : nextP (1, 1) (l.take j) = nextP (1, 1) (l.take i)) : j = i := by
  rcases Nat.eq_or_lt_of_le hij with e | e
  · exact e.symm
  · exfalso
    have := ahead_pos l i (j - i - 1) (by omega)
    rw [show i + (j - i - 1) + 1 = j from by omega, h] at this
    unfold Ahead at this
    omega
/-- the word at hand stands here, or stands further on -/
theorem stands_here {l : List UInt8} {x : It} {xs : List It} {i : Nat} (h : Stands l i (x :: xs)) (hp : x.p = nextP (1, 1) (l.take i)) :
    1 ≤ x.d.t.length ∧ i + x.d.t.length ≤ l.length ∧ x.d.t = (l.drop i).take x.d.t.length ∧ Stands l (i + 1) xs := by
  obtain ⟨j, h1, h2, h3, h4, h5, h6⟩ := h
  have : j = i := pos_inj l i j h1 (by omega) (h2.symm.trans hp)
  subst this
  exact ⟨h3, h4, h5, h6.less (by omega)⟩
theorem stands_on {l : List UInt8} {x : It} {xs : List It} {i : Nat} (h : Stands l i (x :: xs)) (hp : x.p ≠ nextP (1, 1) (l.take i)) : Stands l (i + 1) (x :: xs) := by
  obtain ⟨j, h1, h2, h3⟩ := h
  rcases Nat.eq_or_lt_of_le h1 with e | e
  · subst e; exact absurd h2 hp
  · exact ⟨j, e, h2, h3⟩
theorem stands_end {l : List UInt8} {x : It} {xs : List It} {i : Nat} (h : Stands l i (x :: xs)) : i < l.length := by
  obtain ⟨j, h1, h2, h3, h4, -⟩ := h
  omega
end Go.Proofs.YtjgpbpmicopemaaGreatDoor
