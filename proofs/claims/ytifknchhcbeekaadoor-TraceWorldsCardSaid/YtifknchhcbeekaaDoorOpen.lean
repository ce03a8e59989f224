/-
  The arguments of a law opened: a run by value is a struct of two numbers, a slice of events, a slice of leaks, a number. And its end: whatever law answers true and leaves what was there as it was meets its row's 'post'.
-/
import Derived.Test.YtifknchhcbeekaaDoorClose
import Derived.Deep.Slices
import Derived.Deep.Fields
import Derived.Lib.SmallJoins
namespace Go.Proofs.YtifknchhcbeekaaDoor
open Go.Joins Go.ChangeShapes Go.WideShapes Go.ChangeAt Go.RowKit Go.Deep

theorem laidOut : laidOutB Tryd.prog = true := by kernel_rfl

section
variable {H : Type} {enc : TypeId × Value → H}
theorem trodAll_stays {W W' : World} {sp : Nat → Bool} : ∀ {ts : List TypeId} {vs : List Value} {ds : List (DataW H)} {ps : List MemPlace}, DataW.TrodAll enc Tryd.prog W 0 (fun _ => true) true ts vs ds ps →
    (∀ t ∈ ts, Tryd.prog.readableRec t = true ∧ t < Tryd.prog.types.size) → (∀ p ∈ ps, W.sameAt W' p) → (∀ p ∈ ps, sp p.block = true) → DataW.TrodAll enc Tryd.prog W' 0 sp true ts vs ds ps := by
  intro ts
  induction ts with
  | nil =>
    intro vs ds ps h _ _ _
    obtain ⟨rfl, rfl, rfl⟩ := trodAll_nil h
    exact trodAll_mk0
  | cons t r ih =>
    intro vs ds ps h ht hs hsp
    obtain ⟨v0, vs0, d0, ds0, p0, q0, rfl, rfl, rfl, h0, r0⟩ := trodAll_cons h
    exact trodAll_cons_mk (WideElems.Trod_stays laidOut (ht t (by simp)).1 (ht t (by simp)).2 h0 (fun p hp => hs p (by simp [hp])) (fun p hp => hsp p (by simp [hp])))
      (ih r0 (fun t' h' => ht t' (by simp [h'])) (fun p hp => hs p (by simp [hp])) (fun p hp => hsp p (by simp [hp])))
theorem trodAll_length {W : World} {sp : Nat → Bool} : ∀ {ts : List TypeId} {vs : List Value} {ds : List (DataW H)} {ps : List MemPlace}, DataW.TrodAll enc Tryd.prog W 0 sp true ts vs ds ps → ds.length = ts.length := by
  intro ts
  induction ts with
  | nil =>
    intro vs ds ps h
    obtain ⟨rfl, rfl, rfl⟩ := trodAll_nil h
    rfl
  | cons t r ih =>
    intro vs ds ps h
    obtain ⟨v0, vs0, d0, ds0, p0, q0, rfl, rfl, rfl, h0, r0⟩ := trodAll_cons h
    simp [ih r0]

theorem post_law {f : Func} {s : ChangeSpec} {W W' : World} {args : Array Value} {ds gs : List (DataW H)} {before : List MemPlace}
    (hW : DataW.Whole enc Tryd.prog f.params.toList s.vars false W args.toList ds gs before) (hs : s.vars = [])
    (hfn : ∀ l : List (DataW H), l.length = f.params.toList.length → s.fn H (l ++ []) = { results := [.lit (.bool true)], args := l })
    (hr : ∀ t ∈ f.params.toList, Tryd.prog.readableRec t = true ∧ t < Tryd.prog.types.size) (hres : f.resultTypes = #[4]) (hb : Below W.heap.size W W') :
    s.post enc Tryd.prog f false true false false W args (.bool true) W' := by
  have hW' := hW
  have hlt : ∀ p ∈ before, p.block < W.heap.size := fun p hp => hW.lt p hp
  obtain ⟨p, q, hA0, hV, hpq, hfz, hnd⟩ := hW
  have hA : DataW.TrodAll enc Tryd.prog W 0 (fun _ => true) true f.params.toList args.toList ds p := hA0
  rw [hs] at hV
  obtain ⟨hgs, hq⟩ := trodVars_none hV
  subst hgs hq
  have hlen := trodAll_length hA
  have hf := hfn ds hlen
  simp only [List.append_nil] at hpq
  subst hpq
  refine post_of_below (pa := before) (pv := []) hW' ?_ ?_ ?_ (by simp) hb ?_
  · intro b sp hd
    rw [hf, hres]
    exact trodAll_cons_mk (shut_bool Tryd.underlying4 _) trodAll_mk0
  · intro sp hsp
    rw [hf]
    exact trodAll_stays hA hr (fun x hx => hb.same (hlt x hx)) (fun x hx => hsp x hx)
  · intro sp _
    rw [hf, hs]
    rfl
  · exact ok_one hres rfl (okWide_bool_mk Tryd.underlying4 _)
end

section
variable {H : Type} {enc : TypeId × Value → H} {P : Program} {w : World} {base : Nat} {spare : Nat → Bool} {held : Bool}
/-- a slice of structs of one-cell fields: what each field's cell holds, and its own reading -/
theorem open_rows {t e : TypeId} {fs : Array Field} {fuel : Nat} {cs : List Value} {x : DataW H × List MemPlace} (ht : P.underlying t = some (.slice e)) (he : P.underlying e = some (.struct fs))
    (hone : oneCellFields P fs = true) (hC : P.cellsOf e = fs.size) (h : DataW.trod enc P w base spare held fuel t cs = some x) :
    cs = [.slice none 0 0] ∨
    ∃ (a : Addr) (len cap : Nat), cs = [.slice (some a) len cap] ∧ len ≤ cap ∧ cap ≤ maxLen ∧
      ∀ i, i < len → ∀ (j : Nat) (f : Field), fs[j]? = some f → ∃ (v : Value) (n : Nat) (y : DataW H × List MemPlace), w.cell? (a.add (i * fs.size + j)) = some v ∧ DataW.trod enc P w base spare held n f.type [v] = some y := by
  rcases open_slice ht h with h0 | ⟨a, len, cap, m, n, D, Pl, hcs, hb, hl, hm, hmm, hx, hi⟩
  · exact .inl h0.1
  · refine .inr ⟨a, len, cap, hcs, hl, hm, fun i hil j f hj => ?_⟩
    have him : i < m := by rw [hmm]; split <;> omega
    obtain ⟨cs', hc, ht'⟩ := hi i him
    rw [hC] at hc
    obtain ⟨ys, n', hn', hy, hlen, hyl, hf⟩ := DataW.trod_struct he ht'
    obtain ⟨_, hcl, hat⟩ := World.cells?_some hc
    obtain ⟨ho, hk⟩ := hone_of hone j f hj
    have hjl : j < fs.size := (Array.getElem?_eq_some_iff.1 hj).1
    have hcell := hat j hjl
    have hv : cs'[j]? = some (cs'[j]'(by omega)) := List.getElem?_eq_getElem (by omega)
    have h1 := hf j f hj
    rw [ho, hk] at h1
    have hone' : (cs'.drop j).take 1 = [cs'[j]'(by omega)] := by
      rw [List.drop_eq_getElem_cons (by omega)]
      rfl
    rw [hone'] at h1
    have hys : ys[j]? = some (ys[j]'(by omega)) := List.getElem?_eq_getElem (by omega)
    refine ⟨_, n', _, ?_, h1.trans hys⟩
    rw [← Go.Deep.add_add, hcell, hv]
end

theorem fits_of_wf {n : Int} (h : (Lit.int .i64 n).wf = true) : Fits n := by
  have : -9223372036854775808 ≤ n ∧ n ≤ 9223372036854775807 := by simpa [Lit.wf, IntKind.min, IntKind.max, IntKind.signed, IntKind.bits] using h
  exact this
theorem plain_of_cell {w : World} {a : Addr} {u : Value} (h : w.cell? (a.add 0) = some u) : ∃ b o, a = ⟨b, o, none⟩ ∧ b < w.heap.size := by
  obtain ⟨b, o, spot⟩ := a
  have hs : spot = none := by simpa [Addr.add] using World.cell?_spot h
  subst hs
  exact ⟨b, o, rfl, World.block_lt_of_cell? w ⟨b, o, none⟩ (by simpa [Addr.add] using h)⟩

section
variable {H : Type} {enc : TypeId × Value → H} {W : World} {n : Nat} {v : Value} {y : DataW H × List MemPlace}
theorem open_evs (h : DataW.trod enc Tryd.prog W 0 (fun _ => true) true n 24 [v] = some y) :
    ∃ (A : Option Addr) (len cap : Nat) (l : List Ev), v = .slice A len cap ∧ Evs W W.heap.size A len l ∧ (∀ e ∈ l, Fits e.2) ∧ len ≤ cap ∧ cap ≤ 9223372036854775807 := by
  rcases open_rows Tryd.underlying24 Tryd.underlying39 (by kernel_rfl) (by kernel_rfl) h with h0 | ⟨a, len, cap, hcs, hl, hm, hi⟩
  · simp at h0
    exact ⟨none, 0, 0, [], h0, ⟨rfl, Rd.nil_⟩, by simp, Nat.le_refl _, by omega⟩
  · simp at hcs
    unfold maxLen at hm
    have hx : ∀ i, ∃ e : Ev, i < len → (W.cell? (a.add (i * 2 + 0)) = some (.int .i64 e.1) ∧ W.cell? (a.add (i * 2 + 1)) = some (.int .i64 e.2)) ∧ Fits e.2 := fun i => by
      by_cases hil : i < len
      · obtain ⟨v0, n0, y0, c0, t0⟩ := hi i hil 0 _ rfl
        obtain ⟨v1, n1, y1, c1, t1⟩ := hi i hil 1 _ rfl
        obtain ⟨z0, e0, -, -⟩ := DataW.trod_int Tryd.underlying3 t0
        obtain ⟨z1, e1, -, w1⟩ := DataW.trod_int Tryd.underlying2 t1
        simp at e0 e1
        subst e0 e1
        exact ⟨(z0, z1), fun _ => ⟨⟨c0, c1⟩, fits_of_wf w1⟩⟩
      · exact ⟨(0, 0), fun h => absurd h hil⟩
    obtain ⟨F, hF⟩ := Classical.skolem.1 hx
    refine ⟨some a, len, cap, (List.range len).map F, hcs, ⟨by simp, by rw [evCells_length]; simp, fun hn => ?_⟩, ?_, hl, hm⟩
    · obtain ⟨b, o, rfl, hb⟩ := plain_of_cell (hF 0 hn).1.1
      refine ⟨b, o, rfl, hb, fun j u hu => ?_⟩
      have hj : j < len * 2 := by have := (List.getElem?_eq_some_iff.1 hu).1; rw [evCells_length] at this; simpa using this
      have hjl : j / 2 < len := by omega
      have hat := evCells_at ((List.range len).map F) (j / 2) (F (j / 2)) (by simp [hjl])
      have hcl := (hF (j / 2) hjl).1
      rw [Go.WideShapes.add_plain, Go.WideShapes.add_plain] at hcl
      rcases Nat.mod_two_eq_zero_or_one j with h2 | h2
      · have e : j / 2 * 2 = j := by omega
        rw [Nat.add_zero, e] at hcl
        rw [e, hu] at hat
        rw [hcl.1, ← hat.1]
      · have e : j / 2 * 2 + 1 = j := by omega
        rw [e] at hcl
        rw [e, hu] at hat
        rw [hcl.2, ← hat.2]
    · intro e he
      obtain ⟨i, hi', rfl⟩ := List.mem_map.1 he
      exact (hF i (by simpa using hi')).2
theorem open_lks (h : DataW.trod enc Tryd.prog W 0 (fun _ => true) true n 25 [v] = some y) :
    ∃ (A : Option Addr) (len cap : Nat) (l : List Lk), v = .slice A len cap ∧ Lks W W.heap.size A len l ∧ len ≤ cap ∧ cap ≤ 9223372036854775807 := by
  rcases open_rows Tryd.underlying25 Tryd.underlying53 (by kernel_rfl) (by kernel_rfl) h with h0 | ⟨a, len, cap, hcs, hl, hm, hi⟩
  · simp at h0
    exact ⟨none, 0, 0, [], h0, ⟨rfl, Rd.nil_⟩, Nat.le_refl _, by omega⟩
  · simp at hcs
    unfold maxLen at hm
    have hx : ∀ i, ∃ e : Lk, i < len → W.cell? (a.add (i * 3 + 0)) = some (.int .i64 e.1) ∧ W.cell? (a.add (i * 3 + 1)) = some (.int .i64 e.2.1) ∧ W.cell? (a.add (i * 3 + 2)) = some (.int .i64 e.2.2) := fun i => by
      by_cases hil : i < len
      · obtain ⟨v0, n0, y0, c0, t0⟩ := hi i hil 0 _ rfl
        obtain ⟨v1, n1, y1, c1, t1⟩ := hi i hil 1 _ rfl
        obtain ⟨v2, n2, y2, c2, t2⟩ := hi i hil 2 _ rfl
        obtain ⟨z0, e0, -, -⟩ := DataW.trod_int Tryd.underlying3 t0
        obtain ⟨z1, e1, -, -⟩ := DataW.trod_int Tryd.underlying2 t1
        obtain ⟨z2, e2, -, -⟩ := DataW.trod_int Tryd.underlying2 t2
        simp at e0 e1 e2
        subst e0 e1 e2
        exact ⟨(z0, z1, z2), fun _ => ⟨c0, c1, c2⟩⟩
      · exact ⟨(0, 0, 0), fun h => absurd h hil⟩
    obtain ⟨F, hF⟩ := Classical.skolem.1 hx
    refine ⟨some a, len, cap, (List.range len).map F, hcs, ⟨by simp, by rw [lkCells_length]; simp, fun hn => ?_⟩, hl, hm⟩
    obtain ⟨b, o, rfl, hb⟩ := plain_of_cell (hF 0 hn).1
    refine ⟨b, o, rfl, hb, fun j u hu => ?_⟩
    have hj : j < len * 3 := by have := (List.getElem?_eq_some_iff.1 hu).1; rw [lkCells_length] at this; simpa using this
    have hjl : j / 3 < len := by omega
    have hat := lkCells_at ((List.range len).map F) (j / 3) (F (j / 3)) (by simp [hjl])
    have hcl := hF (j / 3) hjl
    rw [Go.WideShapes.add_plain, Go.WideShapes.add_plain, Go.WideShapes.add_plain] at hcl
    rcases (by omega : j % 3 = 0 ∨ j % 3 = 1 ∨ j % 3 = 2) with h2 | h2 | h2
    · have e : j / 3 * 3 = j := by omega
      rw [Nat.add_zero, e] at hcl
      rw [e, hu] at hat
      rw [hcl.1, ← hat.1]
    · have e : j / 3 * 3 + 1 = j := by omega
      rw [e] at hcl
      rw [e, hu] at hat
      rw [hcl.2.1, ← hat.2.1]
    · have e : j / 3 * 3 + 2 = j := by omega
      rw [e] at hcl
      rw [e, hu] at hat
      rw [hcl.2.2, ← hat.2.2]

/-- an argument that is a run -/
theorem open_run {base : Nat} {d : DataW H} {p : List MemPlace} (hv : Value.okWide Tryd.prog W .any base 27 v) (h : DataW.Trod enc Tryd.prog W 0 (fun _ => true) true 27 v d p) :
    ∃ r : Rn, RunIs W W.heap.size v r ∧ (∀ e ∈ r.evs, Fits e.2) ∧ Fits r.exit := by
  obtain ⟨cs, rfl, hsz⟩ := okWide_struct Tryd.underlying27 hv
  obtain ⟨l⟩ := cs
  have h5 : l.length = 5 := hsz.trans (show Tryd.prog.cellsOf 27 = 5 by kernel_rfl)
  match l, h5 with
  | [c0, c1, c2, c3, c4], _ =>
    obtain ⟨fuel, hf⟩ := h
    obtain ⟨xs, n, _, hx, _, hlen, hg⟩ := DataW.trod_struct Tryd.underlying27 hf
    have q3 : Tryd.prog.cellsOf 3 = 1 := by kernel_rfl
    have q2 : Tryd.prog.cellsOf 2 = 1 := by kernel_rfl
    have q24 : Tryd.prog.cellsOf 24 = 1 := by kernel_rfl
    have q25 : Tryd.prog.cellsOf 25 = 1 := by kernel_rfl
    match xs, hlen with
    | [y0, y1, y2, y3, y4], _ =>
      have t0 : DataW.trod enc Tryd.prog W 0 (fun _ => true) true n 3 [c0] = some y0 := by simpa [Value.cells, q3] using hg 0 _ rfl
      have t1 : DataW.trod enc Tryd.prog W 0 (fun _ => true) true n 2 [c1] = some y1 := by simpa [Value.cells, q2] using hg 1 _ rfl
      have t2 : DataW.trod enc Tryd.prog W 0 (fun _ => true) true n 24 [c2] = some y2 := by simpa [Value.cells, q24] using hg 2 _ rfl
      have t3 : DataW.trod enc Tryd.prog W 0 (fun _ => true) true n 25 [c3] = some y3 := by simpa [Value.cells, q25] using hg 3 _ rfl
      have t4 : DataW.trod enc Tryd.prog W 0 (fun _ => true) true n 3 [c4] = some y4 := by simpa [Value.cells, q3] using hg 4 _ rfl
      obtain ⟨z0, e0, -, -⟩ := DataW.trod_int Tryd.underlying3 t0
      obtain ⟨z1, e1, -, w1⟩ := DataW.trod_int Tryd.underlying2 t1
      obtain ⟨A, a1, a2, le, rfl, he, hfe, ha, hb⟩ := open_evs t2
      obtain ⟨B, b1, b2, lk, rfl, hl, hc, hd⟩ := open_lks t3
      obtain ⟨z4, e4, -, -⟩ := DataW.trod_int Tryd.underlying3 t4
      simp at e0 e1 e4
      subst e0 e1 e4
      exact ⟨⟨z0, z1, le, lk, z4⟩, ⟨A, a1, a2, B, b1, b2, rfl, he, ha, hb, hl, hc, hd⟩, hfe, fits_of_wf w1⟩
end
end Go.Proofs.YtifknchhcbeekaaDoor
