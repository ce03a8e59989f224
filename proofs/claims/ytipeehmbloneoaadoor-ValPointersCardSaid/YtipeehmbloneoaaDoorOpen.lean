/-
  The arguments of a law opened: a value is a struct of three numbers. And its end: whatever law answers true and leaves what was there as it was meets its row's 'post'.
-/
import Derived.Test.YtipeehmbloneoaaDoorClose
import Derived.Deep.Slices
import Derived.Deep.Fields
import Derived.Lib.SmallJoins
namespace Go.Proofs.YtipeehmbloneoaaDoor
open Go.Joins Go.ChangeShapes Go.WideShapes Go.ChangeAt Go.RowKit Go.Deep

theorem laidOut : laidOutB Tryd.prog = true := by kernel_rfl

section
variable {H : Type} {enc : TypeId × Value → H}
theorem trodAll_stays {W W' : World} {sp : Nat → Bool} : ∀ {ts : List TypeId} {vs : List Value} {ds : List (DataW H)} {ps : List MemPlace}, DataW.TrodAll enc Tryd.prog W 0 (fun _ => true) true ts vs ds ps →
    (∀ t ∈ ts, Tryd.prog.readableRec t = true ∧ t < Tryd.prog.types.size) → (∀ p ∈ ps, W.sameAt W' p) → (∀ p ∈ ps, sp p.block = true) → DataW.TrodAll enc Tryd.prog W' 0 sp true ts vs ds ps := by
  intro ts
  induction ts with
  | nil =>
    intro vs ds ps h _ _ _
    obtain ⟨rfl, rfl, rfl⟩ := trodAll_nil h
    exact trodAll_mk0
  | cons t r ih =>
    intro vs ds ps h ht hs hsp
    obtain ⟨v0, vs0, d0, ds0, p0, q0, rfl, rfl, rfl, h0, r0⟩ := trodAll_cons h
    exact trodAll_cons_mk (WideElems.Trod_stays laidOut (ht t (by simp)).1 (ht t (by simp)).2 h0 (fun p hp => hs p (by simp [hp])) (fun p hp => hsp p (by simp [hp])))
      (ih r0 (fun t' h' => ht t' (by simp [h'])) (fun p hp => hs p (by simp [hp])) (fun p hp => hsp p (by simp [hp])))
theorem trodAll_length {W : World} {sp : Nat → Bool} : ∀ {ts : List TypeId} {vs : List Value} {ds : List (DataW H)} {ps : List MemPlace}, DataW.TrodAll enc Tryd.prog W 0 sp true ts vs ds ps → ds.length = ts.length := by
  intro ts
  induction ts with
  | nil =>
    intro vs ds ps h
    obtain ⟨rfl, rfl, rfl⟩ := trodAll_nil h
    rfl
  | cons t r ih =>
    intro vs ds ps h
    obtain ⟨v0, vs0, d0, ds0, p0, q0, rfl, rfl, rfl, h0, r0⟩ := trodAll_cons h
    simp [ih r0]

theorem post_law {f : Func} {s : ChangeSpec} {W W' : World} {args : Array Value} {ds gs : List (DataW H)} {before : List MemPlace}
    (hW : DataW.Whole enc Tryd.prog f.params.toList s.vars false W args.toList ds gs before) (hs : s.vars = [])
    (hfn : ∀ l : List (DataW H), l.length = f.params.toList.length → s.fn H (l ++ []) = { results := [.lit (.bool true)], args := l })
    (hr : ∀ t ∈ f.params.toList, Tryd.prog.readableRec t = true ∧ t < Tryd.prog.types.size) (hres : f.resultTypes = #[4]) (hb : Below W.heap.size W W') :
    s.post enc Tryd.prog f false true false false W args (.bool true) W' := by
  have hW' := hW
  have hlt : ∀ p ∈ before, p.block < W.heap.size := fun p hp => hW.lt p hp
  obtain ⟨p, q, hA0, hV, hpq, hfz, hnd⟩ := hW
  have hA : DataW.TrodAll enc Tryd.prog W 0 (fun _ => true) true f.params.toList args.toList ds p := hA0
  rw [hs] at hV
  obtain ⟨hgs, hq⟩ := trodVars_none hV
  subst hgs hq
  have hlen := trodAll_length hA
  have hf := hfn ds hlen
  simp only [List.append_nil] at hpq
  subst hpq
  refine post_of_below (pa := before) (pv := []) hW' ?_ ?_ ?_ (by simp) hb ?_
  · intro b sp hd
    rw [hf, hres]
    exact trodAll_cons_mk (shut_bool Tryd.underlying4 _) trodAll_mk0
  · intro sp hsp
    rw [hf]
    exact trodAll_stays hA hr (fun x hx => hb.same (hlt x hx)) (fun x hx => hsp x hx)
  · intro sp _
    rw [hf, hs]
    rfl
  · exact ok_one hres rfl (okWide_bool_mk Tryd.underlying4 _)
end

theorem fits_of_wf {n : Int} (h : (Lit.int .i64 n).wf = true) : Fits n := by
  have : -9223372036854775808 ≤ n ∧ n ≤ 9223372036854775807 := by simpa [Lit.wf, IntKind.min, IntKind.max, IntKind.signed, IntKind.bits] using h
  exact this

section
variable {H : Type} {enc : TypeId × Value → H} {W : World} {v : Value}
/-- an argument that is a value -/
theorem open_val {base : Nat} {d : DataW H} {p : List MemPlace} (hv : Value.okWide Tryd.prog W .any base 24 v) (h : DataW.Trod enc Tryd.prog W 0 (fun _ => true) true 24 v d p) :
    ∃ k n b : Int, v = .agg #[.int .i64 k, .int .i64 n, .int .i64 b] ∧ Fits k ∧ Fits n ∧ Fits b := by
  obtain ⟨cs, rfl, hsz⟩ := okWide_struct Tryd.underlying24 hv
  obtain ⟨l⟩ := cs
  have h3 : l.length = 3 := hsz.trans (show Tryd.prog.cellsOf 24 = 3 by kernel_rfl)
  match l, h3 with
  | [c0, c1, c2], _ =>
    obtain ⟨fuel, hf⟩ := h
    obtain ⟨xs, n, _, hx, _, hlen, hg⟩ := DataW.trod_struct Tryd.underlying24 hf
    have q3 : Tryd.prog.cellsOf 3 = 1 := by kernel_rfl
    have q2 : Tryd.prog.cellsOf 2 = 1 := by kernel_rfl
    match xs, hlen with
    | [y0, y1, y2], _ =>
      have t0 : DataW.trod enc Tryd.prog W 0 (fun _ => true) true n 3 [c0] = some y0 := by simpa [Value.cells, q3] using hg 0 _ rfl
      have t1 : DataW.trod enc Tryd.prog W 0 (fun _ => true) true n 2 [c1] = some y1 := by simpa [Value.cells, q2] using hg 1 _ rfl
      have t2 : DataW.trod enc Tryd.prog W 0 (fun _ => true) true n 3 [c2] = some y2 := by simpa [Value.cells, q3] using hg 2 _ rfl
      obtain ⟨z0, e0, -, w0⟩ := DataW.trod_int Tryd.underlying3 t0
      obtain ⟨z1, e1, -, w1⟩ := DataW.trod_int Tryd.underlying2 t1
      obtain ⟨z2, e2, -, w2⟩ := DataW.trod_int Tryd.underlying3 t2
      simp at e0 e1 e2
      subst e0 e1 e2
      exact ⟨z0, z1, z2, rfl, fits_of_wf w0, fits_of_wf w1, fits_of_wf w2⟩
end
end Go.Proofs.YtipeehmbloneoaaDoor
