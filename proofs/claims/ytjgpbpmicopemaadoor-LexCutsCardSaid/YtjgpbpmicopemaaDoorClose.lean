/-
  What every law of this seat needs at its end: the environment out of the listed variables and the world's shape, a world for the witness, the frame of 'post'.
-/
import Derived.Test.YtjgpbpmicopemaaDoorCards
import Derived.Test.YtjgpbpmicopemaaDoorTie
import Derived.Test.YtjgpbpmicopemaaDoorBlank
import Derived.ProofKit
import Derived.OpenShut
import Derived.Deep.DeepHandedRow
import Derived.Lib.LaidTab
import Derived.Shelf.Vars
namespace Go.Proofs.YtjgpbpmicopemaaDoor
open Go.ChangeShapes Go.WideShapes Go.ChangeAt Go.RowKit

theorem own : ownKnob Tryd.prog.godebug = none := by kernel_rfl
theorem laid_tail {P : Program} {x : String × DataW Unit} {rest : List (String × DataW Unit)} {W : World} (h : laidMet P (x :: rest) W) : laidMet P rest W := by
  obtain ⟨ps, ⟨g', t', cs, fuel, p, q, hg', ht', hvar, hd, tail, hps⟩, h2, h3⟩ := h
  subst hps
  exact ⟨q, tail, (List.nodup_append.1 h2).2.1, fun b off hb => h3 b off (by simp [hb])⟩
/-- a variable that is listed as an error holds one -/
theorem iface_of_head {P : Program} {W : World} {name s : String} {d : DataW Unit} {rest : List (String × DataW Unit)} {g : Nat} {t : TypeId} {m : _}
    (hg : P.globalNamed name = some g) (hty : (P.globals[g]?).map (·.type) = some t) (hu : P.underlying t = some (.interface m))
    (h : laidMet P ((name, .iface s d) :: rest) W) : ∃ te pe, W.cell? ⟨g, 0, none⟩ = some (.iface te pe) := by
  obtain ⟨ps, ⟨g', t', cs, fuel, p, q, hg', ht', hvar, hd, _, _⟩, _, _⟩ := h
  obtain rfl : g' = g := Option.some.inj (hg'.symm.trans hg)
  obtain rfl : t' = t := Option.some.inj (ht'.symm.trans hty)
  have hc := World.var?_cell hg hvar 0
  cases fuel with
  | zero => cases hd
  | succ fuel =>
    unfold DataW.trod at hd
    rw [hu] at hd
    rcases cs with ⟨l⟩
    rcases l with _ | ⟨v, _ | ⟨v2, l⟩⟩
    · simp at hd
    · cases v <;> simp at hd
      exact ⟨_, _, by simpa using hc⟩
    · simp at hd

abbrev LL : List (String × DataW Unit) := [("math/bits.deBruijn32tab", Rows.laid_math_bits_deBruijn32tab), ("math/bits.deBruijn64tab", Rows.laid_math_bits_deBruijn64tab), ("internal/strconv.uint64pow10", Rows.laid_internal_strconv_uint64pow10), ("unicode/utf8.acceptRanges", Rows.laid_unicode_utf8_acceptRanges), ("strconv.ErrRange", Rows.laid_strconv_ErrRange), ("strconv.ErrSyntax", Rows.laid_strconv_ErrSyntax), ("unicode/utf8.first", Rows.laid_unicode_utf8_first)]
theorem gLen : Tryd.prog.globalNamed "internal/bytealg.MaxLen" = some 0 := by kernel_rfl
theorem gSyn : Tryd.prog.globalNamed "strconv.ErrSyntax" = some 1 := by kernel_rfl
theorem gRng : Tryd.prog.globalNamed "strconv.ErrRange" = some 2 := by kernel_rfl
theorem gSynType : (Tryd.prog.globals[1]?).map (·.type) = some 69 := by kernel_rfl
theorem gRngType : (Tryd.prog.globals[2]?).map (·.type) = some 69 := by kernel_rfl
theorem len_of {W : World} (hS : W.ShapedOpen Tryd.prog) : ∃ m : Int, W.cell? ⟨0, 0, none⟩ = some (.int .i64 m) :=
  cell_of_shapedOpen_int (t := 3) (zero := #[.int .i64 0]) hS (of_decide_eq_true (by kernel_rfl)) (by kernel_rfl) rfl (by kernel_rfl) (by kernel_rfl) Tryd.underlying3
theorem env_of {W : World} (h : laidMetH Tryd.prog LL W) (hS : W.ShapedOpen Tryd.prog) : Env W := by
  have h1 : laidMet Tryd.prog LL W := h
  have h2 := laid_tail (laid_tail (laid_tail (laid_tail h1)))
  obtain ⟨tr, pr, hr⟩ := iface_of_head gRng gRngType Tryd.underlying69 h2
  obtain ⟨ts, p2, hs⟩ := iface_of_head gSyn gSynType Tryd.underlying69 (laid_tail h2)
  exact ⟨len_of hS, ⟨_, hs, .inr ⟨ts, p2, rfl⟩⟩, ⟨_, hr, .inr ⟨tr, pr, rfl⟩⟩⟩

/-- a row of numbers as cells -/
def laidInts (d : DataW Unit) : List Value :=
  match d with
  | .agg l => l.map fun x => match x with | .lit (.int k n) => Value.int k n | _ => undef
  | _ => []
def laidRows (d : DataW Unit) : List Value :=
  match d with
  | .agg l => l.flatMap laidInts
  | _ => []
def relaid (cs : List Value) : Obj → Obj
  | .cells _ t frozen => .cells cs.toArray t frozen
  | o => o
/-- the bytes of an error's text -/
def errText (d : DataW Unit) : Value :=
  match d with
  | .iface _ (.ptr (.agg [.lit (.string s)])) => .string ⟨s.toArray⟩
  | _ => undef
/-- A WORLD FOR THE WITNESS: the settled one, its seven listed variables holding what their initialisers lay, two blocks more for the errors. -/
noncomputable def laidWorld (os : Os) (i : Input) : World :=
  let w := World.holding Tryd.prog os i
  let n := w.heap.size
  { w with heap := ((((((((w.heap.modify 1 (relaid [.iface 101 (.pointer (some ⟨n, 0, none⟩))])).modify 2 (relaid [.iface 101 (.pointer (some ⟨n + 1, 0, none⟩))])).modify 3 (relaid (laidInts Rows.laid_unicode_utf8_first))).modify 4
    (relaid (laidRows Rows.laid_unicode_utf8_acceptRanges))).modify 5 (relaid (laidInts Rows.laid_internal_strconv_uint64pow10))).modify 6 (relaid (laidInts Rows.laid_math_bits_deBruijn32tab))).modify 7
    (relaid (laidInts Rows.laid_math_bits_deBruijn64tab))).push (.cells #[errText Rows.laid_strconv_ErrSyntax] 103 (0, 0))).push (.cells #[errText Rows.laid_strconv_ErrRange] 103 (0, 0)) }

section
variable {H : Type} {enc : TypeId × Value → H} {P : Program}
/-- 'post' where new memory alone has been made: what was there is as it was. -/
theorem post_of_below {f : Func} {s : ChangeSpec} {apart fresh handsOn again : Bool} {W W' : World} {args : Array Value} {v : Value} {ds gs : List (DataW H)} {before pa pv : List MemPlace}
    (hW : DataW.Whole enc P f.params.toList s.vars apart W args.toList ds gs before)
    (hres : ∀ (b : Nat) (sp : Nat → Bool) (hd : Bool), DataW.TrodAll enc P W' b sp hd f.resultTypes.toList (v.resultList f.resultTypes.size) (s.fn H (ds ++ gs)).results [])
    (hargs : ∀ sp : Nat → Bool, (∀ p ∈ before, sp p.block = true) → DataW.TrodAll enc P W' 0 sp true f.params.toList args.toList (s.fn H (ds ++ gs)).args pa)
    (hvars : ∀ sp : Nat → Bool, (∀ p ∈ before, sp p.block = true) → DataW.TrodVars enc P W' sp s.vars (s.fn H (ds ++ gs)).vars pv)
    (hps : before = pa ++ pv) (hb : Below W.heap.size W W')
    (hok : ∀ (j : Nat) (t : TypeId) (r : Value), f.resultTypes[j]? = some t → (v.resultList f.resultTypes.size)[j]? = some r → Value.okWide P W' .any 0 t r) :
    s.post enc P f apart fresh handsOn again W args v W' := by
  have hlt : ∀ p ∈ before, p.block < W.heap.size := fun p hp => hW.lt p hp
  have hold : ∀ p ∈ before, (fun b => decide (b < W.heap.size)) p.block = true := fun p hp => by simpa using hlt p hp
  refine ⟨ds, gs, before, [], pa, pv, hW, hres _ _ _, hargs _ hold, hvars _ hold, World.keptBut_mono (fun p hp => ⟨hp, ?_⟩) (hb.frame (· ∈ before)), fun _ => ?_⟩
  · rw [hps, List.mem_append] at hp
    exact Or.inr hp
  · obtain ⟨_, _, _, _, _, hz, hn⟩ := hW
    refine ⟨hok, _, _, ([] ++ pa) ++ pv, ⟨[] ++ pa, pv, trodAll_append (hargs _ (fun _ _ => rfl)) (hres _ _ _), hvars _ (fun _ _ => rfl), rfl, ?_, ?_⟩, ?_⟩
    · intro b off hp
      have hin : MemPlace.cell b off ∈ before := by rw [hps]; simpa using hp
      rw [hb.frozen (hlt _ hin)]
      exact hz b off hin
    · intro ha
      have := hn ha
      rw [hps] at this
      simpa using this
    · intro p hp _
      rw [hps]
      simpa using hp
end
end Go.Proofs.YtjgpbpmicopemaaDoor
