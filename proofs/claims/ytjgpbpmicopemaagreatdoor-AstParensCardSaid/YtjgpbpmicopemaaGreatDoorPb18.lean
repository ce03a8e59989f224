import Derived.Test.YtjgpbpmicopemaaGreatDoorCards
import Derived.Test.YtjgpbpmicopemaaGreatDoorTie
import Derived.Test.YtjgpbpmicopemaaGreatDoorPb17
import Derived.ProofKit
import Derived.OpenShut
import Derived.Deep.DeepHandedRow
import Derived.Lib.LaidTab
import Derived.Shelf.Vars
import Derived.Test.YtjgpbpmicopemaaGreatDoorPb06
import Derived.Lib.QuietBelow
import Derived.Lib.ItoaLen
import Derived.Test.YtjgpbpmicopemaaGreatDoorPb11

/-
  What every law of this seat needs at its end: the environment out of the listed variables and the world's shape, a world for the witness, the frame of 'post'.
-/
namespace Go.Proofs.YtjgpbpmicopemaaGreatDoor
open Go.ChangeShapes Go.WideShapes Go.ChangeAt Go.RowKit

theorem own : ownKnob Tryz.prog.godebug = none := by kernel_rfl
theorem laid_tail {P : Program} {x : String × DataW Unit} {rest : List (String × DataW Unit)} {W : World} (h : laidMet P (x :: rest) W) : laidMet P rest W := by
  obtain ⟨ps, ⟨g', t', cs, fuel, p, q, hg', ht', hvar, hd, tail, hps⟩, h2, h3⟩ := h
  subst hps
  exact ⟨q, tail, (List.nodup_append.1 h2).2.1, fun b off hb => h3 b off (by simp [hb])⟩
/-- a variable that is listed as an error holds one -/
theorem iface_of_head {P : Program} {W : World} {name s : String} {d : DataW Unit} {rest : List (String × DataW Unit)} {g : Nat} {t : TypeId} {m : _}
    (hg : P.globalNamed name = some g) (hty : (P.globals[g]?).map (·.type) = some t) (hu : P.underlying t = some (.interface m))
    (h : laidMet P ((name, .iface s d) :: rest) W) : ∃ te pe, W.cell? ⟨g, 0, none⟩ = some (.iface te pe) := by
  obtain ⟨ps, ⟨g', t', cs, fuel, p, q, hg', ht', hvar, hd, _, _⟩, _, _⟩ := h
  obtain rfl : g' = g := Option.some.inj (hg'.symm.trans hg)
  obtain rfl : t' = t := Option.some.inj (ht'.symm.trans hty)
  have hc := World.var?_cell hg hvar 0
  cases fuel with
  | zero => cases hd
  | succ fuel =>
    unfold DataW.trod at hd
    rw [hu] at hd
    rcases cs with ⟨l⟩
    rcases l with _ | ⟨v, _ | ⟨v2, l⟩⟩
    · simp at hd
    · cases v <;> simp at hd
      exact ⟨_, _, by simpa using hc⟩
    · simp at hd

abbrev LL : List (String × DataW Unit) := [("math/bits.deBruijn32tab", Rows.laid_math_bits_deBruijn32tab), ("math/bits.deBruijn64tab", Rows.laid_math_bits_deBruijn64tab), ("internal/strconv.uint64pow10", Rows.laid_internal_strconv_uint64pow10), ("unicode/utf8.acceptRanges", Rows.laid_unicode_utf8_acceptRanges), ("strconv.ErrRange", Rows.laid_strconv_ErrRange), ("strconv.ErrSyntax", Rows.laid_strconv_ErrSyntax), ("unicode/utf8.first", Rows.laid_unicode_utf8_first)]
theorem gLen : Tryz.prog.globalNamed "internal/bytealg.MaxLen" = some 0 := by kernel_rfl
theorem gSyn : Tryz.prog.globalNamed "strconv.ErrSyntax" = some 2 := by kernel_rfl
theorem gRng : Tryz.prog.globalNamed "strconv.ErrRange" = some 3 := by kernel_rfl
theorem gSynType : (Tryz.prog.globals[2]?).map (·.type) = some 97 := by kernel_rfl
theorem gRngType : (Tryz.prog.globals[3]?).map (·.type) = some 97 := by kernel_rfl
theorem gPow : Tryz.prog.globalNamed "internal/strconv.uint64pow10" = some 1 := by kernel_rfl
theorem gPowType : (Tryz.prog.globals[1]?).map (·.type) = some 202 := by kernel_rfl
theorem cells202 : Tryz.prog.cellsOf 202 = 20 := by kernel_rfl
theorem cells82 : Tryz.prog.cellsOf 82 = 1 := by kernel_rfl
theorem powTab : (Lib.tabData .u64 Lib.pow10Tab : DataW Unit) = Rows.laid_internal_strconv_uint64pow10 := by kernel_rfl
theorem len_of {W : World} (hS : W.ShapedOpen Tryz.prog) : ∃ m : Int, W.cell? ⟨0, 0, none⟩ = some (.int .i64 m) :=
  cell_of_shapedOpen_int (t := 3) (zero := #[.int .i64 0]) hS (of_decide_eq_true (by kernel_rfl)) (by kernel_rfl) rfl (by kernel_rfl) (by kernel_rfl) Tryz.underlying3
theorem seven : ((((begin Tryz.prog (fun _ _ => 0) default).world).heap[7]?).bind Obj.row?).isSome = true := by kernel_rfl
theorem eight_of {W : World} (hS : W.ShapedOpen Tryz.prog) : 8 ≤ W.heap.size := by
  obtain ⟨⟨zero, t⟩, h⟩ := Option.isSome_iff_exists.1 seven
  obtain ⟨cs, hc, -⟩ := hS.1 7 zero t (of_decide_eq_true (by kernel_rfl)) h
  have := heap_lt hc
  omega
theorem env_of {W : World} (h : laidMetH Tryz.prog LL W) (hS : W.ShapedOpen Tryz.prog) : EnvB W := by
  have h1 : laidMet Tryz.prog LL W := h
  have h0 := laid_tail (laid_tail h1)
  have h2 := laid_tail (laid_tail h0)
  obtain ⟨tr, pr, hr⟩ := iface_of_head gRng gRngType Tryz.underlying97 h2
  obtain ⟨ts, p2, hs⟩ := iface_of_head gSyn gSynType Tryz.underlying97 (laid_tail h2)
  rw [← powTab] at h0
  exact ⟨⟨⟨len_of hS, ⟨_, hs, .inr ⟨ts, p2, rfl⟩⟩, ⟨_, hr, .inr ⟨tr, pr, rfl⟩⟩⟩, Lib.tabIs_of_head gPow gPowType Tryz.underlying202 Tryz.underlying82 cells82 cells202 h0⟩, eight_of hS⟩

/-- a row of numbers as cells -/
def laidInts (d : DataW Unit) : List Value :=
  match d with
  | .agg l => l.map fun x => match x with | .lit (.int k n) => Value.int k n | _ => undef
  | _ => []
def laidRows (d : DataW Unit) : List Value :=
  match d with
  | .agg l => l.flatMap laidInts
  | _ => []
def relaid (cs : List Value) : Obj → Obj
  | .cells _ t frozen => .cells cs.toArray t frozen
  | o => o
/-- the bytes of an error's text -/
def errText (d : DataW Unit) : Value :=
  match d with
  | .iface _ (.ptr (.agg [.lit (.string s)])) => .string ⟨s.toArray⟩
  | _ => undef
/-- A WORLD FOR THE WITNESS: the settled one, its seven listed variables holding what their initialisers lay, two blocks more for the errors. -/
noncomputable def laidWorld (os : Os) (i : Input) : World :=
  let w := World.holding Tryz.prog os i
  let n := w.heap.size
  { w with heap := ((((((((w.heap.modify 2 (relaid [.iface 210 (.pointer (some ⟨n, 0, none⟩))])).modify 3 (relaid [.iface 210 (.pointer (some ⟨n + 1, 0, none⟩))])).modify 4 (relaid (laidInts Rows.laid_unicode_utf8_first))).modify 5
    (relaid (laidRows Rows.laid_unicode_utf8_acceptRanges))).modify 1 (relaid (laidInts Rows.laid_internal_strconv_uint64pow10))).modify 6 (relaid (laidInts Rows.laid_math_bits_deBruijn32tab))).modify 7
    (relaid (laidInts Rows.laid_math_bits_deBruijn64tab))).push (.cells #[errText Rows.laid_strconv_ErrSyntax] 212 (0, 0))).push (.cells #[errText Rows.laid_strconv_ErrRange] 212 (0, 0)) }

/-- nothing but new memory -/
theorem Mv.toBelow {w w' : World} (m : Mv (fun _ => False) w w') : Below w.heap.size w w' := ⟨m.os, m.tape, m.output, m.size, fun k hk => m.same k hk (fun h => h)⟩
section
variable {H : Type} {enc : TypeId × Value → H} {P : Program}
/-- 'post' where new memory alone has been made: what was there is as it was. -/
theorem post_of_below {f : Func} {s : ChangeSpec} {apart fresh handsOn again : Bool} {W W' : World} {args : Array Value} {v : Value} {ds gs : List (DataW H)} {before pa pv : List MemPlace}
    (hW : DataW.Whole enc P f.params.toList s.vars apart W args.toList ds gs before)
    (hres : ∀ (b : Nat) (sp : Nat → Bool) (hd : Bool), DataW.TrodAll enc P W' b sp hd f.resultTypes.toList (v.resultList f.resultTypes.size) (s.fn H (ds ++ gs)).results [])
    (hargs : ∀ sp : Nat → Bool, (∀ p ∈ before, sp p.block = true) → DataW.TrodAll enc P W' 0 sp true f.params.toList args.toList (s.fn H (ds ++ gs)).args pa)
    (hvars : ∀ sp : Nat → Bool, (∀ p ∈ before, sp p.block = true) → DataW.TrodVars enc P W' sp s.vars (s.fn H (ds ++ gs)).vars pv)
    (hps : before = pa ++ pv) (hb : Below W.heap.size W W')
    (hok : ∀ (j : Nat) (t : TypeId) (r : Value), f.resultTypes[j]? = some t → (v.resultList f.resultTypes.size)[j]? = some r → Value.okWide P W' .any 0 t r) :
    s.post enc P f apart fresh handsOn again W args v W' := by
  have hlt : ∀ p ∈ before, p.block < W.heap.size := fun p hp => hW.lt p hp
  have hold : ∀ p ∈ before, (fun b => decide (b < W.heap.size)) p.block = true := fun p hp => by simpa using hlt p hp
  refine ⟨ds, gs, before, [], pa, pv, hW, hres _ _ _, hargs _ hold, hvars _ hold, World.keptBut_mono (fun p hp => ⟨hp, ?_⟩) (hb.frame (· ∈ before)), fun _ => ?_⟩
  · rw [hps, List.mem_append] at hp
    exact Or.inr hp
  · obtain ⟨_, _, _, _, _, hz, hn⟩ := hW
    refine ⟨hok, _, _, ([] ++ pa) ++ pv, ⟨[] ++ pa, pv, trodAll_append (hargs _ (fun _ _ => rfl)) (hres _ _ _), hvars _ (fun _ _ => rfl), rfl, ?_, ?_⟩, ?_⟩
    · intro b off hp
      have hin : MemPlace.cell b off ∈ before := by rw [hps]; simpa using hp
      rw [hb.frozen (hlt _ hin)]
      exact hz b off hin
    · intro ha
      have := hn ha
      rw [hps] at this
      simpa using this
    · intro p hp _
      rw [hps]
      simpa using hp
end
end Go.Proofs.YtjgpbpmicopemaaGreatDoor

/-
  plumbobref1.Num: a number's text, digit by digit, is strconv's.
-/
namespace Go.Proofs.YtjgpbpmicopemaaGreatDoor
open Go.RowKit Go.Sort

def Fits (n : Int) : Prop := -9223372036854775808 ≤ n ∧ n ≤ 9223372036854775807
theorem wrap_fits {n : Int} (h : Fits n) : wrap64 n = n := by unfold Fits at h; unfold wrap64; omega
def RS (l : List UInt8) (w : World) (e : Ending) (w' : World) : Prop := e = .returned (.string ⟨l.toArray⟩) ∧ Below w.heap.size w w'
theorem num_digit (n : Int) (h0 : 0 ≤ n) (h1 : n ≤ 9) (w : World) : Calls Tryz.prog 68 #[.int .i64 n] w (fun e w' => e = .returned (.string ⟨(Lib.itoa n).toArray⟩) ∧ w = w') := by
  have h : n = 0 ∨ n = 1 ∨ n = 2 ∨ n = 3 ∨ n = 4 ∨ n = 5 ∨ n = 6 ∨ n = 7 ∨ n = 8 ∨ n = 9 := by omega
  clear h0 h1
  rcases h with rfl | rfl | rfl | rfl | rfl | rfl | rfl | rfl | rfl | rfl
  all_goals
    go_enter Tryz.func68, Tryz.ntmps68
    go_wp2
    go_ret
    exact ⟨by rw [Lib.itoa, if_neg (by decide), Lib.decDigits_one (by decide)]; kernel_rfl, rfl⟩
theorem itoa_big (n : Int) (h0 : 9 < n) : Lib.itoa n = Lib.itoa (n / 10) ++ [UInt8.ofNat (48 + (n % 10).toNat)] := by
  obtain ⟨u, rfl⟩ := Int.eq_ofNat_of_zero_le (show 0 ≤ n by omega)
  have e : ((u : Int) / 10) = ((u / 10 : Nat) : Int) := by omega
  have e2 : ((u : Int) % 10).toNat = u % 10 := by omega
  rw [e, e2, Lib.itoa_nonneg, Lib.itoa_nonneg, Lib.decDigits, dif_neg (by omega)]
theorem itoa_low (n : Int) (h0 : n < -9) : Lib.itoa n = Lib.itoa (n.tdiv 10) ++ Lib.itoa (-(n.tmod 10)) := by
  obtain ⟨u, hu⟩ := Int.eq_ofNat_of_zero_le (show 0 ≤ -n by omega)
  have hn : n = -(u : Int) := by omega
  subst hn
  have e1 : (-(u : Int)).tdiv 10 = -((u / 10 : Nat) : Int) := by
    rw [Int.neg_tdiv, Int.tdiv_eq_ediv_of_nonneg (by omega)]
    omega
  have e2 : -((-(u : Int)).tmod 10) = ((u % 10 : Nat) : Int) := by
    rw [Int.neg_tmod, Int.tmod_eq_emod_of_nonneg (by omega)]
    omega
  rw [e1, e2, Lib.itoa_neg _ (by omega), Lib.itoa_neg _ (by omega), Lib.itoa_nonneg, Lib.decDigits, dif_neg (by omega), Lib.decDigits_one (i := u % 10) (by omega)]
  rfl
theorem itoa_minus (n : Int) (h0 : n < 0) : Lib.itoa n = [45] ++ Lib.itoa (-n) := by
  obtain ⟨u, hu⟩ := Int.eq_ofNat_of_zero_le (show 0 ≤ -n by omega)
  have hn : n = -(u : Int) := by omega
  subst hn
  rw [Lib.itoa_neg _ (by omega), Int.neg_neg, Lib.itoa_nonneg]
  rfl
theorem cat2 (a b : List UInt8) : (({ data := a.toArray } ++ { data := b.toArray } : ByteArray)) = { data := (a ++ b).toArray } := by
  apply ByteArray.ext
  simp

theorem num_big (n d : Int) (hd : n % 10 = d) (h0 : 9 < n) (h1 : n ≤ 9223372036854775807) (w : World)
    (ih : ∀ W, Calls Tryz.prog 68 #[.int .i64 (n / 10)] W (RS (Lib.itoa (n / 10)) W)) : Calls Tryz.prog 68 #[.int .i64 n] w (RS (Lib.itoa n) w) := by
  have hi := itoa_big n h0
  rw [hd] at hi
  have HI := Lib.hid hi
  clear hi
  have ht : n.tdiv 10 = n / 10 := by rw [Int.tdiv_eq_ediv_of_nonneg (by omega)]
  have hm : n.tmod 10 = d := by rw [Int.tmod_eq_emod_of_nonneg (by omega), hd]
  have hw : wrap64 (n / 10) = n / 10 := wrap_fits ⟨by omega, by omega⟩
  have ln := Lib.itoa_length_le (n / 10) (by omega) (by omega)
  have hc : d = 0 ∨ d = 1 ∨ d = 2 ∨ d = 3 ∨ d = 4 ∨ d = 5 ∨ d = 6 ∨ d = 7 ∨ d = 8 ∨ d = 9 := by omega
  generalize n / 10 = q at *
  have D0 := Lib.hid (fun d os => (Calls.regrown_of (ih (grow (redrawn w d) os)) : Calls Tryz.prog 68 #[.int .i64 q] (grow (redrawn w d) os) fun e w'' => e = .returned (.string ⟨(Lib.itoa q).toArray⟩) ∧ ∃ p : Regrown, w'' = grow (redrawn w p.d) p.os))
  clear ih hd
  rcases hc with rfl | rfl | rfl | rfl | rfl | rfl | rfl | rfl | rfl | rfl
  all_goals
    go_enter Tryz.func68, Tryz.ntmps68
    go_wp2_with fail
    refine wp_region_quiet_below (by kernel_rfl) (by kernel_rfl) ?_
    repeat (any_goals (first | go_big_quiet_step (with_reducible exact D0.out _ _) | quiet_step (with_reducible exact D0.out _ _)))
    refine wpQuiet_nil ?_
    intro _ hw'
    obtain ⟨⟨dq, osq⟩, hw''⟩ := hw'
    subst hw''
    go_wp2_with fail
    go_ret
    exact ⟨by rw [HI.out, ← cat2]; rfl, below_regrown w dq osq⟩
set_option maxHeartbeats 1000000 in
theorem num_low (n : Int) (h0 : n < -9) (h1 : -9223372036854775808 ≤ n) (w : World)
    (ih : ∀ W, Calls Tryz.prog 68 #[.int .i64 (n.tdiv 10)] W (RS (Lib.itoa (n.tdiv 10)) W)) (ih2 : ∀ W, Calls Tryz.prog 68 #[.int .i64 (-(n.tmod 10))] W (RS (Lib.itoa (-(n.tmod 10))) W)) :
    Calls Tryz.prog 68 #[.int .i64 n] w (RS (Lib.itoa n) w) := by
  have HI := Lib.hid (itoa_low n h0)
  have ht0 : n.tdiv 10 = -((-n) / 10) := by
    rw [← Int.neg_neg n, Int.neg_tdiv, Int.tdiv_eq_ediv_of_nonneg (by omega)]
    simp
  have hm0 : n.tmod 10 = -((-n) % 10) := by
    rw [← Int.neg_neg n, Int.neg_tmod, Int.tmod_eq_emod_of_nonneg (by omega)]
    simp
  have l1 := Lib.itoa_length_le (n.tdiv 10) (by omega) (by omega)
  have l2 := Lib.itoa_length_le (-(n.tmod 10)) (by omega) (by omega)
  have hw : wrap64 (-(n.tmod 10)) = -(n.tmod 10) := wrap_fits ⟨by omega, by omega⟩
  clear ht0 hm0
  go_enter Tryz.func68, Tryz.ntmps68
  go_wp2_with fail
  refine (ih _).mono ?_
  rintro e w1 ⟨rfl, hb1⟩
  go_wp2_with fail
  refine (ih2 _).mono ?_
  rintro e w2 ⟨rfl, hb2⟩
  have hb := hb1.trans (hb2.mono hb1.size)
  go_wp2_with fail
  go_ret
  exact ⟨by rw [HI.out, ← cat2]; rfl, hb⟩
theorem num_neg (n : Int) (h0 : n < 0) (h1 : -9 ≤ n) (w : World) (ih : ∀ W, Calls Tryz.prog 68 #[.int .i64 (-n)] W (RS (Lib.itoa (-n)) W)) : Calls Tryz.prog 68 #[.int .i64 n] w (RS (Lib.itoa n) w) := by
  have HI := Lib.hid (itoa_minus n h0)
  have l1 := Lib.itoa_length_le (-n) (by omega) (by omega)
  have hl : (decide (n < -9)) = false := decide_eq_false (by omega)
  go_enter Tryz.func68, Tryz.ntmps68
  go_wp2_with fail
  refine (ih _).mono ?_
  rintro e w1 ⟨rfl, hb1⟩
  go_wp2_with fail
  go_ret
  exact ⟨by rw [HI.out, ← cat2]; rfl, hb1⟩
theorem num_any : ∀ (m : Nat) (n : Int), n.natAbs < m → Fits n → ∀ w, Calls Tryz.prog 68 #[.int .i64 n] w (RS (Lib.itoa n) w) := by
  intro m
  induction m with
  | zero => intro n h; omega
  | succ m ih =>
    intro n hn hf w
    have hf' : -9223372036854775808 ≤ n ∧ n ≤ 9223372036854775807 := hf
    by_cases h1 : n < -9
    · have e1 : (n.tdiv 10) = -((-n) / 10) := by
        rw [← Int.neg_neg n, Int.neg_tdiv, Int.tdiv_eq_ediv_of_nonneg (by omega)]
        simp
      have e2 : (n.tmod 10) = -((-n) % 10) := by
        rw [← Int.neg_neg n, Int.neg_tmod, Int.tmod_eq_emod_of_nonneg (by omega)]
        simp
      exact num_low n h1 hf'.1 w (ih _ (by omega) ⟨by omega, by omega⟩) (ih _ (by omega) ⟨by omega, by omega⟩)
    · by_cases h2 : n < 0
      · have hd : ∀ W, Calls Tryz.prog 68 #[.int .i64 (-n)] W (RS (Lib.itoa (-n)) W) := fun W => (num_digit (-n) (by omega) (by omega) W).mono fun _ _ ⟨h, h'⟩ => ⟨h, by subst h'; exact Below.refl _ _⟩
        exact num_neg n h2 (by omega) w hd
      · by_cases h3 : 9 < n
        · exact num_big n _ rfl h3 hf'.2 w (ih _ (by omega) ⟨by omega, by omega⟩)
        · exact (num_digit n (by omega) (by omega) w).mono fun _ _ ⟨h, h'⟩ => ⟨h, by subst h'; exact Below.refl _ _⟩
end Go.Proofs.YtjgpbpmicopemaaGreatDoor

/-
  plumbobref5's parser: where it stands, its small functions. It has only to return.
-/
namespace Go.Proofs.YtjgpbpmicopemaaGreatDoor
open Go.RowKit Go.Shelf
set_option maxRecDepth 20000

/-- what stays: the words' row, the program's lists -/
structure K5 where
  ws : List It
  a : Option Addr
  c : Nat
  P : Nat
  Q : Nat
  v1 : Value
  v2 : Value
  v3 : Value
  v4 : Value
/-- a word in the row -/
def W5 (W : World) (g j : Nat) (x : It) : Prop := W.cell? ⟨g, j * 5, none⟩ = some (.int .i64 x.d.k) ∧ W.cell? ⟨g, j * 5 + 1, none⟩ = some (str x.d.t) ∧ W.cell? ⟨g, j * 5 + 2, none⟩ = some (.int .i64 x.d.n) ∧ W.cell? ⟨g, j * 5 + 3, none⟩ = some (.int .i64 x.p.1) ∧ W.cell? ⟨g, j * 5 + 4, none⟩ = some (.int .i64 x.p.2)
theorem W5.mv {X : Nat → Prop} {W W' : World} {g j : Nat} {x : It} (h : W5 W g j x) (m : Mv X W W') (hx : ¬ X g) : W5 W' g j x := ⟨m.cell h.1 hx, m.cell h.2.1 hx, m.cell h.2.2.1 hx, m.cell h.2.2.2.1 hx, m.cell h.2.2.2.2 hx⟩
/-- the reference's parser in memory: at a word, gone wrong or not -/
structure P5 (k : K5) (W : World) (i : Nat) (bad : Bool) : Prop where
  par : ∃ dp : Int, W.heap[k.P]? = some (.cells #[.slice k.a k.ws.length k.c, .int .i64 i, .bool bad, .pointer (some ⟨k.Q, 0, none⟩), .int .i64 dp] 77 (0, 0))
  prg : ∃ n d : Int, W.heap[k.Q]? = some (.cells #[k.v1, k.v2, k.v3, k.v4, .int .i64 n, .int .i64 d] 48 (0, 0))
  ne : k.P ≠ k.Q
  row : k.ws ≠ [] → ∃ g, k.a = some ⟨g, 0, none⟩ ∧ g ≠ k.P ∧ g ≠ k.Q ∧ g < W.heap.size ∧ ∀ (j : Nat) (x : It), k.ws[j]? = some x → W5 W g j x
  ok : OkWs k.ws
abbrev X5 (k : K5) : Nat → Prop := fun j => j = k.P ∨ j = k.Q
theorem P5.pcells {k : K5} {W : World} {i : Nat} {bad : Bool} (h : P5 k W i bad) : ∃ dp : Int, W.cell? ⟨k.P, 0, none⟩ = some (.slice k.a k.ws.length k.c) ∧ W.cell? ⟨k.P, 1, none⟩ = some (.int .i64 i) ∧ W.cell? ⟨k.P, 2, none⟩ = some (.bool bad) ∧ W.cell? ⟨k.P, 3, none⟩ = some (.pointer (some ⟨k.Q, 0, none⟩)) ∧ W.cell? ⟨k.P, 4, none⟩ = some (.int .i64 dp) ∧ ∀ i, W.frozen? ⟨k.P, i, none⟩ = false := by
  obtain ⟨dp, h⟩ := h.par
  refine ⟨dp, ?_, ?_, ?_, ?_, ?_, ?_⟩ <;> simp [World.cell?, World.frozen?, h]
theorem P5.qcells {k : K5} {W : World} {i : Nat} {bad : Bool} (h : P5 k W i bad) : ∃ n d : Int, W.cell? ⟨k.Q, 4, none⟩ = some (.int .i64 n) ∧ W.cell? ⟨k.Q, 5, none⟩ = some (.int .i64 d) ∧ ∀ i, W.frozen? ⟨k.Q, i, none⟩ = false := by
  obtain ⟨n, d, h⟩ := h.prg
  refine ⟨n, d, ?_, ?_, ?_⟩ <;> simp [World.cell?, World.frozen?, h]
theorem P5.mv {k : K5} {W W' : World} {i : Nat} {bad : Bool} (h : P5 k W i bad) (m : Mv (fun _ => False) W W') : P5 k W' i bad := by
  obtain ⟨⟨dp, h1⟩, ⟨n, d, h2⟩, h3, h4, h5⟩ := h
  refine ⟨⟨dp, (m.same _ (heap_lt h1) (fun h => h)).trans h1⟩, ⟨n, d, (m.same _ (heap_lt h2) (fun h => h)).trans h2⟩, h3, fun hn => ?_, h5⟩
  obtain ⟨g, e1, e2, e3, e4, e5⟩ := h4 hn
  exact ⟨g, e1, e2, e3, Nat.lt_of_lt_of_le e4 m.size, fun j x hx => (e5 j x hx).mv m (fun h => h)⟩
/-- the parser's block has been written -/
theorem P5.put {k : K5} {W W' : World} {i i' : Nat} {bad bad' : Bool} (h : P5 k W i bad) (m : Mv (fun j => j = k.P) W W') (hp : ∃ dp : Int, W'.heap[k.P]? = some (.cells #[.slice k.a k.ws.length k.c, .int .i64 i', .bool bad', .pointer (some ⟨k.Q, 0, none⟩), .int .i64 dp] 77 (0, 0))) : P5 k W' i' bad' := by
  obtain ⟨⟨dp, h1⟩, ⟨n, d, h2⟩, h3, h4, h5⟩ := h
  refine ⟨hp, ⟨n, d, (m.same _ (heap_lt h2) (fun h => h3 h.symm)).trans h2⟩, h3, fun hn => ?_, h5⟩
  obtain ⟨g, e1, e2, e3, e4, e5⟩ := h4 hn
  exact ⟨g, e1, e2, e3, Nat.lt_of_lt_of_le e4 m.size, fun j x hx => (e5 j x hx).mv m e2⟩
/-- the program's block has been written -/
theorem P5.putQ {k : K5} {W W' : World} {i : Nat} {bad : Bool} (h : P5 k W i bad) (m : Mv (fun j => j = k.Q) W W') (hp : ∃ n d : Int, W'.heap[k.Q]? = some (.cells #[k.v1, k.v2, k.v3, k.v4, .int .i64 n, .int .i64 d] 48 (0, 0))) : P5 k W' i bad := by
  obtain ⟨⟨dp, h1⟩, ⟨n, d, h2⟩, h3, h4, h5⟩ := h
  refine ⟨⟨dp, (m.same _ (heap_lt h1) h3).trans h1⟩, hp, h3, fun hn => ?_, h5⟩
  obtain ⟨g, e1, e2, e3, e4, e5⟩ := h4 hn
  exact ⟨g, e1, e2, e3, Nat.lt_of_lt_of_le e4 m.size, fun j x hx => (e5 j x hx).mv m e3⟩
theorem P5.set1 {k : K5} {W : World} {i : Nat} {bad : Bool} (h : P5 k W i bad) (i' : Nat) : P5 k (W.setCell ⟨k.P, 1, none⟩ (.int .i64 i')) i' bad := by
  obtain ⟨dp, h1⟩ := h.par
  exact h.put (Mv.setCell _ _ rfl) ⟨dp, set_same h1⟩
theorem P5.set2 {k : K5} {W : World} {i : Nat} {bad : Bool} (h : P5 k W i bad) (b : Bool) : P5 k (W.setCell ⟨k.P, 2, none⟩ (.bool b)) i b := by
  obtain ⟨dp, h1⟩ := h.par
  exact h.put (Mv.setCell _ _ rfl) ⟨dp, set_same h1⟩
theorem P5.set4 {k : K5} {W : World} {i : Nat} {bad : Bool} (h : P5 k W i bad) (d : Int) : P5 k (W.setCell ⟨k.P, 4, none⟩ (.int .i64 d)) i bad := by
  obtain ⟨dp, h1⟩ := h.par
  exact h.put (Mv.setCell _ _ rfl) ⟨d, set_same h1⟩
theorem P5.setN {k : K5} {W : World} {i : Nat} {bad : Bool} (h : P5 k W i bad) (n : Int) : P5 k (W.setCell ⟨k.Q, 4, none⟩ (.int .i64 n)) i bad := by
  obtain ⟨m, d, h1⟩ := h.prg
  exact h.putQ (Mv.setCell _ _ rfl) ⟨n, d, set_same h1⟩
theorem P5.setD {k : K5} {W : World} {i : Nat} {bad : Bool} (h : P5 k W i bad) (n : Int) : P5 k (W.setCell ⟨k.Q, 5, none⟩ (.int .i64 n)) i bad := by
  obtain ⟨m, d, h1⟩ := h.prg
  exact h.putQ (Mv.setCell _ _ rfl) ⟨m, n, set_same h1⟩
theorem P5.word {k : K5} {W : World} {i : Nat} {bad : Bool} (h : P5 k W i bad) (hi : i < k.ws.length) : ∃ g x, k.a = some ⟨g, 0, none⟩ ∧ g ≠ k.P ∧ g ≠ k.Q ∧ W.cell? ⟨g, i * 5, none⟩ = some (.int .i64 x.d.k) ∧ W.cell? ⟨g, i * 5 + 1, none⟩ = some (str x.d.t) ∧ W.cell? ⟨g, i * 5 + 2, none⟩ = some (.int .i64 x.d.n) ∧ OkW x := by
  obtain ⟨g, e1, e2, e3, e4, e5⟩ := h.row (by intro h0; rw [h0] at hi; simp at hi)
  have := e5 i _ (List.getElem?_eq_getElem hi)
  exact ⟨g, _, e1, e2, e3, this.1, this.2.1, this.2.2.1, h.ok.2 _ (List.getElem_mem hi)⟩
theorem P5.word2 {k : K5} {W : World} {i : Nat} {bad : Bool} (h : P5 k W i bad) (hi : i < k.ws.length) : ∃ g x, k.a = some ⟨g, 0, none⟩ ∧ W5 W g i x ∧ OkW x := by
  obtain ⟨g, e1, e2, e3, e4, e5⟩ := h.row (by intro h0; rw [h0] at hi; simp at hi)
  exact ⟨g, _, e1, e5 i _ (List.getElem?_eq_getElem hi), h.ok.2 _ (List.getElem_mem hi)⟩
theorem Mv.quiet {X : Nat → Prop} (w : World) (n : Nat) : Mv X w (w.drewN n) := Mv.below (below_drewN (Below.refl _ _) n)
set_option maxHeartbeats 8000000 in
/-- is this the next word? -/
theorem see5 (k : K5) (t : Bs) (i : Nat) (_hi : i ≤ 1000000) (bad : Bool) (w : World) (h : P5 k w i bad) : Calls Tryz.prog 45 #[.pointer (some ⟨k.P, 0, none⟩), .string ⟨t.toArray⟩] w fun e w' => ∃ b : Bool, e = .returned (.bool b) ∧ Mv (fun _ => False) w w' ∧ (b = true → bad = false ∧ i < k.ws.length) := by
  obtain ⟨dp, c0, c1, c2, c3, c4, cf⟩ := h.pcells
  have hl := h.ok.1
  have hml : k.ws.length ≤ 9223372036854775807 := by omega
  cases bad
  · by_cases hlt : i < k.ws.length
    · obtain ⟨g, x, e1, e2, e3, r0, r1, r2, -⟩ := h.word hlt
      unfold str at r1
      rw [e1] at c0
      have hlt' : (i : Int) < k.ws.length := by omega
      cases hq : (x.d.t == t)
      · skip
        go_enter Tryz.func45, Tryz.ntmps45
        go_wp2_with fail
        go_quiet (fail)
        go_wp2_with fail
        exact bodyPost_ret (v := .bool false) (by simp [results, Tryz.results45, go_sem]) rfl ⟨false, rfl, Mv.quiet _ _, by simp⟩
      · skip
        go_enter Tryz.func45, Tryz.ntmps45
        go_wp2_with fail
        go_quiet (fail)
        go_wp2_with fail
        exact bodyPost_ret (v := .bool (decide (3 ≤ x.d.k))) (by simp [results, Tryz.results45, go_sem]) rfl ⟨_, rfl, Mv.quiet _ _, fun _ => ⟨by simp, hlt⟩⟩
    · have hlt' : ¬ (i : Int) < k.ws.length := by omega
      go_enter Tryz.func45, Tryz.ntmps45
      go_wp2_with fail
      go_quiet (fail)
      go_wp2_with fail
      exact bodyPost_ret (v := .bool false) (by simp [results, Tryz.results45, go_sem]) rfl ⟨false, rfl, Mv.quiet _ _, by simp⟩
  · go_enter Tryz.func45, Tryz.ntmps45
    go_wp2_with fail
    go_quiet (fail)
    go_wp2_with fail
    exact bodyPost_ret (v := .bool false) (by simp [results, Tryz.results45, go_sem]) rfl ⟨false, rfl, Mv.quiet _ _, by simp⟩
/-- where the parser stands behind a call: at a word that is not before; strictly: further on, or gone wrong -/
def At5 (k : K5) (st : Bool) (W : World) (i : Nat) (bad : Bool) (W' : World) : Prop := ∃ (i' : Nat) (bad' : Bool), P5 k W' i' bad' ∧ Mv (X5 k) W W' ∧ i ≤ i' ∧ i' ≤ k.ws.length ∧ (bad = true → bad' = true) ∧ (st = true → bad' = true ∨ i < i')
theorem Mv.toX {k : K5} {W W' : World} (m : Mv (fun _ => False) W W') : Mv (X5 k) W W' := m.mono (fun _ _ h => h.elim)
theorem Mv.toP {k : K5} {W W' : World} (m : Mv (fun j => j = k.P) W W') : Mv (X5 k) W W' := m.mono (fun _ _ h => .inl h)
theorem Mv.toQ {k : K5} {W W' : World} (m : Mv (fun j => j = k.Q) W W') : Mv (X5 k) W W' := m.mono (fun _ _ h => .inr h)
/-- what take answers -/
def Tk5 (k : K5) (w : World) (i : Nat) (bad : Bool) (e : Ending) (w' : World) : Prop := (e = .returned (.bool true) ∧ (bad = false ∧ i < k.ws.length) ∧ P5 k w' (i + 1) false ∧ Mv (X5 k) w w') ∨ (e = .returned (.bool false) ∧ P5 k w' i bad ∧ Mv (X5 k) w w')
set_option maxHeartbeats 8000000 in
theorem take5 (k : K5) (t : Bs) (i : Nat) (hi : i ≤ k.ws.length) (bad : Bool) (w : World) (h : P5 k w i bad) : Calls Tryz.prog 41 #[.pointer (some ⟨k.P, 0, none⟩), .string ⟨t.toArray⟩] w (Tk5 k w i bad) := by
  have hl := h.ok.1
  go_enter Tryz.func41, Tryz.ntmps41
  go_wp2_with fail
  refine (see5 k t i (by omega) bad w h).mono ?_
  rintro e w1 ⟨b, rfl, hm1, hb⟩
  have h1 := h.mv hm1
  cases b
  · go_wp2_with fail
    exact bodyPost_ret (v := .bool false) (by simp [results, Tryz.results41, go_sem]) rfl (.inr ⟨rfl, h1, hm1.toX⟩)
  · obtain ⟨rfl, hlt⟩ := hb rfl
    obtain ⟨dp, c0, c1, c2, c3, c4, cf⟩ := h1.pcells
    have hc : ((i : Int) + 1) = ((i + 1 : Nat) : Int) := by omega
    have h2 := h1.set1 (i + 1)
    have hm2 : Mv (fun j => j = k.P) w1 (w1.setCell ⟨k.P, 1, none⟩ (.int .i64 ((i + 1 : Nat) : Int))) := Mv.setCell _ _ rfl
    rw [← hc] at h2 hm2
    clear hc
    go_wp2_with fail
    exact bodyPost_ret (v := .bool true) (by simp [results, Tryz.results41, go_sem]) rfl (.inl ⟨rfl, ⟨rfl, hlt⟩, h2, hm1.toX.trans hm2.toP⟩)
set_option maxHeartbeats 8000000 in
theorem want5 (k : K5) (t : Bs) (i : Nat) (hi : i ≤ k.ws.length) (bad : Bool) (w : World) (h : P5 k w i bad) : Calls Tryz.prog 44 #[.pointer (some ⟨k.P, 0, none⟩), .string ⟨t.toArray⟩] w fun e w' => e = .returned (.tuple #[]) ∧ At5 k true w i bad w' := by
  go_enter Tryz.func44, Tryz.ntmps44
  go_wp2_with fail
  refine (take5 k t i hi bad w h).mono ?_
  rintro e w1 (⟨rfl, ⟨rfl, hlt⟩, h1, hm1⟩ | ⟨rfl, h1, hm1⟩)
  · go_wp2_with fail
    exact bodyPost_end (v := .tuple #[]) (by simp [results, Tryz.results44, go_sem]) rfl ⟨rfl, i + 1, false, h1, hm1, by omega, by omega, fun h => h, fun _ => .inr (by omega)⟩
  · obtain ⟨dp, c0, c1, c2, c3, c4, cf⟩ := h1.pcells
    go_wp2_with fail
    exact bodyPost_end (v := .tuple #[]) (by simp [results, Tryz.results44, go_sem]) rfl ⟨rfl, i, true, h1.set2 true, hm1.trans (Mv.setCell _ _ (.inl rfl)), by omega, hi, fun _ => rfl, fun _ => .inl rfl⟩
set_option maxHeartbeats 8000000 in
theorem name5 (k : K5) (i : Nat) (hi : i ≤ k.ws.length) (bad : Bool) (w : World) (h : P5 k w i bad) : Calls Tryz.prog 42 #[.pointer (some ⟨k.P, 0, none⟩)] w fun e w' => (∃ t : Bs, e = .returned (.string ⟨t.toArray⟩) ∧ t.length ≤ 65536) ∧ At5 k true w i bad w' := by
  obtain ⟨dp, c0, c1, c2, c3, c4, cf⟩ := h.pcells
  have hl := h.ok.1
  have hml : k.ws.length ≤ 9223372036854775807 := by omega
  have hfail : ∀ n, P5 k ((w.drewN n).setCell ⟨k.P, 2, none⟩ (.bool true)) i true ∧ Mv (X5 k) w ((w.drewN n).setCell ⟨k.P, 2, none⟩ (.bool true)) := fun n => ⟨(h.mv (Mv.quiet w n)).set2 true, (Mv.quiet w n).toX.trans (Mv.setCell _ _ (.inl rfl))⟩
  cases bad
  · by_cases hlt : i < k.ws.length
    · obtain ⟨g, x, e1, e2, e3, r0, r1, r2, hx⟩ := h.word hlt
      unfold str at r1
      have c0' := c0
      rw [e1] at c0
      have hlt' : (i : Int) < k.ws.length := by omega
      by_cases hk : x.d.k = 1
      · have hk' : (x.d.k == 1) = true := by simpa using hk
        go_enter Tryz.func42, Tryz.ntmps42
        go_wp2_with fail
        go_quiet (fail)
        have h0 := h.mv (Mv.quiet w nq)
        have hm0 : Mv (fun _ => False) w (w.drewN nq) := Mv.quiet w nq
        have d1 := hm0.cell r1 (fun h => h)
        generalize w.drewN nq = w0 at *
        obtain ⟨dp0, b0, b1, b2, b3, b4, bf⟩ := h0.pcells
        rw [e1] at b0
        have hcc : ((i : Int) + 1) = ((i + 1 : Nat) : Int) := by omega
        have h1 := h0.set1 (i + 1)
        rw [← hcc] at h1
        clear hcc
        have hm1 : Mv (X5 k) w (w0.setCell ⟨k.P, 1, none⟩ (.int .i64 ((i : Int) + 1))) := hm0.toX.trans (Mv.setCell _ _ (.inl rfl))
        go_wp2_with fail
        go_quiet (fail)
        go_wp2_with fail
        exact bodyPost_ret (v := .string ⟨x.d.t.toArray⟩) (by simp [results, Tryz.results42, go_sem]) rfl ⟨⟨x.d.t, rfl, hx.t⟩, i + 1, false, h1.mv (Mv.quiet _ _), hm1.trans (Mv.quiet _ _), by omega, by omega, fun h => h, fun _ => .inr (by omega)⟩
      · have hk' : (x.d.k == 1) = false := by simpa using hk
        have hkn : (x.d.k != 1) = true := by simpa using hk
        have hnl : decide (k.ws.length ≤ i) = false := decide_eq_false (by omega)
        go_enter Tryz.func42, Tryz.ntmps42
        go_wp2_with fail
        go_quiet (fail)
        go_wp2_with fail
        exact bodyPost_ret (v := .string ⟨#[]⟩) (by simp [results, Tryz.results42, go_sem]) rfl ⟨⟨[], rfl, by simp⟩, i, true, (hfail _).1, (hfail _).2, by omega, hi, fun _ => rfl, fun _ => .inl rfl⟩
    · have hlt' : ¬ (i : Int) < k.ws.length := by omega
      go_enter Tryz.func42, Tryz.ntmps42
      go_wp2_with fail
      go_quiet (fail)
      go_wp2_with fail
      exact bodyPost_ret (v := .string ⟨#[]⟩) (by simp [results, Tryz.results42, go_sem]) rfl ⟨⟨[], rfl, by simp⟩, i, true, (hfail _).1, (hfail _).2, by omega, hi, fun _ => rfl, fun _ => .inl rfl⟩
  · go_enter Tryz.func42, Tryz.ntmps42
    go_wp2_with fail
    go_quiet (fail)
    go_wp2_with fail
    exact bodyPost_ret (v := .string ⟨#[]⟩) (by simp [results, Tryz.results42, go_sem]) rfl ⟨⟨[], rfl, by simp⟩, i, true, (hfail _).1, (hfail _).2, by omega, hi, fun _ => rfl, fun _ => .inl rfl⟩
set_option maxHeartbeats 8000000 in
theorem number5 (k : K5) (i : Nat) (hi : i ≤ k.ws.length) (bad : Bool) (w : World) (h : P5 k w i bad) : Calls Tryz.prog 67 #[.pointer (some ⟨k.P, 0, none⟩)] w fun e w' => (∃ n : Int, e = .returned (.int .i64 n) ∧ (-9223372036854775808 ≤ n ∧ n ≤ 9223372036854775807)) ∧ At5 k true w i bad w' := by
  obtain ⟨dp, c0, c1, c2, c3, c4, cf⟩ := h.pcells
  have hl := h.ok.1
  have hml : k.ws.length ≤ 9223372036854775807 := by omega
  have hfail : ∀ n, P5 k ((w.drewN n).setCell ⟨k.P, 2, none⟩ (.bool true)) i true ∧ Mv (X5 k) w ((w.drewN n).setCell ⟨k.P, 2, none⟩ (.bool true)) := fun n => ⟨(h.mv (Mv.quiet w n)).set2 true, (Mv.quiet w n).toX.trans (Mv.setCell _ _ (.inl rfl))⟩
  cases bad
  · by_cases hlt : i < k.ws.length
    · obtain ⟨g, x, e1, e2, e3, r0, r1, r2, hx⟩ := h.word hlt
      unfold str at r1
      have c0' := c0
      rw [e1] at c0
      have hlt' : (i : Int) < k.ws.length := by omega
      by_cases hk : x.d.k = 2
      · have hk' : (x.d.k == 2) = true := by simpa using hk
        go_enter Tryz.func67, Tryz.ntmps67
        go_wp2_with fail
        go_quiet (fail)
        have h0 := h.mv (Mv.quiet w nq)
        have hm0 : Mv (fun _ => False) w (w.drewN nq) := Mv.quiet w nq
        have d1 := hm0.cell r2 (fun h => h)
        generalize w.drewN nq = w0 at *
        obtain ⟨dp0, b0, b1, b2, b3, b4, bf⟩ := h0.pcells
        rw [e1] at b0
        have hcc : ((i : Int) + 1) = ((i + 1 : Nat) : Int) := by omega
        have h1 := h0.set1 (i + 1)
        rw [← hcc] at h1
        clear hcc
        have hm1 : Mv (X5 k) w (w0.setCell ⟨k.P, 1, none⟩ (.int .i64 ((i : Int) + 1))) := hm0.toX.trans (Mv.setCell _ _ (.inl rfl))
        go_wp2_with fail
        go_quiet (fail)
        go_wp2_with fail
        exact bodyPost_ret (v := .int .i64 x.d.n) (by simp [results, Tryz.results67, go_sem]) rfl ⟨⟨x.d.n, rfl, hx.n1, hx.n2⟩, i + 1, false, h1.mv (Mv.quiet _ _), hm1.trans (Mv.quiet _ _), by omega, by omega, fun h => h, fun _ => .inr (by omega)⟩
      · have hk' : (x.d.k == 2) = false := by simpa using hk
        have hkn : (x.d.k != 2) = true := by simpa using hk
        have hnl : decide (k.ws.length ≤ i) = false := decide_eq_false (by omega)
        go_enter Tryz.func67, Tryz.ntmps67
        go_wp2_with fail
        go_quiet (fail)
        go_wp2_with fail
        exact bodyPost_ret (v := .int .i64 0) (by simp [results, Tryz.results67, go_sem]) rfl ⟨⟨0, rfl, by omega⟩, i, true, (hfail _).1, (hfail _).2, by omega, hi, fun _ => rfl, fun _ => .inl rfl⟩
    · have hlt' : ¬ (i : Int) < k.ws.length := by omega
      go_enter Tryz.func67, Tryz.ntmps67
      go_wp2_with fail
      go_quiet (fail)
      go_wp2_with fail
      exact bodyPost_ret (v := .int .i64 0) (by simp [results, Tryz.results67, go_sem]) rfl ⟨⟨0, rfl, by omega⟩, i, true, (hfail _).1, (hfail _).2, by omega, hi, fun _ => rfl, fun _ => .inl rfl⟩
  · go_enter Tryz.func67, Tryz.ntmps67
    go_wp2_with fail
    go_quiet (fail)
    go_wp2_with fail
    exact bodyPost_ret (v := .int .i64 0) (by simp [results, Tryz.results67, go_sem]) rfl ⟨⟨0, rfl, by omega⟩, i, true, (hfail _).1, (hfail _).2, by omega, hi, fun _ => rfl, fun _ => .inl rfl⟩
end Go.Proofs.YtjgpbpmicopemaaGreatDoor

/-
  plumbobref5's parser: types, nodes.
-/
namespace Go.Proofs.YtjgpbpmicopemaaGreatDoor
open Go.RowKit Go.Shelf
set_option maxRecDepth 20000

set_option maxHeartbeats 8000000 in
theorem up5 (k : K5) (i : Nat) (bad : Bool) (w : World) (h : P5 k w i bad) : Calls Tryz.prog 71 #[.pointer (some ⟨k.P, 0, none⟩)] w fun e w' => e = .returned (.tuple #[]) ∧ P5 k w' i bad ∧ Mv (X5 k) w w' := by
  obtain ⟨dp, c0, c1, c2, c3, c4, cf⟩ := h.pcells
  go_enter Tryz.func71, Tryz.ntmps71
  go_wp2_with fail
  exact bodyPost_end (v := .tuple #[]) (by simp [results, Tryz.results71, go_sem]) rfl ⟨rfl, h.set4 _, Mv.setCell _ _ (.inl rfl)⟩
set_option maxHeartbeats 8000000 in
theorem node5 (k : K5) (t : Bs) (i : Nat) (bad : Bool) (w : World) (h : P5 k w i bad) : Calls Tryz.prog 91 #[.pointer (some ⟨k.P, 0, none⟩), .string ⟨t.toArray⟩] w fun e w' => P5 k w' i bad ∧ Mv (X5 k) w w' ∧ ∃ b, e = .returned (.pointer (some ⟨b, 0, none⟩)) ∧ w.heap.size ≤ b ∧ w'.heap[b]? = some (.cells #[.string ⟨t.toArray⟩, .string ⟨#[]⟩, .string ⟨#[]⟩, .int .i64 0, .slice none 0 0, .string ⟨#[]⟩, .int .i64 0] 150 (0, 0)) := by
  obtain ⟨dp, c0, c1, c2, c3, c4, cf⟩ := h.pcells
  obtain ⟨n, d, q4, q5, qf⟩ := h.qcells
  go_enter Tryz.func91, Tryz.ntmps91
  go_wp2_with fail
  have h1 := (h.setN (wrap64 (n + 1))).mv (Mv.alloc (X := fun _ => False) _ (.cells #[.string ⟨t.toArray⟩, .string ⟨#[]⟩, .string ⟨#[]⟩, .int .i64 0, .slice none 0 0, .string ⟨#[]⟩, .int .i64 0] 150))
  have hm1 : Mv (X5 k) w (w.setCell ⟨k.Q, 4, none⟩ (.int .i64 (wrap64 (n + 1)))) := Mv.setCell _ _ (.inr rfl)
  have hn := heap_alloc_new (w.setCell ⟨k.Q, 4, none⟩ (.int .i64 (wrap64 (n + 1)))) (.cells #[.string ⟨t.toArray⟩, .string ⟨#[]⟩, .string ⟨#[]⟩, .int .i64 0, .slice none 0 0, .string ⟨#[]⟩, .int .i64 0] 150)
  have hs : (w.setCell ⟨k.Q, 4, none⟩ (.int .i64 (wrap64 (n + 1)))).heap.size = w.heap.size := by simp
  rw [hs] at hn
  exact bodyPost_ret (v := .pointer (some ⟨w.heap.size, 0, none⟩)) (by simp [results, Tryz.results91, go_sem]) rfl ⟨h1, hm1.more _, _, rfl, Nat.le_refl _, hn⟩
def Dn5 (k : K5) (w : World) (i : Nat) (bad : Bool) (e : Ending) (w' : World) : Prop := e = .returned (.tuple #[]) ∧ Mv (X5 k) w w' ∧ ∃ bad', P5 k w' i bad' ∧ (bad = true → bad' = true)
set_option maxHeartbeats 8000000 in
theorem down5 (k : K5) (i : Nat) (bad : Bool) (w : World) (h : P5 k w i bad) : Calls Tryz.prog 69 #[.pointer (some ⟨k.P, 0, none⟩)] w (Dn5 k w i bad) := by
  obtain ⟨dp, c0, c1, c2, c3, c4, cf⟩ := h.pcells
  go_enter Tryz.func69, Tryz.ntmps69
  go_wp2_with fail
  have h1 := h.set4 (wrap64 (dp + 1))
  have hm1 : Mv (X5 k) w (w.setCell ⟨k.P, 4, none⟩ (.int .i64 (wrap64 (dp + 1)))) := Mv.setCell _ _ (.inl rfl)
  generalize w.setCell ⟨k.P, 4, none⟩ (.int .i64 (wrap64 (dp + 1))) = w1 at *
  clear c0 c1 c2 c3 c4 cf
  obtain ⟨dp1, c0, c1, c2, c3, c4, cf⟩ := h1.pcells
  obtain ⟨n, d, q4, q5, qf⟩ := h1.qcells
  go_quiet (fail)
  have h2 := h1.mv (Mv.quiet w1 nq)
  have hm2 := hm1.trans (Mv.quiet w1 nq)
  generalize w1.drewN nq = w2 at *
  clear c0 c1 c2 c3 c4 cf q4 q5 qf
  obtain ⟨dp2, c0, c1, c2, c3, c4, cf⟩ := h2.pcells
  obtain ⟨n2, d2, q4, q5, qf⟩ := h2.qcells
  by_cases hgt : d < dp1
  · have h2d := h2.mv (Mv.drew w2)
    have hm2d := hm2.trans (Mv.drew w2)
    obtain ⟨dp3, e0, e1, e2, e3, e4, ef⟩ := h2d.pcells
    obtain ⟨n3, d3, t4, t5, tf⟩ := h2d.qcells
    go_wp2_with fail
    go_region
    have h3 := (h2.setD dp3).mv (Mv.drew (X := fun _ => False) _)
    have hm3 : Mv (X5 k) w ((w2.setCell ⟨k.Q, 5, none⟩ (.int .i64 dp3)).drew) := (hm2.trans (Mv.setCell _ _ (.inr rfl))).drawn
    generalize (w2.setCell ⟨k.Q, 5, none⟩ (.int .i64 dp3)).drew = w3 at *
    clear c0 c1 c2 c3 c4 cf q4 q5 qf e0 e1 e2 e3 e4 ef t4 t5 tf
    obtain ⟨dp4, c0, c1, c2, c3, c4, cf⟩ := h3.pcells
    by_cases h20 : 2000 < dp4
    · go_wp2_with fail
      exact bodyPost_end (v := .tuple #[]) (by simp [results, Tryz.results69, go_sem]) rfl ⟨rfl, hm3.trans (Mv.setCell _ _ (.inl rfl)), true, h3.set2 true, fun _ => rfl⟩
    · go_wp2_with fail
      exact bodyPost_end (v := .tuple #[]) (by simp [results, Tryz.results69, go_sem]) rfl ⟨rfl, hm3, bad, h3, fun h => h⟩
  · by_cases h20 : 2000 < dp2
    · go_wp2_with fail
      exact bodyPost_end (v := .tuple #[]) (by simp [results, Tryz.results69, go_sem]) rfl ⟨rfl, hm2.trans (Mv.setCell _ _ (.inl rfl)), true, h2.set2 true, fun _ => rfl⟩
    · go_wp2_with fail
      exact bodyPost_end (v := .tuple #[]) (by simp [results, Tryz.results69, go_sem]) rfl ⟨rfl, hm2, bad, h2, fun h => h⟩
def Ty5 (k : K5) (w : World) (a i : Nat) (bad : Bool) (e : Ending) (w' : World) : Prop := ∃ b : Bool, e = .returned (.bool b) ∧ P5 k w' i bad ∧ Mv (X5 k) w w' ∧ (b = true → bad = false ∧ i + a < k.ws.length)
set_option maxHeartbeats 8000000 in
theorem typed5 (k : K5) (a i : Nat) (ha : a ≤ 1) (hi : i ≤ k.ws.length) (bad : Bool) (w : World) (h : P5 k w i bad) : Calls Tryz.prog 66 #[.pointer (some ⟨k.P, 0, none⟩), .int .i64 a] w (Ty5 k w a i bad) := by
  have hl := h.ok.1
  have h1 := h.mv (Mv.alloc (X := fun _ => False) w (.cells #[.string ⟨#[99, 104, 97, 114]⟩, .string ⟨#[105, 110, 116]⟩, .string ⟨#[108, 111, 110, 103]⟩, .string ⟨#[118, 111, 105, 100]⟩, .string ⟨#[115, 116, 114, 117, 99, 116]⟩] 9))
  have hn := heap_alloc_new w (.cells #[.string ⟨#[99, 104, 97, 114]⟩, .string ⟨#[105, 110, 116]⟩, .string ⟨#[108, 111, 110, 103]⟩, .string ⟨#[118, 111, 105, 100]⟩, .string ⟨#[115, 116, 114, 117, 99, 116]⟩] 9)
  obtain ⟨dp, c0, c1, c2, c3, c4, cf⟩ := h1.pcells
  have hw : wrap64 ((i : Int) + a) = (i : Int) + a := by unfold wrap64; omega
  go_enter Tryz.func66, Tryz.ntmps66
  go_wp2_with fail
  have hcc : ((i : Int) + a) = ((i + a : Nat) : Int) := by omega
  have h2 := h1.set1 (i + a)
  rw [← hcc] at h2
  clear hcc c0 c1 c2 c3 c4 cf hw
  have hP := h.par
  have hQ := h.prg
  have hrow : ((w.alloc (.cells #[.string ⟨#[99, 104, 97, 114]⟩, .string ⟨#[105, 110, 116]⟩, .string ⟨#[108, 111, 110, 103]⟩, .string ⟨#[118, 111, 105, 100]⟩, .string ⟨#[115, 116, 114, 117, 99, 116]⟩] 9)).setCell ⟨k.P, 1, none⟩ (.int .i64 ((i : Int) + a))).heap[w.heap.size]? = some (.cells #[.string ⟨#[99, 104, 97, 114]⟩, .string ⟨#[105, 110, 116]⟩, .string ⟨#[108, 111, 110, 103]⟩, .string ⟨#[118, 111, 105, 100]⟩, .string ⟨#[115, 116, 114, 117, 99, 116]⟩] 9 (0, 0)) := (set_other (by obtain ⟨_, hP⟩ := hP; have := heap_lt hP; omega)).trans hn
  have hm2 : Mv (X5 k) w ((w.alloc (.cells #[.string ⟨#[99, 104, 97, 114]⟩, .string ⟨#[105, 110, 116]⟩, .string ⟨#[108, 111, 110, 103]⟩, .string ⟨#[118, 111, 105, 100]⟩, .string ⟨#[115, 116, 114, 117, 99, 116]⟩] 9)).setCell ⟨k.P, 1, none⟩ (.int .i64 ((i : Int) + a))) := (Mv.alloc (X := X5 k) w _).trans (Mv.setCell _ _ (.inl rfl))
  generalize (w.alloc (.cells #[.string ⟨#[99, 104, 97, 114]⟩, .string ⟨#[105, 110, 116]⟩, .string ⟨#[108, 111, 110, 103]⟩, .string ⟨#[118, 111, 105, 100]⟩, .string ⟨#[115, 116, 114, 117, 99, 116]⟩] 9)).setCell ⟨k.P, 1, none⟩ (.int .i64 ((i : Int) + a)) = w2 at *
  obtain ⟨_, hP⟩ := hP
  obtain ⟨_, _, hQ⟩ := hQ
  have hPl := heap_lt hP
  have hQl := heap_lt hQ
  clear hP hQ h1 hn
  go_loopg [6, 7] 5 (fun g s6 s7 wr => ∃ (j : Nat) (b : Bool), j ≤ 5 ∧ 5 - j ≤ g ∧ s7 = .int .i64 j ∧ s6 = .bool b ∧ P5 k wr (i + a) bad ∧ Mv (X5 k) w wr ∧ wr.heap[w.heap.size]? = some (.cells #[.string ⟨#[99, 104, 97, 114]⟩, .string ⟨#[105, 110, 116]⟩, .string ⟨#[108, 111, 110, 103]⟩, .string ⟨#[118, 111, 105, 100]⟩, .string ⟨#[115, 116, 114, 117, 99, 116]⟩] 9 (0, 0)) ∧ (b = true → bad = false ∧ i + a < k.ws.length))
  case atStart => exact ⟨0, false, by omega, by omega, rfl, rfl, h2, hm2, hrow, by simp⟩
  case round =>
    obtain ⟨j, b, hj, hg, rfl, rfl, hR, hM, hrw, hb⟩ := hrel
    by_cases hlt : j < 5
    · have hlt' : (j : Int) < 5 := by omega
      obtain ⟨t, ht⟩ : ∃ t : Bs, wr.cell? ⟨w.heap.size, j, none⟩ = some (.string ⟨t.toArray⟩) := by
        have : j = 0 ∨ j = 1 ∨ j = 2 ∨ j = 3 ∨ j = 4 := by omega
        rcases this with rfl | rfl | rfl | rfl | rfl
        · exact ⟨[99, 104, 97, 114], by simp [World.cell?, hrw]⟩
        · exact ⟨[105, 110, 116], by simp [World.cell?, hrw]⟩
        · exact ⟨[108, 111, 110, 103], by simp [World.cell?, hrw]⟩
        · exact ⟨[118, 111, 105, 100], by simp [World.cell?, hrw]⟩
        · exact ⟨[115, 116, 114, 117, 99, 116], by simp [World.cell?, hrw]⟩
      cases b
      · go_wp2_with fail
        refine (see5 k t (i + a) (by omega) bad wr hR).mono ?_
        rintro e w3 ⟨b', rfl, hm3, hb'⟩
        go_wp2_with fail
        go_roundg (5 - (j + 1))
        case measure => omega
        case rel => exact ⟨j + 1, b', by omega, by omega, by simp, rfl, hR.mv hm3, hM.trans hm3.toX, (hm3.same _ (heap_lt hrw) (fun h => h)).trans hrw, hb'⟩
      · go_wp2_with fail
        go_roundg (5 - (j + 1))
        case measure => omega
        case rel => exact ⟨j + 1, true, by omega, by omega, by simp, rfl, hR, hM, hrw, by simpa using hb⟩
    · obtain rfl : j = 5 := by omega
      obtain ⟨dp', c0, c1, c2, c3, c4, cf⟩ := hR.pcells
      have hcc : ((i + a : Nat) : Int) = (i : Int) + a := by omega
      rw [hcc] at c1
      have hw : wrap64 ((i : Int) + a - a) = (i : Int) := by unfold wrap64; omega
      have h3 := hR.set1 i
      clear hcc
      go_wp2_with fail
      exact bodyPost_ret (v := .bool b) (by simp [results, Tryz.results66, go_sem]) rfl ⟨b, rfl, h3, hM.trans (Mv.setCell _ _ (.inl rfl)), hb⟩
end Go.Proofs.YtjgpbpmicopemaaGreatDoor

/-
  plumbobref5's parser: a type, an array.
-/
namespace Go.Proofs.YtjgpbpmicopemaaGreatDoor
open Go.RowKit Go.Shelf
set_option maxRecDepth 20000

theorem At5.trans {k : K5} {s1 s2 : Bool} {w w1 w2 : World} {i i1 : Nat} {bad bad1 : Bool} (m : Mv (X5 k) w w1) (h1 : i ≤ i1) (hb : bad = true → bad1 = true) (h2 : At5 k s2 w1 i1 bad1 w2) (hs : s1 = true → bad1 = true ∨ i < i1 ∨ s2 = true) : At5 k s1 w i bad w2 := by
  obtain ⟨i', bad', a1, a2, a3, a4, a5, a6⟩ := h2
  refine ⟨i', bad', a1, m.trans a2, by omega, a4, fun h => a5 (hb h), fun h => ?_⟩
  rcases hs h with h | h | h
  · exact .inl (a5 h)
  · exact .inr (by omega)
  · rcases a6 h with h | h
    · exact .inl h
    · exact .inr (by omega)
/-- a string, not too long -/
def Sr5 (n : Nat) (e : Ending) : Prop := ∃ t : Bs, e = .returned (.string ⟨t.toArray⟩) ∧ t.length ≤ n
theorem cat5 (a b : List UInt8) : (({ data := a.toArray } ++ { data := b.toArray } : ByteArray)) = { data := (a ++ b).toArray } := cat2 a b
set_option maxHeartbeats 8000000 in
theorem array5 (k : K5) (t : Bs) (ht : t.length ≤ 200000) (i : Nat) (hi : i ≤ k.ws.length) (bad : Bool) (w : World) (h : P5 k w i bad) : Calls Tryz.prog 43 #[.pointer (some ⟨k.P, 0, none⟩), .string ⟨t.toArray⟩] w fun e w' => Sr5 200100 e ∧ At5 k false w i bad w' := by
  go_enter Tryz.func43, Tryz.ntmps43
  go_wp2_with fail
  refine (take5 k [91] i hi bad w h).mono ?_
  rintro e w1 (⟨rfl, ⟨rfl, hlt⟩, h1, hm1⟩ | ⟨rfl, h1, hm1⟩)
  · go_wp2_with fail
    refine (number5 k (i + 1) (by omega) false w1 h1).mono ?_
    rintro e w2 ⟨⟨n, rfl, hn⟩, i2, bad2, h2, hm2, l2, l2', b2, -⟩
    go_wp2_with fail
    refine (want5 k [93] i2 l2' bad2 w2 h2).mono ?_
    rintro e w3 ⟨rfl, i3, bad3, h3, hm3, l3, l3', b3, -⟩
    have hq := num_any (n.natAbs + 1) n (by omega) hn
    have hil := Lib.itoa_length_le n hn.1 hn.2
    generalize Lib.itoa n = ni at *
    go_wp2_with fail
    refine (hq w3).mono ?_
    rintro e w4 ⟨rfl, hb4⟩
    have h4 := h3.mv (Mv.below (X := fun _ => False) hb4)
    go_wp2_with fail
    refine bodyPost_ret (v := .string ⟨(((t ++ [91]) ++ ni) ++ [93]).toArray⟩) (by simp [results, Tryz.results43, go_sem, cat5]) rfl ⟨⟨_, rfl, by simp only [List.length_append, List.length_cons, List.length_nil]; omega⟩, i3, bad3, h4, ((hm1.trans hm2).trans hm3).trans (Mv.below hb4), by omega, l3', by simp, by simp⟩
  · go_wp2_with fail
    exact bodyPost_ret (v := .string ⟨t.toArray⟩) (by simp [results, Tryz.results43, go_sem]) rfl ⟨⟨t, rfl, by omega⟩, i, bad, h1, hm1, Nat.le_refl _, hi, fun h => h, by simp⟩
set_option maxHeartbeats 8000000 in
theorem typ5 (k : K5) (i : Nat) (hi : i ≤ k.ws.length) (bad : Bool) (w : World) (h : P5 k w i bad) : Calls Tryz.prog 40 #[.pointer (some ⟨k.P, 0, none⟩)] w fun e w' => Sr5 200000 e ∧ At5 k true w i bad w' := by
  have hl := h.ok.1
  go_enter Tryz.func40, Tryz.ntmps40
  go_wp2_with fail
  refine (typed5 k 0 i (by omega) hi bad w h).mono ?_
  rintro e w1 ⟨b, rfl, h1, hm1, hb⟩
  cases b
  · obtain ⟨dp, c0, c1, c2, c3, c4, cf⟩ := h1.pcells
    go_wp2_with fail
    exact bodyPost_ret (v := .string ⟨#[]⟩) (by simp [results, Tryz.results40, go_sem]) rfl ⟨⟨[], rfl, by simp⟩, i, true, h1.set2 true, hm1.trans (Mv.setCell _ _ (.inl rfl)), Nat.le_refl _, hi, fun _ => rfl, fun _ => .inl rfl⟩
  · obtain ⟨rfl, hlt⟩ := hb rfl
    obtain ⟨dp, c0, c1, c2, c3, c4, cf⟩ := h1.pcells
    obtain ⟨g, x, e1, e2, e3, r0, r1, r2, hx⟩ := h1.word (by omega : i < k.ws.length)
    unfold str at r1
    rw [e1] at c0
    have hlt' : (i : Int) < k.ws.length := by omega
    have hxt := hx.t
    go_wp2_with fail
    go_quiet (fail)
    have h2 := h1.mv (Mv.quiet w1 nq)
    have hm2 := hm1.trans (Mv.quiet w1 nq)
    generalize w1.drewN nq = w2 at *
    clear c0 c1 c2 c3 c4 cf r0 r1 r2
    obtain ⟨dp2, c0, c1, c2, c3, c4, cf⟩ := h2.pcells
    have hw : wrap64 ((i : Int) + 1) = (i : Int) + 1 := by unfold wrap64; omega
    have hcc : ((i + 1 : Nat) : Int) = (i : Int) + 1 := by omega
    have h3 := h2.set1 (i + 1)
    rw [hcc] at h3
    clear hcc
    have hm3 : Mv (X5 k) w (w2.setCell ⟨k.P, 1, none⟩ (.int .i64 ((i : Int) + 1))) := hm2.trans (Mv.setCell _ _ (.inl rfl))
    obtain ⟨x1, hx1⟩ : ∃ x1, x1 = x.d.t := ⟨_, rfl⟩
    have hxt1 : x1.length ≤ 65536 := by rw [hx1]; exact hx.t
    rw [← hx1]
    clear hx1
    cases hst : (x1 == [115, 116, 114, 117, 99, 116])
    · go_wp2_with fail
      go_loopg [3] k.ws.length (fun g s3 wr => ∃ (j : Nat) (b : Bool) (t : Bs), s3 = .string ⟨t.toArray⟩ ∧ k.ws.length - j ≤ g ∧ P5 k wr j b ∧ Mv (X5 k) w wr ∧ i ≤ j ∧ j ≤ k.ws.length ∧ (b = true ∨ i < j) ∧ t.length + (k.ws.length - j) ≤ 199000)
      case atStart => exact ⟨i + 1, false, x1, rfl, by omega, h3, hm3, by omega, by omega, .inr (by omega), by omega⟩
      case round =>
        obtain ⟨j, b, t, rfl, hg, hR, hM, hj1, hj2, hj3, ht⟩ := hrel
        go_wp2_with fail
        refine (take5 k [42] j hj2 b wr hR).mono ?_
        rintro e w5 (⟨rfl, ⟨rfl, hlt5⟩, h5, hm5⟩ | ⟨rfl, h5, hm5⟩)
        · go_wp2_with fail
          go_roundg (k.ws.length - (j + 1))
          case measure => omega
          case rel => exact ⟨j + 1, false, t ++ [42], by simp [cat5], by omega, h5, hM.trans hm5, by omega, by omega, .inr (by omega), by simp only [List.length_append, List.length_cons, List.length_nil]; omega⟩
        · go_wp2_with fail
          exact bodyPost_ret (v := .string ⟨t.toArray⟩) (by simp [results, Tryz.results40, go_sem]) rfl ⟨⟨t, rfl, by omega⟩, j, b, h5, hM.trans hm5, hj1, hj2, by simp, fun _ => hj3⟩
    · go_wp2_with fail
      refine (name5 k (i + 1) (by omega) false _ h3).mono ?_
      rintro e w4 ⟨⟨nm, rfl, hnm⟩, i4, bad4, h4, hm4, l4, l4', -, b4⟩
      have hb4 : bad4 = true ∨ i < i4 := .inr (by omega)
      clear c0 c1 c2 c3 c4 cf
      go_wp2_with fail
      go_loopg [3] k.ws.length (fun g s3 wr => ∃ (j : Nat) (b : Bool) (t : Bs), s3 = .string ⟨t.toArray⟩ ∧ k.ws.length - j ≤ g ∧ P5 k wr j b ∧ Mv (X5 k) w wr ∧ i ≤ j ∧ j ≤ k.ws.length ∧ (b = true ∨ i < j) ∧ t.length + (k.ws.length - j) ≤ 199000)
      case atStart => exact ⟨i4, bad4, [115, 116, 114, 117, 99, 116, 32] ++ nm, by simp [cat5], by omega, h4, hm3.trans hm4, by omega, l4', hb4, by simp only [List.length_append, List.length_cons, List.length_nil]; omega⟩
      case round =>
        obtain ⟨j, b, t, rfl, hg, hR, hM, hj1, hj2, hj3, ht⟩ := hrel
        go_wp2_with fail
        refine (take5 k [42] j hj2 b wr hR).mono ?_
        rintro e w5 (⟨rfl, ⟨rfl, hlt5⟩, h5, hm5⟩ | ⟨rfl, h5, hm5⟩)
        · go_wp2_with fail
          go_roundg (k.ws.length - (j + 1))
          case measure => omega
          case rel => exact ⟨j + 1, false, t ++ [42], by simp [cat5], by omega, h5, hM.trans hm5, by omega, by omega, .inr (by omega), by simp only [List.length_append, List.length_cons, List.length_nil]; omega⟩
        · go_wp2_with fail
          exact bodyPost_ret (v := .string ⟨t.toArray⟩) (by simp [results, Tryz.results40, go_sem]) rfl ⟨⟨t, rfl, by omega⟩, j, b, h5, hM.trans hm5, hj1, hj2, by simp, fun _ => hj3⟩
end Go.Proofs.YtjgpbpmicopemaaGreatDoor
