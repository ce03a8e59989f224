/-
  awake answers true, in every world in which strconv's table holds its numbers.
-/
import Derived.Test.YtifknchhcbeekaaDoorOuts
import Derived.Deep.RegionHeld3
namespace Go.Proofs.YtifknchhcbeekaaDoor
open Go.RowKit Go.Lib

def R37 : Rn := ⟨1, 3, [(2, 7)], [(1, 1, 0)], 0⟩
def R47 : Rn := ⟨1, 4, [(2, 7)], [(1, 1, 0)], 0⟩
def F37 : Rn := ⟨2, 0, [(2, 7)], [(1, 1, 0)], 0⟩

theorem next_is (B b : Nat) (l : List Int) (k : Nat) (x : Int) (hx : tells l k = x) (w : World) (h : WorldAt w B b l k) (hk : k ≤ 100000) :
    Calls Tryd.prog 15 #[.pointer (some ⟨b, 0, none⟩)] w fun e w' => e = .returned (.int .i64 x) ∧ WorldAt w' B b l (k + 1) ∧ Below B w w' ∧ w.heap.size = w'.heap.size :=
  (next_any B b l k w h hk).mono fun _ _ hh => by
    obtain ⟨h1, h2⟩ := hh
    exact ⟨by rw [h1, hx], h2⟩

theorem RunIs.step {W W' : World} {v : Value} {r : Rn} (h : RunIs W W.heap.size v r) (hb : Below W.heap.size W W') : RunIs W' W'.heap.size v r := (h.below hb).more hb.size

/-- what the region of awake keeps -/
def AwakeS (w0 : World) (X b g : Nat) (AE : Option Addr) (nE cE : Nat) (AL : Option Addr) (nL cL : Nat) (w' : World) : Prop :=
  (w'.cell? ⟨X, 0, none⟩ = some (.int .i64 2) ∧ w'.cell? ⟨X, 1, none⟩ = some (.int .i64 0) ∧ w'.cell? ⟨X, 2, none⟩ = some (.slice AE nE cE) ∧ w'.cell? ⟨X, 3, none⟩ = some (.slice AL nL cL) ∧ w'.cell? ⟨X, 4, none⟩ = some (.int .i64 0)) ∧
  w'.cell? ⟨b, 1, none⟩ = some (.int .i64 2) ∧ w'.cell? ⟨g, 0, none⟩ = some (.int .i64 7) ∧
  RunIs w' w'.heap.size (.agg #[.int .i64 2, .int .i64 0, .slice AE nE cE, .slice AL nL cL, .int .i64 0]) F37 ∧ Tab w' ∧ Below w0.heap.size w0 w'
theorem AwakeS.step {w0 : World} {X b g : Nat} {AE : Option Addr} {nE cE : Nat} {AL : Option Addr} {nL cL : Nat} {w' w'' : World} (h : AwakeS w0 X b g AE nE cE AL nL cL w') (hb : Below w'.heap.size w' w'') : AwakeS w0 X b g AE nE cE AL nL cL w'' := by
  obtain ⟨⟨h0, h1, h2, h3, h4⟩, h5, h6, h7, h8, h9⟩ := h
  have k : ∀ {p : Addr} {u : Value}, w'.cell? p = some u → w''.cell? p = some u := fun {p u} hp => by rw [hb.cell (World.block_lt_of_cell? w' p hp)]; exact hp
  exact ⟨⟨k h0, k h1, k h2, k h3, k h4⟩, k h5, k h6, h7.step hb, h8.below hb, h9.trans (hb.mono h9.size)⟩

theorem itoa_one (n : Nat) (h : n < 10) : Lib.itoa (n : Int) = [UInt8.ofNat (48 + n)] := by rw [Lib.itoa_nonneg, Lib.decDigits_one h]
theorem text37 (v : Value) (w : World) (h : RunIs w w.heap.size v R37) (ht : Tab w) :
    Calls Tryd.prog 9 #[v] w fun e w' => e = .returned (.string ⟨#[111, 117, 116, 32, 55, 10, 104, 97, 108, 116, 32, 51, 10]⟩) ∧ Below w.heap.size w w' :=
  (text_any v R37 w h ht (by simp [R37, Fits]) (by simp [R37, Fits]) (by simp [R37])).mono fun _ _ ⟨h1, h2⟩ => ⟨by
    rw [h1]
    have e7 : Lib.itoa 7 = [55] := itoa_one 7 (by omega)
    have e3 : Lib.itoa 3 = [51] := itoa_one 3 (by omega)
    simp [textL, R37, evText, evLine, kindW, outW, e7, e3], h2⟩
theorem call_same (r1 r2 : Rn) (bb : Bool) (hb : sameB r1 r2 = bb) (v1 v2 : Value) (w : World) (h1 : RunIs w w.heap.size v1 r1) (h2 : RunIs w w.heap.size v2 r2) : Calls Tryd.prog 16 #[v1, v2] w (BB bb w) := by
  subst hb; exact same_any v1 v2 r1 r2 w h1 h2
theorem call_leaks (r1 r2 : Rn) (bb : Bool) (hb : leaksB r1 r2 = bb) (v1 v2 : Value) (w : World) (h1 : RunIs w w.heap.size v1 r1) (h2 : RunIs w w.heap.size v2 r2) : Calls Tryd.prog 17 #[v1, v2] w (BB bb w) := by
  subst hb; exact leaks_any v1 v2 r1 r2 w h1 h2
theorem call_ref (r1 r2 : Rn) (bb : Bool) (hb : refB r1 r2 = bb) (v1 v2 : Value) (w : World) (h1 : RunIs w w.heap.size v1 r1) (h2 : RunIs w w.heap.size v2 r2) : Calls Tryd.prog 10 #[v1, v2] w (BB bb w) := by
  subst hb; exact refines_any v1 v2 r1 r2 w h1 h2
def k' (n : Int) : Value := .int .i64 n
theorem prefix_nil (A : Option Addr) (n c : Nat) (k x s : Int) (L : Value) (r : Rn) (w : World) (h : RunIs w w.heap.size (.agg #[k' k, k' x, .slice A n c, L, k' s]) r) :
    Calls Tryd.prog 12 #[.slice none 0 0, .slice A n c] w (BB true w) := by
  obtain ⟨A', n', c', L1, L2, L3, e, h1, h2, h3, -⟩ := h
  simp [k'] at e
  obtain ⟨-, -, ⟨rfl, rfl, rfl⟩, -⟩ := e
  have := prefix_any none A 0 n 0 c w.heap.size [] r.evs w ⟨rfl, Rd.nil_⟩ h1 h2 (by omega) h3
  exact this

set_option maxHeartbeats 4000000 in
set_option maxRecDepth 100000 in
theorem awake_any (w : World) (ht : Tab w) : Calls Tryd.prog 8 #[] w (BB true w) := by
  have HT := Lib.hid ht
  clear ht
  go_enter Tryd.func8, Tryd.ntmps8
  go_wp2_with fail
  refine (new_any (some ⟨w.heap.size, 0, none⟩) 1 1 [5] _ (Or.inr ⟨_, _, rfl⟩) rfl (by omega) ?_).mono ?_
  · exact rd_block (cs := #[.int .i64 5]) (T := 2) (fr := (0, 0)) (heap_alloc_new' _ _ rfl) rfl rfl (by simp)
  rintro e w1 ⟨b, rfl, hW, hb⟩
  have hb1 : Below w.heap.size w w1 := ((Below.refl _ _).alloc (Nat.le_refl _) _).trans (hb.mono (by simp))
  have HB := Lib.hid hb1
  clear hb hb1
  go_wp2_with fail
  refine (next_is _ b [5] 0 5 rfl w1 hW (by omega)).mono ?_
  rintro e w2 ⟨rfl, hW2, hb2, hs2⟩
  have hb2 := hb2.mono (B' := w.heap.size) (by simp)
  go_wp2_with fail
  refine (next_is _ b [5] 1 0 rfl w2 hW2 (by omega)).mono ?_
  rintro e w3 ⟨rfl, hW3, hb3, hs3⟩
  have HB3 := Lib.hid ((HB.out.trans hb2).trans (hb3.mono (B' := w.heap.size) (by simp)))
  clear hb2 hb3 hs2 hs3 hW hW2 HB
  go_wp2_with fail
  refine (run_any 3 7 w3).mono ?_
  rintro e w4 ⟨v, rfl, hR, hb4⟩
  have hW4 := hW3.below hb4
  have HB4 := Lib.hid (HB3.out.trans (hb4.mono HB3.out.size))
  clear hb4 hW3 HB3
  obtain ⟨AE, nE, cE, AL, nL, cL, rfl, hev, hc1, hc2, hlk, hc3, hc4⟩ := hR
  have HR4 : Hid (RunIs w4 w4.heap.size (.agg #[.int .i64 2, .int .i64 0, .slice AE nE cE, .slice AL nL cL, .int .i64 0]) F37) := Lib.hid ⟨AE, nE, cE, AL, nL, cL, rfl, hev, hc1, hc2, hlk, hc3, hc4⟩
  clear hev hlk
  go_wp2_with fail
  refine (run_any 3 7 _).mono ?_
  rintro e w5 ⟨v, rfl, hR5, hb5⟩
  have hb45 : Below w4.heap.size w4 w5 := ((Below.refl _ _).alloc (Nat.le_refl _) _).trans (hb5.mono (by simp))
  have hX : w5.heap[w4.heap.size]? = some (.cells #[.int .i64 2, .int .i64 0, .slice AE nE cE, .slice AL nL cL, .int .i64 0] 27 (0, 0)) := by
    rw [hb5.block _ (by simp)]
    exact heap_alloc_new' _ _ rfl
  go_wp2_with fail
  refine (outs_any v _ w5 hR5 (by simp)).mono ?_
  rintro e w6 ⟨o, rfl, hown, hb6⟩
  have hb46 := hb45.trans (hb6.mono hb45.size)
  have hX6 : w6.heap[w4.heap.size]? = some (.cells #[.int .i64 2, .int .i64 0, .slice AE nE cE, .slice AL nL cL, .int .i64 0] 27 (0, 0)) := by
    rw [hb6.block _ (heap_lt hX)]
    exact hX
  have hs : ∃ g cap, o = .slice (some ⟨g, 0, none⟩) 1 cap ∧ w6.cell? ⟨g, 0, none⟩ = some (.int .i64 7) := by
    rcases hown.2 with ⟨_, h0⟩ | ⟨g, cap, cur, hv, _⟩
    · exact absurd h0 (by decide)
    · refine ⟨g, cap, hv, ?_⟩
      have := hown.cells (g := g) (by rw [hv]; rfl) 0 (.int .i64 7) rfl
      simpa [Addr.add] using this
  obtain ⟨g, cap, rfl, hg7⟩ := hs
  have hwb : w6.cell? ⟨b, 1, none⟩ = some (.int .i64 2) := by
    obtain ⟨v0, hbk, _⟩ := hW4.below hb46
    rw [Lib.cell_of_heap hbk]; rfl
  have hS : AwakeS w w4.heap.size b g AE nE cE AL nL cL w6 := by
    refine ⟨⟨?_, ?_, ?_, ?_, ?_⟩, hwb, hg7, HR4.out.step hb46, (HT.out.below HB4.out).below hb46, HB4.out.trans (hb46.mono HB4.out.size)⟩ <;> (rw [Lib.cell_of_heap hX6]; rfl)
  have hS := hS.step ((Below.refl _ _).drew)
  generalize w4.heap.size = X at hS ⊢
  clear hX hX6 hb45 hb46 hb5 hb6 hown hR5 HR4 HB4 hW4 hg7 hwb HT
  go_wp2_with fail
  have kS := Lib.hid (fun W W' (h : AwakeS w X b g AE nE cE AL nL cL W) (hb : Below W.heap.size W W') => h.step hb)
  have uS := Lib.hid (fun W (h : AwakeS w X b g AE nE cE AL nL cL W) => h.2.1)
  have rS := Lib.hid (fun W (h : AwakeS w X b g AE nE cE AL nL cL W) => h.2.2.2.1)
  have tS := Lib.hid (fun W (h : AwakeS w X b g AE nE cE AL nL cL W) => h.2.2.2.2.1)
  have bS := Lib.hid (fun W (h : AwakeS w X b g AE nE cE AL nL cL W) => h.2.2.2.2.2)
  go_region_held3 (fun w' => (w'.cell? ⟨X, 0, none⟩ = some (.int .i64 2) ∧ w'.cell? ⟨X, 1, none⟩ = some (.int .i64 0) ∧ w'.cell? ⟨X, 2, none⟩ = some (.slice AE nE cE) ∧ w'.cell? ⟨X, 3, none⟩ = some (.slice AL nL cL) ∧ w'.cell? ⟨X, 4, none⟩ = some (.int .i64 0)) ∧
      w'.cell? ⟨b, 1, none⟩ = some (.int .i64 2) ∧ w'.cell? ⟨g, 0, none⟩ = some (.int .i64 7) ∧
      RunIs w' w'.heap.size (.agg #[.int .i64 2, .int .i64 0, .slice AE nE cE, .slice AL nL cL, .int .i64 0]) F37 ∧ Tab w' ∧ Below w.heap.size w w')
    (first | exact hS | assumption | exact kS.out _ _ (by assumption) (by assumption))
    (first
      | (go_at_call 14; refine (used_any b 2 _ (uS.out _ (by assumption))).mono ?_; rintro e w' ⟨rfl, rfl⟩)
      | (go_at_call 11; (with_reducible refine (run_any 3 7 _).mono ?_); rintro e w' ⟨v, rfl, hR, hbb⟩)
      | (go_at_call 11; (with_reducible refine (run_any 4 7 _).mono ?_); rintro e w' ⟨v, rfl, hR, hbb⟩)
      | (go_at_call 9; refine (text37 _ _ (by assumption) (tS.out _ (by assumption))).mono ?_; rintro e w' ⟨rfl, hbb⟩)
      | (go_at_call 16; refine (call_same R37 R37 true (by decide) _ _ _ ?_ ?_).mono ?_; (first | assumption | exact rS.out _ (by assumption) | exact RunIs.step (by assumption) (by assumption)); (first | assumption | exact rS.out _ (by assumption) | exact RunIs.step (by assumption) (by assumption)); rintro e w' ⟨rfl, hbb⟩)
      | (go_at_call 16; refine (call_same R37 R47 false (by decide) _ _ _ ?_ ?_).mono ?_; (first | assumption | exact rS.out _ (by assumption) | exact RunIs.step (by assumption) (by assumption)); (first | assumption | exact rS.out _ (by assumption) | exact RunIs.step (by assumption) (by assumption)); rintro e w' ⟨rfl, hbb⟩)
      | (go_at_call 17; refine (call_leaks R37 R47 true (by decide) _ _ _ ?_ ?_).mono ?_; (first | assumption | exact rS.out _ (by assumption) | exact RunIs.step (by assumption) (by assumption)); (first | assumption | exact rS.out _ (by assumption) | exact RunIs.step (by assumption) (by assumption)); rintro e w' ⟨rfl, hbb⟩)
      | (go_at_call 10; refine (call_ref F37 R37 true (by decide) _ _ _ ?_ ?_).mono ?_; (first | assumption | exact rS.out _ (by assumption) | exact RunIs.step (by assumption) (by assumption)); (first | assumption | exact rS.out _ (by assumption) | exact RunIs.step (by assumption) (by assumption)); rintro e w' ⟨rfl, hbb⟩)
      | (go_at_call 10; refine (call_ref R47 R37 false (by decide) _ _ _ ?_ ?_).mono ?_; (first | assumption | exact rS.out _ (by assumption) | exact RunIs.step (by assumption) (by assumption)); (first | assumption | exact rS.out _ (by assumption) | exact RunIs.step (by assumption) (by assumption)); rintro e w' ⟨rfl, hbb⟩)
      | (go_at_call 12; refine (prefix_nil _ _ _ 2 0 0 _ _ _ (rS.out _ (by assumption))).mono ?_; rintro e w' ⟨rfl, hbb⟩))
  go_wp2_with fail
  go_ret
  exact ⟨rfl, bS.out _ (by assumption)⟩
end Go.Proofs.YtifknchhcbeekaaDoor
