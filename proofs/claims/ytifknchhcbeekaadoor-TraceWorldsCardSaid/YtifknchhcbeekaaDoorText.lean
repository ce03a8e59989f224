/-
  trace.Text: the text of a run, for every run whose numbers are 64-bit ones and whose events are at most 1000.
-/
import Derived.Test.YtifknchhcbeekaaDoorBuild
import Derived.Test.YtifknchhcbeekaaDoorRefines
import Derived.Lib.AppendIntMem
import Derived.Lib.ItoaLen
import Derived.Deep.DeepFit
namespace Go.Proofs.YtifknchhcbeekaaDoor
open Go.RowKit Go.Lib

abbrev Tab (w : World) : Prop := Lib.TabIs Tryd.prog w "internal/strconv.uint64pow10" .u64 Lib.pow10Tab
theorem Tab.below {w w' : World} (h : Tab w) (hb : Below w.heap.size w w') : Tab w' := Lib.tabBelow_of_tabIs h w' hb

/-- FormatInt in base ten -/
def FI (n : Int) (w : World) (e : Ending) (w' : World) : Prop := e = .returned (.string ⟨(Lib.itoa n).toArray⟩) ∧ Below w.heap.size w w'
theorem fmt_any (n : Int) (h0 : -9223372036854775808 ≤ n) (h1 : n ≤ 9223372036854775807) (w : World) (ht : Tab w) :
    Calls Tryd.prog 21 #[.int .i64 n, .int .i64 10] w (FI n w) :=
  (Tryd.strconv_FormatInt_10 n h0 h1 w ht).mono fun e w' ⟨he, k, os, hw⟩ => ⟨he, by subst hw; exact Lib.below_grow _ _ (Nat.le_refl _) k os⟩

def outW : List UInt8 := [111, 117, 116, 32]
def inW : List UInt8 := [105, 110, 32]
def evLine (e : Ev) : List UInt8 := (if e.1 = 2 then outW else inW) ++ Lib.itoa e.2 ++ [10]
def evText (l : List Ev) : List UInt8 := l.flatMap evLine
def kindW (r : Rn) : List UInt8 :=
  if r.kind = 1 then [104, 97, 108, 116, 32] ++ Lib.itoa r.exit
  else if r.kind = 2 then [102, 117, 101, 108]
  else if r.kind = 3 then [115, 116, 117, 99, 107]
  else if r.kind = 4 then [111, 118, 101, 114, 102, 108, 111, 119]
  else [110, 111, 110, 101]
def textL (r : Rn) : List UInt8 := evText r.evs ++ kindW r ++ [10]

def Fits (n : Int) : Prop := -9223372036854775808 ≤ n ∧ n ≤ 9223372036854775807

theorem heap_lt {w : World} {b : Nat} {o : Obj} (h : w.heap[b]? = some o) : b < w.heap.size := by
  rcases Nat.lt_or_ge b w.heap.size with h' | h'
  · exact h'
  · simp [Array.getElem?_eq_none h'] at h
theorem own_below {w w' : World} {B : Nat} {t : TypeId} {size n : Nat} {v : Value} {xs : List Value} (h : w.ownsRow B t size v n xs) (hb : Below w.heap.size w w') : w'.ownsRow B t size v n xs := by
  obtain ⟨h1, h2⟩ := h
  refine ⟨h1, ?_⟩
  rcases h2 with h2 | ⟨g, cap, cur, hv, hg, hh, r⟩
  · exact Or.inl h2
  · exact Or.inr ⟨g, cap, cur, hv, hg, by rw [hb.block g (heap_lt hh)]; exact hh, r⟩
theorem builderAt_below {w w' : World} {B b : Nat} {p : Value} {bs : List Value} (h : Lib.BuilderAt 45 5 B b p bs w) (hb : Below w.heap.size w w') : Lib.BuilderAt 45 5 B b p bs w' := by
  obtain ⟨hB, v, hbk, hown, hne⟩ := h
  exact ⟨hB, v, by rw [hb.block b (heap_lt hbk)]; exact hbk, own_below hown hb, hne⟩
theorem isBuilder_below {w w' : World} {B b : Nat} {bs : List Value} (h : Lib.IsBuilder 45 5 B b bs w) (hb : Below w.heap.size w w') : Lib.IsBuilder 45 5 B b bs w' := by
  rcases h with h | h
  · exact Or.inl (builderAt_below h hb)
  · exact Or.inr (builderAt_below h hb)

theorem cells3 (a b c : List UInt8) : Lib.strCells ({ data := a.toArray } ++ { data := b.toArray } ++ { data := c.toArray }) = Lib.byteCells (a ++ b ++ c) := by
  simp [Lib.strCells, Lib.byteCells, ByteArray.data_append]
theorem size3 (a b c : List UInt8) : (({ data := a.toArray } ++ { data := b.toArray } ++ { data := c.toArray } : ByteArray)).size = a.length + b.length + c.length := by
  simp [ByteArray.size]; omega
theorem cat2 (a b : List UInt8) : ({ data := a.toArray } ++ { data := b.toArray } : ByteArray) = { data := (a ++ b).toArray } := by
  apply ByteArray.ext
  simp [ByteArray.data_append]
theorem ret_str {a b : ByteArray} (h : a = b) : Ending.returned (.string a) = .returned (.string b) := by rw [h]
theorem evLine_len (e : Ev) (h : Fits e.2) : (evLine e).length ≤ 26 := by
  have := Lib.itoa_length_le e.2 h.1 h.2
  unfold evLine outW inW
  split <;> simp <;> omega
theorem evText_len (l : List Ev) (h : ∀ e ∈ l, Fits e.2) : (evText l).length ≤ l.length * 26 := by
  induction l with
  | nil => simp [evText]
  | cons x r ih =>
    have h1 := evLine_len x (h x (by simp))
    have h2 := ih (fun e he => h e (by simp [he]))
    simp only [evText, List.flatMap_cons, List.length_append, List.length_cons] at h2 ⊢
    omega
theorem evText_snoc (l : List Ev) (x : Ev) : evText (l ++ [x]) = evText l ++ evLine x := by simp [evText]

set_option maxHeartbeats 2000000 in
set_option maxRecDepth 100000 in
theorem text_any (v : Value) (r : Rn) (w : World) (h : RunIs w w.heap.size v r) (ht : Tab w) (hf : ∀ e ∈ r.evs, Fits e.2) (hx : Fits r.exit) (hlen : r.evs.length ≤ 1000) :
    Calls Tryd.prog 9 #[v] w fun e w' => e = .returned (.string ⟨(textL r).toArray⟩) ∧ Below w.heap.size w w' := by
  obtain ⟨A, n, c, L, k, p, rfl, e1, hc, hcc, -, hp, hpp⟩ := h
  have hn : n ≤ 1000 := by rw [← e1.1]; exact hlen
  have H := Lib.hid e1
  have HF := Lib.hid hf
  have HX := Lib.hid hx
  clear e1 hf hx hlen
  obtain ⟨rk, rx, re, rl, rs⟩ := r
  simp only at H HF HX ⊢
  have hfz := Lib.fresh_isBuilder 45 5 (w.alloc (.cells #[.int .i64 rk, .int .i64 rx, .slice A n c, .slice L k p, .int .i64 rs] 27))
  have hbs : Below (w.heap.size + 1) (w.alloc (.cells #[.int .i64 rk, .int .i64 rx, .slice A n c, .slice L k p, .int .i64 rs] 27)) ((w.alloc (.cells #[.int .i64 rk, .int .i64 rx, .slice A n c, .slice L k p, .int .i64 rs] 27)).alloc (.cells #[.pointer none, .slice none 0 0] 45)) :=
    (Below.refl _ _).alloc (by simp) _
  have HI := Lib.hid (And.intro hfz hbs)
  have HT := Lib.hid ht
  clear hfz hbs ht
  go_enter Tryd.func9, Tryd.ntmps9
  go_wp2
  go_loopg [10] n (fun g s10 wr => ∃ i : Nat, i ≤ n ∧ n - i ≤ g ∧ s10 = .int .i64 i ∧
    Hid (Lib.IsBuilder 45 5 (w.heap.size + 1) (w.heap.size + 1) (Lib.byteCells (evText (re.take i))) wr ∧ Below (w.heap.size + 1) (w.alloc (.cells #[.int .i64 rk, .int .i64 rx, .slice A n c, .slice L k p, .int .i64 rs] 27)) wr))
  case atStart => exact ⟨0, Nat.zero_le _, by omega, rfl, by simpa [Lib.hid, Hid, World.size_alloc, evText, Lib.byteCells] using HI.out⟩
  case round =>
    obtain ⟨i, hi, hg, rfl, R⟩ := hrel
    by_cases hlt : i < n
    · obtain ⟨x, hx⟩ : ∃ x, re[i]? = some x := ⟨_, List.getElem?_eq_getElem (by have := H.out.1; omega)⟩
      have hw0 : Below w.heap.size w wr := ((Below.refl _ _).alloc (Nat.le_refl _) _).trans (R.out.2.mono (by omega))
      obtain ⟨b1, o1, rfl, hlb, hc0, hc1⟩ := (H.out.below hw0).at_ hx
      have hsz : w.heap.size + 1 < wr.heap.size := by
        rcases R.out.1 with h | h <;> exact h.lt
      have hFx := HF.out _ (List.mem_of_getElem? hx)
      have hil := Lib.itoa_length_le x.2 hFx.1 hFx.2
      have hTl : (evText (re.take i)).length ≤ 26000 := by
        have h1 := evText_len (re.take i) (fun e he => HF.out e (List.mem_of_mem_take he))
        have h2 : (re.take i).length ≤ i := List.length_take_le _ _
        omega
      have hTs : evText (re.take (i + 1)) = evText (re.take i) ++ evLine x := by rw [take_succ_ _ _ _ hx, evText_snoc]
      have X := Lib.hid (And.intro hFx (And.intro hw0 (And.intro hTl hTs)))
      clear hx hw0 hFx hTl hTs
      obtain ⟨x0, x1⟩ := x
      simp only at hc0 hc1 hil
      cases hxy : (x0 == 2)
      · have EX : Hid ((if (x0, x1).1 = 2 then outW else inW) = inW) := Lib.hid (if_neg (by simpa using hxy))
        go_wp2_with fail
        refine (fmt_any x1 X.out.1.1 X.out.1.2 _ ?_).mono ?_
        · exact (HT.out.below X.out.2.1).below (by exact (Below.refl _ _).alloc (Nat.le_refl _) _)
        rintro e w1 ⟨rfl, hb1⟩
        have hw1 : Below wr.heap.size wr w1 := ((Below.refl _ _).alloc (by omega) _).trans (hb1.mono (by simp))
        have hBd := isBuilder_below R.out.1 hw1
        clear hb1
        go_wp2_with fail
        refine (write_any (w.heap.size + 1) (w.heap.size + 1) _ _ _ hBd ?_ ?_).mono ?_
        · show _ + (({ data := inW.toArray } ++ { data := (Lib.itoa x1).toArray } ++ { data := [10].toArray } : ByteArray)).size ≤ _
          rw [Lib.byteCells_length, size3 inW _ [10]]
          have := X.out.2.2.1
          simp [inW]
          omega
        · have := hw1.size; omega
        rintro e w2 ⟨rfl, hB2, hb2⟩
        go_wp2_with fail
        go_roundg (n - (i + 1))
        case measure => omega
        case rel =>
          refine ⟨i + 1, by omega, by omega, by go_num, Lib.hid ⟨Or.inr ?_, R.out.2.trans ((hw1.mono (by omega)).trans hb2)⟩⟩
          rw [X.out.2.2.2, Lib.byteCells_append]
          have hl : Lib.byteCells (evLine (x0, x1)) = Lib.strCells ({ data := inW.toArray } ++ { data := (Lib.itoa x1).toArray } ++ { data := [10].toArray }) := by
            unfold evLine
            rw [EX.out, cells3]
          rw [hl]
          exact hB2
      · have EX : Hid ((if (x0, x1).1 = 2 then outW else inW) = outW) := Lib.hid (if_pos (by simpa using hxy))
        go_wp2_with fail
        refine (fmt_any x1 X.out.1.1 X.out.1.2 _ ?_).mono ?_
        · exact (HT.out.below X.out.2.1).below (by exact (Below.refl _ _).alloc (Nat.le_refl _) _)
        rintro e w1 ⟨rfl, hb1⟩
        have hw1 : Below wr.heap.size wr w1 := ((Below.refl _ _).alloc (by omega) _).trans (hb1.mono (by simp))
        have hBd := isBuilder_below R.out.1 hw1
        clear hb1
        go_wp2_with fail
        refine (write_any (w.heap.size + 1) (w.heap.size + 1) _ _ _ hBd ?_ ?_).mono ?_
        · show _ + (({ data := outW.toArray } ++ { data := (Lib.itoa x1).toArray } ++ { data := [10].toArray } : ByteArray)).size ≤ _
          rw [Lib.byteCells_length, size3 outW _ [10]]
          have := X.out.2.2.1
          simp [outW]
          omega
        · have := hw1.size; omega
        rintro e w2 ⟨rfl, hB2, hb2⟩
        go_wp2_with fail
        go_roundg (n - (i + 1))
        case measure => omega
        case rel =>
          refine ⟨i + 1, by omega, by omega, by go_num, Lib.hid ⟨Or.inr ?_, R.out.2.trans ((hw1.mono (by omega)).trans hb2)⟩⟩
          rw [X.out.2.2.2, Lib.byteCells_append]
          have hl : Lib.byteCells (evLine (x0, x1)) = Lib.strCells ({ data := outW.toArray } ++ { data := (Lib.itoa x1).toArray } ++ { data := [10].toArray }) := by
            unfold evLine
            rw [EX.out, cells3]
          rw [hl]
          exact hB2
    · obtain rfl : i = n := by omega
      have hbx : Below (w.heap.size + 1) (w.alloc (.cells #[.int .i64 rk, .int .i64 rx, .slice A i c, .slice L k p, .int .i64 rs] 27)) wr := R.out.2
      have hk0 : wr.cell? ⟨w.heap.size, 0, none⟩ = some (.int .i64 rk) := by rw [hbx.cell (by simp)]; simp
      have hk1 : wr.cell? ⟨w.heap.size, 1, none⟩ = some (.int .i64 rx) := by rw [hbx.cell (by simp)]; simp
      have hRe : re.take i = re := List.take_of_length_le (by have := H.out.1; omega)
      have hI0 := R.out.1
      have hTl : (evText re).length ≤ 26000 := by
        have h1 := evText_len re (fun e he => HF.out e he)
        have h2 := H.out.1
        omega
      have hs1 : w.heap.size + 1 < wr.heap.size := by rcases hI0 with h | h <;> exact h.lt
      have hbw : Below w.heap.size w wr := ((Below.refl _ _).alloc (Nat.le_refl _) _).trans (R.out.2.mono (by omega))
      have HRe := Lib.hid hRe
      clear hRe hbx
      by_cases k1 : rk = 1
      · subst k1
        have hxx := HX.out
        have hil := Lib.itoa_length_le rx hxx.1 hxx.2
        go_wp2_with fail
        refine (fmt_any rx hxx.1 hxx.2 _ (HT.out.below hbw)).mono ?_
        rintro e w1 ⟨rfl, hb1⟩
        have hBd := isBuilder_below hI0 hb1
        go_wp2_with fail
        refine (write_any (w.heap.size + 1) (w.heap.size + 1) _ _ _ hBd ?_ ?_).mono ?_
        · show _ + (({ data := [104, 97, 108, 116, 32].toArray } ++ { data := (Lib.itoa rx).toArray } : ByteArray)).size ≤ _
          rw [Lib.byteCells_length, cat2, HRe.out]
          simp [ByteArray.size]
          omega
        · have := hb1.size; omega
        have hRe := HRe.out
        rintro e w2 ⟨rfl, hB2, hb2⟩
        have hI : Lib.IsBuilder 45 5 (w.heap.size + 1) (w.heap.size + 1) (Lib.byteCells (evText re ++ ([104, 97, 108, 116, 32] ++ Lib.itoa rx))) w2 := Or.inr (by
          rw [Lib.byteCells_append]
          rw [hRe] at hB2
          have hl : Lib.byteCells ([104, 97, 108, 116, 32] ++ Lib.itoa rx) = Lib.strCells ({ data := [104, 97, 108, 116, 32].toArray } ++ { data := (Lib.itoa rx).toArray }) := by rw [cat2]; rfl
          rw [hl]
          exact hB2)
        have hL : (evText re ++ ([104, 97, 108, 116, 32] ++ Lib.itoa rx)).length ≤ 27000 := by simp; omega
        clear hRe
        have hz2 : w.heap.size + 1 ≤ w2.heap.size := by have := hb2.size; have := hb1.size; omega
        go_wp2_with fail
        refine (Tryd.Builder_String_any _ _ _ _ hI hz2).mono ?_
        rintro e w3 ⟨rfl, hb3⟩
        generalize hGK : evText re ++ ([104, 97, 108, 116, 32] ++ Lib.itoa rx) = G at hL
        have HG := Lib.hid hGK
        clear hGK hI
        go_wp2_with fail
        go_ret
        refine ⟨ret_str ?_, ?_⟩
        · have e : textL ⟨1, rx, re, rl, rs⟩ = G ++ [10] := by rw [← HG.out]; simp [textL, kindW]
          rw [e]
          exact cat2 _ [10]
        · exact ((hbw.trans (hb1.mono (by omega))).trans (hb2.mono (by omega))).trans (hb3.mono (by omega))
      · have t1 : (rk == 1) = false := by simpa using k1
        by_cases k2 : rk = 2
        · subst k2
          clear k1 t1
          go_wp2_with fail
          refine (write_any (w.heap.size + 1) (w.heap.size + 1) _ _ _ hI0 ?_ ?_).mono ?_
          · rw [Lib.byteCells_length, HRe.out]
            simp [ByteArray.size]
            omega
          · omega
          have hRe := HRe.out
          rintro e w2 ⟨rfl, hB2, hb2⟩
          have hI : Lib.IsBuilder 45 5 (w.heap.size + 1) (w.heap.size + 1) (Lib.byteCells (evText re ++ [102, 117, 101, 108])) w2 := Or.inr (by
            rw [Lib.byteCells_append]
            rw [hRe] at hB2
            exact hB2)
          have hL : (evText re ++ [102, 117, 101, 108]).length ≤ 27000 := by simp; omega
          clear hRe
          have hz2 : w.heap.size + 1 ≤ w2.heap.size := by have := hb2.size; omega
          go_wp2_with fail
          refine (Tryd.Builder_String_any _ _ _ _ hI hz2).mono ?_
          rintro e w3 ⟨rfl, hb3⟩
          generalize hGK : evText re ++ [102, 117, 101, 108] = G at hL
          have HG := Lib.hid hGK
          clear hGK hI
          go_wp2_with fail
          go_ret
          refine ⟨ret_str ?_, ?_⟩
          · have e : textL ⟨2, rx, re, rl, rs⟩ = G ++ [10] := by rw [← HG.out]; simp [textL, kindW]
            rw [e]
            exact cat2 _ [10]
          · exact (hbw.trans (hb2.mono (by omega))).trans (hb3.mono (by omega))
        · have t2 : (rk == 2) = false := by simpa using k2
          by_cases k3 : rk = 3
          · subst k3
            clear k1 k2 t1 t2
            go_wp2_with fail
            refine (write_any (w.heap.size + 1) (w.heap.size + 1) _ _ _ hI0 ?_ ?_).mono ?_
            · rw [Lib.byteCells_length, HRe.out]
              simp [ByteArray.size]
              omega
            · omega
            have hRe := HRe.out
            rintro e w2 ⟨rfl, hB2, hb2⟩
            have hI : Lib.IsBuilder 45 5 (w.heap.size + 1) (w.heap.size + 1) (Lib.byteCells (evText re ++ [115, 116, 117, 99, 107])) w2 := Or.inr (by
              rw [Lib.byteCells_append]
              rw [hRe] at hB2
              exact hB2)
            have hL : (evText re ++ [115, 116, 117, 99, 107]).length ≤ 27000 := by simp; omega
            clear hRe
            have hz2 : w.heap.size + 1 ≤ w2.heap.size := by have := hb2.size; omega
            go_wp2_with fail
            refine (Tryd.Builder_String_any _ _ _ _ hI hz2).mono ?_
            rintro e w3 ⟨rfl, hb3⟩
            generalize hGK : evText re ++ [115, 116, 117, 99, 107] = G at hL
            have HG := Lib.hid hGK
            clear hGK hI
            go_wp2_with fail
            go_ret
            refine ⟨ret_str ?_, ?_⟩
            · have e : textL ⟨3, rx, re, rl, rs⟩ = G ++ [10] := by rw [← HG.out]; simp [textL, kindW]
              rw [e]
              exact cat2 _ [10]
            · exact (hbw.trans (hb2.mono (by omega))).trans (hb3.mono (by omega))
          · have t3 : (rk == 3) = false := by simpa using k3
            by_cases k4 : rk = 4
            · subst k4
              clear k1 k2 k3 t1 t2 t3
              go_wp2_with fail
              refine (write_any (w.heap.size + 1) (w.heap.size + 1) _ _ _ hI0 ?_ ?_).mono ?_
              · rw [Lib.byteCells_length, HRe.out]
                simp [ByteArray.size]
                omega
              · omega
              have hRe := HRe.out
              rintro e w2 ⟨rfl, hB2, hb2⟩
              have hI : Lib.IsBuilder 45 5 (w.heap.size + 1) (w.heap.size + 1) (Lib.byteCells (evText re ++ [111, 118, 101, 114, 102, 108, 111, 119])) w2 := Or.inr (by
                rw [Lib.byteCells_append]
                rw [hRe] at hB2
                exact hB2)
              have hL : (evText re ++ [111, 118, 101, 114, 102, 108, 111, 119]).length ≤ 27000 := by simp; omega
              clear hRe
              have hz2 : w.heap.size + 1 ≤ w2.heap.size := by have := hb2.size; omega
              go_wp2_with fail
              refine (Tryd.Builder_String_any _ _ _ _ hI hz2).mono ?_
              rintro e w3 ⟨rfl, hb3⟩
              generalize hGK : evText re ++ [111, 118, 101, 114, 102, 108, 111, 119] = G at hL
              have HG := Lib.hid hGK
              clear hGK hI
              go_wp2_with fail
              go_ret
              refine ⟨ret_str ?_, ?_⟩
              · have e : textL ⟨4, rx, re, rl, rs⟩ = G ++ [10] := by rw [← HG.out]; simp [textL, kindW]
                rw [e]
                exact cat2 _ [10]
              · exact (hbw.trans (hb2.mono (by omega))).trans (hb3.mono (by omega))
            · have t4 : (rk == 4) = false := by simpa using k4
              have KD := Lib.hid (And.intro k1 (And.intro k2 (And.intro k3 k4)))
              clear k1 k2 k3 k4
              go_wp2_with fail
              refine (write_any (w.heap.size + 1) (w.heap.size + 1) _ _ _ hI0 ?_ ?_).mono ?_
              · rw [Lib.byteCells_length, HRe.out]
                simp [ByteArray.size]
                omega
              · omega
              have hRe := HRe.out
              rintro e w2 ⟨rfl, hB2, hb2⟩
              have hI : Lib.IsBuilder 45 5 (w.heap.size + 1) (w.heap.size + 1) (Lib.byteCells (evText re ++ [110, 111, 110, 101])) w2 := Or.inr (by
                rw [Lib.byteCells_append]
                rw [hRe] at hB2
                exact hB2)
              have hL : (evText re ++ [110, 111, 110, 101]).length ≤ 27000 := by simp; omega
              clear hRe
              have hz2 : w.heap.size + 1 ≤ w2.heap.size := by have := hb2.size; omega
              go_wp2_with fail
              refine (Tryd.Builder_String_any _ _ _ _ hI hz2).mono ?_
              rintro e w3 ⟨rfl, hb3⟩
              generalize hGK : evText re ++ [110, 111, 110, 101] = G at hL
              have HG := Lib.hid hGK
              clear hGK hI
              go_wp2_with fail
              go_ret
              refine ⟨ret_str ?_, ?_⟩
              · have e : textL ⟨rk, rx, re, rl, rs⟩ = G ++ [10] := by rw [← HG.out]; simp [textL, kindW, KD.out]
                rw [e]
                exact cat2 _ [10]
              · exact (hbw.trans (hb2.mono (by omega))).trans (hb3.mono (by omega))
end Go.Proofs.YtifknchhcbeekaaDoor
