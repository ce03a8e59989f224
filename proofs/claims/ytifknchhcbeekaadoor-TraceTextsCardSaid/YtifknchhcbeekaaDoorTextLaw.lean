/-
  Two runs of ins and outs have the same text just if they are the same: plain lists of bytes, no program in sight.
-/
import Derived.Test.YtifknchhcbeekaaDoorText
namespace Go.Proofs.YtifknchhcbeekaaDoor
open Go.RowKit Go.Lib

theorem decDigits_digit (u : Nat) : ∀ x ∈ Lib.decDigits u, 48 ≤ x.toNat ∧ x.toNat ≤ 57 := by
  induction u using Nat.strongRecOn with
  | _ u ih =>
    intro x hx
    rw [Lib.decDigits] at hx
    by_cases h : u < 10
    · rw [dif_pos h] at hx
      simp only [List.mem_singleton] at hx
      subst hx
      rw [UInt8.toNat_ofNat']
      omega
    · rw [dif_neg h] at hx
      rcases List.mem_append.1 hx with hx | hx
      · exact ih (u / 10) (by omega) x hx
      · simp only [List.mem_singleton] at hx
        subst hx
        rw [UInt8.toNat_ofNat']
        omega
theorem decDigits_ne (u : Nat) : Lib.decDigits u ≠ [] := by
  intro h
  have := Lib.decDigits_length u
  have := Lib.nDigits_pos u
  rw [h] at *
  simp at *
  omega
theorem ofNat_inj {a b : Nat} (ha : a < 10) (hb : b < 10) (h : UInt8.ofNat (48 + a) = UInt8.ofNat (48 + b)) : a = b := by
  have := congrArg UInt8.toNat h
  rw [UInt8.toNat_ofNat', UInt8.toNat_ofNat'] at this
  omega
theorem decDigits_inj (u : Nat) : ∀ v, Lib.decDigits u = Lib.decDigits v → u = v := by
  induction u using Nat.strongRecOn with
  | _ u ih =>
    intro v h
    rw [Lib.decDigits, Lib.decDigits.eq_def v] at h
    by_cases hu : u < 10
    · rw [dif_pos hu] at h
      by_cases hv : v < 10
      · rw [dif_pos hv] at h
        exact ofNat_inj hu hv (by simpa using h)
      · rw [dif_neg hv] at h
        have hl := congrArg List.length h
        simp at hl
        exact absurd hl (decDigits_ne _)
    · rw [dif_neg hu] at h
      by_cases hv : v < 10
      · rw [dif_pos hv] at h
        have hl := congrArg List.length h
        simp at hl
        exact absurd hl (decDigits_ne _)
      · rw [dif_neg hv] at h
        obtain ⟨h1, h2⟩ := List.append_inj' h rfl
        have e1 := ih (u / 10) (by omega) (v / 10) h1
        have e2 := ofNat_inj (Nat.mod_lt u (by omega)) (Nat.mod_lt v (by omega)) (List.cons.inj h2).1
        omega
theorem itoa_byte (n : Int) : ∀ x ∈ Lib.itoa n, x ≠ 10 := by
  intro x hx e
  subst e
  unfold Lib.itoa at hx
  split at hx
  · rcases List.mem_cons.1 hx with h | h
    · cases h
    · have := decDigits_digit _ _ h
      simp at this
  · have := decDigits_digit _ _ hx
    simp at this
theorem itoa_inj {m n : Int} (h : Lib.itoa m = Lib.itoa n) : m = n := by
  have key : ∀ (a b : Nat), (45 : UInt8) :: Lib.decDigits a ≠ Lib.decDigits b := fun a b e => by
    have := decDigits_digit b 45 (by rw [← e]; simp)
    simp at this
  unfold Lib.itoa at h
  split at h <;> split at h
  · have := decDigits_inj _ _ (List.cons.inj h).2
    omega
  · exact absurd h (key _ _)
  · exact absurd h.symm (key _ _)
  · have := decDigits_inj _ _ h
    omega

/-- a list up to its first line's end -/
theorem split_line {a b x y : List UInt8} (ha : ∀ c ∈ a, c ≠ 10) (hb : ∀ c ∈ b, c ≠ 10) (h : a ++ 10 :: x = b ++ 10 :: y) : a = b ∧ x = y := by
  induction a generalizing b with
  | nil =>
    cases b with
    | nil => exact ⟨rfl, (List.cons.inj h).2⟩
    | cons c r => exact absurd (List.cons.inj h).1.symm (hb c (by simp))
  | cons c r ih =>
    cases b with
    | nil => exact absurd (List.cons.inj h).1 (ha c (by simp))
    | cons d s =>
      obtain ⟨h1, h2⟩ := List.cons.inj h
      obtain ⟨h3, h4⟩ := ih (fun c hc => ha c (by simp [hc])) (fun c hc => hb c (by simp [hc])) h2
      exact ⟨by rw [h1, h3], h4⟩

def Plain (l : List Ev) : Prop := ∀ e ∈ l, e.1 = 1 ∨ e.1 = 2
theorem kindW_head (r : Rn) (h1 : 1 ≤ r.kind) (h4 : r.kind ≤ 4) : ∃ x y t, kindW r = x :: y :: t ∧ ((x = 104) ∨ (x = 102) ∨ (x = 115) ∨ (x = 111 ∧ y = 118)) := by
  unfold kindW
  by_cases c1 : r.kind = 1
  · rw [if_pos c1]; exact ⟨_, _, _, rfl, by simp⟩
  · rw [if_neg c1]
    by_cases c2 : r.kind = 2
    · rw [if_pos c2]; exact ⟨_, _, _, rfl, by simp⟩
    · rw [if_neg c2]
      by_cases c3 : r.kind = 3
      · rw [if_pos c3]; exact ⟨_, _, _, rfl, by simp⟩
      · rw [if_neg c3]
        by_cases c4 : r.kind = 4
        · rw [if_pos c4]; exact ⟨_, _, _, rfl, by simp⟩
        · omega
theorem evLine_head (e : Ev) : ∃ x y t, evLine e = x :: y :: t ∧ ((x = 105 ∧ e.1 ≠ 2) ∨ (x = 111 ∧ y = 117 ∧ e.1 = 2)) := by
  unfold evLine outW inW
  by_cases h : e.1 = 2
  · rw [if_pos h]; exact ⟨_, _, _, rfl, by simp [h]⟩
  · rw [if_neg h]; exact ⟨_, _, _, rfl, by simp [h]⟩
theorem line_ne_kind (e : Ev) (X : List UInt8) (r : Rn) (Y : List UInt8) (h1 : 1 ≤ r.kind) (h4 : r.kind ≤ 4) : evLine e ++ X ≠ kindW r ++ Y := by
  intro h
  obtain ⟨x, y, t, e1, c1⟩ := evLine_head e
  obtain ⟨x', y', t', e2, c2⟩ := kindW_head r h1 h4
  rw [e1, e2] at h
  simp only [List.cons_append, List.cons.injEq] at h
  obtain ⟨rfl, rfl, _⟩ := h
  rcases c1 with ⟨rfl, _⟩ | ⟨rfl, rfl, _⟩ <;> simp at c2
theorem line_inj {e f : Ev} {X Y : List UInt8} (he : e.1 = 1 ∨ e.1 = 2) (hf : f.1 = 1 ∨ f.1 = 2) (h : evLine e ++ X = evLine f ++ Y) : e = f ∧ X = Y := by
  have hw : ∀ g : Ev, evLine g ++ X = (if g.1 = 2 then outW else inW) ++ (Lib.itoa g.2 ++ 10 :: X) := fun g => by simp [evLine]
  have hw' : ∀ g : Ev, evLine g ++ Y = (if g.1 = 2 then outW else inW) ++ (Lib.itoa g.2 ++ 10 :: Y) := fun g => by simp [evLine]
  rw [hw, hw'] at h
  obtain ⟨e1, e2⟩ := e
  obtain ⟨f1, f2⟩ := f
  simp only at h he hf
  rcases he with rfl | rfl <;> rcases hf with rfl | rfl
  · simp only [inW] at h
    have h := List.append_cancel_left h
    obtain ⟨h1, h2⟩ := split_line (itoa_byte _) (itoa_byte _) h
    rw [itoa_inj h1]
    exact ⟨rfl, h2⟩
  · simp [inW, outW] at h
  · simp [inW, outW] at h
  · simp only [outW] at h
    have h := List.append_cancel_left h
    obtain ⟨h1, h2⟩ := split_line (itoa_byte _) (itoa_byte _) h
    rw [itoa_inj h1]
    exact ⟨rfl, h2⟩

def sameText (a b : Rn) : Bool := decide (a.evs = b.evs) && decide (a.kind = b.kind) && (decide (a.kind ≠ 1) || decide (a.exit = b.exit))

theorem kind_inj {a b : Rn} (h1 : 1 ≤ a.kind) (h4 : a.kind ≤ 4) (g1 : 1 ≤ b.kind) (g4 : b.kind ≤ 4) (h : kindW a = kindW b) : a.kind = b.kind ∧ (a.kind ≠ 1 ∨ a.exit = b.exit) := by
  obtain ⟨ak, ax, ae, al, aS⟩ := a
  obtain ⟨bk, bx, be, bl, bS⟩ := b
  simp only at *
  have ha : ak = 1 ∨ ak = 2 ∨ ak = 3 ∨ ak = 4 := by omega
  have hb : bk = 1 ∨ bk = 2 ∨ bk = 3 ∨ bk = 4 := by omega
  rcases ha with rfl | rfl | rfl | rfl <;> rcases hb with rfl | rfl | rfl | rfl <;> simp [kindW] at h ⊢
  exact itoa_inj h
theorem text_same (a b : Rn) (h1 : 1 ≤ a.kind) (h4 : a.kind ≤ 4) (g1 : 1 ≤ b.kind) (g4 : b.kind ≤ 4) (ha : Plain a.evs) (hb : Plain b.evs) : decide (textL a = textL b) = sameText a b := by
  rw [sameText]
  by_cases hs : a.evs = b.evs ∧ a.kind = b.kind ∧ (a.kind ≠ 1 ∨ a.exit = b.exit)
  · obtain ⟨he, hk, hx⟩ := hs
    have : textL a = textL b := by
      unfold textL kindW
      rw [he, ← hk]
      rcases hx with hx | hx
      · rw [if_neg hx, if_neg hx]
      · rw [hx]
    rcases hx with hx | hx <;> simp [this, he, ← hk, hx]
  · have hne : textL a ≠ textL b := by
      intro h
      apply hs
      have key : ∀ (l m : List Ev), Plain l → Plain m → evText l ++ (kindW a ++ [10]) = evText m ++ (kindW b ++ [10]) → l = m ∧ kindW a = kindW b := by
        intro l
        induction l with
        | nil =>
          intro m _ hm e
          cases m with
          | nil =>
            simp only [evText, List.flatMap_nil, List.nil_append] at e
            exact ⟨rfl, (List.append_inj' e rfl).1⟩
          | cons f s =>
            simp only [evText, List.flatMap_nil, List.nil_append, List.flatMap_cons, List.append_assoc] at e
            exact absurd e.symm (line_ne_kind f _ a _ h1 h4)
        | cons x r ih =>
          intro m hl hm e
          cases m with
          | nil =>
            simp only [evText, List.flatMap_nil, List.nil_append, List.flatMap_cons, List.append_assoc] at e
            exact absurd e (line_ne_kind x _ b _ g1 g4)
          | cons f s =>
            simp only [evText, List.flatMap_cons, List.append_assoc] at e
            obtain ⟨e1, e2⟩ := line_inj (hl x (by simp)) (hm f (by simp)) e
            obtain ⟨e3, e4⟩ := ih s (fun y hy => hl y (by simp [hy])) (fun y hy => hm y (by simp [hy])) e2
            exact ⟨by rw [e1, e3], e4⟩
      unfold textL at h
      rw [List.append_assoc, List.append_assoc] at h
      obtain ⟨e1, e2⟩ := key _ _ ha hb h
      exact ⟨e1, kind_inj h1 h4 g1 g4 e2⟩
    rw [decide_eq_false hne]
    symm
    rw [Bool.eq_false_iff]
    intro h
    apply hs
    simpa [and_assoc] using h
end Go.Proofs.YtifknchhcbeekaaDoor
