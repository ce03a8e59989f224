import Derived.Test.YtjgpbpmicopemaaGreatDoorPb14
import Derived.Test.YtjgpbpmicopemaaGreatDoorPb13
import Derived.Test.YtjgpbpmicopemaaGreatDoorPb07
import Derived.Test.YtjgpbpmicopemaaGreatDoorPb11
import Derived.Deep.RegionHeld3
import Derived.Deep.RegionLaw

/-
  A type's words.
-/
namespace Go.Proofs.YtjgpbpmicopemaaGreatDoor
open Go.RowKit Go.Lib
set_option maxRecDepth 20000

theorem typedT_le : ∀ l : Bs, (typedT l).length ≤ 3 * l.length
  | [] => Nat.le_refl _
  | c :: l => by
    have := typedT_le l
    unfold typedT
    simp only [List.length_append, List.length_cons]
    split <;> split <;> simp <;> omega
theorem drop_at (t : Bs) (k : Nat) (h : k < t.length) : typedT (t.drop k) = (if t[k] = 42 ∨ t[k] = 91 ∨ t[k] = 93 then [32] else []) ++ t[k] :: ((if t[k] = 91 then [32] else []) ++ typedT (t.drop (k + 1))) := by
  rw [List.drop_eq_getElem_cons h]
  rfl
theorem isBuilder_alloc {T e : TypeId} {B b : Nat} {bs : List Value} {w : World} (h : Lib.IsBuilder T e B b bs w) (o : Obj) : Lib.IsBuilder T e B b bs (w.alloc o) := by
  rcases h with ⟨h1, v, h2, h3, h4⟩ | ⟨h1, v, h2, h3, h4⟩
  · exact .inl ⟨h1, v, at_alloc h2 o, h3.alloc o, h4⟩
  · exact .inr ⟨h1, v, at_alloc h2 o, h3.alloc o, h4⟩
set_option maxHeartbeats 8000000 in
theorem wordsOfZ (t : Bs) (ht : t.length ≤ 400000) (ha : ∀ c ∈ t, c.toNat < 128) (w : World) : Calls Tryz.prog 34 #[str t] w fun e w' => e = .returned (str (typedT t)) ∧ Below w.heap.size w w' := by
  unfold str
  go_enter Tryz.func34, Tryz.ntmps34
  go_wp2_with fail
  have hsz : (⟨t.toArray⟩ : ByteArray).size = t.length := by simp [ByteArray.size]
  go_loopw [] (fun wr => ∃ (pos : Nat) (acc : Bs), pos ≤ t.length ∧ Lib.IsBuilder 94 5 w.heap.size w.heap.size (Lib.byteCells acc) wr ∧ wr.heap[w.heap.size + 1]? = some (.stringIter ⟨t.toArray⟩ pos) ∧ Below w.heap.size w wr ∧ acc ++ typedT (t.drop pos) = typedT t ∧ acc.length ≤ 3 * pos) (fun wr => t.length - wr.iterPos (w.heap.size + 1))
  case atStart =>
    refine ⟨0, [], by omega, ?_, ?_, ((Below.refl _ w).alloc (Nat.le_refl _) _).alloc (by simp) _, rfl, by simp⟩
    · exact isBuilder_alloc (Lib.fresh_isBuilder 94 5 w) _
    · have := World.iter_heap (w.alloc (.cells #[.pointer none, .slice none 0 0] 94)) ⟨t.toArray⟩ 0
      simpa using this
  case round =>
    obtain ⟨pos, acc, hpt, hI, hit, hbw, hacc, hal⟩ := hrel
    have hszr : w.heap.size + 1 < wr.heap.size := (Array.getElem?_eq_some_iff.1 hit).1
    by_cases hp : pos < t.length
    · obtain ⟨x, hxe⟩ : ∃ x, t[pos] = x := ⟨_, rfl⟩
      have hxa : x.toNat < 128 := ha x (by rw [← hxe]; exact List.getElem_mem hp)
      have hnx : ∀ ty, (Instr.next (.pointer (some ⟨w.heap.size + 1, 0, none⟩)) true ty).run Tryz.prog wr = .ok (.tuple #[.bool true, .int .i64 pos, .int .i32 x.toNat]) (wr.iterAt (w.heap.size + 1) ⟨t.toArray⟩ (pos + 1)) := fun ty => by
        have hge : (⟨t.toArray⟩ : ByteArray)[pos]'(by rw [hsz]; exact hp) = x := hxe
        have := Lib.run_next_ascii_at (P := Tryz.prog) wr (w.heap.size + 1) ⟨t.toArray⟩ pos ty hit (by rw [hsz]; exact hp) (by rw [hge]; exact hxa)
        rw [hge] at this
        exact this
      have hI0 := isBuilder_iter hI hit (pos + 1)
      have hit0 := Lib.iterAt_heap wr (w.heap.size + 1) ⟨t.toArray⟩ pos (pos + 1) hit
      have hbw0 := Lib.below_iterAt hbw (k := w.heap.size + 1) (by omega) ⟨t.toArray⟩ (pos + 1)
      have hsz0 : w.heap.size ≤ (wr.iterAt (w.heap.size + 1) ⟨t.toArray⟩ (pos + 1)).heap.size := by rw [Lib.iterAt_size]; omega
      rw [drop_at t pos hp, hxe] at hacc
      by_cases h91 : x = 91
      · subst h91
        simp only [or_true, true_or, if_true] at hacc
        have hx128 : (91 : UInt8).toNat < 128 := by decide
        go_wp2_with fail
        refine (write_any w.heap.size w.heap.size _ ⟨#[32]⟩ _ hI0 (by rw [byteCells_length]; simp [ByteArray.size] at *; omega) hsz0).mono ?_
        rintro e w1 ⟨rfl, hJ1, hb1, ho1⟩
        have hI1 : Lib.IsBuilder 94 5 w.heap.size w.heap.size (byteCells (acc ++ [32])) w1 := .inr (by rw [byteCells_append]; exact hJ1)
        have hit1 := ho1.iter hit0 (by omega)
        have hbw1 := hbw0.trans hb1
        have hsz1 : w.heap.size ≤ w1.heap.size := Nat.le_trans hsz0 hb1.size
        go_wp2_with fail
        refine (rune_any w.heap.size w.heap.size _ 91 hx128 _ hI1 (by rw [byteCells_length]; simp at *; omega) hsz1).mono ?_
        rintro e w2 ⟨⟨v2, rfl⟩, hJ2, hb2, ho2⟩
        have hI2 : Lib.IsBuilder 94 5 w.heap.size w.heap.size (byteCells ((acc ++ [32]) ++ [(91 : UInt8)])) w2 := .inr (by rw [byteCells_append]; exact hJ2)
        have hit2 := ho2.iter hit1 (by omega)
        have hbw2 := hbw1.trans hb2
        have hsz2 : w.heap.size ≤ w2.heap.size := Nat.le_trans hsz1 hb2.size
        go_wp2_with fail
        refine (write_any w.heap.size w.heap.size _ ⟨#[32]⟩ _ hI2 (by rw [byteCells_length]; simp [ByteArray.size] at *; omega) hsz2).mono ?_
        rintro e w3 ⟨rfl, hJ3, hb3, ho3⟩
        have hI3 : Lib.IsBuilder 94 5 w.heap.size w.heap.size (byteCells (((acc ++ [32]) ++ [91]) ++ [32])) w3 := .inr (by rw [byteCells_append]; exact hJ3)
        have hit3 := ho3.iter hit2 (by omega)
        have hbw3 := hbw2.trans hb3
        have hsz3 : w.heap.size ≤ w3.heap.size := Nat.le_trans hsz2 hb3.size
        go_wp2_with fail
        go_roundw
        case rel => exact ⟨pos + 1, (((acc ++ [32]) ++ [91]) ++ [32]), by omega, hI3, hit3, hbw3, by rw [← hacc]; simp, by simp; omega⟩
        case measure =>
          simp only [World.iterPos, hit3, hit]
          omega
      · by_cases h42 : x = 42
        · subst h42
          simp only [true_or, if_true, if_neg h91] at hacc
          have hx128 : (42 : UInt8).toNat < 128 := by decide
          go_wp2_with fail
          refine (write_any w.heap.size w.heap.size _ ⟨#[32]⟩ _ hI0 (by rw [byteCells_length]; simp [ByteArray.size] at *; omega) hsz0).mono ?_
          rintro e w1 ⟨rfl, hJ1, hb1, ho1⟩
          have hI1 : Lib.IsBuilder 94 5 w.heap.size w.heap.size (byteCells (acc ++ [32])) w1 := .inr (by rw [byteCells_append]; exact hJ1)
          have hit1 := ho1.iter hit0 (by omega)
          have hbw1 := hbw0.trans hb1
          have hsz1 : w.heap.size ≤ w1.heap.size := Nat.le_trans hsz0 hb1.size
          go_wp2_with fail
          refine (rune_any w.heap.size w.heap.size _ 42 hx128 _ hI1 (by rw [byteCells_length]; simp at *; omega) hsz1).mono ?_
          rintro e w2 ⟨⟨v2, rfl⟩, hJ2, hb2, ho2⟩
          have hI2 : Lib.IsBuilder 94 5 w.heap.size w.heap.size (byteCells ((acc ++ [32]) ++ [(42 : UInt8)])) w2 := .inr (by rw [byteCells_append]; exact hJ2)
          have hit2 := ho2.iter hit1 (by omega)
          have hbw2 := hbw1.trans hb2
          have hsz2 : w.heap.size ≤ w2.heap.size := Nat.le_trans hsz1 hb2.size
          go_wp2_with fail
          go_roundw
          case rel => exact ⟨pos + 1, ((acc ++ [32]) ++ [42]), by omega, hI2, hit2, hbw2, by rw [← hacc]; simp, by simp; omega⟩
          case measure =>
            simp only [World.iterPos, hit2, hit]
            omega
        · by_cases h93 : x = 93
          · subst h93
            simp only [or_true, if_true, if_neg h91] at hacc
            have hx128 : (93 : UInt8).toNat < 128 := by decide
            go_wp2_with fail
            refine (write_any w.heap.size w.heap.size _ ⟨#[32]⟩ _ hI0 (by rw [byteCells_length]; simp [ByteArray.size] at *; omega) hsz0).mono ?_
            rintro e w1 ⟨rfl, hJ1, hb1, ho1⟩
            have hI1 : Lib.IsBuilder 94 5 w.heap.size w.heap.size (byteCells (acc ++ [32])) w1 := .inr (by rw [byteCells_append]; exact hJ1)
            have hit1 := ho1.iter hit0 (by omega)
            have hbw1 := hbw0.trans hb1
            have hsz1 : w.heap.size ≤ w1.heap.size := Nat.le_trans hsz0 hb1.size
            go_wp2_with fail
            refine (rune_any w.heap.size w.heap.size _ 93 hx128 _ hI1 (by rw [byteCells_length]; simp at *; omega) hsz1).mono ?_
            rintro e w2 ⟨⟨v2, rfl⟩, hJ2, hb2, ho2⟩
            have hI2 : Lib.IsBuilder 94 5 w.heap.size w.heap.size (byteCells ((acc ++ [32]) ++ [(93 : UInt8)])) w2 := .inr (by rw [byteCells_append]; exact hJ2)
            have hit2 := ho2.iter hit1 (by omega)
            have hbw2 := hbw1.trans hb2
            have hsz2 : w.heap.size ≤ w2.heap.size := Nat.le_trans hsz1 hb2.size
            go_wp2_with fail
            go_roundw
            case rel => exact ⟨pos + 1, ((acc ++ [32]) ++ [93]), by omega, hI2, hit2, hbw2, by rw [← hacc]; simp, by simp; omega⟩
            case measure =>
              simp only [World.iterPos, hit2, hit]
              omega
          · have hx128 := hxa
            have e1 : ((x.toNat : Int) == 42) = false := by simp; intro h; exact h42 (UInt8.toNat_inj.1 (by have : (42 : UInt8).toNat = 42 := rfl; omega))
            have e2 : ((x.toNat : Int) == 91) = false := by simp; intro h; exact h91 (UInt8.toNat_inj.1 (by have : (91 : UInt8).toNat = 91 := rfl; omega))
            have e3 : ((x.toNat : Int) == 93) = false := by simp; intro h; exact h93 (UInt8.toNat_inj.1 (by have : (93 : UInt8).toNat = 93 := rfl; omega))
            rw [if_neg (by simp [h42, h91, h93]), if_neg h91] at hacc
            go_wp2_with fail
            refine (rune_any w.heap.size w.heap.size _ x hx128 _ hI0 (by rw [byteCells_length]; simp at *; omega) hsz0).mono ?_
            rintro e w1 ⟨⟨v1, rfl⟩, hJ1, hb1, ho1⟩
            have hI1 : Lib.IsBuilder 94 5 w.heap.size w.heap.size (byteCells (acc ++ [x])) w1 := .inr (by rw [byteCells_append]; exact hJ1)
            have hit1 := ho1.iter hit0 (by omega)
            have hbw1 := hbw0.trans hb1
            have hsz1 : w.heap.size ≤ w1.heap.size := Nat.le_trans hsz0 hb1.size
            go_wp2_with fail
            go_roundw
            case rel => exact ⟨pos + 1, (acc ++ [x]), by omega, hI1, hit1, hbw1, by rw [← hacc]; simp, by simp; omega⟩
            case measure =>
              simp only [World.iterPos, hit1, hit]
              omega
    · have hpe : pos = t.length := by omega
      have hnx : ∀ ty, (Instr.next (.pointer (some ⟨w.heap.size + 1, 0, none⟩)) true ty).run Tryz.prog wr = _ := fun ty => Lib.run_next_end_at wr (w.heap.size + 1) ⟨t.toArray⟩ pos ty hit (by rw [hsz]; exact hp)
      rw [hpe, List.drop_length] at hacc
      go_wp2_with fail
      refine (Tryz.Builder_String_any w.heap.size w.heap.size acc _ hI (by omega)).mono ?_
      rintro e w1 ⟨rfl, hq⟩
      go_wp2_with fail
      simp only [typedT, List.append_nil] at hacc
      subst hacc
      go_ret
      exact ⟨rfl, hbw.trans hq⟩
end Go.Proofs.YtjgpbpmicopemaaGreatDoor

/-
  Words put together; a declaration's text; a call's.
-/
namespace Go.Proofs.YtjgpbpmicopemaaGreatDoor
open Go.RowKit Go.Shelf
set_option maxRecDepth 20000

theorem wordsZ (xs : List Bs) (g c : Nat) (w : World) (hc : ∀ j (h : j < xs.length), w.cell? ⟨g, j, none⟩ = some (str xs[j])) (hg : g < w.heap.size) (hn : xs.length ≤ 1000000) (hcap : xs.length ≤ c) (hlen : (jn xs).length ≤ 140737488355328) :
    Calls Tryz.prog 33 #[.slice (some ⟨g, 0, none⟩) xs.length c] w fun e w' => e = .returned (str (jn xs)) ∧ Below w.heap.size w w' := by
  have hmap : (xs.map fun t => (⟨t.toArray⟩ : ByteArray)).map (fun x => x.data.toList) = xs := by
    rw [List.map_map]
    exact List.map_id' xs
  have C := Tryz.strings_Join g 0 c (xs.map fun t => (⟨t.toArray⟩ : ByteArray)) ⟨#[32]⟩ w (fun j x hx => by
    rw [List.getElem?_map] at hx
    cases hj : xs[j]? with
    | none => rw [hj] at hx; cases hx
    | some t =>
      rw [hj] at hx
      cases hx
      obtain ⟨hl, he⟩ := List.getElem?_eq_some_iff.1 hj
      have := hc j hl
      rw [he] at this
      simpa [str] using this) hg (by simp; omega) (by simpa using hcap) (by rw [hmap]; exact hlen)
  rw [hmap, List.length_map] at C
  unfold str
  go_enter Tryz.func33, Tryz.ntmps33
  go_wp2_with fail
  refine C.mono ?_
  rintro e w1 ⟨rfl, hb⟩
  go_wp2_with fail
  exact bodyPost_ret (v := .string ⟨(jn xs).toArray⟩) (by simp [results, Tryz.results33, go_sem, jn]) rfl ⟨rfl, hb⟩
/-- words of a literal -/
theorem wordsLit (xs : List Bs) (w : World) (hn : xs.length ≤ 1000000) (hlen : (jn xs).length ≤ 140737488355328) :
    Calls Tryz.prog 33 #[.slice (some ⟨w.heap.size, 0, none⟩) xs.length xs.length] (w.alloc (rowOf xs)) fun e w' => e = .returned (str (jn xs)) ∧ Below w.heap.size w w' := by
  refine (wordsZ xs w.heap.size xs.length _ (row_cells (heap_alloc_new w (rowOf xs))) (by simp) hn (Nat.le_refl _) hlen).mono ?_
  rintro e w' ⟨rfl, hb⟩
  exact ⟨rfl, (belowAlloc w (rowOf xs)).trans (hb.mono (by simp))⟩
theorem jn_len : ∀ (xs : List Bs), (jn xs).length + 1 = (xs.map fun x => x.length + 1).sum + (if xs = [] then 1 else 0)
  | [] => rfl
  | [x] => by simp [jn, Lib.join, List.intercalate, List.intersperse]
  | x :: y :: l => by
    have := jn_len (y :: l)
    have e : jn (x :: y :: l) = x ++ 32 :: jn (y :: l) := by simp [jn, Lib.join, List.intercalate, List.intersperse]
    rw [e]
    simp only [List.length_append, List.length_cons, List.map_cons, List.sum_cons, reduceCtorEq, if_false] at this ⊢
    omega
set_option maxHeartbeats 2000000 in
theorem callZ (nm inner : Bs) (w : World) (hlen : nm.length + inner.length ≤ 100000000000000) : Calls Tryz.prog 35 #[str nm, str inner] w fun e w' => e = .returned (str (callT nm inner)) ∧ Below w.heap.size w w' := by
  unfold callT
  by_cases h : inner = []
  · subst h
    rw [if_pos rfl]
    have C := wordsLit [nm, [40], [41]] w (by simp) (by have := jn_len [nm, [40], [41]]; simp at this; omega)
    unfold str rowOf at *
    go_enter Tryz.func35, Tryz.ntmps35
    go_wp2_with fail
    refine C.mono ?_
    rintro e w1 ⟨rfl, hb⟩
    go_wp2_with fail
    exact bodyPost_ret (v := .string ⟨(jn [nm, [40], [41]]).toArray⟩) (by simp [results, Tryz.results35, go_sem]) rfl ⟨rfl, hb⟩
  · rw [if_neg h]
    have h' : (inner == []) = false := by simpa using h
    have C := wordsLit [nm, [40], inner, [41]] w (by simp) (by have := jn_len [nm, [40], inner, [41]]; simp at this; omega)
    unfold str rowOf at *
    go_enter Tryz.func35, Tryz.ntmps35
    go_wp2_with fail
    refine C.mono ?_
    rintro e w1 ⟨rfl, hb⟩
    go_wp2_with fail
    exact bodyPost_ret (v := .string ⟨(jn [nm, [40], inner, [41]]).toArray⟩) (by simp [results, Tryz.results35, go_sem]) rfl ⟨rfl, hb⟩
theorem cut_parts (t : Bs) : (Lib.cut t [91]).1.length ≤ t.length ∧ (∀ c ∈ (Lib.cut t [91]).1, c ∈ t) ∧ (Lib.cut t [91]).2.1.length ≤ t.length := by
  unfold Lib.cut
  split
  · refine ⟨?_, ?_, ?_⟩
    · simp only [List.length_take]; omega
    · intro c hc; exact List.mem_of_mem_take hc
    · simp
  · exact ⟨Nat.le_refl _, fun c hc => hc, by simp⟩
theorem trim_len (a b : Bs) : (Lib.trimSuffix a b).length ≤ a.length := by
  unfold Lib.trimSuffix
  split <;> simp
set_option maxHeartbeats 4000000 in
theorem declaredZ (t nm : Bs) (ht : t.length ≤ 400000) (ha : ∀ c ∈ t, c.toNat < 128) (hn : nm.length ≤ 400000) (w : World) (hE : Env w) : Calls Tryz.prog 32 #[str t, str nm] w fun e w' => e = .returned (str (declT t nm)) ∧ Mv (fun _ => False) w w' := by
  obtain ⟨⟨m, hm⟩, -, -⟩ := hE
  have C1 := Tryz.strings_Cut ⟨t.toArray⟩ ⟨#[91]⟩ m w (by simp [ByteArray.size]; omega) hm
  obtain ⟨hk1, hk2, hk3⟩ := cut_parts t
  have C2 := fun w' => wordsOfZ (Lib.cut t [91]).1 (by omega) (fun c hc => ha c (hk2 c hc)) w'
  have hl := typedT_le (Lib.cut t [91]).1
  have htr := trim_len (Lib.cut t [91]).2.1 [93]
  have C3 := fun w' => Tryz.strings_TrimSuffix ⟨(Lib.cut t [91]).2.1.toArray⟩ ⟨#[93]⟩ w' (by simp [ByteArray.size]; omega)
  unfold declT
  simp only at C1 C3
  have hd : Lib.cut t (#[91] : Array UInt8).toList = Lib.cut t [91] := rfl
  have hd2 : ∀ x, Lib.trimSuffix x (#[93] : Array UInt8).toList = Lib.trimSuffix x [93] := fun _ => rfl
  cases hc : (Lib.cut t [91]).2.2
  · rw [if_neg (by simp)]
    have C4 := fun w' => wordsLit [typedT (Lib.cut t [91]).1, nm] w' (by simp) (by have := jn_len [typedT (Lib.cut t [91]).1, nm]; simp at this; omega)
    unfold str rowOf at *
    go_enter Tryz.func32, Tryz.ntmps32
    go_wp2_with fail
    refine C1.mono ?_
    rintro e w1 ⟨rfl, k, rfl⟩
    go_wp2_with fail
    refine (C2 _).mono ?_
    rintro e w2 ⟨rfl, hb2⟩
    go_wp2_with fail
    refine (C4 _).mono ?_
    rintro e w3 ⟨rfl, hb3⟩
    go_wp2_with fail
    exact bodyPost_ret (v := .string ⟨(jn [typedT (Lib.cut t [91]).1, nm]).toArray⟩) (by simp [results, Tryz.results32, go_sem]) rfl ⟨rfl, ((Mv.below (below_drewN (Below.refl _ _) k)).trans (Mv.below hb2)).trans (Mv.below hb3)⟩
  · rw [if_pos rfl]
    have C4 := fun w' => wordsLit [typedT (Lib.cut t [91]).1, nm, [91], Lib.trimSuffix (Lib.cut t [91]).2.1 [93], [93]] w' (by simp) (by have := jn_len [typedT (Lib.cut t [91]).1, nm, [91], Lib.trimSuffix (Lib.cut t [91]).2.1 [93], [93]]; simp at this; omega)
    unfold str rowOf at *
    go_enter Tryz.func32, Tryz.ntmps32
    go_wp2_with fail
    refine C1.mono ?_
    rintro e w1 ⟨rfl, k, rfl⟩
    go_wp2_with fail
    refine (C2 _).mono ?_
    rintro e w2 ⟨rfl, hb2⟩
    go_wp2_with fail
    refine (C3 _).mono ?_
    rintro e w3 ⟨rfl, rfl⟩
    go_wp2_with fail
    refine (C4 _).mono ?_
    rintro e w4 ⟨rfl, hb4⟩
    go_wp2_with fail
    exact bodyPost_ret (v := .string ⟨(jn [typedT (Lib.cut t [91]).1, nm, [91], Lib.trimSuffix (Lib.cut t [91]).2.1 [93], [93]]).toArray⟩) (by simp [results, Tryz.results32, go_sem]) rfl ⟨rfl, ((Mv.below (below_drewN (Below.refl _ _) k)).trans (Mv.below hb2)).trans (Mv.below hb4)⟩
end Go.Proofs.YtjgpbpmicopemaaGreatDoor

/-
  An expression's text: what goes ahead; the list of a call's values.
-/
namespace Go.Proofs.YtjgpbpmicopemaaGreatDoor
open Go.RowKit Go.Shelf
set_option maxRecDepth 20000

/-- the expression's text is told -/
def PE (e : Ex) : Prop := okE e = true → (textE e).length ≤ 1000000000000 → ∀ (W : World) (K : Nat → Prop) (b : Nat), ExAt W K b e → EnvA W → Calls Tryz.prog 62 #[.pointer (some ⟨b, 0, none⟩)] W fun r W' => r = .returned (str (textE e)) ∧ Mv (fun _ => False) W W'
def PEs : Exs → Prop
  | .nil => True
  | .cons e l => PE e ∧ PEs l
theorem jn_mem {x : Bs} : ∀ {xs : List Bs}, x ∈ xs → x.length ≤ (jn xs).length := fun {xs} h => by
  have := jn_len xs
  have h2 : x.length + 1 ≤ (xs.map fun x => x.length + 1).sum := by
    induction xs with
    | nil => cases h
    | cons y l ih =>
      rcases List.mem_cons.1 h with rfl | h
      · simp
      · have := ih h (jn_len l)
        simp only [List.map_cons, List.sum_cons]
        omega
  rw [if_neg (by rintro rfl; cases h)] at this
  omega
theorem exs_one : ∀ {l : Exs}, (textsE l).length = 1 → ∃ a, l = .cons a .nil
  | .nil, h => by simp [textsE] at h
  | .cons a .nil, _ => ⟨a, rfl⟩
  | .cons a (.cons b l), h => by simp [textsE] at h
theorem exs_two : ∀ {l : Exs}, (textsE l).length = 2 → ∃ a b, l = .cons a (.cons b .nil)
  | .nil, h => by simp [textsE] at h
  | .cons a .nil, h => by simp [textsE] at h
  | .cons a (.cons b .nil), _ => ⟨a, b, rfl⟩
  | .cons a (.cons b (.cons c l)), h => by simp [textsE] at h
theorem exsAt_one {W : World} {K : Nat → Prop} {bs : List Nat} {a : Ex} (h : ExsAt W K bs (.cons a .nil)) : ∃ b, bs = [b] ∧ ExAt W K b a := by
  match bs, h with
  | [], h => unfold ExsAt at h; exact h.elim
  | [b], h => unfold ExsAt at h; exact ⟨b, rfl, h.1⟩
  | b :: c :: l, h => unfold ExsAt at h; have := h.2; unfold ExsAt at this; exact this.elim
theorem exsAt_two {W : World} {K : Nat → Prop} {bs : List Nat} {a a' : Ex} (h : ExsAt W K bs (.cons a (.cons a' .nil))) : ∃ b c, bs = [b, c] ∧ ExAt W K b a ∧ ExAt W K c a' := by
  match bs, h with
  | [], h => unfold ExsAt at h; exact h.elim
  | b :: l, h =>
    unfold ExsAt at h
    obtain ⟨c, rfl, h2⟩ := exsAt_one h.2
    exact ⟨b, c, rfl, h.1, h2⟩
theorem ascB_len {t : Bs} (h : ascB t = true) : t.length ≤ 400000 := by
  unfold ascB at h
  simp only [Bool.and_eq_true, decide_eq_true_eq] at h
  exact h.2
theorem ascB_asc {t : Bs} (h : ascB t = true) : ∀ c ∈ t, c.toNat < 128 := by
  unfold ascB at h
  simp only [Bool.and_eq_true, List.all_eq_true, decide_eq_true_eq] at h
  exact h.1
def Exs.toL : Exs → List Ex
  | .nil => []
  | .cons e l => e :: l.toL
theorem Exs.of_toL : ∀ l : Exs, Exs.of l.toL = l
  | .nil => rfl
  | .cons e l => by show Exs.cons e (Exs.of l.toL) = _; rw [Exs.of_toL l]
theorem textsE_toL : ∀ l : Exs, textsE l = l.toL.map textE
  | .nil => by simp [textsE, Exs.toL]
  | .cons e l => by simp [textsE, Exs.toL, textsE_toL l]
theorem PEs_toL : ∀ {l : Exs}, PEs l → ∀ e ∈ l.toL, PE e
  | .nil, _, e, h => by simp [Exs.toL] at h
  | .cons a l, ⟨h1, h2⟩, e, h => by
    simp [Exs.toL] at h
    rcases h with rfl | h
    · exact h1
    · exact PEs_toL h2 e h
theorem okEs_toL : ∀ {l : Exs}, okEs l = true → ∀ e ∈ l.toL, okE e = true
  | .nil, _, e, h => by simp [Exs.toL] at h
  | .cons a l, h0, e, h => by
    simp only [okEs, Bool.and_eq_true] at h0
    simp [Exs.toL] at h
    rcases h with rfl | h
    · exact h0.1
    · exact okEs_toL h0.2 e h
theorem info9 : (Tryz.prog.info? 9).map (fun i => (i.zero, i.size, i.bytes)) = some (some (.string ⟨#[]⟩), 1, 16) := by kernel_rfl
theorem commas_take (l : List Bs) (k : Nat) (h : k < l.length) : commas (l.take (k + 1)) = if k = 0 then [l[k]] else commas (l.take k) ++ [[44], l[k]] := by
  rw [← List.take_append_getElem h, commas_snoc]
  by_cases hk : k = 0
  · subst hk; simp
  · rw [if_neg hk, if_neg]
    intro h0
    have := congrArg List.length h0
    rw [List.length_take, List.length_nil] at this
    omega
theorem commas_len : ∀ l : List Bs, (commas l).length = 2 * l.length - 1
  | [] => rfl
  | t :: l => by
    have h : ∀ l : List Bs, (l.flatMap fun x => [[44], x]).length = 2 * l.length := by
      intro l
      induction l with
      | nil => rfl
      | cons x l ih => simp only [List.flatMap_cons, List.length_append, List.length_cons, List.length_nil, ih]; omega
    unfold commas
    simp only [List.length_cons, h]
    omega
theorem commas_mem : ∀ {l : List Bs} {x : Bs}, x ∈ l → x ∈ commas l
  | t :: l, x, h => by
    unfold commas
    rcases List.mem_cons.1 h with rfl | h
    · exact List.mem_cons_self
    · exact List.mem_cons_of_mem _ (List.mem_flatMap.2 ⟨x, h, by simp⟩)
/-- strings.Join of a list that the call owns -/
theorem joinOwn (xs : List Bs) (B : Nat) (v : Value) (w : World) (h : w.ownsRow B 9 1 v xs.length (xs.map str)) (hn : xs.length ≤ 100000000000000) (hlen : (jn xs).length ≤ 140737488355328) :
    Calls Tryz.prog 25 #[v, .string ⟨#[32]⟩] w fun e w' => e = .returned (.string ⟨(jn xs).toArray⟩) ∧ Below w.heap.size w w' := by
  have hmap : (xs.map fun t => (⟨t.toArray⟩ : ByteArray)).map (fun x => x.data.toList) = xs := by
    rw [List.map_map]
    exact List.map_id' xs
  have hcells := fun g hg => World.ownsRow.cells h (g := g) hg
  obtain ⟨-, ⟨rfl, h0⟩ | ⟨g, cap, cur, rfl, -, hg, hc, -⟩⟩ := h
  · have hx : xs = [] := List.length_eq_zero_iff.1 h0
    subst hx
    refine (Tryz.strings_Join_none none 0 ⟨#[32]⟩ w).mono ?_
    rintro e w' ⟨rfl, rfl⟩
    exact ⟨rfl, Below.refl _ _⟩
  · have C := Tryz.strings_Join g 0 cap (xs.map fun t => (⟨t.toArray⟩ : ByteArray)) ⟨#[32]⟩ w (fun j x hx => by
      rw [List.getElem?_map] at hx
      cases hj : xs[j]? with
      | none => rw [hj] at hx; cases hx
      | some t =>
        rw [hj] at hx
        cases hx
        have := hcells g rfl j (str t) (by rw [List.getElem?_map, hj]; rfl)
        have hadd : (⟨g, 0, none⟩ : Addr).add j = ⟨g, j, none⟩ := by unfold Addr.add; split <;> simp_all
        rw [hadd] at this
        simpa [str] using this) (heap_lt hg) (by simp; omega) (by simpa using hc) (by rw [hmap]; exact hlen)
    rw [hmap, List.length_map] at C
    exact C
set_option maxHeartbeats 8000000 in
theorem listZ (l : Exs) (hPs : PEs l) (hok : okEs l = true) (hlen : (jn (commas (textsE l))).length ≤ 1000000000000) (W : World) (K : Nat → Prop) (v : Value) (bs : List Nat) (hv : PtrsAt W K 122 v bs) (hx : ExsAt W K bs l) (hEnv : EnvA W) :
    Calls Tryz.prog 88 #[v] W fun r W' => r = .returned (str (jn (commas (textsE l)))) ∧ Mv (fun _ => False) W W' := by
  obtain ⟨L, hL⟩ : ∃ L, L = l.toL := ⟨_, rfl⟩
  have hP := PEs_toL hPs
  have hO := okEs_toL hok
  rw [textsE_toL] at hlen ⊢
  rw [← Exs.of_toL l] at hx
  rw [← hL] at hP hO hlen hx ⊢
  clear hPs hok hL
  obtain ⟨hl, hget⟩ := hx.get
  obtain ⟨aa, cc, rfl, hq1, hq2, hq3⟩ := hv.form
  rw [hl] at hq1 ⊢
  have hml : L.length ≤ 9223372036854775807 := by unfold maxLen at hq2; omega
  go_enter Tryz.func88, Tryz.ntmps88
  go_wp2_with fail
  obtain ⟨i0, hi, hz0, hz1, hz2⟩ := info_parts info9
  have hcl := commas_len (L.map textE)
  have hjl := jn_len (commas (L.map textE))
  have hsum : ∀ l : List Bs, l.length ≤ (l.map fun x => x.length + 1).sum := by
    intro l
    induction l with
    | nil => simp
    | cons x l ih => simp only [List.length_cons, List.map_cons, List.sum_cons]; omega
  have hs := hsum (commas (L.map textE))
  have hLn : 2 * L.length ≤ 1000000000003 := by
    rw [List.length_map] at hcl
    split at hjl <;> omega
  clear hsum hs hjl hcl
  go_loopg [3, 4, 5, 8] L.length (fun g s3 s4 s5 s8 wr => ∃ j : Nat, j ≤ L.length ∧ L.length - j ≤ g ∧ s8 = .int .i64 j ∧ wr.ownsRow W.heap.size 9 1 s3 (commas ((L.map textE).take j)).length ((commas ((L.map textE).take j)).map str) ∧ Mv (fun _ => False) W wr)
  case atStart => exact ⟨0, by omega, by omega, rfl, World.ownsRow_nil _ _ _ _, Mv.refl _ _⟩
  case round =>
    obtain ⟨j, hj, hg, rfl, hr, hm⟩ := hrel
    have hcj := commas_len ((L.map textE).take j)
    rw [List.length_take, List.length_map, Nat.min_eq_left hj] at hcj
    by_cases hlt : j < L.length
    · obtain ⟨b, hb, hE⟩ := hget j L[j] (List.getElem?_eq_getElem hlt)
      obtain ⟨gb, rfl, hKg, hgl, hcs⟩ := hq3 (by intro h0; rw [h0] at hl; simp at hl; omega)
      have d0 := hm.cell (hcs j b hb) (fun h => h)
      unfold ptr at d0
      have hlt' : (j : Int) < L.length := by omega
      have hmem : L[j] ∈ L := List.getElem_mem hlt
      have hE1 : textE L[j] ∈ commas (L.map textE) := commas_mem (List.mem_map_of_mem hmem)
      have hPj := hP _ hmem (hO _ hmem) (Nat.le_trans (jn_mem hE1) hlen)
      have hct := commas_take (L.map textE) j (by simpa using hlt)
      rw [List.getElem_map] at hct
      clear hP hO hget
      generalize textE L[j] = tj at *
      by_cases hj0 : j = 0
      · subst hj0
        rw [if_pos rfl] at hct
        have hr0 : wr.ownsRow W.heap.size 9 1 u3 0 [] := hr
        go_wp2_with fail
        refine (hPj wr K b (hE.mv (Keeps.of hm (fun _ _ h => h)) (fun _ h => h)) (hEnv.mv hm (fun _ _ h => h))).mono ?_
        rintro e w1 ⟨rfl, hn1⟩
        have hm1 := hm.trans hn1
        unfold str
        have hr1 := ownsRow_keep hr0 hn1 (fun _ _ h => h)
        go_wp2_with (at_builtin; refine wpList_append_lies _ rfl _ _ 36 rfl W.heap.size 9 i0 (.string ⟨#[]⟩) 1 16 Tryz.underlying36 hi hz0 hz1 hz2 rfl (by decide) _ 0 [] rfl (hr1.alloc _) _ 1 1 [str tj] rfl rfl (World.news_of_block (heap_alloc_new w1 _)) (by simp [str, Value.oneCell']) (by decide) (by unfold maxLen; omega) (by omega) (Nat.le_trans hm1.size (by simp)) _ rfl ?_)
        intro g2 cap2 w2 hown2 hgr2 hat2 hgl2
        have hm2 := (hm1.more _).fresh (Mv.of_grown hgr2 (fun r e => e)) (fun k hk => (ownsRow_own hr1 k hk).1)
        go_wp2_with fail
        go_roundg (L.length - 1)
        case measure => omega
        case rel => exact ⟨1, by omega, by omega, rfl, by rw [hct]; simpa using hown2, hm2⟩
      · rw [if_neg hj0] at hct
        have hjp : (0 : Int) < j := by omega
        go_wp2_with (at_builtin; refine wpList_append_lies _ rfl _ _ 36 rfl W.heap.size 9 i0 (.string ⟨#[]⟩) 1 16 Tryz.underlying36 hi hz0 hz1 hz2 rfl (by decide) _ _ _ rfl (hr.alloc _) _ 1 1 [str [44]] rfl rfl (World.news_of_block (heap_alloc_new wr _)) (by simp [str, Value.oneCell']) (by decide) (by unfold maxLen; omega) (by omega) (Nat.le_trans hm.size (by simp)) _ rfl ?_)
        intro g2 cap2 w2 hown2 hgr2 hat2 hgl2
        have hm2 := (hm.more _).fresh (Mv.of_grown hgr2 (fun r e => e)) (fun k hk => (ownsRow_own hr k hk).1)
        go_wp2_with fail
        refine (hPj w2 K b (hE.mv (Keeps.of hm2 (fun _ _ h => h)) (fun _ h => h)) (hEnv.mv hm2 (fun _ _ h => h))).mono ?_
        rintro e w3 ⟨rfl, hn3⟩
        have hm3 := hm2.trans hn3
        unfold str
        have hr3 := ownsRow_keep hown2 hn3 (fun _ _ h => h)
        go_wp2_with (at_builtin; refine wpList_append_lies _ rfl _ _ 36 rfl W.heap.size 9 i0 (.string ⟨#[]⟩) 1 16 Tryz.underlying36 hi hz0 hz1 hz2 rfl (by decide) _ _ _ rfl (hr3.alloc _) _ 1 1 [str tj] rfl rfl (World.news_of_block (heap_alloc_new w3 _)) (by simp [str, Value.oneCell']) (by decide) (by unfold maxLen; omega) (by omega) (Nat.le_trans hm3.size (by simp)) _ rfl ?_)
        intro g4 cap4 w4 hown4 hgr4 hat4 hgl4
        have hm4 := (hm3.more _).fresh (Mv.of_grown hgr4 (fun r e => e)) (fun k hk => (ownsRow_own hr3 k hk).1)
        go_wp2_with fail
        go_roundg (L.length - (j + 1))
        case measure => omega
        case rel => exact ⟨j + 1, by omega, by omega, by simp, by rw [hct, List.length_append, hcj]; simpa using hown4, hm4⟩
    · obtain rfl : j = L.length := by omega
      have htk : (L.map textE).take L.length = L.map textE := List.take_of_length_le (by simp)
      rw [htk] at hr
      rw [htk] at hcj
      have C := fun W' h => joinOwn (commas (L.map textE)) W.heap.size u3 W' h (by rw [hcj]; omega) (by omega)
      go_wp2_with fail
      refine (C _ hr).mono ?_
      rintro e w1 ⟨rfl, hb1⟩
      go_wp2_with fail
      exact bodyPost_ret (v := .string ⟨(jn (commas (L.map textE))).toArray⟩) (by simp [results, Tryz.results88, go_sem]) rfl ⟨rfl, hm.trans (Mv.below hb1)⟩
end Go.Proofs.YtjgpbpmicopemaaGreatDoor

/-
  An expression's text.
-/
namespace Go.Proofs.YtjgpbpmicopemaaGreatDoor
open Go.RowKit Go.Shelf
set_option maxRecDepth 20000

set_option maxHeartbeats 16000000 in
theorem exprText (k : Int) (op nm : Bs) (n : Int) (ty : Bs) (args : Exs) (tall : Int) (hPs : PEs args) : PE (.mk k op nm n ty args tall) := by
  intro hok hlen W K b hE hEnv
  unfold okE at hok
  simp only [Bool.and_eq_true, decide_eq_true_eq] at hok
  obtain ⟨⟨⟨⟨⟨⟨⟨hk1, hk2⟩, hn1⟩, hn2⟩, hty⟩, hnm⟩, har⟩, hargs⟩ := hok
  unfold ExAt at hE
  obtain ⟨hKb, ln, cl, v, bs, hb, hv, hx⟩ := hE
  obtain ⟨c0, c1, c2, c3, c4, c5, c6, c7, c8, -⟩ : _ := (by
    refine (⟨?_, ?_, ?_, ?_, ?_, ?_, ?_, ?_, ?_, trivial⟩ : W.cell? ⟨b, 0, none⟩ = some (.int .i64 k) ∧ W.cell? ⟨b, 1, none⟩ = some (.int .i64 ln) ∧ W.cell? ⟨b, 2, none⟩ = some (.int .i64 cl) ∧ W.cell? ⟨b, 3, none⟩ = some (.string ⟨op.toArray⟩) ∧ W.cell? ⟨b, 4, none⟩ = some (.string ⟨nm.toArray⟩) ∧ W.cell? ⟨b, 5, none⟩ = some (.int .i64 n) ∧ W.cell? ⟨b, 6, none⟩ = some (.string ⟨ty.toArray⟩) ∧ W.cell? ⟨b, 7, none⟩ = some v ∧ W.cell? ⟨b, 8, none⟩ = some (.int .i64 tall) ∧ True) <;> simp [World.cell?, hb])
  have hcases : k = 1 ∨ k = 2 ∨ k = 3 ∨ k = 4 ∨ k = 5 ∨ k = 6 ∨ k = 7 ∨ k = 8 ∨ k = 9 ∨ k = 10 ∨ k = 11 := by omega
  clear hk1 hk2
  unfold textE at hlen ⊢
  rcases hcases with rfl | rfl | rfl | rfl | rfl | rfl | rfl | rfl | rfl | rfl | rfl
  · have C := fun w' h => numT n hn1 hn2 w' h
    simp only [if_true]
    unfold str at *
    go_enter Tryz.func62, Tryz.ntmps62
    go_wp2_with fail
    refine (C _ hEnv.tab).mono ?_
    rintro e w1 ⟨rfl, hm1⟩
    go_wp2_with fail
    exact bodyPost_ret (v := .string ⟨(Lib.itoa n).toArray⟩) (by simp [results, Tryz.results62, go_sem]) rfl ⟨rfl, hm1⟩
  · unfold str
    go_enter Tryz.func62, Tryz.ntmps62
    go_wp2_with fail
    exact bodyPost_ret (v := .string ⟨nm.toArray⟩) (by simp [results, Tryz.results62, go_sem]) rfl ⟨rfl, Mv.refl _ _⟩
  · obtain ⟨a0, rfl⟩ := exs_one (by simpa using har)
    obtain ⟨b0, rfl, hE0⟩ := exsAt_one hx
    obtain ⟨p0, -⟩ := hPs
    simp only [okEs, Bool.and_true, textsE, List.getD_cons_zero] at hargs hlen ⊢
    have hlen' : (jn [[40], op, textE a0, [41]]).length ≤ 1000000000000 := by simpa using hlen
    have h0 := p0 hargs (Nat.le_trans (jn_mem (xs := [[40], op, textE a0, [41]]) (by simp)) hlen')
    obtain ⟨aa, cc, rfl, hq1, hq2, hq3⟩ := hv.form
    obtain ⟨gg, rfl, hKg, hgl, hcs⟩ := hq3 (by simp)
    have hd0 := hcs 0 b0 rfl
    unfold ptr at hd0
    have hS : ∀ w', Mv (fun _ => False) W w' → w'.cell? ⟨b, 7, none⟩ = some (.slice (some ⟨gg, 0, none⟩) 1 cc) ∧ w'.cell? ⟨gg, 0, none⟩ = some (.pointer (some ⟨b0, 0, none⟩)) ∧ w'.cell? ⟨b, 3, none⟩ = some (.string ⟨op.toArray⟩) := fun w' hm => ⟨hm.cell c7 (fun h => h), hm.cell hd0 (fun h => h), hm.cell c3 (fun h => h)⟩
    have hm0 : Mv (fun _ => False) W W.drew := Mv.drew W
    have hW : ∀ w1, Calls Tryz.prog 33 #[.slice (some ⟨w1.heap.size, 0, none⟩) 4 4] (w1.alloc (.cells #[.string ⟨#[40]⟩, .string ⟨op.toArray⟩, .string ⟨(textE a0).toArray⟩, .string ⟨#[41]⟩] 9)) (fun e w' => e = .returned (.string ⟨(jn [[40], op, textE a0, [41]]).toArray⟩) ∧ Below w1.heap.size w1 w') := fun w1 => wordsLit [[40], op, textE a0, [41]] w1 (by simp) (by omega)
    go_enter Tryz.func62, Tryz.ntmps62
    go_wp2_with fail
    go_region_held (fun w' => w'.cell? ⟨b, 7, none⟩ = some (.slice (some ⟨gg, 0, none⟩) 1 cc) ∧ w'.cell? ⟨gg, 0, none⟩ = some (.pointer (some ⟨b0, 0, none⟩)) ∧ w'.cell? ⟨b, 3, none⟩ = some (.string ⟨op.toArray⟩))
      (first | exact hS _ hm0 | exact hS _ hm1 | exact hS _ (hm1.more _) | exact hS _ hm2 | exact hS _ (hm2.more _))
      (first | (go_at_call 62; (with_reducible refine Calls.mono (h0 W.drew K b0 (hE0.mv (Keeps.of hm0 (fun _ _ h => h)) (fun _ h => h)) (hEnv.mv hm0 (fun _ _ h => h))) ?_); rintro e w1 ⟨rfl, hb1⟩; (have hm1 : Mv (fun _ => False) W w1 := hm0.trans hb1); unfold str) | (go_at_call 33; (with_reducible refine Calls.mono (hW w1) ?_); rintro e w2 ⟨rfl, hb2⟩; have hm2 : Mv (fun _ => False) W w2 := hm1.trans (Mv.below hb2)))
    all_goals go_wp2_with fail
    all_goals exact bodyPost_ret (v := .string ⟨(jn [[40], op, textE a0, [41]]).toArray⟩) (by simp [results, Tryz.results62, go_sem]) rfl ⟨rfl, hm2⟩
  · obtain ⟨a0, a1, rfl⟩ := exs_two (by simpa using har)
    obtain ⟨b0, b1, rfl, hE0, hE1⟩ := exsAt_two hx
    obtain ⟨p0, p1, -⟩ := hPs
    simp only [okEs, Bool.and_true, Bool.and_eq_true, textsE, List.getD_cons_zero, List.getD_cons_succ] at hargs hlen ⊢
    have hlen' : (jn [[40], textE a0, op, textE a1, [41]]).length ≤ 1000000000000 := by simpa using hlen
    have h0 := p0 hargs.1 (Nat.le_trans (jn_mem (xs := [[40], textE a0, op, textE a1, [41]]) (by simp)) hlen')
    have h1 := p1 hargs.2 (Nat.le_trans (jn_mem (xs := [[40], textE a0, op, textE a1, [41]]) (by simp)) hlen')
    obtain ⟨aa, cc, rfl, hq1, hq2, hq3⟩ := hv.form
    obtain ⟨gg, rfl, hKg, hgl, hcs⟩ := hq3 (by simp)
    have hd0 := hcs 0 b0 rfl
    unfold ptr at hd0
    have hd1 := hcs 1 b1 rfl
    unfold ptr at hd1
    have hS : ∀ w', Mv (fun _ => False) W w' → w'.cell? ⟨b, 7, none⟩ = some (.slice (some ⟨gg, 0, none⟩) 2 cc) ∧ w'.cell? ⟨gg, 0, none⟩ = some (.pointer (some ⟨b0, 0, none⟩)) ∧ w'.cell? ⟨gg, 1, none⟩ = some (.pointer (some ⟨b1, 0, none⟩)) ∧ w'.cell? ⟨b, 3, none⟩ = some (.string ⟨op.toArray⟩) := fun w' hm => ⟨hm.cell c7 (fun h => h), hm.cell hd0 (fun h => h), hm.cell hd1 (fun h => h), hm.cell c3 (fun h => h)⟩
    have hm0 : Mv (fun _ => False) W W.drew := Mv.drew W
    have hW : ∀ w1, Calls Tryz.prog 33 #[.slice (some ⟨w1.heap.size, 0, none⟩) 5 5] (w1.alloc (.cells #[.string ⟨#[40]⟩, .string ⟨(textE a0).toArray⟩, .string ⟨op.toArray⟩, .string ⟨(textE a1).toArray⟩, .string ⟨#[41]⟩] 9)) (fun e w' => e = .returned (.string ⟨(jn [[40], textE a0, op, textE a1, [41]]).toArray⟩) ∧ Below w1.heap.size w1 w') := fun w1 => wordsLit [[40], textE a0, op, textE a1, [41]] w1 (by simp) (by omega)
    go_enter Tryz.func62, Tryz.ntmps62
    go_wp2_with fail
    go_region_held (fun w' => w'.cell? ⟨b, 7, none⟩ = some (.slice (some ⟨gg, 0, none⟩) 2 cc) ∧ w'.cell? ⟨gg, 0, none⟩ = some (.pointer (some ⟨b0, 0, none⟩)) ∧ w'.cell? ⟨gg, 1, none⟩ = some (.pointer (some ⟨b1, 0, none⟩)) ∧ w'.cell? ⟨b, 3, none⟩ = some (.string ⟨op.toArray⟩))
      (first | exact hS _ hm0 | exact hS _ hm1 | exact hS _ (hm1.more _) | exact hS _ hm2 | exact hS _ (hm2.more _) | exact hS _ hm3 | exact hS _ (hm3.more _))
      (first | (go_at_call 62; (with_reducible refine Calls.mono (h0 W.drew K b0 (hE0.mv (Keeps.of hm0 (fun _ _ h => h)) (fun _ h => h)) (hEnv.mv hm0 (fun _ _ h => h))) ?_); rintro e w1 ⟨rfl, hb1⟩; (have hm1 : Mv (fun _ => False) W w1 := hm0.trans hb1); unfold str) | (go_at_call 62; (with_reducible refine Calls.mono (h1 w1 K b1 (hE1.mv (Keeps.of hm1 (fun _ _ h => h)) (fun _ h => h)) (hEnv.mv hm1 (fun _ _ h => h))) ?_); rintro e w2 ⟨rfl, hb2⟩; (have hm2 : Mv (fun _ => False) W w2 := hm1.trans hb2); unfold str) | (go_at_call 33; (with_reducible refine Calls.mono (hW w2) ?_); rintro e w3 ⟨rfl, hb3⟩; have hm3 : Mv (fun _ => False) W w3 := hm2.trans (Mv.below hb3)))
    all_goals go_wp2_with fail
    all_goals exact bodyPost_ret (v := .string ⟨(jn [[40], textE a0, op, textE a1, [41]]).toArray⟩) (by simp [results, Tryz.results62, go_sem]) rfl ⟨rfl, hm3⟩
  · obtain ⟨a0, rfl⟩ := exs_one (by simpa using har)
    obtain ⟨b0, rfl, hE0⟩ := exsAt_one hx
    obtain ⟨p0, -⟩ := hPs
    simp only [okEs, Bool.and_true, textsE, List.getD_cons_zero] at hargs hlen ⊢
    have hlen' : (jn [[40], [40], typedT ty, [41], textE a0, [41]]).length ≤ 1000000000000 := by simpa using hlen
    have h0 := p0 hargs (Nat.le_trans (jn_mem (xs := [[40], [40], typedT ty, [41], textE a0, [41]]) (by simp)) hlen')
    obtain ⟨aa, cc, rfl, hq1, hq2, hq3⟩ := hv.form
    obtain ⟨gg, rfl, hKg, hgl, hcs⟩ := hq3 (by simp)
    have hd0 := hcs 0 b0 rfl
    unfold ptr at hd0
    have hS : ∀ w', Mv (fun _ => False) W w' → w'.cell? ⟨b, 7, none⟩ = some (.slice (some ⟨gg, 0, none⟩) 1 cc) ∧ w'.cell? ⟨gg, 0, none⟩ = some (.pointer (some ⟨b0, 0, none⟩)) ∧ w'.cell? ⟨b, 6, none⟩ = some (.string ⟨ty.toArray⟩) := fun w' hm => ⟨hm.cell c7 (fun h => h), hm.cell hd0 (fun h => h), hm.cell c6 (fun h => h)⟩
    have hm0 : Mv (fun _ => False) W W.drew := Mv.drew W
    have hW : ∀ w1, Calls Tryz.prog 33 #[.slice (some ⟨w1.heap.size, 0, none⟩) 6 6] (w1.alloc (.cells #[.string ⟨#[40]⟩, .string ⟨#[40]⟩, .string ⟨(typedT ty).toArray⟩, .string ⟨#[41]⟩, .string ⟨(textE a0).toArray⟩, .string ⟨#[41]⟩] 9)) (fun e w' => e = .returned (.string ⟨(jn [[40], [40], typedT ty, [41], textE a0, [41]]).toArray⟩) ∧ Below w1.heap.size w1 w') := fun w1 => wordsLit [[40], [40], typedT ty, [41], textE a0, [41]] w1 (by simp) (by omega)
    have hT := fun w' => wordsOfZ ty (ascB_len hty) (ascB_asc hty) w'
    unfold str at hT
    go_enter Tryz.func62, Tryz.ntmps62
    go_wp2_with fail
    go_region_held (fun w' => w'.cell? ⟨b, 7, none⟩ = some (.slice (some ⟨gg, 0, none⟩) 1 cc) ∧ w'.cell? ⟨gg, 0, none⟩ = some (.pointer (some ⟨b0, 0, none⟩)) ∧ w'.cell? ⟨b, 6, none⟩ = some (.string ⟨ty.toArray⟩))
      (first | exact hS _ hm0 | exact hS _ hm1 | exact hS _ (hm1.more _) | exact hS _ hm2 | exact hS _ (hm2.more _) | exact hS _ hm3 | exact hS _ (hm3.more _))
      (first | (go_at_call 34; (with_reducible refine Calls.mono (hT _) ?_); rintro e w1 ⟨rfl, hb1⟩; have hm1 : Mv (fun _ => False) W w1 := hm0.trans (Mv.below hb1)) | (go_at_call 62; (with_reducible refine Calls.mono (h0 w1 K b0 (hE0.mv (Keeps.of hm1 (fun _ _ h => h)) (fun _ h => h)) (hEnv.mv hm1 (fun _ _ h => h))) ?_); rintro e w2 ⟨rfl, hb2⟩; (have hm2 : Mv (fun _ => False) W w2 := hm1.trans hb2); unfold str) | (go_at_call 33; (with_reducible refine Calls.mono (hW w2) ?_); rintro e w3 ⟨rfl, hb3⟩; have hm3 : Mv (fun _ => False) W w3 := hm2.trans (Mv.below hb3)))
    all_goals go_wp2_with fail
    all_goals exact bodyPost_ret (v := .string ⟨(jn [[40], [40], typedT ty, [41], textE a0, [41]]).toArray⟩) (by simp [results, Tryz.results62, go_sem]) rfl ⟨rfl, hm3⟩
  · have hlen' : (callT nm (jn (commas (textsE args)))).length ≤ 1000000000000 := by simpa using hlen
    have hin : (jn (commas (textsE args))).length ≤ 1000000000000 := by
      unfold callT at hlen'
      split at hlen'
      · rename_i h; rw [h]; simp
      · exact Nat.le_trans (jn_mem (xs := [nm, [40], jn (commas (textsE args)), [41]]) (by simp)) hlen'
    have hnl := ascB_len hnm
    have hm0 : Mv (fun _ => False) W W.drew := Mv.drew W
    have CL := listZ args hPs hargs hin W.drew K v bs (hv.mv (Keeps.of hm0 (fun _ _ h => h)) (fun _ h => h)) (hx.mv (Keeps.of hm0 (fun _ _ h => h)) (fun _ h => h)) (hEnv.mv hm0 (fun _ _ h => h))
    have C2 := fun w' => callZ nm (jn (commas (textsE args))) w' (by omega)
    simp only [show ¬ ((6 : Int) = 1) by decide, show ¬ ((6 : Int) = 2) by decide, show ¬ ((6 : Int) = 3) by decide, show ¬ ((6 : Int) = 4) by decide, show ¬ ((6 : Int) = 5) by decide, if_true, if_false]
    clear hlen hlen' hin
    generalize jn (commas (textsE args)) = inner at *
    obtain ⟨aa, cc, rfl, -, -, -⟩ := hv.form
    unfold str at *
    have hS : ∀ w', Mv (fun _ => False) W w' → w'.cell? ⟨b, 4, none⟩ = some (.string ⟨nm.toArray⟩) ∧ w'.cell? ⟨b, 7, none⟩ = some (.slice aa bs.length cc) := fun w' hm => ⟨hm.cell c4 (fun h => h), hm.cell c7 (fun h => h)⟩
    go_enter Tryz.func62, Tryz.ntmps62
    go_wp2_with fail
    go_region_held (fun w' => w'.cell? ⟨b, 4, none⟩ = some (.string ⟨nm.toArray⟩) ∧ w'.cell? ⟨b, 7, none⟩ = some (.slice aa bs.length cc))
      (first | exact hS _ hm0 | exact hS _ hm1 | exact hS _ hm2)
      (first | (go_at_call 88; (with_reducible refine Calls.mono CL ?_); rintro e w1 ⟨rfl, hb1⟩; have hm1 : Mv (fun _ => False) W w1 := hm0.trans hb1) | (go_at_call 35; (with_reducible refine Calls.mono (C2 w1) ?_); rintro e w2 ⟨rfl, hb2⟩; have hm2 : Mv (fun _ => False) W w2 := hm1.trans (Mv.below hb2)))
    all_goals go_wp2_with fail
    all_goals exact bodyPost_ret (v := .string ⟨(callT nm inner).toArray⟩) (by simp [results, Tryz.results62, go_sem]) rfl ⟨rfl, hm2⟩
  · obtain ⟨a0, a1, rfl⟩ := exs_two (by simpa using har)
    obtain ⟨b0, b1, rfl, hE0, hE1⟩ := exsAt_two hx
    obtain ⟨p0, p1, -⟩ := hPs
    simp only [okEs, Bool.and_true, Bool.and_eq_true, textsE, List.getD_cons_zero, List.getD_cons_succ] at hargs hlen ⊢
    have hlen' : (jn [textE a0, [91], textE a1, [93]]).length ≤ 1000000000000 := by simpa using hlen
    have h0 := p0 hargs.1 (Nat.le_trans (jn_mem (xs := [textE a0, [91], textE a1, [93]]) (by simp)) hlen')
    have h1 := p1 hargs.2 (Nat.le_trans (jn_mem (xs := [textE a0, [91], textE a1, [93]]) (by simp)) hlen')
    obtain ⟨aa, cc, rfl, hq1, hq2, hq3⟩ := hv.form
    obtain ⟨gg, rfl, hKg, hgl, hcs⟩ := hq3 (by simp)
    have hd0 := hcs 0 b0 rfl
    unfold ptr at hd0
    have hd1 := hcs 1 b1 rfl
    unfold ptr at hd1
    have hS : ∀ w', Mv (fun _ => False) W w' → w'.cell? ⟨b, 7, none⟩ = some (.slice (some ⟨gg, 0, none⟩) 2 cc) ∧ w'.cell? ⟨gg, 0, none⟩ = some (.pointer (some ⟨b0, 0, none⟩)) ∧ w'.cell? ⟨gg, 1, none⟩ = some (.pointer (some ⟨b1, 0, none⟩)) := fun w' hm => ⟨hm.cell c7 (fun h => h), hm.cell hd0 (fun h => h), hm.cell hd1 (fun h => h)⟩
    have hm0 : Mv (fun _ => False) W W.drew := Mv.drew W
    have hW : ∀ w1, Calls Tryz.prog 33 #[.slice (some ⟨w1.heap.size, 0, none⟩) 4 4] (w1.alloc (.cells #[.string ⟨(textE a0).toArray⟩, .string ⟨#[91]⟩, .string ⟨(textE a1).toArray⟩, .string ⟨#[93]⟩] 9)) (fun e w' => e = .returned (.string ⟨(jn [textE a0, [91], textE a1, [93]]).toArray⟩) ∧ Below w1.heap.size w1 w') := fun w1 => wordsLit [textE a0, [91], textE a1, [93]] w1 (by simp) (by omega)
    go_enter Tryz.func62, Tryz.ntmps62
    go_wp2_with fail
    go_region_held (fun w' => w'.cell? ⟨b, 7, none⟩ = some (.slice (some ⟨gg, 0, none⟩) 2 cc) ∧ w'.cell? ⟨gg, 0, none⟩ = some (.pointer (some ⟨b0, 0, none⟩)) ∧ w'.cell? ⟨gg, 1, none⟩ = some (.pointer (some ⟨b1, 0, none⟩)))
      (first | exact hS _ hm0 | exact hS _ hm1 | exact hS _ (hm1.more _) | exact hS _ hm2 | exact hS _ (hm2.more _) | exact hS _ hm3 | exact hS _ (hm3.more _))
      (first | (go_at_call 62; (with_reducible refine Calls.mono (h0 W.drew K b0 (hE0.mv (Keeps.of hm0 (fun _ _ h => h)) (fun _ h => h)) (hEnv.mv hm0 (fun _ _ h => h))) ?_); rintro e w1 ⟨rfl, hb1⟩; (have hm1 : Mv (fun _ => False) W w1 := hm0.trans hb1); unfold str) | (go_at_call 62; (with_reducible refine Calls.mono (h1 w1 K b1 (hE1.mv (Keeps.of hm1 (fun _ _ h => h)) (fun _ h => h)) (hEnv.mv hm1 (fun _ _ h => h))) ?_); rintro e w2 ⟨rfl, hb2⟩; (have hm2 : Mv (fun _ => False) W w2 := hm1.trans hb2); unfold str) | (go_at_call 33; (with_reducible refine Calls.mono (hW w2) ?_); rintro e w3 ⟨rfl, hb3⟩; have hm3 : Mv (fun _ => False) W w3 := hm2.trans (Mv.below hb3)))
    all_goals go_wp2_with fail
    all_goals exact bodyPost_ret (v := .string ⟨(jn [textE a0, [91], textE a1, [93]]).toArray⟩) (by simp [results, Tryz.results62, go_sem]) rfl ⟨rfl, hm3⟩
  · obtain ⟨a0, rfl⟩ := exs_one (by simpa using har)
    obtain ⟨b0, rfl, hE0⟩ := exsAt_one hx
    obtain ⟨p0, -⟩ := hPs
    simp only [okEs, Bool.and_true, textsE, List.getD_cons_zero] at hargs hlen ⊢
    have hlen' : (jn [textE a0, [46], nm]).length ≤ 1000000000000 := by simpa using hlen
    have h0 := p0 hargs (Nat.le_trans (jn_mem (xs := [textE a0, [46], nm]) (by simp)) hlen')
    obtain ⟨aa, cc, rfl, hq1, hq2, hq3⟩ := hv.form
    obtain ⟨gg, rfl, hKg, hgl, hcs⟩ := hq3 (by simp)
    have hd0 := hcs 0 b0 rfl
    unfold ptr at hd0
    have hS : ∀ w', Mv (fun _ => False) W w' → w'.cell? ⟨b, 7, none⟩ = some (.slice (some ⟨gg, 0, none⟩) 1 cc) ∧ w'.cell? ⟨gg, 0, none⟩ = some (.pointer (some ⟨b0, 0, none⟩)) ∧ w'.cell? ⟨b, 4, none⟩ = some (.string ⟨nm.toArray⟩) := fun w' hm => ⟨hm.cell c7 (fun h => h), hm.cell hd0 (fun h => h), hm.cell c4 (fun h => h)⟩
    have hm0 : Mv (fun _ => False) W W.drew := Mv.drew W
    have hW : ∀ w1, Calls Tryz.prog 33 #[.slice (some ⟨w1.heap.size, 0, none⟩) 3 3] (w1.alloc (.cells #[.string ⟨(textE a0).toArray⟩, .string ⟨#[46]⟩, .string ⟨nm.toArray⟩] 9)) (fun e w' => e = .returned (.string ⟨(jn [textE a0, [46], nm]).toArray⟩) ∧ Below w1.heap.size w1 w') := fun w1 => wordsLit [textE a0, [46], nm] w1 (by simp) (by omega)
    go_enter Tryz.func62, Tryz.ntmps62
    go_wp2_with fail
    go_region_held (fun w' => w'.cell? ⟨b, 7, none⟩ = some (.slice (some ⟨gg, 0, none⟩) 1 cc) ∧ w'.cell? ⟨gg, 0, none⟩ = some (.pointer (some ⟨b0, 0, none⟩)) ∧ w'.cell? ⟨b, 4, none⟩ = some (.string ⟨nm.toArray⟩))
      (first | exact hS _ hm0 | exact hS _ hm1 | exact hS _ (hm1.more _) | exact hS _ hm2 | exact hS _ (hm2.more _))
      (first | (go_at_call 62; (with_reducible refine Calls.mono (h0 W.drew K b0 (hE0.mv (Keeps.of hm0 (fun _ _ h => h)) (fun _ h => h)) (hEnv.mv hm0 (fun _ _ h => h))) ?_); rintro e w1 ⟨rfl, hb1⟩; (have hm1 : Mv (fun _ => False) W w1 := hm0.trans hb1); unfold str) | (go_at_call 33; (with_reducible refine Calls.mono (hW w1) ?_); rintro e w2 ⟨rfl, hb2⟩; have hm2 : Mv (fun _ => False) W w2 := hm1.trans (Mv.below hb2)))
    all_goals go_wp2_with fail
    all_goals exact bodyPost_ret (v := .string ⟨(jn [textE a0, [46], nm]).toArray⟩) (by simp [results, Tryz.results62, go_sem]) rfl ⟨rfl, hm2⟩
  · obtain ⟨a0, rfl⟩ := exs_one (by simpa using har)
    obtain ⟨b0, rfl, hE0⟩ := exsAt_one hx
    obtain ⟨p0, -⟩ := hPs
    simp only [okEs, Bool.and_true, textsE, List.getD_cons_zero] at hargs hlen ⊢
    have hlen' : (jn [textE a0, [45, 62], nm]).length ≤ 1000000000000 := by simpa using hlen
    have h0 := p0 hargs (Nat.le_trans (jn_mem (xs := [textE a0, [45, 62], nm]) (by simp)) hlen')
    obtain ⟨aa, cc, rfl, hq1, hq2, hq3⟩ := hv.form
    obtain ⟨gg, rfl, hKg, hgl, hcs⟩ := hq3 (by simp)
    have hd0 := hcs 0 b0 rfl
    unfold ptr at hd0
    have hS : ∀ w', Mv (fun _ => False) W w' → w'.cell? ⟨b, 7, none⟩ = some (.slice (some ⟨gg, 0, none⟩) 1 cc) ∧ w'.cell? ⟨gg, 0, none⟩ = some (.pointer (some ⟨b0, 0, none⟩)) ∧ w'.cell? ⟨b, 4, none⟩ = some (.string ⟨nm.toArray⟩) := fun w' hm => ⟨hm.cell c7 (fun h => h), hm.cell hd0 (fun h => h), hm.cell c4 (fun h => h)⟩
    have hm0 : Mv (fun _ => False) W W.drew := Mv.drew W
    have hW : ∀ w1, Calls Tryz.prog 33 #[.slice (some ⟨w1.heap.size, 0, none⟩) 3 3] (w1.alloc (.cells #[.string ⟨(textE a0).toArray⟩, .string ⟨#[45, 62]⟩, .string ⟨nm.toArray⟩] 9)) (fun e w' => e = .returned (.string ⟨(jn [textE a0, [45, 62], nm]).toArray⟩) ∧ Below w1.heap.size w1 w') := fun w1 => wordsLit [textE a0, [45, 62], nm] w1 (by simp) (by omega)
    go_enter Tryz.func62, Tryz.ntmps62
    go_wp2_with fail
    go_region_held (fun w' => w'.cell? ⟨b, 7, none⟩ = some (.slice (some ⟨gg, 0, none⟩) 1 cc) ∧ w'.cell? ⟨gg, 0, none⟩ = some (.pointer (some ⟨b0, 0, none⟩)) ∧ w'.cell? ⟨b, 4, none⟩ = some (.string ⟨nm.toArray⟩))
      (first | exact hS _ hm0 | exact hS _ hm1 | exact hS _ (hm1.more _) | exact hS _ hm2 | exact hS _ (hm2.more _))
      (first | (go_at_call 62; (with_reducible refine Calls.mono (h0 W.drew K b0 (hE0.mv (Keeps.of hm0 (fun _ _ h => h)) (fun _ h => h)) (hEnv.mv hm0 (fun _ _ h => h))) ?_); rintro e w1 ⟨rfl, hb1⟩; (have hm1 : Mv (fun _ => False) W w1 := hm0.trans hb1); unfold str) | (go_at_call 33; (with_reducible refine Calls.mono (hW w1) ?_); rintro e w2 ⟨rfl, hb2⟩; have hm2 : Mv (fun _ => False) W w2 := hm1.trans (Mv.below hb2)))
    all_goals go_wp2_with fail
    all_goals exact bodyPost_ret (v := .string ⟨(jn [textE a0, [45, 62], nm]).toArray⟩) (by simp [results, Tryz.results62, go_sem]) rfl ⟨rfl, hm2⟩
  · have C := callZ [105, 110] [] W (by simp)
    unfold str at *
    go_enter Tryz.func62, Tryz.ntmps62
    go_wp2_with fail
    refine C.mono ?_
    rintro e w1 ⟨rfl, hb1⟩
    go_wp2_with fail
    exact bodyPost_ret (v := .string ⟨(callT [105, 110] []).toArray⟩) (by simp [results, Tryz.results62, go_sem]) rfl ⟨rfl, Mv.below hb1⟩
  · have hl := typedT_le ty
    have hl2 := ascB_len hty
    have C1 := fun w' => wordsOfZ ty (ascB_len hty) (ascB_asc hty) w'
    have C2 := fun w' => callZ [115, 105, 122, 101, 111, 102] (typedT ty) w' (by simp; omega)
    unfold str at *
    go_enter Tryz.func62, Tryz.ntmps62
    go_wp2_with fail
    refine (C1 _).mono ?_
    rintro e w1 ⟨rfl, hb1⟩
    go_wp2_with fail
    refine (C2 _).mono ?_
    rintro e w2 ⟨rfl, hb2⟩
    go_wp2_with fail
    exact bodyPost_ret (v := .string ⟨(callT [115, 105, 122, 101, 111, 102] (typedT ty)).toArray⟩) (by simp [results, Tryz.results62, go_sem]) rfl ⟨rfl, (Mv.below hb1).trans (Mv.below hb2)⟩
mutual
theorem textEZ : ∀ e : Ex, PE e
  | .mk k op nm n ty args tall => exprText k op nm n ty args tall (textEsZ args)
theorem textEsZ : ∀ l : Exs, PEs l
  | .nil => trivial
  | .cons e l => ⟨textEZ e, textEsZ l⟩
end
end Go.Proofs.YtjgpbpmicopemaaGreatDoor
