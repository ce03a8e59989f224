/-
  What plumbobref4.Words keeps in memory, and the meeting point of its switch.
-/
import Derived.Test.YtjgpbpmicopemaaDoorRefNumWalk
import Derived.Test.YtjgpbpmicopemaaDoorRefCuts
import Derived.Test.YtjgpbpmicopemaaDoorJoinsWalk
import Derived.Test.YtjgpbpmicopemaaDoorBack
import Derived.Deep.CutBlock
namespace Go.Proofs.YtjgpbpmicopemaaDoor
open Go.RowKit

theorem info34 : (Tryd.prog.info? 34).map (fun i => (i.zero, i.size, i.bytes)) = some (some (.agg #[.int .i64 0, .string ⟨#[]⟩, .int .i64 0, .int .i64 0, .int .i64 0]), 5, 48) := by kernel_rfl
theorem mk31 (W : World) : (Instr.makeSlice 31 (.int .i64 0) (.int .i64 0)).run Tryd.prog W = .ok (.slice (some ⟨W.heap.size, 0, none⟩) 0 0) (W.alloc (.cells #[] 34)) := by
  obtain ⟨i0, hi, hz0, hz1, hz2⟩ := info_parts info34
  have := run_makeSlice (P := Tryd.prog) (w := W) (kl := .i64) (kc := .i64) (l := 0) (c := 0) 31 34 i0 _ Tryd.underlying31 hi hz0
  have e : ∀ z : Array Value, madeCells z 0 = #[] := fun z => by simp [madeCells]
  simp only [Int.toNat_zero, Nat.zero_mul, e] at this
  exact this (by decide) (by decide) (by decide) (by simp) (by decide)
/-- what Words keeps in memory between two rounds -/
structure Rw (w0 : World) (v : Value) (pre : List It) (W : World) : Prop where
  plc : PlcAt W w0.heap.size (0, 0)
  row : W.ownsRow (w0.heap.size + 1) 34 5 v pre.length (pre.flatMap It.cells)
  low : Below w0.heap.size w0 W
theorem row34_alloc {W : World} {B : Nat} {v : Value} {n : Nat} {xs : List Value} (h : W.ownsRow B 34 5 v n xs) {W' : World} (hb : Below W.heap.size W W') : W'.ownsRow B 34 5 v n xs := by
  obtain ⟨h1, h2 | ⟨g, cap, cur, e1, e2, e3, e4⟩⟩ := h
  · exact ⟨h1, .inl h2⟩
  · exact ⟨h1, .inr ⟨g, cap, cur, e1, e2, (hb.block g (heap_lt e3)).trans e3, e4⟩⟩
theorem Rw.below {w0 : World} {v : Value} {pre : List It} {W W' : World} (h : Rw w0 v pre W) (hb : Below W.heap.size W W') : Rw w0 v pre W' :=
  ⟨h.plc.below hb, row34_alloc h.row hb, h.low.trans (hb.mono h.low.size)⟩
theorem slice_of_row34 {W : World} {B : Nat} {v : Value} {n : Nat} {xs : List Value} (h : W.ownsRow B 34 5 v n xs) : ∃ b m c, v = .slice b m c := by
  obtain ⟨-, ⟨rfl, -⟩ | ⟨g, cap, cur, rfl, -⟩⟩ := h
  · exact ⟨_, _, _, rfl⟩
  · exact ⟨_, _, _, rfl⟩
theorem Rw.start (w : World) : Rw w (.slice (some ⟨w.heap.size + 1, 0, none⟩) 0 0) [] ((w.alloc (.cells #[.int .i64 0, .int .i64 0] 25)).alloc (.cells #[] 34)) := by
  refine ⟨(Below.heap_alloc _ _ _ (by simp)).trans (heap_alloc_new w _), ⟨rfl, .inr ⟨w.heap.size + 1, 0, #[], rfl, Nat.le_refl _, ?_, Nat.le_refl _, by decide, rfl, rfl⟩⟩, ((Below.refl _ _).alloc (Nat.le_refl _) _).alloc (by simp) _⟩
  have := heap_alloc_new (w.alloc (.cells #[.int .i64 0, .int .i64 0] 25)) (.cells #[] 34)
  rwa [World.size_alloc] at this
theorem Rw.told {w0 : World} {v : Value} {pre : List It} {W : World} (h : Rw w0 v pre W) (p q : Int) :
    PlcAt ((W.setCell ⟨w0.heap.size, 0, none⟩ (.int .i64 p)).setCell ⟨w0.heap.size, 1, none⟩ (.int .i64 q)) w0.heap.size (p, q) ∧
    ((W.setCell ⟨w0.heap.size, 0, none⟩ (.int .i64 p)).setCell ⟨w0.heap.size, 1, none⟩ (.int .i64 q)).ownsRow w0.heap.size 34 5 v pre.length (pre.flatMap It.cells) ∧
    Below w0.heap.size w0 ((W.setCell ⟨w0.heap.size, 0, none⟩ (.int .i64 p)).setCell ⟨w0.heap.size, 1, none⟩ (.int .i64 q)) := by
  refine ⟨set_same (set_same h.plc), ?_, (h.low.setCell (p := ⟨w0.heap.size, 0, none⟩) (Nat.le_refl _) _).setCell (p := ⟨w0.heap.size, 1, none⟩) (Nat.le_refl _) _⟩
  obtain ⟨h1, h2 | ⟨g, cap, cur, e1, e2, e3, e4⟩⟩ := h.row
  · exact ⟨h1, .inl h2⟩
  · exact ⟨h1, .inr ⟨g, cap, cur, e1, by omega, (set_other (by omega)).trans ((set_other (by omega)).trans e3), e4⟩⟩
theorem row34_base {W : World} {B B' : Nat} {v : Value} {n : Nat} {xs : List Value} (h : W.ownsRow B 34 5 v n xs) (hb : B' ≤ B) : W.ownsRow B' 34 5 v n xs := by
  obtain ⟨h1, h2 | ⟨g, cap, cur, e1, e2, e3⟩⟩ := h
  · exact ⟨h1, .inl h2⟩
  · exact ⟨h1, .inr ⟨g, cap, cur, e1, Nat.le_trans hb e2, e3⟩⟩
theorem row34_in {W : World} {B : Nat} {v : Value} {n : Nat} {xs : List Value} (h : W.ownsRow B 34 5 v n xs) : ∀ g, v.ownBlock = some g → B ≤ g ∧ g < W.heap.size := by
  obtain ⟨-, ⟨rfl, -⟩ | ⟨g, cap, cur, rfl, e2, e3, -⟩⟩ := h
  · intro g hg; cases hg
  · intro g' hg
    have : g = g' := Option.some.inj hg
    subst this
    exact ⟨e2, heap_lt e3⟩
theorem Rw.appended {w0 : World} {v : Value} {pre : List It} {W2 : World} (R : Rw w0 v pre W2) (x : It) {tmp : Obj} {w1 : World} {v' : Value}
    (hown : w1.ownsRow (w0.heap.size + 1) 34 5 v' (pre.length + 1) (pre.flatMap It.cells ++ x.cells)) (hgrow : (W2.alloc tmp).grownBy w1 v.ownBlock) : Rw w0 v' (pre ++ [x]) w1 := by
  have hrow := row34_in R.row
  have hm : Mv (fun k => v.ownBlock = some k) W2 w1 := (Mv.alloc W2 tmp).trans (Mv.of_grown hgrow (fun r h => h))
  refine ⟨(hm.same _ (heap_lt R.plc) (fun h => by have := hrow _ h; omega)).trans R.plc, ?_, ⟨hm.os.trans R.low.os, hm.tape.trans R.low.tape, hm.output.trans R.low.output, Nat.le_trans R.low.size hm.size, fun k hk => (hm.same k (Nat.lt_of_lt_of_le hk R.low.size) (fun h => by have := hrow _ h; omega)).trans (R.low.block k hk)⟩⟩
  have : (pre ++ [x]).flatMap It.cells = pre.flatMap It.cells ++ x.cells := by simp
  rw [this, List.length_append]
  exact hown
theorem scanF_len : ∀ (f : Nat) (p : Int × Int) (l : List UInt8), (scanF f p l).length ≤ f
  | 0, _, _ => by simp [scanF]
  | _ + 1, _, [] => by simp [scanF]
  | f + 1, p, c :: l => by
    unfold scanF
    split
    · simp
    · split
      · have := scanF_len f (nextP p ((c :: l).take (blankV (c :: l)).1.toNat)) ((c :: l).drop (blankV (c :: l)).1.toNat)
        omega
      · cases wordO (c :: l) with
        | none => simp
        | some d =>
          have := scanF_len f (nextP p ((c :: l).take d.t.length)) ((c :: l).drop d.t.length)
          simp only [List.length_cons]
          omega
theorem Rs.few {s : List UInt8} {i : Nat} {pre : List It} (h : Rs s i pre) : pre.length ≤ s.length + 1 := by
  obtain ⟨-, -, f, -, h4⟩ := h
  have h5 : (scanL s).length ≤ s.length + 1 := scanF_len _ _ _
  rw [h4, List.length_append] at h5
  omega
theorem nameS_go {s : List UInt8} {i n : Nat} (hn : n ≤ nameN (s.drop i)) (h : i + n < s.length) (hg : goesC s[i + n] = true) : n + 1 ≤ nameN (s.drop i) :=
  nameN_go hn (by rw [List.length_drop]; omega) (by rw [List.getElem_drop]; exact hg)
theorem nameS_stop {s : List UInt8} {i n : Nat} (hn : n ≤ nameN (s.drop i)) (h : i + n < s.length) (hg : goesC s[i + n] = false) : nameN (s.drop i) = n :=
  nameN_stop hn (by rw [List.length_drop]; omega) (by rw [List.getElem_drop]; exact hg)
theorem nameS_end {s : List UInt8} {i n : Nat} (hn : n ≤ nameN (s.drop i)) (h : ¬ i + n < s.length) : nameN (s.drop i) = n :=
  nameN_end hn (by rw [List.length_drop]; omega)
theorem cut_mid (l : List UInt8) (i n : Nat) : (⟨l.toArray⟩ : ByteArray).extract i (i + n) = ⟨((l.drop i).take n).toArray⟩ := by
  rw [Lib.extract_eq]
  simp
theorem Rw.set {w0 : World} {v : Value} {pre : List It} {W : World} (R : Rw w0 v pre W) {gb : Nat} (h1 : w0.heap.size < gb) (h2 : ∀ g, v.ownBlock = some g → g < gb) (k : Nat) (x : Value) : Rw w0 v pre (W.setCell ⟨gb, k, none⟩ x) := by
  refine ⟨(set_other (by omega)).trans R.plc, ?_, R.low.setCell (p := ⟨gb, k, none⟩) (Nat.le_of_lt h1) _⟩
  obtain ⟨a1, a2 | ⟨g, cap, cur, rfl, e2, e3, e4⟩⟩ := R.row
  · exact ⟨a1, .inl a2⟩
  · have := h2 g rfl
    exact ⟨a1, .inr ⟨g, cap, cur, rfl, e2, (set_other (by omega)).trans e3, e4⟩⟩
theorem box5t {w : World} {g : Nat} {a b c d e : Value} {t : TypeId} (h : w.heap[g]? = some (.cells #[a, b, c, d, e] t (0, 0))) :
    w.cell? ⟨g, 0, none⟩ = some a ∧ w.cell? ⟨g, 1, none⟩ = some b ∧ w.cell? ⟨g, 2, none⟩ = some c ∧ w.cell? ⟨g, 3, none⟩ = some d ∧ w.cell? ⟨g, 4, none⟩ = some e ∧
    w.frozen? ⟨g, 0, none⟩ = false ∧ w.frozen? ⟨g, 2, none⟩ = false := by
  refine ⟨?_, ?_, ?_, ?_, ?_, ?_, ?_⟩ <;> simp [World.cell?, World.frozen?, h]
theorem starts_not (x : Int) (h : startsI x = true) : digitI x = false := by
  cases hd : digitI x
  · rfl
  · exfalso
    simp [startsI, digitI] at h hd
    omega
/-- what Words answers -/
def RRw (s : List UInt8) (w : World) (e : Ending) (w' : World) : Prop := ∃ v p n, e = .returned (.tuple #[v, .agg #[.int .i64 (p : Int × Int).1, .int .i64 p.2], .int .i64 n]) ∧
  ∃ pre : List It, w'.ownsRow w.heap.size 34 5 v pre.length (pre.flatMap It.cells) ∧ Below w.heap.size w w' ∧
    ((65536 < s.length ∧ pre = [] ∧ p = (0, 0) ∧ n = 2) ∨ (s.length ≤ 65536 ∧ pre = goods s ∧ p = faultP s ∧ n = if (faultO s).isSome then 3 else 0))
theorem byteNe {c k : UInt8} (h : c ≠ k) : ((c.toNat : Int) == (k.toNat : Int)) = false := beq_eq_false_iff_ne.2 fun e => h (UInt8.toNat.inj (by omega))
/-- a block of a function's code, by its number -/
def blockOf (n : Nat) : Code → Option Code
  | .seq a b => (blockOf n a).or (blockOf n b)
  | .cond _ a b => (blockOf n a).or (blockOf n b)
  | .block id b => if id = n then some (.block id b) else blockOf n b
  | .loop b => blockOf n b
  | _ => none
/-- what holds where the switch begins -/
structure At10 (s : List UInt8) (w w1 : World) (i fr : Nat) (ln : Int) (pre : List It) (v : Value) (c : UInt8) (ga : Nat) (hlt : i < s.length) : Prop where
  hl : ¬ 65536 < s.length
  hi : i ≤ s.length
  hfr : fr ≤ i
  S1 : nextP (1, 1) (s.take i) = (ln, (i : Int) - fr + 1)
  S2 : Rs s i pre
  hc : c = s[i]
  R3 : Rw w v pre w1
  hat : PlcAt w1 ga (ln, (i : Int) - fr + 1)
/-- what is behind the switch: the words reached a step on -/
def Meets (s : List UInt8) (w : World) (i fr : Nat) (ln : Int) (ga : Nat) (K : Act → World → Prop) (z1 z2 z4 z17 z18 z19 z20 z21 z22 z242 z243 : Value) : Prop :=
  ∀ (v' : Value) (pre' : List It) (n : Nat) (x10 x11 : Value) (w' : World), x11 = .int .i64 n → 1 ≤ n → i + n ≤ s.length → Rs s (i + n) pre' → Rw w v' pre' w' → ∀ (b12 b13 b14 b15 b16 b23 b24 b25 b26 b27 b28 b29 b30 b31 b32 b33 b34 b35 b36 b37 b38 b39 b40 b41 b42 b43 b44 b45 b46 b47 b48 b49 b50 b51 b52 b53 b54 b55 b56 b57 b58 b59 b60 b61 b62 b63 b64 b65 b66 b67 b68 b69 b70 b71 b72 b73 b74 b75 b76 b77 b78 b79 b80 b81 b82 b83 b84 b85 b86 b87 b88 b89 b90 b91 b92 b93 b94 b95 b96 b97 b98 b99 b100 b101 b102 b103 b104 b105 b106 b107 b108 b109 b110 b111 b112 b113 b114 b115 b116 b117 b118 b119 b120 b121 b122 b123 b124 b125 b126 b127 b128 b129 b130 b131 b132 b133 b134 b135 b136 b137 b138 b139 b140 b141 b142 b143 b144 b145 b146 b147 b148 b149 b150 b151 b152 b153 b154 b155 b156 b157 b158 b159 b160 b161 b162 b163 b164 b165 b166 b167 b168 b169 b170 b171 b172 b173 b174 b175 b176 b177 b178 b179 b180 b181 b182 b183 b184 b185 b186 b187 b188 b189 b190 b191 b192 b193 b194 b195 b196 b197 b198 b199 b200 b201 b202 b203 b204 b205 b206 b207 b208 b209 b210 b211 b212 b213 b214 b215 b216 b217 b218 b219 b220 b221 b222 b223 b224 b225 b226 b227 b228 b229 b230 b231 b232 b233 b234 b235 b236 b237 b238 b239 b240 b241 : Value),
    K { tmps := #[(.string ⟨s.toArray⟩), z1, z2, (.pointer (some ⟨w.heap.size, 0, none⟩)), z4, v', (.int .i64 ln), (.int .i64 (fr : Int)), (.int .i64 (i : Int)), (.pointer (some ⟨ga, 0, none⟩)), x10, x11, b12, b13, b14, b15, b16, z17, z18, z19, z20, z21, z22, b23, b24, b25, b26, b27, b28, b29, b30, b31, b32, b33, b34, b35, b36, b37, b38, b39, b40, b41, b42, b43, b44, b45, b46, b47, b48, b49, b50, b51, b52, b53, b54, b55, b56, b57, b58, b59, b60, b61, b62, b63, b64, b65, b66, b67, b68, b69, b70, b71, b72, b73, b74, b75, b76, b77, b78, b79, b80, b81, b82, b83, b84, b85, b86, b87, b88, b89, b90, b91, b92, b93, b94, b95, b96, b97, b98, b99, b100, b101, b102, b103, b104, b105, b106, b107, b108, b109, b110, b111, b112, b113, b114, b115, b116, b117, b118, b119, b120, b121, b122, b123, b124, b125, b126, b127, b128, b129, b130, b131, b132, b133, b134, b135, b136, b137, b138, b139, b140, b141, b142, b143, b144, b145, b146, b147, b148, b149, b150, b151, b152, b153, b154, b155, b156, b157, b158, b159, b160, b161, b162, b163, b164, b165, b166, b167, b168, b169, b170, b171, b172, b173, b174, b175, b176, b177, b178, b179, b180, b181, b182, b183, b184, b185, b186, b187, b188, b189, b190, b191, b192, b193, b194, b195, b196, b197, b198, b199, b200, b201, b202, b203, b204, b205, b206, b207, b208, b209, b210, b211, b212, b213, b214, b215, b216, b217, b218, b219, b220, b221, b222, b223, b224, b225, b226, b227, b228, b229, b230, b231, b232, b233, b234, b235, b236, b237, b238, b239, b240, b241, z242, z243], defers := [] } w'
end Go.Proofs.YtjgpbpmicopemaaDoor
