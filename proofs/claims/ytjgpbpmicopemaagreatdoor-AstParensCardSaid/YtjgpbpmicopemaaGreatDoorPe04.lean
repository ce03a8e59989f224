import Derived.Test.YtjgpbpmicopemaaGreatDoorPe03
import Derived.Test.YtjgpbpmicopemaaGreatDoorPb05
import Derived.Test.YtjgpbpmicopemaaGreatDoorPb14
import Derived.Deep.CutBlock

namespace Go.Proofs.YtjgpbpmicopemaaGreatDoor
open Go.RowKit
theorem info34 : (Tryz.prog.info? 34).map (fun i => (i.zero, i.size, i.bytes)) = some (some (.agg #[.int .i64 0, .string ⟨#[]⟩, .int .i64 0, .int .i64 0, .int .i64 0]), 5, 48) := by kernel_rfl
theorem mk31 (W : World) : (Instr.makeSlice 30 (.int .i64 0) (.int .i64 0)).run Tryz.prog W = .ok (.slice (some ⟨W.heap.size, 0, none⟩) 0 0) (W.alloc (.cells #[] 34)) := by
  obtain ⟨i0, hi, hz0, hz1, hz2⟩ := info_parts info34
  have := run_makeSlice (P := Tryz.prog) (w := W) (kl := .i64) (kc := .i64) (l := 0) (c := 0) 30 34 i0 _ Tryz.underlying30 hi hz0
  have e : ∀ z : Array Value, madeCells z 0 = #[] := fun z => by simp [madeCells]
  simp only [Int.toNat_zero, Nat.zero_mul, e] at this
  exact this (by decide) (by decide) (by decide) (by simp) (by decide)
structure Rw (w0 : World) (v : Value) (pre : List It) (W : World) : Prop where
  plc : PlcAt W w0.heap.size (0, 0)
  row : W.ownsRow (w0.heap.size + 1) 34 5 v pre.length (pre.flatMap It.cells)
  low : Below w0.heap.size w0 W
theorem row34_alloc {W : World} {B : Nat} {v : Value} {n : Nat} {xs : List Value} (h : W.ownsRow B 34 5 v n xs) {W' : World} (hb : Below W.heap.size W W') : W'.ownsRow B 34 5 v n xs := by
  obtain ⟨h1, h2 | ⟨g, cap, cur, e1, e2, e3, e4⟩⟩ := h
  · exact ⟨h1, .inl h2⟩
  · exact ⟨h1, .inr ⟨g, cap, cur, e1, e2, (hb.block g (heap_lt e3)).trans e3, e4⟩⟩
theorem Rw.below {w0 : World} {v : Value} {pre : List It} {W W' : World} (h : Rw w0 v pre W) (hb : Below W.heap.size W W') : Rw w0 v pre W' :=
  ⟨h.plc.below hb, row34_alloc h.row hb, h.low.trans (hb.mono h.low.size)⟩
theorem slice_of_row34 {W : World} {B : Nat} {v : Value} {n : Nat} {xs : List Value} (h : W.ownsRow B 34 5 v n xs) : ∃ b m c, v = .slice b m c := by
  obtain ⟨-, ⟨rfl, -⟩ | ⟨g, cap, cur, rfl, -⟩⟩ := h
  · exact ⟨_, _, _, rfl⟩
  · exact ⟨_, _, _, rfl⟩
theorem Rw.start (w : World) : Rw w (.slice (some ⟨w.heap.size + 1, 0, none⟩) 0 0) [] ((w.alloc (.cells #[.int .i64 0, .int .i64 0] 26)).alloc (.cells #[] 34)) := by
  refine ⟨(Below.heap_alloc _ _ _ (by simp)).trans (heap_alloc_new w _), ⟨rfl, .inr ⟨w.heap.size + 1, 0, #[], rfl, Nat.le_refl _, ?_, Nat.le_refl _, by decide, rfl, rfl⟩⟩, ((Below.refl _ _).alloc (Nat.le_refl _) _).alloc (by simp) _⟩
  have := heap_alloc_new (w.alloc (.cells #[.int .i64 0, .int .i64 0] 26)) (.cells #[] 34)
  rwa [World.size_alloc] at this
theorem Rw.told {w0 : World} {v : Value} {pre : List It} {W : World} (h : Rw w0 v pre W) (p q : Int) :
    PlcAt ((W.setCell ⟨w0.heap.size, 0, none⟩ (.int .i64 p)).setCell ⟨w0.heap.size, 1, none⟩ (.int .i64 q)) w0.heap.size (p, q) ∧
    ((W.setCell ⟨w0.heap.size, 0, none⟩ (.int .i64 p)).setCell ⟨w0.heap.size, 1, none⟩ (.int .i64 q)).ownsRow w0.heap.size 34 5 v pre.length (pre.flatMap It.cells) ∧
    Below w0.heap.size w0 ((W.setCell ⟨w0.heap.size, 0, none⟩ (.int .i64 p)).setCell ⟨w0.heap.size, 1, none⟩ (.int .i64 q)) := by
  refine ⟨set_same (set_same h.plc), ?_, (h.low.setCell (p := ⟨w0.heap.size, 0, none⟩) (Nat.le_refl _) _).setCell (p := ⟨w0.heap.size, 1, none⟩) (Nat.le_refl _) _⟩
  obtain ⟨h1, h2 | ⟨g, cap, cur, e1, e2, e3, e4⟩⟩ := h.row
  · exact ⟨h1, .inl h2⟩
  · exact ⟨h1, .inr ⟨g, cap, cur, e1, by omega, (set_other (by omega)).trans ((set_other (by omega)).trans e3), e4⟩⟩
theorem row34_base {W : World} {B B' : Nat} {v : Value} {n : Nat} {xs : List Value} (h : W.ownsRow B 34 5 v n xs) (hb : B' ≤ B) : W.ownsRow B' 34 5 v n xs := by
  obtain ⟨h1, h2 | ⟨g, cap, cur, e1, e2, e3⟩⟩ := h
  · exact ⟨h1, .inl h2⟩
  · exact ⟨h1, .inr ⟨g, cap, cur, e1, Nat.le_trans hb e2, e3⟩⟩
theorem row34_in {W : World} {B : Nat} {v : Value} {n : Nat} {xs : List Value} (h : W.ownsRow B 34 5 v n xs) : ∀ g, v.ownBlock = some g → B ≤ g ∧ g < W.heap.size := by
  obtain ⟨-, ⟨rfl, -⟩ | ⟨g, cap, cur, rfl, e2, e3, -⟩⟩ := h
  · intro g hg; cases hg
  · intro g' hg
    have : g = g' := Option.some.inj hg
    subst this
    exact ⟨e2, heap_lt e3⟩
theorem Rw.appended {w0 : World} {v : Value} {pre : List It} {W2 : World} (R : Rw w0 v pre W2) (x : It) {tmp : Obj} {w1 : World} {v' : Value}
    (hown : w1.ownsRow (w0.heap.size + 1) 34 5 v' (pre.length + 1) (pre.flatMap It.cells ++ x.cells)) (hgrow : (W2.alloc tmp).grownBy w1 v.ownBlock) : Rw w0 v' (pre ++ [x]) w1 := by
  have hrow := row34_in R.row
  have hm : Mv (fun k => v.ownBlock = some k) W2 w1 := (Mv.alloc W2 tmp).trans (Mv.of_grown hgrow (fun r h => h))
  refine ⟨(hm.same _ (heap_lt R.plc) (fun h => by have := hrow _ h; omega)).trans R.plc, ?_, ⟨hm.os.trans R.low.os, hm.tape.trans R.low.tape, hm.output.trans R.low.output, Nat.le_trans R.low.size hm.size, fun k hk => (hm.same k (Nat.lt_of_lt_of_le hk R.low.size) (fun h => by have := hrow _ h; omega)).trans (R.low.block k hk)⟩⟩
  have : (pre ++ [x]).flatMap It.cells = pre.flatMap It.cells ++ x.cells := by simp
  rw [this, List.length_append]
  exact hown
theorem scanF_len : ∀ (f : Nat) (p : Int × Int) (l : List UInt8), (scanF f p l).length ≤ f
  | 0, _, _ => by simp [scanF]
  | _ + 1, _, [] => by simp [scanF]
  | f + 1, p, c :: l => by
    unfold scanF
    split
    · simp
    · split
      · have := scanF_len f (nextP p ((c :: l).take (blankV (c :: l)).1.toNat)) ((c :: l).drop (blankV (c :: l)).1.toNat)
        omega
      · cases wordO (c :: l) with
        | none => simp
        | some d =>
          have := scanF_len f (nextP p ((c :: l).take d.t.length)) ((c :: l).drop d.t.length)
          simp only [List.length_cons]
          omega
theorem Rs.few {s : List UInt8} {i : Nat} {pre : List It} (h : Rs s i pre) : pre.length ≤ s.length + 1 := by
  obtain ⟨-, -, f, -, h4⟩ := h
  have h5 : (scanL s).length ≤ s.length + 1 := scanF_len _ _ _
  rw [h4, List.length_append] at h5
  omega
theorem nameS_go {s : List UInt8} {i n : Nat} (hn : n ≤ nameN (s.drop i)) (h : i + n < s.length) (hg : goesC s[i + n] = true) : n + 1 ≤ nameN (s.drop i) :=
  nameN_go hn (by rw [List.length_drop]; omega) (by rw [List.getElem_drop]; exact hg)
theorem nameS_stop {s : List UInt8} {i n : Nat} (hn : n ≤ nameN (s.drop i)) (h : i + n < s.length) (hg : goesC s[i + n] = false) : nameN (s.drop i) = n :=
  nameN_stop hn (by rw [List.length_drop]; omega) (by rw [List.getElem_drop]; exact hg)
theorem nameS_end {s : List UInt8} {i n : Nat} (hn : n ≤ nameN (s.drop i)) (h : ¬ i + n < s.length) : nameN (s.drop i) = n :=
  nameN_end hn (by rw [List.length_drop]; omega)
theorem cut_mid (l : List UInt8) (i n : Nat) : (⟨l.toArray⟩ : ByteArray).extract i (i + n) = ⟨((l.drop i).take n).toArray⟩ := by
  rw [Lib.extract_eq]
  simp
theorem Rw.set {w0 : World} {v : Value} {pre : List It} {W : World} (R : Rw w0 v pre W) {gb : Nat} (h1 : w0.heap.size < gb) (h2 : ∀ g, v.ownBlock = some g → g < gb) (k : Nat) (x : Value) : Rw w0 v pre (W.setCell ⟨gb, k, none⟩ x) := by
  refine ⟨(set_other (by omega)).trans R.plc, ?_, R.low.setCell (p := ⟨gb, k, none⟩) (Nat.le_of_lt h1) _⟩
  obtain ⟨a1, a2 | ⟨g, cap, cur, rfl, e2, e3, e4⟩⟩ := R.row
  · exact ⟨a1, .inl a2⟩
  · have := h2 g rfl
    exact ⟨a1, .inr ⟨g, cap, cur, rfl, e2, (set_other (by omega)).trans e3, e4⟩⟩
theorem box5t {w : World} {g : Nat} {a b c d e : Value} {t : TypeId} (h : w.heap[g]? = some (.cells #[a, b, c, d, e] t (0, 0))) :
    w.cell? ⟨g, 0, none⟩ = some a ∧ w.cell? ⟨g, 1, none⟩ = some b ∧ w.cell? ⟨g, 2, none⟩ = some c ∧ w.cell? ⟨g, 3, none⟩ = some d ∧ w.cell? ⟨g, 4, none⟩ = some e ∧
    w.frozen? ⟨g, 0, none⟩ = false ∧ w.frozen? ⟨g, 2, none⟩ = false := by
  refine ⟨?_, ?_, ?_, ?_, ?_, ?_, ?_⟩ <;> simp [World.cell?, World.frozen?, h]
theorem starts_not (x : Int) (h : startsI x = true) : digitI x = false := by
  cases hd : digitI x
  · rfl
  · exfalso
    simp [startsI, digitI] at h hd
    omega
def RRw (s : List UInt8) (w : World) (e : Ending) (w' : World) : Prop := ∃ v p n, e = .returned (.tuple #[v, .agg #[.int .i64 (p : Int × Int).1, .int .i64 p.2], .int .i64 n]) ∧
  ∃ pre : List It, w'.ownsRow w.heap.size 34 5 v pre.length (pre.flatMap It.cells) ∧ Below w.heap.size w w' ∧
    ((65536 < s.length ∧ pre = [] ∧ p = (0, 0) ∧ n = 2) ∨ (s.length ≤ 65536 ∧ pre = goods s ∧ p = faultP s ∧ n = if (faultO s).isSome then 3 else 0))
theorem byteNe {c k : UInt8} (h : c ≠ k) : ((c.toNat : Int) == (k.toNat : Int)) = false := beq_eq_false_iff_ne.2 fun e => h (UInt8.toNat.inj (by omega))
def blockOf (n : Nat) : Code → Option Code
  | .seq a b => (blockOf n a).or (blockOf n b)
  | .cond _ a b => (blockOf n a).or (blockOf n b)
  | .block id b => if id = n then some (.block id b) else blockOf n b
  | .loop b => blockOf n b
  | _ => none
structure At10 (s : List UInt8) (w w1 : World) (i fr : Nat) (ln : Int) (pre : List It) (v : Value) (c : UInt8) (ga : Nat) (hlt : i < s.length) : Prop where
  hl : ¬ 65536 < s.length
  hi : i ≤ s.length
  hfr : fr ≤ i
  S1 : nextP (1, 1) (s.take i) = (ln, (i : Int) - fr + 1)
  S2 : Rs s i pre
  hc : c = s[i]
  R3 : Rw w v pre w1
  hat : PlcAt w1 ga (ln, (i : Int) - fr + 1)
def Meets (s : List UInt8) (w : World) (i fr : Nat) (ln : Int) (ga : Nat) (K : Act → World → Prop) (z1 z2 z4 z17 z18 z19 z20 z21 z22 z242 z243 : Value) : Prop :=
  ∀ (v' : Value) (pre' : List It) (n : Nat) (x10 x11 : Value) (w' : World), x11 = .int .i64 n → 1 ≤ n → i + n ≤ s.length → Rs s (i + n) pre' → Rw w v' pre' w' → ∀ (b12 b13 b14 b15 b16 b23 b24 b25 b26 b27 b28 b29 b30 b31 b32 b33 b34 b35 b36 b37 b38 b39 b40 b41 b42 b43 b44 b45 b46 b47 b48 b49 b50 b51 b52 b53 b54 b55 b56 b57 b58 b59 b60 b61 b62 b63 b64 b65 b66 b67 b68 b69 b70 b71 b72 b73 b74 b75 b76 b77 b78 b79 b80 b81 b82 b83 b84 b85 b86 b87 b88 b89 b90 b91 b92 b93 b94 b95 b96 b97 b98 b99 b100 b101 b102 b103 b104 b105 b106 b107 b108 b109 b110 b111 b112 b113 b114 b115 b116 b117 b118 b119 b120 b121 b122 b123 b124 b125 b126 b127 b128 b129 b130 b131 b132 b133 b134 b135 b136 b137 b138 b139 b140 b141 b142 b143 b144 b145 b146 b147 b148 b149 b150 b151 b152 b153 b154 b155 b156 b157 b158 b159 b160 b161 b162 b163 b164 b165 b166 b167 b168 b169 b170 b171 b172 b173 b174 b175 b176 b177 b178 b179 b180 b181 b182 b183 b184 b185 b186 b187 b188 b189 b190 b191 b192 b193 b194 b195 b196 b197 b198 b199 b200 b201 b202 b203 b204 b205 b206 b207 b208 b209 b210 b211 b212 b213 b214 b215 b216 b217 b218 b219 b220 b221 b222 b223 b224 b225 b226 b227 b228 b229 b230 b231 b232 b233 b234 b235 b236 b237 b238 b239 b240 b241 : Value),
    K { tmps := #[(.string ⟨s.toArray⟩), z1, z2, (.pointer (some ⟨w.heap.size, 0, none⟩)), z4, v', (.int .i64 ln), (.int .i64 (fr : Int)), (.int .i64 (i : Int)), (.pointer (some ⟨ga, 0, none⟩)), x10, x11, b12, b13, b14, b15, b16, z17, z18, z19, z20, z21, z22, b23, b24, b25, b26, b27, b28, b29, b30, b31, b32, b33, b34, b35, b36, b37, b38, b39, b40, b41, b42, b43, b44, b45, b46, b47, b48, b49, b50, b51, b52, b53, b54, b55, b56, b57, b58, b59, b60, b61, b62, b63, b64, b65, b66, b67, b68, b69, b70, b71, b72, b73, b74, b75, b76, b77, b78, b79, b80, b81, b82, b83, b84, b85, b86, b87, b88, b89, b90, b91, b92, b93, b94, b95, b96, b97, b98, b99, b100, b101, b102, b103, b104, b105, b106, b107, b108, b109, b110, b111, b112, b113, b114, b115, b116, b117, b118, b119, b120, b121, b122, b123, b124, b125, b126, b127, b128, b129, b130, b131, b132, b133, b134, b135, b136, b137, b138, b139, b140, b141, b142, b143, b144, b145, b146, b147, b148, b149, b150, b151, b152, b153, b154, b155, b156, b157, b158, b159, b160, b161, b162, b163, b164, b165, b166, b167, b168, b169, b170, b171, b172, b173, b174, b175, b176, b177, b178, b179, b180, b181, b182, b183, b184, b185, b186, b187, b188, b189, b190, b191, b192, b193, b194, b195, b196, b197, b198, b199, b200, b201, b202, b203, b204, b205, b206, b207, b208, b209, b210, b211, b212, b213, b214, b215, b216, b217, b218, b219, b220, b221, b222, b223, b224, b225, b226, b227, b228, b229, b230, b231, b232, b233, b234, b235, b236, b237, b238, b239, b240, b241, z242, z243], defers := [] } w'
end Go.Proofs.YtjgpbpmicopemaaGreatDoor

namespace Go.Proofs.YtjgpbpmicopemaaGreatDoor
open Go.RowKit
set_option maxRecDepth 20000 in
set_option maxHeartbeats 4000000 in
theorem sw_ws {s : List UInt8} {w w1 : World} {i fr : Nat} {ln : Int} {pre : List It} {vb : Option Addr} {vm vc : Nat} {c : UInt8} {ga : Nat} {K K1 K2 : Act → World → Prop} {z1 z2 z4 z17 z18 z19 z20 z21 z22 z242 z243 : Value} {a12 a13 a14 a15 a16 a23 a24 a25 a26 a27 a28 a29 a30 a31 a32 a33 a34 a35 a36 a37 a38 a39 a40 a41 a42 a43 a44 a45 a46 a47 a48 a49 a50 a51 a52 a53 a54 a55 a56 a57 a58 a59 a60 a61 a62 a63 a64 a65 a66 a67 a68 a69 a70 a71 a72 a73 a74 a75 a76 a77 a78 a79 a80 a81 a82 a83 a84 a85 a86 a87 a88 a89 a90 a91 a92 a93 a94 a95 a96 a97 a98 a99 a100 a101 a102 a103 a104 a105 a106 a107 a108 a109 a110 a111 a112 a113 a114 a115 a116 a117 a118 a119 a120 a121 a122 a123 a124 a125 a126 a127 a128 a129 a130 a131 a132 a133 a134 a135 a136 a137 a138 a139 a140 a141 a142 a143 a144 a145 a146 a147 a148 a149 a150 a151 a152 a153 a154 a155 a156 a157 a158 a159 a160 a161 a162 a163 a164 a165 a166 a167 a168 a169 a170 a171 a172 a173 a174 a175 a176 a177 a178 a179 a180 a181 a182 a183 a184 a185 a186 a187 a188 a189 a190 a191 a192 a193 a194 a195 a196 a197 a198 a199 a200 a201 a202 a203 a204 a205 a206 a207 a208 a209 a210 a211 a212 a213 a214 a215 a216 a217 a218 a219 a220 a221 a222 a223 a224 a225 a226 a227 a228 a229 a230 a231 a232 a233 a234 a235 a236 a237 a238 a239 a240 a241 : Value} {C : Code}
    (hC : Tryz.f9.body.bind (blockOf 2) = some C) (hlt : i < s.length) (hA : At10 s w w1 i fr ln pre (.slice vb vm vc) c ga hlt) (hws : [32, 9, 13, 10].contains c = true)
    (hmeet : Meets s w i fr ln ga K z1 z2 z4 z17 z18 z19 z20 z21 z22 z242 z243) :
    Code.wp Tryz.prog C (Exit.then K (Exit.inBlock 1 (Exit.then K1 (Exit.inBlock 0 (Exit.then K2 (bodyPost Tryz.prog Tryz.f9 (RRw s w)))))))
      { tmps := #[(.string ⟨s.toArray⟩), z1, z2, (.pointer (some ⟨w.heap.size, 0, none⟩)), z4, (.slice vb vm vc), (.int .i64 ln), (.int .i64 (fr : Int)), (.int .i64 (i : Int)), (.pointer (some ⟨ga, 0, none⟩)), (.int .u8 (c.toNat : Int)), (.int .i64 1), a12, a13, a14, a15, a16, z17, z18, z19, z20, z21, z22, a23, a24, a25, a26, a27, a28, a29, a30, a31, a32, a33, a34, a35, a36, a37, a38, a39, a40, a41, a42, a43, a44, a45, a46, a47, a48, a49, a50, a51, a52, a53, a54, a55, a56, a57, a58, a59, a60, a61, a62, a63, a64, a65, a66, a67, a68, a69, a70, a71, a72, a73, a74, a75, a76, a77, a78, a79, a80, a81, a82, a83, a84, a85, a86, a87, a88, a89, a90, a91, a92, a93, a94, a95, a96, a97, a98, a99, a100, a101, a102, a103, a104, a105, a106, a107, a108, a109, a110, a111, a112, a113, a114, a115, a116, a117, a118, a119, a120, a121, a122, a123, a124, a125, a126, a127, a128, a129, a130, a131, a132, a133, a134, a135, a136, a137, a138, a139, a140, a141, a142, a143, a144, a145, a146, a147, a148, a149, a150, a151, a152, a153, a154, a155, a156, a157, a158, a159, a160, a161, a162, a163, a164, a165, a166, a167, a168, a169, a170, a171, a172, a173, a174, a175, a176, a177, a178, a179, a180, a181, a182, a183, a184, a185, a186, a187, a188, a189, a190, a191, a192, a193, a194, a195, a196, a197, a198, a199, a200, a201, a202, a203, a204, a205, a206, a207, a208, a209, a210, a211, a212, a213, a214, a215, a216, a217, a218, a219, a220, a221, a222, a223, a224, a225, a226, a227, a228, a229, a230, a231, a232, a233, a234, a235, a236, a237, a238, a239, a240, a241, z242, z243], defers := [] } w1 := by
  obtain rfl : _ = C := Option.some.inj ((rfl : Tryz.f9.body.bind (blockOf 2) = some _).symm.trans hC)
  clear hC
  obtain ⟨hl, hi, hfr, S1, S2, hc, R3, hat⟩ := hA
  replace hc := Lib.hid hc
  have h65 : s.length ≤ 65536 := by omega
  obtain ⟨hle, hR⟩ := S2.skip hlt (ws_blank hlt (by rw [← hc.out]; exact hws)) (by omega)
  have hcc : c = 32 ∨ (c ≠ 32 ∧ c = 9) ∨ (c ≠ 32 ∧ c ≠ 9 ∧ c = 13) ∨ (c ≠ 32 ∧ c ≠ 9 ∧ c ≠ 13 ∧ c = 10) := by
    have : c = 32 ∨ c = 9 ∨ c = 13 ∨ c = 10 := by simpa using hws
    by_cases h1 : c = 32
    · exact .inl h1
    · by_cases h2 : c = 9
      · exact .inr (.inl ⟨h1, h2⟩)
      · by_cases h3 : c = 13
        · exact .inr (.inr (.inl ⟨h1, h2, h3⟩))
        · exact .inr (.inr (.inr ⟨h1, h2, h3, by simpa [h1, h2, h3] using this⟩))
  have R3 := Lib.hid R3
  clear hws
  rcases hcc with h | ⟨h1, h⟩ | ⟨h1, h2, h⟩ | ⟨h1, h2, h3, h⟩
  · have k1 : ((c.toNat : Int) == 32) = true := by rw [h]; rfl
    clear h
    go_wp2_with fail
    exact hmeet _ pre 1 _ _ _ rfl (by omega) hle hR R3.out _ _ _ _ _ _ _ _ _ _ _ _ _ _ _ _ _ _ _ _ _ _ _ _ _ _ _ _ _ _ _ _ _ _ _ _ _ _ _ _ _ _ _ _ _ _ _ _ _ _ _ _ _ _ _ _ _ _ _ _ _ _ _ _ _ _ _ _ _ _ _ _ _ _ _ _ _ _ _ _ _ _ _ _ _ _ _ _ _ _ _ _ _ _ _ _ _ _ _ _ _ _ _ _ _ _ _ _ _ _ _ _ _ _ _ _ _ _ _ _ _ _ _ _ _ _ _ _ _ _ _ _ _ _ _ _ _ _ _ _ _ _ _ _ _ _ _ _ _ _ _ _ _ _ _ _ _ _ _ _ _ _ _ _ _ _ _ _ _ _ _ _ _ _ _ _ _ _ _ _ _ _ _ _ _ _ _ _ _ _ _ _ _ _ _ _ _ _ _ _ _ _ _ _ _ _ _ _ _ _ _ _ _ _ _ _ _ _ _ _ _ _ _ _ 
  · have k1 : ((c.toNat : Int) == 32) = false := byteNe (k := 32) h1
    have k2 : ((c.toNat : Int) == 9) = true := by rw [h]; rfl
    clear h1 h
    go_wp2_with fail
    exact hmeet _ pre 1 _ _ _ rfl (by omega) hle hR R3.out _ _ _ _ _ _ _ _ _ _ _ _ _ _ _ _ _ _ _ _ _ _ _ _ _ _ _ _ _ _ _ _ _ _ _ _ _ _ _ _ _ _ _ _ _ _ _ _ _ _ _ _ _ _ _ _ _ _ _ _ _ _ _ _ _ _ _ _ _ _ _ _ _ _ _ _ _ _ _ _ _ _ _ _ _ _ _ _ _ _ _ _ _ _ _ _ _ _ _ _ _ _ _ _ _ _ _ _ _ _ _ _ _ _ _ _ _ _ _ _ _ _ _ _ _ _ _ _ _ _ _ _ _ _ _ _ _ _ _ _ _ _ _ _ _ _ _ _ _ _ _ _ _ _ _ _ _ _ _ _ _ _ _ _ _ _ _ _ _ _ _ _ _ _ _ _ _ _ _ _ _ _ _ _ _ _ _ _ _ _ _ _ _ _ _ _ _ _ _ _ _ _ _ _ _ _ _ _ _ _ _ _ _ _ _ _ _ _ _ _ _ _ _ _ 
  · have k1 : ((c.toNat : Int) == 32) = false := byteNe (k := 32) h1
    have k2 : ((c.toNat : Int) == 9) = false := byteNe (k := 9) h2
    have k3 : ((c.toNat : Int) == 13) = true := by rw [h]; rfl
    clear h1 h2 h
    go_wp2_with fail
    exact hmeet _ pre 1 _ _ _ rfl (by omega) hle hR R3.out _ _ _ _ _ _ _ _ _ _ _ _ _ _ _ _ _ _ _ _ _ _ _ _ _ _ _ _ _ _ _ _ _ _ _ _ _ _ _ _ _ _ _ _ _ _ _ _ _ _ _ _ _ _ _ _ _ _ _ _ _ _ _ _ _ _ _ _ _ _ _ _ _ _ _ _ _ _ _ _ _ _ _ _ _ _ _ _ _ _ _ _ _ _ _ _ _ _ _ _ _ _ _ _ _ _ _ _ _ _ _ _ _ _ _ _ _ _ _ _ _ _ _ _ _ _ _ _ _ _ _ _ _ _ _ _ _ _ _ _ _ _ _ _ _ _ _ _ _ _ _ _ _ _ _ _ _ _ _ _ _ _ _ _ _ _ _ _ _ _ _ _ _ _ _ _ _ _ _ _ _ _ _ _ _ _ _ _ _ _ _ _ _ _ _ _ _ _ _ _ _ _ _ _ _ _ _ _ _ _ _ _ _ _ _ _ _ _ _ _ _ _ _ _ 
  · have k1 : ((c.toNat : Int) == 32) = false := byteNe (k := 32) h1
    have k2 : ((c.toNat : Int) == 9) = false := byteNe (k := 9) h2
    have k3 : ((c.toNat : Int) == 13) = false := byteNe (k := 13) h3
    have k4 : ((c.toNat : Int) == 10) = true := by rw [h]; rfl
    clear h1 h2 h3 h
    go_wp2_with fail
    exact hmeet _ pre 1 _ _ _ rfl (by omega) hle hR R3.out _ _ _ _ _ _ _ _ _ _ _ _ _ _ _ _ _ _ _ _ _ _ _ _ _ _ _ _ _ _ _ _ _ _ _ _ _ _ _ _ _ _ _ _ _ _ _ _ _ _ _ _ _ _ _ _ _ _ _ _ _ _ _ _ _ _ _ _ _ _ _ _ _ _ _ _ _ _ _ _ _ _ _ _ _ _ _ _ _ _ _ _ _ _ _ _ _ _ _ _ _ _ _ _ _ _ _ _ _ _ _ _ _ _ _ _ _ _ _ _ _ _ _ _ _ _ _ _ _ _ _ _ _ _ _ _ _ _ _ _ _ _ _ _ _ _ _ _ _ _ _ _ _ _ _ _ _ _ _ _ _ _ _ _ _ _ _ _ _ _ _ _ _ _ _ _ _ _ _ _ _ _ _ _ _ _ _ _ _ _ _ _ _ _ _ _ _ _ _ _ _ _ _ _ _ _ _ _ _ _ _ _ _ _ _ _ _ _ _ _ _ _ _ _ 
set_option maxRecDepth 20000 in
set_option maxHeartbeats 4000000 in
theorem sw_line {s : List UInt8} {w w1 : World} {i fr : Nat} {ln : Int} {pre : List It} {vb : Option Addr} {vm vc : Nat} {c : UInt8} {ga : Nat} {K K1 K2 : Act → World → Prop} {z1 z2 z4 z17 z18 z19 z20 z21 z22 z242 z243 : Value} {a12 a13 a14 a15 a16 a23 a24 a25 a26 a27 a28 a29 a30 a31 a32 a33 a34 a35 a36 a37 a38 a39 a40 a41 a42 a43 a44 a45 a46 a47 a48 a49 a50 a51 a52 a53 a54 a55 a56 a57 a58 a59 a60 a61 a62 a63 a64 a65 a66 a67 a68 a69 a70 a71 a72 a73 a74 a75 a76 a77 a78 a79 a80 a81 a82 a83 a84 a85 a86 a87 a88 a89 a90 a91 a92 a93 a94 a95 a96 a97 a98 a99 a100 a101 a102 a103 a104 a105 a106 a107 a108 a109 a110 a111 a112 a113 a114 a115 a116 a117 a118 a119 a120 a121 a122 a123 a124 a125 a126 a127 a128 a129 a130 a131 a132 a133 a134 a135 a136 a137 a138 a139 a140 a141 a142 a143 a144 a145 a146 a147 a148 a149 a150 a151 a152 a153 a154 a155 a156 a157 a158 a159 a160 a161 a162 a163 a164 a165 a166 a167 a168 a169 a170 a171 a172 a173 a174 a175 a176 a177 a178 a179 a180 a181 a182 a183 a184 a185 a186 a187 a188 a189 a190 a191 a192 a193 a194 a195 a196 a197 a198 a199 a200 a201 a202 a203 a204 a205 a206 a207 a208 a209 a210 a211 a212 a213 a214 a215 a216 a217 a218 a219 a220 a221 a222 a223 a224 a225 a226 a227 a228 a229 a230 a231 a232 a233 a234 a235 a236 a237 a238 a239 a240 a241 : Value} {C : Code}
    (hC : Tryz.f9.body.bind (blockOf 2) = some C) (hlt : i < s.length) (hA : At10 s w w1 i fr ln pre (.slice vb vm vc) c ga hlt) (hws : ¬ [32, 9, 13, 10].contains c = true) (h47 : c = 47) (hlt1 : i + 1 < s.length) (hd : s[i + 1] = 47)
    (hmeet : Meets s w i fr ln ga K z1 z2 z4 z17 z18 z19 z20 z21 z22 z242 z243) :
    Code.wp Tryz.prog C (Exit.then K (Exit.inBlock 1 (Exit.then K1 (Exit.inBlock 0 (Exit.then K2 (bodyPost Tryz.prog Tryz.f9 (RRw s w)))))))
      { tmps := #[(.string ⟨s.toArray⟩), z1, z2, (.pointer (some ⟨w.heap.size, 0, none⟩)), z4, (.slice vb vm vc), (.int .i64 ln), (.int .i64 (fr : Int)), (.int .i64 (i : Int)), (.pointer (some ⟨ga, 0, none⟩)), (.int .u8 (c.toNat : Int)), (.int .i64 1), a12, a13, a14, a15, a16, z17, z18, z19, z20, z21, z22, a23, a24, a25, a26, a27, a28, a29, a30, a31, a32, a33, a34, a35, a36, a37, a38, a39, a40, a41, a42, a43, a44, a45, a46, a47, a48, a49, a50, a51, a52, a53, a54, a55, a56, a57, a58, a59, a60, a61, a62, a63, a64, a65, a66, a67, a68, a69, a70, a71, a72, a73, a74, a75, a76, a77, a78, a79, a80, a81, a82, a83, a84, a85, a86, a87, a88, a89, a90, a91, a92, a93, a94, a95, a96, a97, a98, a99, a100, a101, a102, a103, a104, a105, a106, a107, a108, a109, a110, a111, a112, a113, a114, a115, a116, a117, a118, a119, a120, a121, a122, a123, a124, a125, a126, a127, a128, a129, a130, a131, a132, a133, a134, a135, a136, a137, a138, a139, a140, a141, a142, a143, a144, a145, a146, a147, a148, a149, a150, a151, a152, a153, a154, a155, a156, a157, a158, a159, a160, a161, a162, a163, a164, a165, a166, a167, a168, a169, a170, a171, a172, a173, a174, a175, a176, a177, a178, a179, a180, a181, a182, a183, a184, a185, a186, a187, a188, a189, a190, a191, a192, a193, a194, a195, a196, a197, a198, a199, a200, a201, a202, a203, a204, a205, a206, a207, a208, a209, a210, a211, a212, a213, a214, a215, a216, a217, a218, a219, a220, a221, a222, a223, a224, a225, a226, a227, a228, a229, a230, a231, a232, a233, a234, a235, a236, a237, a238, a239, a240, a241, z242, z243], defers := [] } w1 := by
  obtain rfl : _ = C := Option.some.inj ((rfl : Tryz.f9.body.bind (blockOf 2) = some _).symm.trans hC)
  clear hC
  obtain ⟨hl, hi, hfr, S1, S2, hc, R3, hat⟩ := hA
  replace hc := Lib.hid hc
  have h65 : s.length ≤ 65536 := by omega
  have hcc : c ≠ 32 ∧ c ≠ 9 ∧ c ≠ 13 ∧ c ≠ 10 := by simpa using hws
  have k1 : ((c.toNat : Int) == 32) = false := byteNe (k := 32) hcc.1
  have k2 : ((c.toNat : Int) == 9) = false := byteNe (k := 9) hcc.2.1
  have k3 : ((c.toNat : Int) == 13) = false := byteNe (k := 13) hcc.2.2.1
  have k4 : ((c.toNat : Int) == 10) = false := byteNe (k := 10) hcc.2.2.2
  clear hcc
  have m1 : ((c.toNat : Int) == 47) = true := by rw [h47]; rfl
  have j1 : (i : Int) + 1 < s.length := by omega
  have d1 : (((({ data := s.toArray } : ByteArray)[i + 1]'(by show i + 1 < s.toArray.size; simpa using hlt1)).toNat : Int) == 47) = true := by
    show ((s[i + 1].toNat : Int) == 47) = true
    rw [hd]; rfl
  obtain ⟨hb, hb1⟩ := line_blank hlt (hc.out.symm.trans h47) hlt1 hd
  obtain ⟨hle, hR⟩ := S2.skip hlt hb hb1
  have R3 := Lib.hid R3
  clear hb h47 hd hws
  go_wp2_with fail
  go_loopg [11] s.length (fun g s11 wr => ∃ n : Nat, s11 = .int .i64 n ∧ 1 ≤ n ∧ n ≤ lineN s i ∧ s.length - n ≤ g ∧ wr = w1)
  case atStart => exact ⟨1, rfl, Nat.le_refl _, hb1, by omega, rfl⟩
  case round =>
    obtain ⟨n, rfl, hn1, hn2, hg2, rfl⟩ := hrel
    by_cases hin : i + n < s.length
    · have jn : (i : Int) + n < s.length := by omega
      by_cases h10 : s[i + n] = 10
      · have hN := lineN_stop hn2 hin h10
        have e1 : (((({ data := s.toArray } : ByteArray)[i + n]'(by show i + n < s.toArray.size; simpa using hin)).toNat : Int) == 10) = true := by
          show ((s[i + n].toNat : Int) == 10) = true
          rw [h10]; rfl
        rw [hN] at hle hR
        clear h10 hN hb1 hn2
        go_wp2_with fail
        exact hmeet _ pre n _ _ _ rfl hn1 hle hR R3.out _ _ _ _ _ _ _ _ _ _ _ _ _ _ _ _ _ _ _ _ _ _ _ _ _ _ _ _ _ _ _ _ _ _ _ _ _ _ _ _ _ _ _ _ _ _ _ _ _ _ _ _ _ _ _ _ _ _ _ _ _ _ _ _ _ _ _ _ _ _ _ _ _ _ _ _ _ _ _ _ _ _ _ _ _ _ _ _ _ _ _ _ _ _ _ _ _ _ _ _ _ _ _ _ _ _ _ _ _ _ _ _ _ _ _ _ _ _ _ _ _ _ _ _ _ _ _ _ _ _ _ _ _ _ _ _ _ _ _ _ _ _ _ _ _ _ _ _ _ _ _ _ _ _ _ _ _ _ _ _ _ _ _ _ _ _ _ _ _ _ _ _ _ _ _ _ _ _ _ _ _ _ _ _ _ _ _ _ _ _ _ _ _ _ _ _ _ _ _ _ _ _ _ _ _ _ _ _ _ _ _ _ _ _ _ _ _ _ _ _ _ _ _ _ 
      · have hN := lineN_go hn2 hin h10
        have e1 : (((({ data := s.toArray } : ByteArray)[i + n]'(by show i + n < s.toArray.size; simpa using hin)).toNat : Int) == 10) = false := byteNe (k := 10) h10
        clear h10
        go_wp2_with fail
        go_roundg (s.length - (n + 1))
        case measure => omega
        case rel => exact ⟨n + 1, by simp, by omega, hN, by omega, rfl⟩
    · have hN := lineN_end (Nat.le_of_lt hlt) hn2 hin
      have jn : ¬ (i : Int) + n < s.length := by omega
      rw [hN] at hle hR
      clear hN hb1 hn2
      go_wp2_with fail
      exact hmeet _ pre n _ _ _ rfl hn1 hle hR R3.out _ _ _ _ _ _ _ _ _ _ _ _ _ _ _ _ _ _ _ _ _ _ _ _ _ _ _ _ _ _ _ _ _ _ _ _ _ _ _ _ _ _ _ _ _ _ _ _ _ _ _ _ _ _ _ _ _ _ _ _ _ _ _ _ _ _ _ _ _ _ _ _ _ _ _ _ _ _ _ _ _ _ _ _ _ _ _ _ _ _ _ _ _ _ _ _ _ _ _ _ _ _ _ _ _ _ _ _ _ _ _ _ _ _ _ _ _ _ _ _ _ _ _ _ _ _ _ _ _ _ _ _ _ _ _ _ _ _ _ _ _ _ _ _ _ _ _ _ _ _ _ _ _ _ _ _ _ _ _ _ _ _ _ _ _ _ _ _ _ _ _ _ _ _ _ _ _ _ _ _ _ _ _ _ _ _ _ _ _ _ _ _ _ _ _ _ _ _ _ _ _ _ _ _ _ _ _ _ _ _ _ _ _ _ _ _ _ _ _ _ _ _ _ _ 
end Go.Proofs.YtjgpbpmicopemaaGreatDoor

namespace Go.Proofs.YtjgpbpmicopemaaGreatDoor
open Go.RowKit
set_option maxRecDepth 20000 in
set_option maxHeartbeats 4000000 in
theorem sw_star {s : List UInt8} {w w1 : World} {i fr : Nat} {ln : Int} {pre : List It} {vb : Option Addr} {vm vc : Nat} {c : UInt8} {ga : Nat} {K K1 K2 : Act → World → Prop} {z1 z2 z4 z17 z18 z19 z20 z21 z22 z242 z243 : Value} {a12 a13 a14 a15 a16 a23 a24 a25 a26 a27 a28 a29 a30 a31 a32 a33 a34 a35 a36 a37 a38 a39 a40 a41 a42 a43 a44 a45 a46 a47 a48 a49 a50 a51 a52 a53 a54 a55 a56 a57 a58 a59 a60 a61 a62 a63 a64 a65 a66 a67 a68 a69 a70 a71 a72 a73 a74 a75 a76 a77 a78 a79 a80 a81 a82 a83 a84 a85 a86 a87 a88 a89 a90 a91 a92 a93 a94 a95 a96 a97 a98 a99 a100 a101 a102 a103 a104 a105 a106 a107 a108 a109 a110 a111 a112 a113 a114 a115 a116 a117 a118 a119 a120 a121 a122 a123 a124 a125 a126 a127 a128 a129 a130 a131 a132 a133 a134 a135 a136 a137 a138 a139 a140 a141 a142 a143 a144 a145 a146 a147 a148 a149 a150 a151 a152 a153 a154 a155 a156 a157 a158 a159 a160 a161 a162 a163 a164 a165 a166 a167 a168 a169 a170 a171 a172 a173 a174 a175 a176 a177 a178 a179 a180 a181 a182 a183 a184 a185 a186 a187 a188 a189 a190 a191 a192 a193 a194 a195 a196 a197 a198 a199 a200 a201 a202 a203 a204 a205 a206 a207 a208 a209 a210 a211 a212 a213 a214 a215 a216 a217 a218 a219 a220 a221 a222 a223 a224 a225 a226 a227 a228 a229 a230 a231 a232 a233 a234 a235 a236 a237 a238 a239 a240 a241 : Value} {C : Code}
    (hC : Tryz.f9.body.bind (blockOf 2) = some C) (hlt : i < s.length) (hA : At10 s w w1 i fr ln pre (.slice vb vm vc) c ga hlt) (hws : ¬ [32, 9, 13, 10].contains c = true) (h47 : c = 47) (hlt1 : i + 1 < s.length) (hd : s[i + 1] = 42)
    (hmeet : Meets s w i fr ln ga K z1 z2 z4 z17 z18 z19 z20 z21 z22 z242 z243) :
    Code.wp Tryz.prog C (Exit.then K (Exit.inBlock 1 (Exit.then K1 (Exit.inBlock 0 (Exit.then K2 (bodyPost Tryz.prog Tryz.f9 (RRw s w)))))))
      { tmps := #[(.string ⟨s.toArray⟩), z1, z2, (.pointer (some ⟨w.heap.size, 0, none⟩)), z4, (.slice vb vm vc), (.int .i64 ln), (.int .i64 (fr : Int)), (.int .i64 (i : Int)), (.pointer (some ⟨ga, 0, none⟩)), (.int .u8 (c.toNat : Int)), (.int .i64 1), a12, a13, a14, a15, a16, z17, z18, z19, z20, z21, z22, a23, a24, a25, a26, a27, a28, a29, a30, a31, a32, a33, a34, a35, a36, a37, a38, a39, a40, a41, a42, a43, a44, a45, a46, a47, a48, a49, a50, a51, a52, a53, a54, a55, a56, a57, a58, a59, a60, a61, a62, a63, a64, a65, a66, a67, a68, a69, a70, a71, a72, a73, a74, a75, a76, a77, a78, a79, a80, a81, a82, a83, a84, a85, a86, a87, a88, a89, a90, a91, a92, a93, a94, a95, a96, a97, a98, a99, a100, a101, a102, a103, a104, a105, a106, a107, a108, a109, a110, a111, a112, a113, a114, a115, a116, a117, a118, a119, a120, a121, a122, a123, a124, a125, a126, a127, a128, a129, a130, a131, a132, a133, a134, a135, a136, a137, a138, a139, a140, a141, a142, a143, a144, a145, a146, a147, a148, a149, a150, a151, a152, a153, a154, a155, a156, a157, a158, a159, a160, a161, a162, a163, a164, a165, a166, a167, a168, a169, a170, a171, a172, a173, a174, a175, a176, a177, a178, a179, a180, a181, a182, a183, a184, a185, a186, a187, a188, a189, a190, a191, a192, a193, a194, a195, a196, a197, a198, a199, a200, a201, a202, a203, a204, a205, a206, a207, a208, a209, a210, a211, a212, a213, a214, a215, a216, a217, a218, a219, a220, a221, a222, a223, a224, a225, a226, a227, a228, a229, a230, a231, a232, a233, a234, a235, a236, a237, a238, a239, a240, a241, z242, z243], defers := [] } w1 := by
  obtain rfl : _ = C := Option.some.inj ((rfl : Tryz.f9.body.bind (blockOf 2) = some _).symm.trans hC)
  clear hC
  obtain ⟨hl, hi, hfr, S1, S2, hc, R3, hat⟩ := hA
  replace hc := Lib.hid hc
  have h65 : s.length ≤ 65536 := by omega
  have hcc : c ≠ 32 ∧ c ≠ 9 ∧ c ≠ 13 ∧ c ≠ 10 := by simpa using hws
  have k1 : ((c.toNat : Int) == 32) = false := byteNe (k := 32) hcc.1
  have k2 : ((c.toNat : Int) == 9) = false := byteNe (k := 9) hcc.2.1
  have k3 : ((c.toNat : Int) == 13) = false := byteNe (k := 13) hcc.2.2.1
  have k4 : ((c.toNat : Int) == 10) = false := byteNe (k := 10) hcc.2.2.2
  clear hcc
  have m1 : ((c.toNat : Int) == 47) = true := by rw [h47]; rfl
  have j1 : (i : Int) + 1 < s.length := by omega
  have d0 : (((({ data := s.toArray } : ByteArray)[i + 1]'(by show i + 1 < s.toArray.size; simpa using hlt1)).toNat : Int) == 47) = false := by
    show ((s[i + 1].toNat : Int) == 47) = false
    rw [hd]; rfl
  have d1 : (((({ data := s.toArray } : ByteArray)[i + 1]'(by show i + 1 < s.toArray.size; simpa using hlt1)).toNat : Int) == 42) = true := by
    show ((s[i + 1].toNat : Int) == 42) = true
    rw [hd]; rfl
  have hci : s[i] = 47 := hc.out.symm.trans h47
  have R3 := Lib.hid R3
  have hat := Lib.hid hat
  clear h47 hws
  go_wp2_with fail
  go_loopg [11] s.length (fun g s11 wr => ∃ n : Nat, s11 = .int .i64 n ∧ 2 ≤ n ∧ i + n ≤ s.length ∧ s.length - n ≤ g ∧ NoEnd s i n ∧ wr = w1)
  case atStart => exact ⟨2, rfl, Nat.le_refl _, by omega, by omega, NoEnd.start s i, rfl⟩
  case round =>
    obtain ⟨n, rfl, hn1, hn2, hg2, hno, rfl⟩ := hrel
    by_cases hin : i + n < s.length
    · have jn : (i : Int) + n < s.length := by omega
      have jm : (i : Int) + n - 1 = ((i + n - 1 : Nat) : Int) := by omega
      by_cases hend : 3 ≤ n ∧ s[i + n] = 47 ∧ s[i + n - 1] = 42
      · obtain ⟨h3, h47, h42⟩ := hend
        have hb := star_shut hlt hci hlt1 hd hno h3 hin h47 h42
        obtain ⟨hle, hR⟩ := S2.skip hlt hb (by omega)
        have j3 : (3 : Int) ≤ n := by omega
        have e1 : (((({ data := s.toArray } : ByteArray)[i + n]'(by show i + n < s.toArray.size; simpa using hin)).toNat : Int) == 47) = true := by
          show ((s[i + n].toNat : Int) == 47) = true
          rw [h47]; rfl
        have e2 : (((({ data := s.toArray } : ByteArray)[i + n - 1]'(by show i + n - 1 < s.toArray.size; simp; omega)).toNat : Int) == 42) = true := by
          show ((s[i + n - 1].toNat : Int) == 42) = true
          rw [h42]; rfl
        have jl : ¬ (i : Int) + n = s.length := by omega
        clear hb h47 h42 hno hd hci
        go_wp2_with fail
        exact hmeet _ pre (n + 1) _ _ _ (by simp) (by omega) hle hR R3.out _ _ _ _ _ _ _ _ _ _ _ _ _ _ _ _ _ _ _ _ _ _ _ _ _ _ _ _ _ _ _ _ _ _ _ _ _ _ _ _ _ _ _ _ _ _ _ _ _ _ _ _ _ _ _ _ _ _ _ _ _ _ _ _ _ _ _ _ _ _ _ _ _ _ _ _ _ _ _ _ _ _ _ _ _ _ _ _ _ _ _ _ _ _ _ _ _ _ _ _ _ _ _ _ _ _ _ _ _ _ _ _ _ _ _ _ _ _ _ _ _ _ _ _ _ _ _ _ _ _ _ _ _ _ _ _ _ _ _ _ _ _ _ _ _ _ _ _ _ _ _ _ _ _ _ _ _ _ _ _ _ _ _ _ _ _ _ _ _ _ _ _ _ _ _ _ _ _ _ _ _ _ _ _ _ _ _ _ _ _ _ _ _ _ _ _ _ _ _ _ _ _ _ _ _ _ _ _ _ _ _ _ _ _ _ _ _ _ _ _ _ _ _ _ 
      · have hc3 : n < 3 ∨ s[i + n] ≠ 47 ∨ s[i + n - 1] ≠ 42 := by
          by_cases a1 : n < 3
          · exact .inl a1
          · by_cases a2 : s[i + n] = 47
            · exact .inr (.inr fun a3 => hend ⟨by omega, a2, a3⟩)
            · exact .inr (.inl a2)
        have hN := hno.go hin hc3
        have hc4 : n < 3 ∨ (3 ≤ n ∧ s[i + n] ≠ 47) ∨ (3 ≤ n ∧ s[i + n] = 47 ∧ s[i + n - 1] ≠ 42) := by
          by_cases a1 : n < 3
          · exact .inl a1
          · by_cases a2 : s[i + n] = 47
            · exact .inr (.inr ⟨by omega, a2, fun a3 => hend ⟨by omega, a2, a3⟩⟩)
            · exact .inr (.inl ⟨by omega, a2⟩)
        clear hend hc3 hno hd hci
        rcases hc4 with a1 | ⟨a1, a2⟩ | ⟨a1, a2, a3⟩
        · have j3 : (n : Int) < 3 := by omega
          go_wp2_with fail
          go_roundg (s.length - (n + 1))
          case measure => omega
          case rel => exact ⟨n + 1, by simp, by omega, by omega, by omega, hN, rfl⟩
        · have j3 : (3 : Int) ≤ n := by omega
          have e1 : (((({ data := s.toArray } : ByteArray)[i + n]'(by show i + n < s.toArray.size; simpa using hin)).toNat : Int) == 47) = false := byteNe (k := 47) a2
          clear a2
          go_wp2_with fail
          go_roundg (s.length - (n + 1))
          case measure => omega
          case rel => exact ⟨n + 1, by simp, by omega, by omega, by omega, hN, rfl⟩
        · have j3 : (3 : Int) ≤ n := by omega
          have e1 : (((({ data := s.toArray } : ByteArray)[i + n]'(by show i + n < s.toArray.size; simpa using hin)).toNat : Int) == 47) = true := by
            show ((s[i + n].toNat : Int) == 47) = true
            rw [a2]; rfl
          have e2 : (((({ data := s.toArray } : ByteArray)[i + n - 1]'(by show i + n - 1 < s.toArray.size; simp; omega)).toNat : Int) == 42) = false := byteNe (k := 42) a3
          clear a2 a3
          go_wp2_with fail
          go_roundg (s.length - (n + 1))
          case measure => omega
          case rel => exact ⟨n + 1, by simp, by omega, by omega, by omega, hN, rfl⟩
    · have hnl : s.length - i = n := by omega
      obtain ⟨g1, g2⟩ := S2.open hlt (star_open hlt hci hlt1 hd (by rw [hnl]; exact hno))
      have jn : ¬ (i : Int) + n < s.length := by omega
      have jl : (i : Int) + n = s.length := by omega
      clear hno hd hci
      obtain ⟨q0, q1, q2, q3⟩ := R3.out.plc.cells
      obtain ⟨t0, t1, -, -⟩ := hat.out.cells
      simp only at q0 q1 t0 t1
      go_wp2_with fail
      go_region
      all_goals go_wp2_with fail
      all_goals
        obtain ⟨hP, hrw, hlow⟩ := R3.out.told ln ((i : Int) - fr + 1)
        have hP' : PlcAt _ w.heap.size (ln, (i : Int) - fr + 1) := hP.mv (Mv.drew (X := fun _ => False) _) (fun h => h)
        obtain ⟨r0, r1, -⟩ := hP'.cells
        simp only at r0 r1
        exact bodyPost_ret (v := .tuple #[.slice vb vm vc, .agg #[.int .i64 ln, .int .i64 ((i : Int) - fr + 1)], .int .i64 3]) (by simp [results, Tryz.results9, go_sem, r0, r1]) rfl ⟨.slice vb vm vc, (ln, (i : Int) - fr + 1), 3, rfl, pre, row34_alloc hrw (below_drewN (Below.refl _ _) 1), below_drewN hlow 1, .inr ⟨by omega, g1.symm, by unfold faultP; rw [g2]; exact S1.symm, by rw [g2]; rfl⟩⟩
end Go.Proofs.YtjgpbpmicopemaaGreatDoor

namespace Go.Proofs.YtjgpbpmicopemaaGreatDoor
open Go.RowKit
set_option maxRecDepth 20000 in
set_option maxHeartbeats 4000000 in
theorem sw_mark {s : List UInt8} {w w1 : World} {i fr : Nat} {ln : Int} {pre : List It} {vb : Option Addr} {vm vc : Nat} {c : UInt8} {ga : Nat} {K K1 K2 : Act → World → Prop} {z1 z2 z4 z17 z18 z19 z20 z21 z22 z242 z243 : Value} {a12 a13 a14 a15 a16 a23 a24 a25 a26 a27 a28 a29 a30 a31 a32 a33 a34 a35 a36 a37 a38 a39 a40 a41 a42 a43 a44 a45 a46 a47 a48 a49 a50 a51 a52 a53 a54 a55 a56 a57 a58 a59 a60 a61 a62 a63 a64 a65 a66 a67 a68 a69 a70 a71 a72 a73 a74 a75 a76 a77 a78 a79 a80 a81 a82 a83 a84 a85 a86 a87 a88 a89 a90 a91 a92 a93 a94 a95 a96 a97 a98 a99 a100 a101 a102 a103 a104 a105 a106 a107 a108 a109 a110 a111 a112 a113 a114 a115 a116 a117 a118 a119 a120 a121 a122 a123 a124 a125 a126 a127 a128 a129 a130 a131 a132 a133 a134 a135 a136 a137 a138 a139 a140 a141 a142 a143 a144 a145 a146 a147 a148 a149 a150 a151 a152 a153 a154 a155 a156 a157 a158 a159 a160 a161 a162 a163 a164 a165 a166 a167 a168 a169 a170 a171 a172 a173 a174 a175 a176 a177 a178 a179 a180 a181 a182 a183 a184 a185 a186 a187 a188 a189 a190 a191 a192 a193 a194 a195 a196 a197 a198 a199 a200 a201 a202 a203 a204 a205 a206 a207 a208 a209 a210 a211 a212 a213 a214 a215 a216 a217 a218 a219 a220 a221 a222 a223 a224 a225 a226 a227 a228 a229 a230 a231 a232 a233 a234 a235 a236 a237 a238 a239 a240 a241 : Value} {C : Code}
    (hC : Tryz.f9.body.bind (blockOf 2) = some C) (hlt : i < s.length) (hA : At10 s w w1 i fr ln pre (.slice vb vm vc) c ga hlt) (hws : ¬ [32, 9, 13, 10].contains c = true) (hln : ¬ (c = 47 ∧ ∃ h1 : i + 1 < s.length, s[i + 1] = 47)) (hst : ¬ (c = 47 ∧ ∃ h1 : i + 1 < s.length, s[i + 1] = 42)) (hz : blankV (s.drop i) = (0, true)) (hgo : goesC c = false)
    (hmeet : Meets s w i fr ln ga K z1 z2 z4 z17 z18 z19 z20 z21 z22 z242 z243) :
    Code.wp Tryz.prog C (Exit.then K (Exit.inBlock 1 (Exit.then K1 (Exit.inBlock 0 (Exit.then K2 (bodyPost Tryz.prog Tryz.f9 (RRw s w)))))))
      { tmps := #[(.string ⟨s.toArray⟩), z1, z2, (.pointer (some ⟨w.heap.size, 0, none⟩)), z4, (.slice vb vm vc), (.int .i64 ln), (.int .i64 (fr : Int)), (.int .i64 (i : Int)), (.pointer (some ⟨ga, 0, none⟩)), (.int .u8 (c.toNat : Int)), (.int .i64 1), a12, a13, a14, a15, a16, z17, z18, z19, z20, z21, z22, a23, a24, a25, a26, a27, a28, a29, a30, a31, a32, a33, a34, a35, a36, a37, a38, a39, a40, a41, a42, a43, a44, a45, a46, a47, a48, a49, a50, a51, a52, a53, a54, a55, a56, a57, a58, a59, a60, a61, a62, a63, a64, a65, a66, a67, a68, a69, a70, a71, a72, a73, a74, a75, a76, a77, a78, a79, a80, a81, a82, a83, a84, a85, a86, a87, a88, a89, a90, a91, a92, a93, a94, a95, a96, a97, a98, a99, a100, a101, a102, a103, a104, a105, a106, a107, a108, a109, a110, a111, a112, a113, a114, a115, a116, a117, a118, a119, a120, a121, a122, a123, a124, a125, a126, a127, a128, a129, a130, a131, a132, a133, a134, a135, a136, a137, a138, a139, a140, a141, a142, a143, a144, a145, a146, a147, a148, a149, a150, a151, a152, a153, a154, a155, a156, a157, a158, a159, a160, a161, a162, a163, a164, a165, a166, a167, a168, a169, a170, a171, a172, a173, a174, a175, a176, a177, a178, a179, a180, a181, a182, a183, a184, a185, a186, a187, a188, a189, a190, a191, a192, a193, a194, a195, a196, a197, a198, a199, a200, a201, a202, a203, a204, a205, a206, a207, a208, a209, a210, a211, a212, a213, a214, a215, a216, a217, a218, a219, a220, a221, a222, a223, a224, a225, a226, a227, a228, a229, a230, a231, a232, a233, a234, a235, a236, a237, a238, a239, a240, a241, z242, z243], defers := [] } w1 := by
  obtain rfl : _ = C := Option.some.inj ((rfl : Tryz.f9.body.bind (blockOf 2) = some _).symm.trans hC)
  clear hC
  obtain ⟨hl, hi, hfr, S1, S2, hc, R3, hat⟩ := hA
  replace hc := Lib.hid hc
  have h65 : s.length ≤ 65536 := by omega
  have hcc : c ≠ 32 ∧ c ≠ 9 ∧ c ≠ 13 ∧ c ≠ 10 := by simpa using hws
  have k1 : ((c.toNat : Int) == 32) = false := byteNe (k := 32) hcc.1
  have k2 : ((c.toNat : Int) == 9) = false := byteNe (k := 9) hcc.2.1
  have k3 : ((c.toNat : Int) == 13) = false := byteNe (k := 13) hcc.2.2.1
  have k4 : ((c.toNat : Int) == 10) = false := byteNe (k := 10) hcc.2.2.2
  clear hcc
  have hg2 : startsI (c.toNat : Int) = false ∧ digitI (c.toNat : Int) = false := by
    have h : (startsI (c.toNat : Int) || digitI (c.toNat : Int)) = false := hgo
    rw [Bool.or_eq_false_iff] at h
    exact h
  have hdr := List.drop_eq_getElem_cons hlt
  rw [← hc.out] at hdr
  have hnN : nameN (s.drop i) = 0 := by rw [hdr, nameN_cons, if_neg (by rw [hgo]; simp)]
  have hwO : wordO (s.drop i) = if 0 < markN (s.drop i) then some ⟨4, (s.drop i).take (markN (s.drop i)), 0⟩ else none := by
    unfold wordO
    rw [hnN, hdr, List.headD_cons, if_neg (by show ¬ startsI (c.toNat : Int) = true; rw [hg2.1]; simp), if_neg (by omega)]
  have CA := rletter_any (c.toNat : Int)
  have CB := rdigit_any (c.toNat : Int)
  rw [hg2.1] at CA
  rw [hg2.2] at CB
  have hcut := cut_from s i
  have CM : ∀ W, Calls Tryz.prog 23 #[.string ⟨(s.drop i).toArray⟩] W (fun e w' => e = .returned (.string ⟨((s.drop i).take (markN (s.drop i))).toArray⟩) ∧ Below W.heap.size W w') := fun W => by
    have := rmark_any c (s.drop (i + 1)) (by rw [← hdr, List.length_drop]; omega) W
    rw [← hdr] at this
    exact this
  have hml : markN (s.drop i) ≤ (s.drop i).length := markN_le _ (by rw [List.length_drop]; omega)
  have hY : 0 < markN (s.drop i) → i + markN (s.drop i) ≤ s.length ∧ Rs s (i + markN (s.drop i)) (pre ++ [⟨⟨4, (s.drop i).take (markN (s.drop i)), 0⟩, (ln, (i : Int) - fr + 1), false⟩]) := fun h => by
    rw [if_pos h] at hwO
    obtain ⟨a1, a2, a3⟩ := S2.word hlt hz hwO
    have e : (((s.drop i).take (markN (s.drop i))).length) = markN (s.drop i) := by rw [List.length_take]; omega
    simp only [e, S1] at a1 a3
    exact ⟨a1, a3⟩
  have hF : ¬ 0 < markN (s.drop i) → goods s = pre ∧ faultO s = some (itBad (nextP (1, 1) (s.take i))) := fun h => by
    rw [if_neg h] at hwO
    exact S2.none hlt hz hwO
  replace hY := Lib.hid hY
  replace hF := Lib.hid hF
  have R3 := Lib.hid R3
  have hat := Lib.hid hat
  clear hws hgo hg2 hdr hnN hwO
  have hcase : ((c.toNat : Int) == 47) = false ∨ (((c.toNat : Int) == 47) = true ∧ (s.length : Int) ≤ i + 1) ∨ (((c.toNat : Int) == 47) = true ∧ ∃ h1 : i + 1 < s.length, (((({ data := s.toArray } : ByteArray)[i + 1]'(by show i + 1 < s.toArray.size; simpa using h1)).toNat : Int) == 47) = false ∧ (((({ data := s.toArray } : ByteArray)[i + 1]'(by show i + 1 < s.toArray.size; simpa using h1)).toNat : Int) == 42) = false) := by
    by_cases a1 : c = 47
    · have b1 : ((c.toNat : Int) == 47) = true := by rw [a1]; rfl
      by_cases a2 : i + 1 < s.length
      · exact .inr (.inr ⟨b1, a2, byteNe (k := 47) (fun h => hln ⟨a1, a2, h⟩), byteNe (k := 42) (fun h => hst ⟨a1, a2, h⟩)⟩)
      · exact .inr (.inl ⟨b1, by omega⟩)
    · exact .inl (byteNe (k := 47) a1)
  clear hln hst hz
  generalize markN (s.drop i) = k at *
  generalize s.drop i = m at *
  have hpl := S2.few
  by_cases hk : k = 0
  · subst hk
    obtain ⟨g1, g2⟩ := hF.out (by omega)
    rw [List.take_zero] at CM
    rcases hcase with d1 | ⟨d1, d2⟩ | ⟨d1, d2, d3, d4⟩
    all_goals
      go_wp2_with fail
      refine (CA _).mono ?_
      rintro e w2 ⟨rfl, rfl⟩
      go_wp2_with fail
      refine (CB _).mono ?_
      rintro e w2 ⟨rfl, rfl⟩
      go_wp2_with fail
      refine (CM _).mono ?_
      rintro e w2 ⟨rfl, hb⟩
      have R4 := Lib.hid (R3.out.below hb)
      have hat2 := Lib.hid (hat.out.below hb)
      clear R3 hat
      have R3 := R4
      have hat := hat2
      obtain ⟨q0, q1, q2, q3⟩ := R3.out.plc.cells
      obtain ⟨t0, t1, -, -⟩ := hat.out.cells
      simp only at q0 q1 t0 t1
      go_wp2_with fail
      go_region
      all_goals go_wp2_with fail
      all_goals
        obtain ⟨hP, hrw, hlow⟩ := R3.out.told ln ((i : Int) - fr + 1)
        have hP' : PlcAt _ w.heap.size (ln, (i : Int) - fr + 1) := hP.mv (Mv.drew (X := fun _ => False) _) (fun h => h)
        obtain ⟨r0, r1, -⟩ := hP'.cells
        simp only at r0 r1
        exact bodyPost_ret (v := .tuple #[.slice vb vm vc, .agg #[.int .i64 ln, .int .i64 ((i : Int) - fr + 1)], .int .i64 3]) (by simp [results, Tryz.results9, go_sem, r0, r1]) rfl ⟨.slice vb vm vc, (ln, (i : Int) - fr + 1), 3, rfl, pre, row34_alloc hrw (below_drewN (Below.refl _ _) 1), below_drewN hlow 1, .inr ⟨by omega, g1.symm, by unfold faultP; rw [g2]; exact S1.symm, by rw [g2]; rfl⟩⟩
  · have htl : (m.take k).length = k := by rw [List.length_take]; omega
    obtain ⟨hle, hR⟩ := hY.out (by omega)
    replace hR := Lib.hid hR
    have hne : (m.take k == []) = false := beq_eq_false_iff_ne.2 (fun h => hk (by rw [← htl, h]; rfl))
    obtain ⟨i0, hi0, hz0, hz1, hz2⟩ := info_parts info34
    clear hY hF
    generalize m.take k = t at *
    rcases hcase with d1 | ⟨d1, d2⟩ | ⟨d1, d2, d3, d4⟩
    all_goals
      go_wp2_with fail
      refine (CA _).mono ?_
      rintro e w2 ⟨rfl, rfl⟩
      go_wp2_with fail
      refine (CB _).mono ?_
      rintro e w2 ⟨rfl, rfl⟩
      go_wp2_with fail
      refine (CM _).mono ?_
      rintro e w2 ⟨rfl, hb⟩
      have R4 := Lib.hid (R3.out.below hb)
      have hat2 := hat.out.below hb
      obtain ⟨t0, t1, -, -⟩ := hat2.cells
      have y0 := fun o => ((belowAlloc w2 o).cell (cell_lt t0)).trans t0
      have y1 := fun o => ((belowAlloc w2 o).cell (cell_lt t1)).trans t1
      simp only at t0 t1 y0 y1
      have hsz := R4.out.low.size
      go_wp2_with (at_builtin; refine wpList_append_own _ rfl _ _ 30 rfl (w.heap.size + 1) 34 i0 _ 5 48 Tryz.underlying30 hi0 hz0 hz1 hz2 rfl (by decide) (.slice vb vm vc) pre.length _ rfl (row34_alloc R4.out.row (belowAlloc _ _)) ⟨w2.heap.size, 0, none⟩ 1 1 (It.cells ⟨⟨4, t, 0⟩, (ln, (i : Int) - fr + 1), false⟩) rfl rfl (cell_five_new _ _ _ _ _ _ _) (by simp [It.cells, str, Value.oneCell']) (by unfold maxLen; omega) (by omega) (by simp; omega) ?_; intro v' w3 hown' hgrow hnil; obtain ⟨g', cap', rfl⟩ := ownsRow_succ hown')
      exact hmeet _ _ k _ _ _ rfl (by omega) hle hR.out (R4.out.appended _ hown' hgrow) _ _ _ _ _ _ _ _ _ _ _ _ _ _ _ _ _ _ _ _ _ _ _ _ _ _ _ _ _ _ _ _ _ _ _ _ _ _ _ _ _ _ _ _ _ _ _ _ _ _ _ _ _ _ _ _ _ _ _ _ _ _ _ _ _ _ _ _ _ _ _ _ _ _ _ _ _ _ _ _ _ _ _ _ _ _ _ _ _ _ _ _ _ _ _ _ _ _ _ _ _ _ _ _ _ _ _ _ _ _ _ _ _ _ _ _ _ _ _ _ _ _ _ _ _ _ _ _ _ _ _ _ _ _ _ _ _ _ _ _ _ _ _ _ _ _ _ _ _ _ _ _ _ _ _ _ _ _ _ _ _ _ _ _ _ _ _ _ _ _ _ _ _ _ _ _ _ _ _ _ _ _ _ _ _ _ _ _ _ _ _ _ _ _ _ _ _ _ _ _ _ _ _ _ _ _ _ _ _ _ _ _ _ _ _ _ _ _ _ _ _ _ _ _ 
end Go.Proofs.YtjgpbpmicopemaaGreatDoor
