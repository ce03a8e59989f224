/-
  plumbobref4.Words: its switch at remarks.
-/
import Derived.Test.YtjgpbpmicopemaaDoorRefBase
namespace Go.Proofs.YtjgpbpmicopemaaDoor
open Go.RowKit

set_option maxRecDepth 20000 in
set_option maxHeartbeats 4000000 in
theorem sw_star {s : List UInt8} {w w1 : World} {i fr : Nat} {ln : Int} {pre : List It} {vb : Option Addr} {vm vc : Nat} {c : UInt8} {ga : Nat} {K K1 K2 : Act → World → Prop} {z1 z2 z4 z17 z18 z19 z20 z21 z22 z242 z243 : Value} {a12 a13 a14 a15 a16 a23 a24 a25 a26 a27 a28 a29 a30 a31 a32 a33 a34 a35 a36 a37 a38 a39 a40 a41 a42 a43 a44 a45 a46 a47 a48 a49 a50 a51 a52 a53 a54 a55 a56 a57 a58 a59 a60 a61 a62 a63 a64 a65 a66 a67 a68 a69 a70 a71 a72 a73 a74 a75 a76 a77 a78 a79 a80 a81 a82 a83 a84 a85 a86 a87 a88 a89 a90 a91 a92 a93 a94 a95 a96 a97 a98 a99 a100 a101 a102 a103 a104 a105 a106 a107 a108 a109 a110 a111 a112 a113 a114 a115 a116 a117 a118 a119 a120 a121 a122 a123 a124 a125 a126 a127 a128 a129 a130 a131 a132 a133 a134 a135 a136 a137 a138 a139 a140 a141 a142 a143 a144 a145 a146 a147 a148 a149 a150 a151 a152 a153 a154 a155 a156 a157 a158 a159 a160 a161 a162 a163 a164 a165 a166 a167 a168 a169 a170 a171 a172 a173 a174 a175 a176 a177 a178 a179 a180 a181 a182 a183 a184 a185 a186 a187 a188 a189 a190 a191 a192 a193 a194 a195 a196 a197 a198 a199 a200 a201 a202 a203 a204 a205 a206 a207 a208 a209 a210 a211 a212 a213 a214 a215 a216 a217 a218 a219 a220 a221 a222 a223 a224 a225 a226 a227 a228 a229 a230 a231 a232 a233 a234 a235 a236 a237 a238 a239 a240 a241 : Value} {C : Code}
    (hC : Tryd.f10.body.bind (blockOf 2) = some C) (hlt : i < s.length) (hA : At10 s w w1 i fr ln pre (.slice vb vm vc) c ga hlt) (hws : ¬ [32, 9, 13, 10].contains c = true) (h47 : c = 47) (hlt1 : i + 1 < s.length) (hd : s[i + 1] = 42)
    (hmeet : Meets s w i fr ln ga K z1 z2 z4 z17 z18 z19 z20 z21 z22 z242 z243) :
    Code.wp Tryd.prog C (Exit.then K (Exit.inBlock 1 (Exit.then K1 (Exit.inBlock 0 (Exit.then K2 (bodyPost Tryd.prog Tryd.f10 (RRw s w)))))))
      { tmps := #[(.string ⟨s.toArray⟩), z1, z2, (.pointer (some ⟨w.heap.size, 0, none⟩)), z4, (.slice vb vm vc), (.int .i64 ln), (.int .i64 (fr : Int)), (.int .i64 (i : Int)), (.pointer (some ⟨ga, 0, none⟩)), (.int .u8 (c.toNat : Int)), (.int .i64 1), a12, a13, a14, a15, a16, z17, z18, z19, z20, z21, z22, a23, a24, a25, a26, a27, a28, a29, a30, a31, a32, a33, a34, a35, a36, a37, a38, a39, a40, a41, a42, a43, a44, a45, a46, a47, a48, a49, a50, a51, a52, a53, a54, a55, a56, a57, a58, a59, a60, a61, a62, a63, a64, a65, a66, a67, a68, a69, a70, a71, a72, a73, a74, a75, a76, a77, a78, a79, a80, a81, a82, a83, a84, a85, a86, a87, a88, a89, a90, a91, a92, a93, a94, a95, a96, a97, a98, a99, a100, a101, a102, a103, a104, a105, a106, a107, a108, a109, a110, a111, a112, a113, a114, a115, a116, a117, a118, a119, a120, a121, a122, a123, a124, a125, a126, a127, a128, a129, a130, a131, a132, a133, a134, a135, a136, a137, a138, a139, a140, a141, a142, a143, a144, a145, a146, a147, a148, a149, a150, a151, a152, a153, a154, a155, a156, a157, a158, a159, a160, a161, a162, a163, a164, a165, a166, a167, a168, a169, a170, a171, a172, a173, a174, a175, a176, a177, a178, a179, a180, a181, a182, a183, a184, a185, a186, a187, a188, a189, a190, a191, a192, a193, a194, a195, a196, a197, a198, a199, a200, a201, a202, a203, a204, a205, a206, a207, a208, a209, a210, a211, a212, a213, a214, a215, a216, a217, a218, a219, a220, a221, a222, a223, a224, a225, a226, a227, a228, a229, a230, a231, a232, a233, a234, a235, a236, a237, a238, a239, a240, a241, z242, z243], defers := [] } w1 := by
  obtain rfl : _ = C := Option.some.inj ((rfl : Tryd.f10.body.bind (blockOf 2) = some _).symm.trans hC)
  clear hC
  obtain ⟨hl, hi, hfr, S1, S2, hc, R3, hat⟩ := hA
  replace hc := Lib.hid hc
  have h65 : s.length ≤ 65536 := by omega
  have hcc : c ≠ 32 ∧ c ≠ 9 ∧ c ≠ 13 ∧ c ≠ 10 := by simpa using hws
  have k1 : ((c.toNat : Int) == 32) = false := byteNe (k := 32) hcc.1
  have k2 : ((c.toNat : Int) == 9) = false := byteNe (k := 9) hcc.2.1
  have k3 : ((c.toNat : Int) == 13) = false := byteNe (k := 13) hcc.2.2.1
  have k4 : ((c.toNat : Int) == 10) = false := byteNe (k := 10) hcc.2.2.2
  clear hcc
  have m1 : ((c.toNat : Int) == 47) = true := by rw [h47]; rfl
  have j1 : (i : Int) + 1 < s.length := by omega
  have d0 : (((({ data := s.toArray } : ByteArray)[i + 1]'(by show i + 1 < s.toArray.size; simpa using hlt1)).toNat : Int) == 47) = false := by
    show ((s[i + 1].toNat : Int) == 47) = false
    rw [hd]; rfl
  have d1 : (((({ data := s.toArray } : ByteArray)[i + 1]'(by show i + 1 < s.toArray.size; simpa using hlt1)).toNat : Int) == 42) = true := by
    show ((s[i + 1].toNat : Int) == 42) = true
    rw [hd]; rfl
  have hci : s[i] = 47 := hc.out.symm.trans h47
  have R3 := Lib.hid R3
  have hat := Lib.hid hat
  clear h47 hws
  go_wp2_with fail
  go_loopg [11] s.length (fun g s11 wr => ∃ n : Nat, s11 = .int .i64 n ∧ 2 ≤ n ∧ i + n ≤ s.length ∧ s.length - n ≤ g ∧ NoEnd s i n ∧ wr = w1)
  case atStart => exact ⟨2, rfl, Nat.le_refl _, by omega, by omega, NoEnd.start s i, rfl⟩
  case round =>
    obtain ⟨n, rfl, hn1, hn2, hg2, hno, rfl⟩ := hrel
    by_cases hin : i + n < s.length
    · have jn : (i : Int) + n < s.length := by omega
      have jm : (i : Int) + n - 1 = ((i + n - 1 : Nat) : Int) := by omega
      by_cases hend : 3 ≤ n ∧ s[i + n] = 47 ∧ s[i + n - 1] = 42
      · obtain ⟨h3, h47, h42⟩ := hend
        have hb := star_shut hlt hci hlt1 hd hno h3 hin h47 h42
        obtain ⟨hle, hR⟩ := S2.skip hlt hb (by omega)
        have j3 : (3 : Int) ≤ n := by omega
        have e1 : (((({ data := s.toArray } : ByteArray)[i + n]'(by show i + n < s.toArray.size; simpa using hin)).toNat : Int) == 47) = true := by
          show ((s[i + n].toNat : Int) == 47) = true
          rw [h47]; rfl
        have e2 : (((({ data := s.toArray } : ByteArray)[i + n - 1]'(by show i + n - 1 < s.toArray.size; simp; omega)).toNat : Int) == 42) = true := by
          show ((s[i + n - 1].toNat : Int) == 42) = true
          rw [h42]; rfl
        have jl : ¬ (i : Int) + n = s.length := by omega
        clear hb h47 h42 hno hd hci
        go_wp2_with fail
        exact hmeet _ pre (n + 1) _ _ _ (by simp) (by omega) hle hR R3.out _ _ _ _ _ _ _ _ _ _ _ _ _ _ _ _ _ _ _ _ _ _ _ _ _ _ _ _ _ _ _ _ _ _ _ _ _ _ _ _ _ _ _ _ _ _ _ _ _ _ _ _ _ _ _ _ _ _ _ _ _ _ _ _ _ _ _ _ _ _ _ _ _ _ _ _ _ _ _ _ _ _ _ _ _ _ _ _ _ _ _ _ _ _ _ _ _ _ _ _ _ _ _ _ _ _ _ _ _ _ _ _ _ _ _ _ _ _ _ _ _ _ _ _ _ _ _ _ _ _ _ _ _ _ _ _ _ _ _ _ _ _ _ _ _ _ _ _ _ _ _ _ _ _ _ _ _ _ _ _ _ _ _ _ _ _ _ _ _ _ _ _ _ _ _ _ _ _ _ _ _ _ _ _ _ _ _ _ _ _ _ _ _ _ _ _ _ _ _ _ _ _ _ _ _ _ _ _ _ _ _ _ _ _ _ _ _ _ _ _ _ _ _ _ 
      · have hc3 : n < 3 ∨ s[i + n] ≠ 47 ∨ s[i + n - 1] ≠ 42 := by
          by_cases a1 : n < 3
          · exact .inl a1
          · by_cases a2 : s[i + n] = 47
            · exact .inr (.inr fun a3 => hend ⟨by omega, a2, a3⟩)
            · exact .inr (.inl a2)
        have hN := hno.go hin hc3
        have hc4 : n < 3 ∨ (3 ≤ n ∧ s[i + n] ≠ 47) ∨ (3 ≤ n ∧ s[i + n] = 47 ∧ s[i + n - 1] ≠ 42) := by
          by_cases a1 : n < 3
          · exact .inl a1
          · by_cases a2 : s[i + n] = 47
            · exact .inr (.inr ⟨by omega, a2, fun a3 => hend ⟨by omega, a2, a3⟩⟩)
            · exact .inr (.inl ⟨by omega, a2⟩)
        clear hend hc3 hno hd hci
        rcases hc4 with a1 | ⟨a1, a2⟩ | ⟨a1, a2, a3⟩
        · have j3 : (n : Int) < 3 := by omega
          go_wp2_with fail
          go_roundg (s.length - (n + 1))
          case measure => omega
          case rel => exact ⟨n + 1, by simp, by omega, by omega, by omega, hN, rfl⟩
        · have j3 : (3 : Int) ≤ n := by omega
          have e1 : (((({ data := s.toArray } : ByteArray)[i + n]'(by show i + n < s.toArray.size; simpa using hin)).toNat : Int) == 47) = false := byteNe (k := 47) a2
          clear a2
          go_wp2_with fail
          go_roundg (s.length - (n + 1))
          case measure => omega
          case rel => exact ⟨n + 1, by simp, by omega, by omega, by omega, hN, rfl⟩
        · have j3 : (3 : Int) ≤ n := by omega
          have e1 : (((({ data := s.toArray } : ByteArray)[i + n]'(by show i + n < s.toArray.size; simpa using hin)).toNat : Int) == 47) = true := by
            show ((s[i + n].toNat : Int) == 47) = true
            rw [a2]; rfl
          have e2 : (((({ data := s.toArray } : ByteArray)[i + n - 1]'(by show i + n - 1 < s.toArray.size; simp; omega)).toNat : Int) == 42) = false := byteNe (k := 42) a3
          clear a2 a3
          go_wp2_with fail
          go_roundg (s.length - (n + 1))
          case measure => omega
          case rel => exact ⟨n + 1, by simp, by omega, by omega, by omega, hN, rfl⟩
    · have hnl : s.length - i = n := by omega
      obtain ⟨g1, g2⟩ := S2.open hlt (star_open hlt hci hlt1 hd (by rw [hnl]; exact hno))
      have jn : ¬ (i : Int) + n < s.length := by omega
      have jl : (i : Int) + n = s.length := by omega
      clear hno hd hci
      obtain ⟨q0, q1, q2, q3⟩ := R3.out.plc.cells
      obtain ⟨t0, t1, -, -⟩ := hat.out.cells
      simp only at q0 q1 t0 t1
      go_wp2_with fail
      go_region
      all_goals go_wp2_with fail
      all_goals
        obtain ⟨hP, hrw, hlow⟩ := R3.out.told ln ((i : Int) - fr + 1)
        have hP' : PlcAt _ w.heap.size (ln, (i : Int) - fr + 1) := hP.mv (Mv.drew (X := fun _ => False) _) (fun h => h)
        obtain ⟨r0, r1, -⟩ := hP'.cells
        simp only at r0 r1
        exact bodyPost_ret (v := .tuple #[.slice vb vm vc, .agg #[.int .i64 ln, .int .i64 ((i : Int) - fr + 1)], .int .i64 3]) (by simp [results, Tryd.results10, go_sem, r0, r1]) rfl ⟨.slice vb vm vc, (ln, (i : Int) - fr + 1), 3, rfl, pre, row34_alloc hrw (below_drewN (Below.refl _ _) 1), below_drewN hlow 1, .inr ⟨by omega, g1.symm, by unfold faultP; rw [g2]; exact S1.symm, by rw [g2]; rfl⟩⟩
end Go.Proofs.YtjgpbpmicopemaaDoor
