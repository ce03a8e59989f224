/-
  plumbobref4.Words: its switch at marks.
-/
import Derived.Test.YtjgpbpmicopemaaDoorRefBase
namespace Go.Proofs.YtjgpbpmicopemaaDoor
open Go.RowKit

set_option maxRecDepth 20000 in
set_option maxHeartbeats 4000000 in
theorem sw_mark {s : List UInt8} {w w1 : World} {i fr : Nat} {ln : Int} {pre : List It} {vb : Option Addr} {vm vc : Nat} {c : UInt8} {ga : Nat} {K K1 K2 : Act → World → Prop} {z1 z2 z4 z17 z18 z19 z20 z21 z22 z242 z243 : Value} {a12 a13 a14 a15 a16 a23 a24 a25 a26 a27 a28 a29 a30 a31 a32 a33 a34 a35 a36 a37 a38 a39 a40 a41 a42 a43 a44 a45 a46 a47 a48 a49 a50 a51 a52 a53 a54 a55 a56 a57 a58 a59 a60 a61 a62 a63 a64 a65 a66 a67 a68 a69 a70 a71 a72 a73 a74 a75 a76 a77 a78 a79 a80 a81 a82 a83 a84 a85 a86 a87 a88 a89 a90 a91 a92 a93 a94 a95 a96 a97 a98 a99 a100 a101 a102 a103 a104 a105 a106 a107 a108 a109 a110 a111 a112 a113 a114 a115 a116 a117 a118 a119 a120 a121 a122 a123 a124 a125 a126 a127 a128 a129 a130 a131 a132 a133 a134 a135 a136 a137 a138 a139 a140 a141 a142 a143 a144 a145 a146 a147 a148 a149 a150 a151 a152 a153 a154 a155 a156 a157 a158 a159 a160 a161 a162 a163 a164 a165 a166 a167 a168 a169 a170 a171 a172 a173 a174 a175 a176 a177 a178 a179 a180 a181 a182 a183 a184 a185 a186 a187 a188 a189 a190 a191 a192 a193 a194 a195 a196 a197 a198 a199 a200 a201 a202 a203 a204 a205 a206 a207 a208 a209 a210 a211 a212 a213 a214 a215 a216 a217 a218 a219 a220 a221 a222 a223 a224 a225 a226 a227 a228 a229 a230 a231 a232 a233 a234 a235 a236 a237 a238 a239 a240 a241 : Value} {C : Code}
    (hC : Tryd.f10.body.bind (blockOf 2) = some C) (hlt : i < s.length) (hA : At10 s w w1 i fr ln pre (.slice vb vm vc) c ga hlt) (hws : ¬ [32, 9, 13, 10].contains c = true) (hln : ¬ (c = 47 ∧ ∃ h1 : i + 1 < s.length, s[i + 1] = 47)) (hst : ¬ (c = 47 ∧ ∃ h1 : i + 1 < s.length, s[i + 1] = 42)) (hz : blankV (s.drop i) = (0, true)) (hgo : goesC c = false)
    (hmeet : Meets s w i fr ln ga K z1 z2 z4 z17 z18 z19 z20 z21 z22 z242 z243) :
    Code.wp Tryd.prog C (Exit.then K (Exit.inBlock 1 (Exit.then K1 (Exit.inBlock 0 (Exit.then K2 (bodyPost Tryd.prog Tryd.f10 (RRw s w)))))))
      { tmps := #[(.string ⟨s.toArray⟩), z1, z2, (.pointer (some ⟨w.heap.size, 0, none⟩)), z4, (.slice vb vm vc), (.int .i64 ln), (.int .i64 (fr : Int)), (.int .i64 (i : Int)), (.pointer (some ⟨ga, 0, none⟩)), (.int .u8 (c.toNat : Int)), (.int .i64 1), a12, a13, a14, a15, a16, z17, z18, z19, z20, z21, z22, a23, a24, a25, a26, a27, a28, a29, a30, a31, a32, a33, a34, a35, a36, a37, a38, a39, a40, a41, a42, a43, a44, a45, a46, a47, a48, a49, a50, a51, a52, a53, a54, a55, a56, a57, a58, a59, a60, a61, a62, a63, a64, a65, a66, a67, a68, a69, a70, a71, a72, a73, a74, a75, a76, a77, a78, a79, a80, a81, a82, a83, a84, a85, a86, a87, a88, a89, a90, a91, a92, a93, a94, a95, a96, a97, a98, a99, a100, a101, a102, a103, a104, a105, a106, a107, a108, a109, a110, a111, a112, a113, a114, a115, a116, a117, a118, a119, a120, a121, a122, a123, a124, a125, a126, a127, a128, a129, a130, a131, a132, a133, a134, a135, a136, a137, a138, a139, a140, a141, a142, a143, a144, a145, a146, a147, a148, a149, a150, a151, a152, a153, a154, a155, a156, a157, a158, a159, a160, a161, a162, a163, a164, a165, a166, a167, a168, a169, a170, a171, a172, a173, a174, a175, a176, a177, a178, a179, a180, a181, a182, a183, a184, a185, a186, a187, a188, a189, a190, a191, a192, a193, a194, a195, a196, a197, a198, a199, a200, a201, a202, a203, a204, a205, a206, a207, a208, a209, a210, a211, a212, a213, a214, a215, a216, a217, a218, a219, a220, a221, a222, a223, a224, a225, a226, a227, a228, a229, a230, a231, a232, a233, a234, a235, a236, a237, a238, a239, a240, a241, z242, z243], defers := [] } w1 := by
  obtain rfl : _ = C := Option.some.inj ((rfl : Tryd.f10.body.bind (blockOf 2) = some _).symm.trans hC)
  clear hC
  obtain ⟨hl, hi, hfr, S1, S2, hc, R3, hat⟩ := hA
  replace hc := Lib.hid hc
  have h65 : s.length ≤ 65536 := by omega
  have hcc : c ≠ 32 ∧ c ≠ 9 ∧ c ≠ 13 ∧ c ≠ 10 := by simpa using hws
  have k1 : ((c.toNat : Int) == 32) = false := byteNe (k := 32) hcc.1
  have k2 : ((c.toNat : Int) == 9) = false := byteNe (k := 9) hcc.2.1
  have k3 : ((c.toNat : Int) == 13) = false := byteNe (k := 13) hcc.2.2.1
  have k4 : ((c.toNat : Int) == 10) = false := byteNe (k := 10) hcc.2.2.2
  clear hcc
  have hg2 : startsI (c.toNat : Int) = false ∧ digitI (c.toNat : Int) = false := by
    have h : (startsI (c.toNat : Int) || digitI (c.toNat : Int)) = false := hgo
    rw [Bool.or_eq_false_iff] at h
    exact h
  have hdr := List.drop_eq_getElem_cons hlt
  rw [← hc.out] at hdr
  have hnN : nameN (s.drop i) = 0 := by rw [hdr, nameN_cons, if_neg (by rw [hgo]; simp)]
  have hwO : wordO (s.drop i) = if 0 < markN (s.drop i) then some ⟨4, (s.drop i).take (markN (s.drop i)), 0⟩ else none := by
    unfold wordO
    rw [hnN, hdr, List.headD_cons, if_neg (by show ¬ startsI (c.toNat : Int) = true; rw [hg2.1]; simp), if_neg (by omega)]
  have CA := rletter_any (c.toNat : Int)
  have CB := rdigit_any (c.toNat : Int)
  rw [hg2.1] at CA
  rw [hg2.2] at CB
  have hcut := cut_from s i
  have CM : ∀ W, Calls Tryd.prog 17 #[.string ⟨(s.drop i).toArray⟩] W (fun e w' => e = .returned (.string ⟨((s.drop i).take (markN (s.drop i))).toArray⟩) ∧ Below W.heap.size W w') := fun W => by
    have := rmark_any c (s.drop (i + 1)) (by rw [← hdr, List.length_drop]; omega) W
    rw [← hdr] at this
    exact this
  have hml : markN (s.drop i) ≤ (s.drop i).length := markN_le _ (by rw [List.length_drop]; omega)
  have hY : 0 < markN (s.drop i) → i + markN (s.drop i) ≤ s.length ∧ Rs s (i + markN (s.drop i)) (pre ++ [⟨⟨4, (s.drop i).take (markN (s.drop i)), 0⟩, (ln, (i : Int) - fr + 1), false⟩]) := fun h => by
    rw [if_pos h] at hwO
    obtain ⟨a1, a2, a3⟩ := S2.word hlt hz hwO
    have e : (((s.drop i).take (markN (s.drop i))).length) = markN (s.drop i) := by rw [List.length_take]; omega
    simp only [e, S1] at a1 a3
    exact ⟨a1, a3⟩
  have hF : ¬ 0 < markN (s.drop i) → goods s = pre ∧ faultO s = some (itBad (nextP (1, 1) (s.take i))) := fun h => by
    rw [if_neg h] at hwO
    exact S2.none hlt hz hwO
  replace hY := Lib.hid hY
  replace hF := Lib.hid hF
  have R3 := Lib.hid R3
  have hat := Lib.hid hat
  clear hws hgo hg2 hdr hnN hwO
  have hcase : ((c.toNat : Int) == 47) = false ∨ (((c.toNat : Int) == 47) = true ∧ (s.length : Int) ≤ i + 1) ∨ (((c.toNat : Int) == 47) = true ∧ ∃ h1 : i + 1 < s.length, (((({ data := s.toArray } : ByteArray)[i + 1]'(by show i + 1 < s.toArray.size; simpa using h1)).toNat : Int) == 47) = false ∧ (((({ data := s.toArray } : ByteArray)[i + 1]'(by show i + 1 < s.toArray.size; simpa using h1)).toNat : Int) == 42) = false) := by
    by_cases a1 : c = 47
    · have b1 : ((c.toNat : Int) == 47) = true := by rw [a1]; rfl
      by_cases a2 : i + 1 < s.length
      · exact .inr (.inr ⟨b1, a2, byteNe (k := 47) (fun h => hln ⟨a1, a2, h⟩), byteNe (k := 42) (fun h => hst ⟨a1, a2, h⟩)⟩)
      · exact .inr (.inl ⟨b1, by omega⟩)
    · exact .inl (byteNe (k := 47) a1)
  clear hln hst hz
  generalize markN (s.drop i) = k at *
  generalize s.drop i = m at *
  have hpl := S2.few
  by_cases hk : k = 0
  · subst hk
    obtain ⟨g1, g2⟩ := hF.out (by omega)
    rw [List.take_zero] at CM
    rcases hcase with d1 | ⟨d1, d2⟩ | ⟨d1, d2, d3, d4⟩
    all_goals
      go_wp2_with fail
      refine (CA _).mono ?_
      rintro e w2 ⟨rfl, rfl⟩
      go_wp2_with fail
      refine (CB _).mono ?_
      rintro e w2 ⟨rfl, rfl⟩
      go_wp2_with fail
      refine (CM _).mono ?_
      rintro e w2 ⟨rfl, hb⟩
      have R4 := Lib.hid (R3.out.below hb)
      have hat2 := Lib.hid (hat.out.below hb)
      clear R3 hat
      have R3 := R4
      have hat := hat2
      obtain ⟨q0, q1, q2, q3⟩ := R3.out.plc.cells
      obtain ⟨t0, t1, -, -⟩ := hat.out.cells
      simp only at q0 q1 t0 t1
      go_wp2_with fail
      go_region
      all_goals go_wp2_with fail
      all_goals
        obtain ⟨hP, hrw, hlow⟩ := R3.out.told ln ((i : Int) - fr + 1)
        have hP' : PlcAt _ w.heap.size (ln, (i : Int) - fr + 1) := hP.mv (Mv.drew (X := fun _ => False) _) (fun h => h)
        obtain ⟨r0, r1, -⟩ := hP'.cells
        simp only at r0 r1
        exact bodyPost_ret (v := .tuple #[.slice vb vm vc, .agg #[.int .i64 ln, .int .i64 ((i : Int) - fr + 1)], .int .i64 3]) (by simp [results, Tryd.results10, go_sem, r0, r1]) rfl ⟨.slice vb vm vc, (ln, (i : Int) - fr + 1), 3, rfl, pre, row34_alloc hrw (below_drewN (Below.refl _ _) 1), below_drewN hlow 1, .inr ⟨by omega, g1.symm, by unfold faultP; rw [g2]; exact S1.symm, by rw [g2]; rfl⟩⟩
  · have htl : (m.take k).length = k := by rw [List.length_take]; omega
    obtain ⟨hle, hR⟩ := hY.out (by omega)
    replace hR := Lib.hid hR
    have hne : (m.take k == []) = false := beq_eq_false_iff_ne.2 (fun h => hk (by rw [← htl, h]; rfl))
    obtain ⟨i0, hi0, hz0, hz1, hz2⟩ := info_parts info34
    clear hY hF
    generalize m.take k = t at *
    rcases hcase with d1 | ⟨d1, d2⟩ | ⟨d1, d2, d3, d4⟩
    all_goals
      go_wp2_with fail
      refine (CA _).mono ?_
      rintro e w2 ⟨rfl, rfl⟩
      go_wp2_with fail
      refine (CB _).mono ?_
      rintro e w2 ⟨rfl, rfl⟩
      go_wp2_with fail
      refine (CM _).mono ?_
      rintro e w2 ⟨rfl, hb⟩
      have R4 := Lib.hid (R3.out.below hb)
      have hat2 := hat.out.below hb
      obtain ⟨t0, t1, -, -⟩ := hat2.cells
      have y0 := fun o => ((belowAlloc w2 o).cell (cell_lt t0)).trans t0
      have y1 := fun o => ((belowAlloc w2 o).cell (cell_lt t1)).trans t1
      simp only at t0 t1 y0 y1
      have hsz := R4.out.low.size
      go_wp2_with (at_builtin; refine wpList_append_own _ rfl _ _ 31 rfl (w.heap.size + 1) 34 i0 _ 5 48 Tryd.underlying31 hi0 hz0 hz1 hz2 rfl (by decide) (.slice vb vm vc) pre.length _ rfl (row34_alloc R4.out.row (belowAlloc _ _)) ⟨w2.heap.size, 0, none⟩ 1 1 (It.cells ⟨⟨4, t, 0⟩, (ln, (i : Int) - fr + 1), false⟩) rfl rfl (cell_five_new _ _ _ _ _ _ _) (by simp [It.cells, str, Value.oneCell']) (by unfold maxLen; omega) (by omega) (by simp; omega) ?_; intro v' w3 hown' hgrow hnil; obtain ⟨g', cap', rfl⟩ := ownsRow_succ hown')
      exact hmeet _ _ k _ _ _ rfl (by omega) hle hR.out (R4.out.appended _ hown' hgrow) _ _ _ _ _ _ _ _ _ _ _ _ _ _ _ _ _ _ _ _ _ _ _ _ _ _ _ _ _ _ _ _ _ _ _ _ _ _ _ _ _ _ _ _ _ _ _ _ _ _ _ _ _ _ _ _ _ _ _ _ _ _ _ _ _ _ _ _ _ _ _ _ _ _ _ _ _ _ _ _ _ _ _ _ _ _ _ _ _ _ _ _ _ _ _ _ _ _ _ _ _ _ _ _ _ _ _ _ _ _ _ _ _ _ _ _ _ _ _ _ _ _ _ _ _ _ _ _ _ _ _ _ _ _ _ _ _ _ _ _ _ _ _ _ _ _ _ _ _ _ _ _ _ _ _ _ _ _ _ _ _ _ _ _ _ _ _ _ _ _ _ _ _ _ _ _ _ _ _ _ _ _ _ _ _ _ _ _ _ _ _ _ _ _ _ _ _ _ _ _ _ _ _ _ _ _ _ _ _ _ _ _ _ _ _ _ _ _ _ _ _ _ _ _ 
end Go.Proofs.YtjgpbpmicopemaaDoor
