import Derived.Test.YtjgpbpmicopemaaGreatDoorPe04

namespace Go.Proofs.YtjgpbpmicopemaaGreatDoor
open Go.RowKit
set_option maxRecDepth 20000 in
set_option maxHeartbeats 4000000 in
theorem sw_letter {s : List UInt8} {w w1 : World} {i fr : Nat} {ln : Int} {pre : List It} {vb : Option Addr} {vm vc : Nat} {c : UInt8} {ga : Nat} {K K1 K2 : Act → World → Prop} {z1 z2 z4 z17 z18 z19 z20 z21 z22 z242 z243 : Value} {a12 a13 a14 a15 a16 a23 a24 a25 a26 a27 a28 a29 a30 a31 a32 a33 a34 a35 a36 a37 a38 a39 a40 a41 a42 a43 a44 a45 a46 a47 a48 a49 a50 a51 a52 a53 a54 a55 a56 a57 a58 a59 a60 a61 a62 a63 a64 a65 a66 a67 a68 a69 a70 a71 a72 a73 a74 a75 a76 a77 a78 a79 a80 a81 a82 a83 a84 a85 a86 a87 a88 a89 a90 a91 a92 a93 a94 a95 a96 a97 a98 a99 a100 a101 a102 a103 a104 a105 a106 a107 a108 a109 a110 a111 a112 a113 a114 a115 a116 a117 a118 a119 a120 a121 a122 a123 a124 a125 a126 a127 a128 a129 a130 a131 a132 a133 a134 a135 a136 a137 a138 a139 a140 a141 a142 a143 a144 a145 a146 a147 a148 a149 a150 a151 a152 a153 a154 a155 a156 a157 a158 a159 a160 a161 a162 a163 a164 a165 a166 a167 a168 a169 a170 a171 a172 a173 a174 a175 a176 a177 a178 a179 a180 a181 a182 a183 a184 a185 a186 a187 a188 a189 a190 a191 a192 a193 a194 a195 a196 a197 a198 a199 a200 a201 a202 a203 a204 a205 a206 a207 a208 a209 a210 a211 a212 a213 a214 a215 a216 a217 a218 a219 a220 a221 a222 a223 a224 a225 a226 a227 a228 a229 a230 a231 a232 a233 a234 a235 a236 a237 a238 a239 a240 a241 : Value} {C : Code}
    (hC : Tryz.f9.body.bind (blockOf 2) = some C) (hlt : i < s.length) (hA : At10 s w w1 i fr ln pre (.slice vb vm vc) c ga hlt) (hws : ¬ [32, 9, 13, 10].contains c = true) (hln : ¬ (c = 47 ∧ ∃ h1 : i + 1 < s.length, s[i + 1] = 47)) (hst : ¬ (c = 47 ∧ ∃ h1 : i + 1 < s.length, s[i + 1] = 42)) (hz : blankV (s.drop i) = (0, true)) (hgo : goesC c = true) (hsd : startsI (c.toNat : Int) = true)
    (hmeet : Meets s w i fr ln ga K z1 z2 z4 z17 z18 z19 z20 z21 z22 z242 z243) :
    Code.wp Tryz.prog C (Exit.then K (Exit.inBlock 1 (Exit.then K1 (Exit.inBlock 0 (Exit.then K2 (bodyPost Tryz.prog Tryz.f9 (RRw s w)))))))
      { tmps := #[(.string ⟨s.toArray⟩), z1, z2, (.pointer (some ⟨w.heap.size, 0, none⟩)), z4, (.slice vb vm vc), (.int .i64 ln), (.int .i64 (fr : Int)), (.int .i64 (i : Int)), (.pointer (some ⟨ga, 0, none⟩)), (.int .u8 (c.toNat : Int)), (.int .i64 1), a12, a13, a14, a15, a16, z17, z18, z19, z20, z21, z22, a23, a24, a25, a26, a27, a28, a29, a30, a31, a32, a33, a34, a35, a36, a37, a38, a39, a40, a41, a42, a43, a44, a45, a46, a47, a48, a49, a50, a51, a52, a53, a54, a55, a56, a57, a58, a59, a60, a61, a62, a63, a64, a65, a66, a67, a68, a69, a70, a71, a72, a73, a74, a75, a76, a77, a78, a79, a80, a81, a82, a83, a84, a85, a86, a87, a88, a89, a90, a91, a92, a93, a94, a95, a96, a97, a98, a99, a100, a101, a102, a103, a104, a105, a106, a107, a108, a109, a110, a111, a112, a113, a114, a115, a116, a117, a118, a119, a120, a121, a122, a123, a124, a125, a126, a127, a128, a129, a130, a131, a132, a133, a134, a135, a136, a137, a138, a139, a140, a141, a142, a143, a144, a145, a146, a147, a148, a149, a150, a151, a152, a153, a154, a155, a156, a157, a158, a159, a160, a161, a162, a163, a164, a165, a166, a167, a168, a169, a170, a171, a172, a173, a174, a175, a176, a177, a178, a179, a180, a181, a182, a183, a184, a185, a186, a187, a188, a189, a190, a191, a192, a193, a194, a195, a196, a197, a198, a199, a200, a201, a202, a203, a204, a205, a206, a207, a208, a209, a210, a211, a212, a213, a214, a215, a216, a217, a218, a219, a220, a221, a222, a223, a224, a225, a226, a227, a228, a229, a230, a231, a232, a233, a234, a235, a236, a237, a238, a239, a240, a241, z242, z243], defers := [] } w1 := by
  obtain rfl : _ = C := Option.some.inj ((rfl : Tryz.f9.body.bind (blockOf 2) = some _).symm.trans hC)
  clear hC
  obtain ⟨hl, hi, hfr, S1, S2, hc, R3, hat⟩ := hA
  replace hc := Lib.hid hc
  have h65 : s.length ≤ 65536 := by omega
  have hcc : c ≠ 32 ∧ c ≠ 9 ∧ c ≠ 13 ∧ c ≠ 10 := by simpa using hws
  have k1 : ((c.toNat : Int) == 32) = false := byteNe (k := 32) hcc.1
  have k2 : ((c.toNat : Int) == 9) = false := byteNe (k := 9) hcc.2.1
  have k3 : ((c.toNat : Int) == 13) = false := byteNe (k := 13) hcc.2.2.1
  have k4 : ((c.toNat : Int) == 10) = false := byteNe (k := 10) hcc.2.2.2
  clear hcc
  have hn47 : c ≠ 47 := by rintro rfl; revert hgo; decide
  have d1 : ((c.toNat : Int) == 47) = false := byteNe (k := 47) hn47
  have hdr := List.drop_eq_getElem_cons hlt
  rw [← hc.out] at hdr
  have hn1 : 1 ≤ nameN (s.drop i) := by rw [hdr, nameN_cons, if_pos hgo]; omega
  have hnl : i + nameN (s.drop i) ≤ s.length := by have := nameN_le (s.drop i); rw [List.length_drop] at this; omega
  have CA := rletter_any (c.toNat : Int)
  have CB := rdigit_any (c.toNat : Int)
  have R3 := Lib.hid R3
  have hat := Lib.hid hat
  clear hws hln hst hgo hn47
  rw [hsd] at CA
  go_wp2_with fail
  refine (CA _).mono ?_
  rintro e w2 ⟨rfl, rfl⟩
  go_upto_block 7 with fail
  go_cut [11] from 23 to 241 (fun s11 wx => s11 = .int .i64 (nameN (s.drop i)) ∧ wx = w1)
  case first =>
    clear CA CB
    go_wp2_with fail
    go_loopg [11] s.length (fun g s11 wr => ∃ n : Nat, s11 = .int .i64 n ∧ 1 ≤ n ∧ n ≤ nameN (s.drop i) ∧ s.length - n ≤ g ∧ wr = w1)
    case atStart => exact ⟨1, rfl, Nat.le_refl _, hn1, by omega, rfl⟩
    case round =>
      obtain ⟨n, rfl, hq1, hq2, hg2, rfl⟩ := hrel
      by_cases hin : i + n < s.length
      · have jn : (i : Int) + n < s.length := by omega
        obtain ⟨ce, hce⟩ : ∃ ce, s[i + n] = ce := ⟨_, rfl⟩
        have hb2 : ({ data := s.toArray } : ByteArray)[i + n]'(by show i + n < s.toArray.size; simpa using hin) = ce := hce
        have DA := rletter_any (ce.toNat : Int)
        have DB := rdigit_any (ce.toNat : Int)
        have hgs : startsI (ce.toNat : Int) = true ∧ goesC ce = true ∨ (startsI (ce.toNat : Int) = false ∧ digitI (ce.toNat : Int) = true ∧ goesC ce = true) ∨ (startsI (ce.toNat : Int) = false ∧ digitI (ce.toNat : Int) = false ∧ goesC ce = false) := by
          have h : goesC ce = (startsI (ce.toNat : Int) || digitI (ce.toNat : Int)) := rfl
          rw [h]
          cases startsI (ce.toNat : Int) <;> cases digitI (ce.toNat : Int) <;> simp
        rcases hgs with ⟨h1, h3⟩ | ⟨h1, h2, h3⟩ | ⟨h1, h2, h3⟩
        · rw [h1] at DA
          have hN := nameS_go hq2 hin (by rw [hce]; exact h3)
          clear hce h3
          go_wp2_with fail
          refine (DA _).mono ?_
          rintro e w2 ⟨rfl, rfl⟩
          go_wp2_with fail
          go_roundg (s.length - (n + 1))
          case measure => omega
          case rel => exact ⟨n + 1, by simp, by omega, hN, by omega, rfl⟩
        · rw [h1] at DA
          rw [h2] at DB
          have hN := nameS_go hq2 hin (by rw [hce]; exact h3)
          clear hce h3
          go_wp2_with fail
          refine (DA _).mono ?_
          rintro e w2 ⟨rfl, rfl⟩
          go_wp2_with fail
          refine (DB _).mono ?_
          rintro e w2 ⟨rfl, rfl⟩
          go_wp2_with fail
          go_roundg (s.length - (n + 1))
          case measure => omega
          case rel => exact ⟨n + 1, by simp, by omega, hN, by omega, rfl⟩
        · rw [h1] at DA
          rw [h2] at DB
          have hN := nameS_stop hq2 hin (by rw [hce]; exact h3)
          clear hce h3
          go_wp2_with fail
          refine (DA _).mono ?_
          rintro e w2 ⟨rfl, rfl⟩
          go_wp2_with fail
          refine (DB _).mono ?_
          rintro e w2 ⟨rfl, rfl⟩
          go_wp2_with fail
          go_meet
          exact ⟨by rw [hN], rfl⟩
      · have hN := nameS_end hq2 hin
        have jn : ¬ (i : Int) + n < s.length := by omega
        go_wp2_with fail
        go_meet
        exact ⟨by rw [hN], rfl⟩
  case rest =>
    obtain ⟨rfl, hw⟩ := hcut
    rw [hw]
    clear hw
    have hat2 := hat.out
    obtain ⟨t0, t1, -, -⟩ := hat2.cells
    have y0 := fun o => ((belowAlloc w1 o).cell (cell_lt t0)).trans t0
    have y1 := fun o => ((belowAlloc w1 o).cell (cell_lt t1)).trans t1
    simp only at t0 t1 y0 y1
    have hmid := cut_mid s i (nameN (s.drop i))
    have htl : ((s.drop i).take (nameN (s.drop i))).length = nameN (s.drop i) := by rw [List.length_take]; have := nameN_le (s.drop i); omega
    have hwO : wordO (s.drop i) = if nameN (s.drop i) ≤ 40 then some ⟨if keyB ((s.drop i).take (nameN (s.drop i))) then 3 else 1, (s.drop i).take (nameN (s.drop i)), 0⟩ else none := by
      unfold wordO
      rw [hdr, List.headD_cons, if_pos (show startsC c = true from hsd)]
    rw [starts_not _ hsd] at CB
    have hY : nameN (s.drop i) ≤ 40 → i + nameN (s.drop i) ≤ s.length ∧ Rs s (i + nameN (s.drop i)) (pre ++ [⟨⟨if keyB ((s.drop i).take (nameN (s.drop i))) then 3 else 1, (s.drop i).take (nameN (s.drop i)), 0⟩, (ln, (i : Int) - fr + 1), false⟩]) := fun h => by
      rw [if_pos h] at hwO
      obtain ⟨a1, a2, a3⟩ := S2.word hlt hz hwO
      simp only [htl, S1] at a1 a3
      exact ⟨a1, a3⟩
    have hF : ¬ nameN (s.drop i) ≤ 40 → goods s = pre ∧ faultO s = some (itBad (nextP (1, 1) (s.take i))) := fun h => by
      rw [if_neg h] at hwO
      exact S2.none hlt hz hwO
    replace hY := Lib.hid hY
    replace hF := Lib.hid hF
    have hpl := S2.few
    have CK := rkey_any ((s.drop i).take (nameN (s.drop i)))
    unfold str at CK
    clear hwO hz hdr CA
    have hNl : nameN (s.drop i) ≤ 65536 := by omega
    generalize (s.drop i).take (nameN (s.drop i)) = t at *
    generalize nameN (s.drop i) = N at *
    go_wp2_with fail
    go_cut [12] from 188 to 195 (fun s12 wx => s12 = .pointer (some ⟨w1.heap.size, 0, none⟩) ∧ wx.heap[w1.heap.size]? = some (.cells #[.int .i64 1, .string ⟨t.toArray⟩, .int .i64 0, .int .i64 ln, .int .i64 ((i : Int) - fr + 1)] 34 (0, 0)) ∧ Below w1.heap.size w1 wx)
    case first =>
      go_region
      all_goals go_wp2_with fail
      all_goals go_meet
      all_goals exact ⟨rfl, heap_alloc_new w1 _, below_drewN (belowAlloc w1 _) 1⟩
    case rest =>
      obtain ⟨rfl, hbx, hbw⟩ := hcut
      have R4 := Lib.hid (R3.out.below hbw)
      have hat2 := Lib.hid (hat.out.below hbw)
      have hgb1 : w.heap.size < w1.heap.size := heap_lt R3.out.plc
      have hgb2 : ∀ g, (Value.slice vb vm vc).ownBlock = some g → g < w1.heap.size := fun g h => (row34_in R3.out.row g h).2
      generalize w1.heap.size = gb at *
      clear R3 hat y0 y1 t0 t1 hbw
      obtain ⟨x0, x1, x2, x3, x4, y0, y2⟩ := box5t hbx
      have R3 := R4
      have hat := hat2
      obtain ⟨q0, q1, q2, q3⟩ := R3.out.plc.cells
      obtain ⟨t0, t1, -, -⟩ := hat.out.cells
      simp only at q0 q1 t0 t1
      by_cases hN40 : N ≤ 40
      · obtain ⟨hle, hR⟩ := hY.out hN40
        replace hR := Lib.hid hR
        obtain ⟨i0, hi0, hz0, hz1, hz2⟩ := info_parts info34
        cases hkey : keyB t
        · rw [hkey] at hR CK
          go_wp2_with fail
          refine (CB _).mono ?_
          rintro e w2 ⟨rfl, rfl⟩
          go_wp2_with fail
          refine (CK _).mono ?_
          rintro e w3 ⟨rfl, hb3⟩
          have R5 := Lib.hid (R3.out.below hb3)
          obtain ⟨p0, p1, p2, p3, p4, -, -⟩ := box5t ((hb3.block _ (heap_lt hbx)).trans hbx)
          have hsz := R5.out.low.size
          go_wp2_with (at_builtin; refine wpList_append_own _ rfl _ _ 30 rfl (w.heap.size + 1) 34 i0 _ 5 48 Tryz.underlying30 hi0 hz0 hz1 hz2 rfl (by decide) (.slice vb vm vc) pre.length _ rfl (row34_alloc R5.out.row (belowAlloc _ _)) ⟨w3.heap.size, 0, none⟩ 1 1 (It.cells ⟨⟨1, t, 0⟩, (ln, (i : Int) - fr + 1), false⟩) rfl rfl (cell_five_new _ _ _ _ _ _ _) (by simp [It.cells, str, Value.oneCell']) (by unfold maxLen; omega) (by omega) (by simp; omega) ?_; intro v' w4 hown' hgrow hnil; obtain ⟨g', cap', rfl⟩ := ownsRow_succ hown')
          exact hmeet _ _ N _ _ _ rfl (by omega) hle hR.out (R5.out.appended _ hown' hgrow) _ _ _ _ _ _ _ _ _ _ _ _ _ _ _ _ _ _ _ _ _ _ _ _ _ _ _ _ _ _ _ _ _ _ _ _ _ _ _ _ _ _ _ _ _ _ _ _ _ _ _ _ _ _ _ _ _ _ _ _ _ _ _ _ _ _ _ _ _ _ _ _ _ _ _ _ _ _ _ _ _ _ _ _ _ _ _ _ _ _ _ _ _ _ _ _ _ _ _ _ _ _ _ _ _ _ _ _ _ _ _ _ _ _ _ _ _ _ _ _ _ _ _ _ _ _ _ _ _ _ _ _ _ _ _ _ _ _ _ _ _ _ _ _ _ _ _ _ _ _ _ _ _ _ _ _ _ _ _ _ _ _ _ _ _ _ _ _ _ _ _ _ _ _ _ _ _ _ _ _ _ _ _ _ _ _ _ _ _ _ _ _ _ _ _ _ _ _ _ _ _ _ _ _ _ _ _ _ _ _ _ _ _ _ _ _ _ _ _ _ _ _ _ _ 
        · rw [hkey] at hR CK
          go_wp2_with fail
          refine (CB _).mono ?_
          rintro e w2 ⟨rfl, rfl⟩
          go_wp2_with fail
          refine (CK _).mono ?_
          rintro e w3 ⟨rfl, hb3⟩
          have R5 := Lib.hid (R3.out.below hb3)
          obtain ⟨p0, p1, p2, p3, p4, f0, f2⟩ := box5t ((hb3.block _ (heap_lt hbx)).trans hbx)
          have hsz := R5.out.low.size
          have hs3 : (w3.setCell ⟨gb, 0, none⟩ (.int .i64 3)).heap.size = w3.heap.size := by simp
          have R6 := Lib.hid (R5.out.set hgb1 hgb2 0 (.int .i64 3))
          go_wp2_with (at_builtin; refine wpList_append_own _ rfl _ _ 30 rfl (w.heap.size + 1) 34 i0 _ 5 48 Tryz.underlying30 hi0 hz0 hz1 hz2 rfl (by decide) (.slice vb vm vc) pre.length _ rfl (row34_alloc R6.out.row (belowAlloc _ _)) ⟨w3.heap.size, 0, none⟩ 1 1 (It.cells ⟨⟨3, t, 0⟩, (ln, (i : Int) - fr + 1), false⟩) rfl rfl (by have q := cell_five_new (w3.setCell ⟨gb, 0, none⟩ (.int .i64 3)) (.int .i64 3) (.string ⟨t.toArray⟩) (.int .i64 0) (.int .i64 ln) (.int .i64 ((i : Int) - fr + 1)) 34; rw [hs3] at q; exact q) (by simp [It.cells, str, Value.oneCell']) (by unfold maxLen; omega) (by omega) (by simp; omega) ?_; intro v' w4 hown' hgrow hnil; obtain ⟨g', cap', rfl⟩ := ownsRow_succ hown')
          exact hmeet _ _ N _ _ _ rfl (by omega) hle hR.out (R6.out.appended _ hown' hgrow) _ _ _ _ _ _ _ _ _ _ _ _ _ _ _ _ _ _ _ _ _ _ _ _ _ _ _ _ _ _ _ _ _ _ _ _ _ _ _ _ _ _ _ _ _ _ _ _ _ _ _ _ _ _ _ _ _ _ _ _ _ _ _ _ _ _ _ _ _ _ _ _ _ _ _ _ _ _ _ _ _ _ _ _ _ _ _ _ _ _ _ _ _ _ _ _ _ _ _ _ _ _ _ _ _ _ _ _ _ _ _ _ _ _ _ _ _ _ _ _ _ _ _ _ _ _ _ _ _ _ _ _ _ _ _ _ _ _ _ _ _ _ _ _ _ _ _ _ _ _ _ _ _ _ _ _ _ _ _ _ _ _ _ _ _ _ _ _ _ _ _ _ _ _ _ _ _ _ _ _ _ _ _ _ _ _ _ _ _ _ _ _ _ _ _ _ _ _ _ _ _ _ _ _ _ _ _ _ _ _ _ _ _ _ _ _ _ _ _ _ _ _ _ _ 
      · obtain ⟨g1, g2⟩ := hF.out hN40
        go_wp2_with fail
        refine (CB _).mono ?_
        rintro e w2 ⟨rfl, rfl⟩
        go_wp2_with fail
        go_region
        all_goals go_wp2_with fail
        all_goals
          obtain ⟨hP, hrw, hlow⟩ := R3.out.told ln ((i : Int) - fr + 1)
          have hP' : PlcAt _ w.heap.size (ln, (i : Int) - fr + 1) := hP.mv (Mv.drew (X := fun _ => False) _) (fun h => h)
          obtain ⟨r0, r1, -⟩ := hP'.cells
          simp only at r0 r1
          exact bodyPost_ret (v := .tuple #[.slice vb vm vc, .agg #[.int .i64 ln, .int .i64 ((i : Int) - fr + 1)], .int .i64 3]) (by simp [results, Tryz.results9, go_sem, r0, r1]) rfl ⟨.slice vb vm vc, (ln, (i : Int) - fr + 1), 3, rfl, pre, row34_alloc hrw (below_drewN (Below.refl _ _) 1), below_drewN hlow 1, .inr ⟨by omega, g1.symm, by unfold faultP; rw [g2]; exact S1.symm, by rw [g2]; rfl⟩⟩
end Go.Proofs.YtjgpbpmicopemaaGreatDoor

namespace Go.Proofs.YtjgpbpmicopemaaGreatDoor
open Go.RowKit
set_option maxRecDepth 20000 in
set_option maxHeartbeats 4000000 in
theorem sw_digit {s : List UInt8} {w w1 : World} {i fr : Nat} {ln : Int} {pre : List It} {vb : Option Addr} {vm vc : Nat} {c : UInt8} {ga : Nat} {K K1 K2 : Act → World → Prop} {z1 z2 z4 z17 z18 z19 z20 z21 z22 z242 z243 : Value} {a12 a13 a14 a15 a16 a23 a24 a25 a26 a27 a28 a29 a30 a31 a32 a33 a34 a35 a36 a37 a38 a39 a40 a41 a42 a43 a44 a45 a46 a47 a48 a49 a50 a51 a52 a53 a54 a55 a56 a57 a58 a59 a60 a61 a62 a63 a64 a65 a66 a67 a68 a69 a70 a71 a72 a73 a74 a75 a76 a77 a78 a79 a80 a81 a82 a83 a84 a85 a86 a87 a88 a89 a90 a91 a92 a93 a94 a95 a96 a97 a98 a99 a100 a101 a102 a103 a104 a105 a106 a107 a108 a109 a110 a111 a112 a113 a114 a115 a116 a117 a118 a119 a120 a121 a122 a123 a124 a125 a126 a127 a128 a129 a130 a131 a132 a133 a134 a135 a136 a137 a138 a139 a140 a141 a142 a143 a144 a145 a146 a147 a148 a149 a150 a151 a152 a153 a154 a155 a156 a157 a158 a159 a160 a161 a162 a163 a164 a165 a166 a167 a168 a169 a170 a171 a172 a173 a174 a175 a176 a177 a178 a179 a180 a181 a182 a183 a184 a185 a186 a187 a188 a189 a190 a191 a192 a193 a194 a195 a196 a197 a198 a199 a200 a201 a202 a203 a204 a205 a206 a207 a208 a209 a210 a211 a212 a213 a214 a215 a216 a217 a218 a219 a220 a221 a222 a223 a224 a225 a226 a227 a228 a229 a230 a231 a232 a233 a234 a235 a236 a237 a238 a239 a240 a241 : Value} {C : Code}
    (hC : Tryz.f9.body.bind (blockOf 2) = some C) (hlt : i < s.length) (hA : At10 s w w1 i fr ln pre (.slice vb vm vc) c ga hlt) (hws : ¬ [32, 9, 13, 10].contains c = true) (hln : ¬ (c = 47 ∧ ∃ h1 : i + 1 < s.length, s[i + 1] = 47)) (hst : ¬ (c = 47 ∧ ∃ h1 : i + 1 < s.length, s[i + 1] = 42)) (hz : blankV (s.drop i) = (0, true)) (hgo : goesC c = true) (hsd : startsI (c.toNat : Int) = false) (hdd : digitI (c.toNat : Int) = true)
    (hmeet : Meets s w i fr ln ga K z1 z2 z4 z17 z18 z19 z20 z21 z22 z242 z243) :
    Code.wp Tryz.prog C (Exit.then K (Exit.inBlock 1 (Exit.then K1 (Exit.inBlock 0 (Exit.then K2 (bodyPost Tryz.prog Tryz.f9 (RRw s w)))))))
      { tmps := #[(.string ⟨s.toArray⟩), z1, z2, (.pointer (some ⟨w.heap.size, 0, none⟩)), z4, (.slice vb vm vc), (.int .i64 ln), (.int .i64 (fr : Int)), (.int .i64 (i : Int)), (.pointer (some ⟨ga, 0, none⟩)), (.int .u8 (c.toNat : Int)), (.int .i64 1), a12, a13, a14, a15, a16, z17, z18, z19, z20, z21, z22, a23, a24, a25, a26, a27, a28, a29, a30, a31, a32, a33, a34, a35, a36, a37, a38, a39, a40, a41, a42, a43, a44, a45, a46, a47, a48, a49, a50, a51, a52, a53, a54, a55, a56, a57, a58, a59, a60, a61, a62, a63, a64, a65, a66, a67, a68, a69, a70, a71, a72, a73, a74, a75, a76, a77, a78, a79, a80, a81, a82, a83, a84, a85, a86, a87, a88, a89, a90, a91, a92, a93, a94, a95, a96, a97, a98, a99, a100, a101, a102, a103, a104, a105, a106, a107, a108, a109, a110, a111, a112, a113, a114, a115, a116, a117, a118, a119, a120, a121, a122, a123, a124, a125, a126, a127, a128, a129, a130, a131, a132, a133, a134, a135, a136, a137, a138, a139, a140, a141, a142, a143, a144, a145, a146, a147, a148, a149, a150, a151, a152, a153, a154, a155, a156, a157, a158, a159, a160, a161, a162, a163, a164, a165, a166, a167, a168, a169, a170, a171, a172, a173, a174, a175, a176, a177, a178, a179, a180, a181, a182, a183, a184, a185, a186, a187, a188, a189, a190, a191, a192, a193, a194, a195, a196, a197, a198, a199, a200, a201, a202, a203, a204, a205, a206, a207, a208, a209, a210, a211, a212, a213, a214, a215, a216, a217, a218, a219, a220, a221, a222, a223, a224, a225, a226, a227, a228, a229, a230, a231, a232, a233, a234, a235, a236, a237, a238, a239, a240, a241, z242, z243], defers := [] } w1 := by
  obtain rfl : _ = C := Option.some.inj ((rfl : Tryz.f9.body.bind (blockOf 2) = some _).symm.trans hC)
  clear hC
  obtain ⟨hl, hi, hfr, S1, S2, hc, R3, hat⟩ := hA
  replace hc := Lib.hid hc
  have h65 : s.length ≤ 65536 := by omega
  have hcc : c ≠ 32 ∧ c ≠ 9 ∧ c ≠ 13 ∧ c ≠ 10 := by simpa using hws
  have k1 : ((c.toNat : Int) == 32) = false := byteNe (k := 32) hcc.1
  have k2 : ((c.toNat : Int) == 9) = false := byteNe (k := 9) hcc.2.1
  have k3 : ((c.toNat : Int) == 13) = false := byteNe (k := 13) hcc.2.2.1
  have k4 : ((c.toNat : Int) == 10) = false := byteNe (k := 10) hcc.2.2.2
  clear hcc
  have hn47 : c ≠ 47 := by rintro rfl; revert hgo; decide
  have d1 : ((c.toNat : Int) == 47) = false := byteNe (k := 47) hn47
  have hdr := List.drop_eq_getElem_cons hlt
  rw [← hc.out] at hdr
  have hn1 : 1 ≤ nameN (s.drop i) := by rw [hdr, nameN_cons, if_pos hgo]; omega
  have hnl : i + nameN (s.drop i) ≤ s.length := by have := nameN_le (s.drop i); rw [List.length_drop] at this; omega
  have CA := rletter_any (c.toNat : Int)
  have CB := rdigit_any (c.toNat : Int)
  have R3 := Lib.hid R3
  have hat := Lib.hid hat
  clear hws hln hst hgo hn47
  rw [hsd] at CA
  rw [hdd] at CB
  go_wp2_with fail
  refine (CA _).mono ?_
  rintro e w2 ⟨rfl, rfl⟩
  go_wp2_with fail
  refine (CB _).mono ?_
  rintro e w2 ⟨rfl, rfl⟩
  go_upto_block 7 with fail
  go_cut [11] from 23 to 241 (fun s11 wx => s11 = .int .i64 (nameN (s.drop i)) ∧ wx = w1)
  case first =>
    clear CA CB
    go_wp2_with fail
    go_loopg [11] s.length (fun g s11 wr => ∃ n : Nat, s11 = .int .i64 n ∧ 1 ≤ n ∧ n ≤ nameN (s.drop i) ∧ s.length - n ≤ g ∧ wr = w1)
    case atStart => exact ⟨1, rfl, Nat.le_refl _, hn1, by omega, rfl⟩
    case round =>
      obtain ⟨n, rfl, hq1, hq2, hg2, rfl⟩ := hrel
      by_cases hin : i + n < s.length
      · have jn : (i : Int) + n < s.length := by omega
        obtain ⟨ce, hce⟩ : ∃ ce, s[i + n] = ce := ⟨_, rfl⟩
        have hb2 : ({ data := s.toArray } : ByteArray)[i + n]'(by show i + n < s.toArray.size; simpa using hin) = ce := hce
        have DA := rletter_any (ce.toNat : Int)
        have DB := rdigit_any (ce.toNat : Int)
        have hgs : startsI (ce.toNat : Int) = true ∧ goesC ce = true ∨ (startsI (ce.toNat : Int) = false ∧ digitI (ce.toNat : Int) = true ∧ goesC ce = true) ∨ (startsI (ce.toNat : Int) = false ∧ digitI (ce.toNat : Int) = false ∧ goesC ce = false) := by
          have h : goesC ce = (startsI (ce.toNat : Int) || digitI (ce.toNat : Int)) := rfl
          rw [h]
          cases startsI (ce.toNat : Int) <;> cases digitI (ce.toNat : Int) <;> simp
        rcases hgs with ⟨h1, h3⟩ | ⟨h1, h2, h3⟩ | ⟨h1, h2, h3⟩
        · rw [h1] at DA
          have hN := nameS_go hq2 hin (by rw [hce]; exact h3)
          clear hce h3
          go_wp2_with fail
          refine (DA _).mono ?_
          rintro e w2 ⟨rfl, rfl⟩
          go_wp2_with fail
          go_roundg (s.length - (n + 1))
          case measure => omega
          case rel => exact ⟨n + 1, by simp, by omega, hN, by omega, rfl⟩
        · rw [h1] at DA
          rw [h2] at DB
          have hN := nameS_go hq2 hin (by rw [hce]; exact h3)
          clear hce h3
          go_wp2_with fail
          refine (DA _).mono ?_
          rintro e w2 ⟨rfl, rfl⟩
          go_wp2_with fail
          refine (DB _).mono ?_
          rintro e w2 ⟨rfl, rfl⟩
          go_wp2_with fail
          go_roundg (s.length - (n + 1))
          case measure => omega
          case rel => exact ⟨n + 1, by simp, by omega, hN, by omega, rfl⟩
        · rw [h1] at DA
          rw [h2] at DB
          have hN := nameS_stop hq2 hin (by rw [hce]; exact h3)
          clear hce h3
          go_wp2_with fail
          refine (DA _).mono ?_
          rintro e w2 ⟨rfl, rfl⟩
          go_wp2_with fail
          refine (DB _).mono ?_
          rintro e w2 ⟨rfl, rfl⟩
          go_wp2_with fail
          go_meet
          exact ⟨by rw [hN], rfl⟩
      · have hN := nameS_end hq2 hin
        have jn : ¬ (i : Int) + n < s.length := by omega
        go_wp2_with fail
        go_meet
        exact ⟨by rw [hN], rfl⟩
  case rest =>
    obtain ⟨rfl, hw⟩ := hcut
    rw [hw]
    clear hw
    have hat2 := hat.out
    obtain ⟨t0, t1, -, -⟩ := hat2.cells
    have y0 := fun o => ((belowAlloc w1 o).cell (cell_lt t0)).trans t0
    have y1 := fun o => ((belowAlloc w1 o).cell (cell_lt t1)).trans t1
    simp only at t0 t1 y0 y1
    have hmid := cut_mid s i (nameN (s.drop i))
    have htl : ((s.drop i).take (nameN (s.drop i))).length = nameN (s.drop i) := by rw [List.length_take]; have := nameN_le (s.drop i); omega
    have hwO : wordO (s.drop i) = (numV ((s.drop i).take (nameN (s.drop i)))).map (fun v => ⟨2, (s.drop i).take (nameN (s.drop i)), v⟩) := by
      unfold wordO
      rw [hdr, List.headD_cons, if_neg (show ¬ startsC c = true by rw [show startsC c = startsI (c.toNat : Int) from rfl, hsd]; simp), ← hdr, if_pos (by omega)]
    have hY : ∀ v, numV ((s.drop i).take (nameN (s.drop i))) = some v → i + nameN (s.drop i) ≤ s.length ∧ Rs s (i + nameN (s.drop i)) (pre ++ [⟨⟨2, (s.drop i).take (nameN (s.drop i)), v⟩, (ln, (i : Int) - fr + 1), false⟩]) := fun v h => by
      rw [h] at hwO
      obtain ⟨a1, a2, a3⟩ := S2.word hlt hz hwO
      simp only [htl, S1] at a1 a3
      exact ⟨a1, a3⟩
    have hF : numV ((s.drop i).take (nameN (s.drop i))) = none → goods s = pre ∧ faultO s = some (itBad (nextP (1, 1) (s.take i))) := fun h => by
      rw [h] at hwO
      exact S2.none hlt hz hwO
    have CN : ∀ W, Calls Tryz.prog 21 #[.string ⟨((s.drop i).take (nameN (s.drop i))).toArray⟩] W (RNb ((s.drop i).take (nameN (s.drop i))) W) := fun W => by
      obtain ⟨M, hM⟩ : ∃ M, nameN (s.drop i) = M + 1 := ⟨nameN (s.drop i) - 1, by omega⟩
      rw [hM, hdr, List.take_succ_cons]
      exact rnumber_any c _ (by rw [List.length_cons, List.length_take]; omega) W
    replace hY := Lib.hid hY
    replace hF := Lib.hid hF
    have hpl := S2.few
    clear hwO hz hdr CA
    have hNl : nameN (s.drop i) ≤ 65536 := by omega
    generalize (s.drop i).take (nameN (s.drop i)) = t at *
    generalize nameN (s.drop i) = N at *
    go_wp2_with fail
    go_cut [12] from 188 to 195 (fun s12 wx => s12 = .pointer (some ⟨w1.heap.size, 0, none⟩) ∧ wx.heap[w1.heap.size]? = some (.cells #[.int .i64 1, .string ⟨t.toArray⟩, .int .i64 0, .int .i64 ln, .int .i64 ((i : Int) - fr + 1)] 34 (0, 0)) ∧ Below w1.heap.size w1 wx)
    case first =>
      go_region
      all_goals go_wp2_with fail
      all_goals go_meet
      all_goals exact ⟨rfl, heap_alloc_new w1 _, below_drewN (belowAlloc w1 _) 1⟩
    case rest =>
      obtain ⟨rfl, hbx, hbw⟩ := hcut
      have R4 := Lib.hid (R3.out.below hbw)
      have hat2 := Lib.hid (hat.out.below hbw)
      have hgb1 : w.heap.size < w1.heap.size := heap_lt R3.out.plc
      have hgb2 : ∀ g, (Value.slice vb vm vc).ownBlock = some g → g < w1.heap.size := fun g h => (row34_in R3.out.row g h).2
      generalize w1.heap.size = gb at *
      clear R3 hat y0 y1 t0 t1 hbw
      obtain ⟨x0, x1, x2, x3, x4, y0, y2⟩ := box5t hbx
      have R3 := R4
      have hat := hat2
      obtain ⟨q0, q1, q2, q3⟩ := R3.out.plc.cells
      obtain ⟨t0, t1, -, -⟩ := hat.out.cells
      simp only at q0 q1 t0 t1
      obtain ⟨i0, hi0, hz0, hz1, hz2⟩ := info_parts info34
      unfold RNb at CN
      cases hnv : numV t with
      | none =>
        obtain ⟨g1, g2⟩ := hF.out hnv
        rw [hnv] at CN
        go_wp2_with fail
        refine (CB _).mono ?_
        rintro e w2 ⟨rfl, rfl⟩
        go_wp2_with fail
        refine (CN _).mono ?_
        rintro e w3 ⟨v, rfl, hv, hb3⟩
        have R5 := Lib.hid (R3.out.below hb3)
        have hat5 := Lib.hid (hat.out.below hb3)
        clear R3 hat q0 q1 q2 q3 t0 t1
        have R3 := R5
        have hat := hat5
        obtain ⟨q0, q1, q2, q3⟩ := R3.out.plc.cells
        obtain ⟨t0, t1, -, -⟩ := hat.out.cells
        simp only at q0 q1 t0 t1
        go_wp2_with fail
        go_region
        all_goals go_wp2_with fail
        all_goals
          obtain ⟨hP, hrw, hlow⟩ := R3.out.told ln ((i : Int) - fr + 1)
          have hP' : PlcAt _ w.heap.size (ln, (i : Int) - fr + 1) := hP.mv (Mv.drew (X := fun _ => False) _) (fun h => h)
          obtain ⟨r0, r1, -⟩ := hP'.cells
          simp only at r0 r1
          exact bodyPost_ret (v := .tuple #[.slice vb vm vc, .agg #[.int .i64 ln, .int .i64 ((i : Int) - fr + 1)], .int .i64 3]) (by simp [results, Tryz.results9, go_sem, r0, r1]) rfl ⟨.slice vb vm vc, (ln, (i : Int) - fr + 1), 3, rfl, pre, row34_alloc hrw (below_drewN (Below.refl _ _) 1), below_drewN hlow 1, .inr ⟨by omega, g1.symm, by unfold faultP; rw [g2]; exact S1.symm, by rw [g2]; rfl⟩⟩
      | some u =>
        obtain ⟨hle, hR⟩ := hY.out u hnv
        replace hR := Lib.hid hR
        rw [hnv] at CN
        go_wp2_with fail
        refine (CB _).mono ?_
        rintro e w2 ⟨rfl, rfl⟩
        go_wp2_with fail
        refine (CN _).mono ?_
        rintro e w3 ⟨v, rfl, hv, hb3⟩
        have hv := hv u rfl
        subst hv
        have R5 := Lib.hid (R3.out.below hb3)
        obtain ⟨p0, p1, p2, p3, p4, f0, f2⟩ := box5t ((hb3.block _ (heap_lt hbx)).trans hbx)
        have hsz := R5.out.low.size
        have hs3 : ((w3.setCell ⟨gb, 0, none⟩ (.int .i64 2)).setCell ⟨gb, 2, none⟩ (.int .i64 u)).heap.size = w3.heap.size := by simp
        have R6 := Lib.hid ((R5.out.set hgb1 hgb2 0 (.int .i64 2)).set hgb1 hgb2 2 (.int .i64 u))
        go_wp2_with (at_builtin; refine wpList_append_own _ rfl _ _ 30 rfl (w.heap.size + 1) 34 i0 _ 5 48 Tryz.underlying30 hi0 hz0 hz1 hz2 rfl (by decide) (.slice vb vm vc) pre.length _ rfl (row34_alloc R6.out.row (belowAlloc _ _)) ⟨w3.heap.size, 0, none⟩ 1 1 (It.cells ⟨⟨2, t, u⟩, (ln, (i : Int) - fr + 1), false⟩) rfl rfl (by have q := cell_five_new ((w3.setCell ⟨gb, 0, none⟩ (.int .i64 2)).setCell ⟨gb, 2, none⟩ (.int .i64 u)) (.int .i64 2) (.string ⟨t.toArray⟩) (.int .i64 u) (.int .i64 ln) (.int .i64 ((i : Int) - fr + 1)) 34; rw [hs3] at q; exact q) (by simp [It.cells, str, Value.oneCell']) (by unfold maxLen; omega) (by omega) (by simp; omega) ?_; intro v' w4 hown' hgrow hnil; obtain ⟨g', cap', rfl⟩ := ownsRow_succ hown')
        exact hmeet _ _ N _ _ _ rfl (by omega) hle hR.out (R6.out.appended _ hown' hgrow) _ _ _ _ _ _ _ _ _ _ _ _ _ _ _ _ _ _ _ _ _ _ _ _ _ _ _ _ _ _ _ _ _ _ _ _ _ _ _ _ _ _ _ _ _ _ _ _ _ _ _ _ _ _ _ _ _ _ _ _ _ _ _ _ _ _ _ _ _ _ _ _ _ _ _ _ _ _ _ _ _ _ _ _ _ _ _ _ _ _ _ _ _ _ _ _ _ _ _ _ _ _ _ _ _ _ _ _ _ _ _ _ _ _ _ _ _ _ _ _ _ _ _ _ _ _ _ _ _ _ _ _ _ _ _ _ _ _ _ _ _ _ _ _ _ _ _ _ _ _ _ _ _ _ _ _ _ _ _ _ _ _ _ _ _ _ _ _ _ _ _ _ _ _ _ _ _ _ _ _ _ _ _ _ _ _ _ _ _ _ _ _ _ _ _ _ _ _ _ _ _ _ _ _ _ _ _ _ _ _ _ _ _ _ _ _ _ _ _ _ _ _ _ _ 
end Go.Proofs.YtjgpbpmicopemaaGreatDoor

namespace Go.Proofs.YtjgpbpmicopemaaGreatDoor
open Go.RowKit
set_option maxRecDepth 20000 in
set_option maxHeartbeats 4000000 in
theorem rwords_any (s : List UInt8) (hs : s.length ≤ 9223372036854775807) (w : World) : Calls Tryz.prog 9 #[str s] w (RRw s w) := by
  have hmk := mk31
  have hst := Rw.start w
  by_cases hl : 65536 < s.length
  · unfold str
    go_enter Tryz.func9, Tryz.ntmps9
    go_wp2_with fail
    generalize (w.alloc (Obj.cells #[Value.int IntKind.i64 0, Value.int IntKind.i64 0] 26)).alloc (Obj.cells #[] 34) = W at *
    obtain ⟨r0, r1, -⟩ := hst.plc.cells
    simp only at r0 r1
    exact bodyPost_ret (v := .tuple #[.slice (some ⟨w.heap.size + 1, 0, none⟩) 0 0, .agg #[.int .i64 0, .int .i64 0], .int .i64 2]) (by simp [results, Tryz.results9, go_sem, r0, r1]) rfl ⟨_, (0, 0), 2, rfl, [], row34_base hst.row (by omega), hst.low, .inl ⟨hl, rfl, rfl, rfl⟩⟩
  · unfold str
    go_enter Tryz.func9, Tryz.ntmps9
    go_wp2_with fail
    generalize (w.alloc (Obj.cells #[Value.int IntKind.i64 0, Value.int IntKind.i64 0] 26)).alloc (Obj.cells #[] 34) = W at *
    go_loopg [5, 6, 7, 8, 9, 10, 11, 12, 13, 14, 15, 16] s.length (fun g s5 s6 s7 s8 s9 s10 s11 s12 s13 s14 s15 s16 wr => ∃ (v : Value) (pre : List It) (i fr : Nat) (ln : Int), s5 = v ∧ s6 = .int .i64 ln ∧ s7 = .int .i64 fr ∧ s8 = .int .i64 i ∧ i ≤ s.length ∧ fr ≤ i ∧ s.length - i ≤ g ∧ Hid (nextP (1, 1) (s.take i) = (ln, (i : Int) - fr + 1) ∧ Rs s i pre ∧ Rw w v pre wr))
    case atStart => exact ⟨_, [], 0, 0, 1, rfl, rfl, rfl, rfl, Nat.zero_le _, Nat.le_refl _, by omega, Lib.hid ⟨rfl, Rs.start s, hst⟩⟩
    case round =>
      obtain ⟨v, pre, i, fr, ln, rfl, rfl, rfl, rfl, hi, hfr, hg, S⟩ := hrel
      by_cases hlt : i < s.length
      · obtain ⟨S1, S2, S3⟩ := S.out
        obtain ⟨vb, vm, vc, rfl⟩ := slice_of_row34 S3.row
        have hbyte : ({ data := s.toArray } : ByteArray)[i]'(by show i < s.toArray.size; simpa using hlt) = s[i] := rfl
        obtain ⟨c, hc⟩ : ∃ c, c = s[i] := ⟨_, rfl⟩
        rw [← hc] at hbyte
        replace hc := Lib.hid hc
        have R3 := S3.below (belowAlloc wr (.cells #[.int .i64 ln, .int .i64 ((i : Int) - fr + 1)] 26))
        have hat : PlcAt (wr.alloc (.cells #[.int .i64 ln, .int .i64 ((i : Int) - fr + 1)] 26)) wr.heap.size (ln, (i : Int) - fr + 1) := heap_alloc_new wr _
        clear S S3
        go_upto_block 2 with fail
        generalize wr.heap.size = ga at *
        generalize wr.alloc (.cells #[.int .i64 ln, .int .i64 ((i : Int) - fr + 1)] 26) = w1 at *
        have sw : ∀ {P : Prop} {Z : Prop}, ((hws : [32, 9, 13, 10].contains c = true) → P → Z) → ((hws : ¬ [32, 9, 13, 10].contains c = true) → (h47 : c = 47) → (hlt1 : i + 1 < s.length) → (hd : s[i + 1] = 47) → P → Z) →
            ((hws : ¬ [32, 9, 13, 10].contains c = true) → (hln : ¬ (c = 47 ∧ ∃ h1 : i + 1 < s.length, s[i + 1] = 47)) → (h47 : c = 47) → (hlt1 : i + 1 < s.length) → (hd : s[i + 1] = 42) → P → Z) →
            ((hws : ¬ [32, 9, 13, 10].contains c = true) → (hln : ¬ (c = 47 ∧ ∃ h1 : i + 1 < s.length, s[i + 1] = 47)) → (hst : ¬ (c = 47 ∧ ∃ h1 : i + 1 < s.length, s[i + 1] = 42)) → (hz : blankV (s.drop i) = (0, true)) → (hgo : goesC c = false) → P → Z) →
            ((hws : ¬ [32, 9, 13, 10].contains c = true) → (hln : ¬ (c = 47 ∧ ∃ h1 : i + 1 < s.length, s[i + 1] = 47)) → (hst : ¬ (c = 47 ∧ ∃ h1 : i + 1 < s.length, s[i + 1] = 42)) → (hz : blankV (s.drop i) = (0, true)) → (hgo : goesC c = true) → (hsd : startsI (c.toNat : Int) = true) → P → Z) →
            ((hws : ¬ [32, 9, 13, 10].contains c = true) → (hln : ¬ (c = 47 ∧ ∃ h1 : i + 1 < s.length, s[i + 1] = 47)) → (hst : ¬ (c = 47 ∧ ∃ h1 : i + 1 < s.length, s[i + 1] = 42)) → (hz : blankV (s.drop i) = (0, true)) → (hgo : goesC c = true) → (hsd : startsI (c.toNat : Int) = false) → (hdd : digitI (c.toNat : Int) = true) → P → Z) → P → Z := by
          intro P Z q1 q2 q3 q4 q5 q6 hp
          by_cases hws : [32, 9, 13, 10].contains c = true
          · exact q1 hws hp
          · by_cases hln : c = 47 ∧ ∃ h1 : i + 1 < s.length, s[i + 1] = 47
            · obtain ⟨h47, hlt1, hd⟩ := hln
              exact q2 hws h47 hlt1 hd hp
            · by_cases hst : c = 47 ∧ ∃ h1 : i + 1 < s.length, s[i + 1] = 42
              · obtain ⟨h47, hlt1, hd⟩ := hst
                exact q3 hws hln h47 hlt1 hd hp
              · have hz : blankV (s.drop i) = (0, true) := no_blank hlt (by rw [← hc.out]; simpa using hws) (by rw [← hc.out]; exact hln) (by rw [← hc.out]; exact hst)
                cases hgo : goesC c
                · exact q4 hws hln hst hz hgo hp
                · have h : (startsI (c.toNat : Int) || digitI (c.toNat : Int)) = true := hgo
                  cases h1 : startsI (c.toNat : Int)
                  · rw [h1] at h
                    exact q6 hws hln hst hz hgo h1 h hp
                  · exact q5 hws hln hst hz hgo h1 hp
        refine sw (sw_ws rfl hlt ⟨hl, hi, hfr, S1, S2, hc.out, R3, hat⟩) (sw_line rfl hlt ⟨hl, hi, hfr, S1, S2, hc.out, R3, hat⟩) (fun hws _ => sw_star rfl hlt ⟨hl, hi, hfr, S1, S2, hc.out, R3, hat⟩ hws) (sw_mark rfl hlt ⟨hl, hi, hfr, S1, S2, hc.out, R3, hat⟩) (sw_letter rfl hlt ⟨hl, hi, hfr, S1, S2, hc.out, R3, hat⟩) (sw_digit rfl hlt ⟨hl, hi, hfr, S1, S2, hc.out, R3, hat⟩) ?_
        clear sw R3 hat hc hbyte
        unfold Meets
        intro v' pre' n x10 x11 wc hx11 hn1 hn2 hR' hW' b12 b13 b14 b15 b16 b23 b24 b25 b26 b27 b28 b29 b30 b31 b32 b33 b34 b35 b36 b37 b38 b39 b40 b41 b42 b43 b44 b45 b46 b47 b48 b49 b50 b51 b52 b53 b54 b55 b56 b57 b58 b59 b60 b61 b62 b63 b64 b65 b66 b67 b68 b69 b70 b71 b72 b73 b74 b75 b76 b77 b78 b79 b80 b81 b82 b83 b84 b85 b86 b87 b88 b89 b90 b91 b92 b93 b94 b95 b96 b97 b98 b99 b100 b101 b102 b103 b104 b105 b106 b107 b108 b109 b110 b111 b112 b113 b114 b115 b116 b117 b118 b119 b120 b121 b122 b123 b124 b125 b126 b127 b128 b129 b130 b131 b132 b133 b134 b135 b136 b137 b138 b139 b140 b141 b142 b143 b144 b145 b146 b147 b148 b149 b150 b151 b152 b153 b154 b155 b156 b157 b158 b159 b160 b161 b162 b163 b164 b165 b166 b167 b168 b169 b170 b171 b172 b173 b174 b175 b176 b177 b178 b179 b180 b181 b182 b183 b184 b185 b186 b187 b188 b189 b190 b191 b192 b193 b194 b195 b196 b197 b198 b199 b200 b201 b202 b203 b204 b205 b206 b207 b208 b209 b210 b211 b212 b213 b214 b215 b216 b217 b218 b219 b220 b221 b222 b223 b224 b225 b226 b227 b228 b229 b230 b231 b232 b233 b234 b235 b236 b237 b238 b239 b240 b241
        subst hx11
        go_wp2_with fail
        go_loopg [6, 7, 16] s.length (fun g s6 s7 s16 wr => ∃ (k fr : Nat) (ln : Int), s6 = .int .i64 ln ∧ s7 = .int .i64 fr ∧ s16 = .int .i64 k ∧ i ≤ k ∧ k ≤ i + n ∧ fr ≤ k ∧ i + n - k ≤ g ∧ wr = wc ∧ Hid (nextP (1, 1) (s.take k) = (ln, (k : Int) - fr + 1)))
        case atStart => exact ⟨i, fr, ln, rfl, rfl, rfl, Nat.le_refl _, by omega, hfr, by omega, rfl, Lib.hid S1⟩
        case round =>
          clear S1
          obtain ⟨k, fr, ln, rfl, rfl, rfl, hk1, hk2, hfr, hg2, rfl, S⟩ := hrel
          have hlow := nextP_low (s.take k) (1, 1) (by decide) (by decide)
          rw [S.out, List.length_take] at hlow
          simp only at hlow
          by_cases hlk : k < i + n
          · have hks : k < s.length := by omega
            have hsn := nextP_snoc s[k] (s.take k) (1, 1)
            rw [List.take_append_getElem hks, S.out] at hsn
            by_cases hc : s[k] = 10
            · rw [if_pos hc] at hsn
              have hsn := Lib.hid hsn
              have hc' : (((({ data := s.toArray } : ByteArray)[k]'(by show k < s.toArray.size; simpa using hks)).toNat : Int) == 10) = true := by show ((s[k].toNat : Int) == 10) = true; rw [hc]; rfl
              clear hc
              go_wp2_with fail
              go_roundg (i + n - (k + 1))
              case measure => omega
              case rel => exact ⟨k + 1, k + 1, ln + 1, rfl, by simp, by simp, by omega, by omega, by omega, by omega, rfl, Lib.hid (by rw [hsn.out]; exact Prod.ext rfl (by show (1 : Int) = _; omega))⟩
            · rw [if_neg hc] at hsn
              have hsn := Lib.hid hsn
              have hc' : (((({ data := s.toArray } : ByteArray)[k]'(by show k < s.toArray.size; simpa using hks)).toNat : Int) == 10) = false := byteNe (k := 10) hc
              clear hc
              go_wp2_with fail
              go_roundg (i + n - (k + 1))
              case measure => omega
              case rel => exact ⟨k + 1, fr, ln, rfl, rfl, by simp, by omega, by omega, by omega, by omega, rfl, Lib.hid (by rw [hsn.out]; exact Prod.ext rfl (by show (k : Int) - fr + 1 + 1 = _; omega))⟩
          · have hkn : k = i + n := by omega
            subst hkn
            go_wp2_with fail
            go_roundg (s.length - (i + n))
            case measure => omega
            case rel => exact ⟨_, pre', i + n, fr, ln, rfl, rfl, rfl, by simp, hn2, hfr, by omega, Lib.hid ⟨S.out, hR', hW'⟩⟩
      · skip
        have hil : i = s.length := by omega
        subst hil
        obtain ⟨S1, S2, S3⟩ := S.out
        obtain ⟨g1, g2⟩ := S2.over
        obtain ⟨vb, vm, vc, rfl⟩ := slice_of_row34 S3.row
        obtain ⟨q0, q1, q2, q3⟩ := S3.plc.cells
        simp only at q0 q1
        have R3 := Lib.hid S3
        clear S S1 S2 S3
        go_wp2_with fail
        all_goals
          obtain ⟨hP, hrw, hlow⟩ := R3.out.told 0 0
          obtain ⟨r0, r1, -⟩ := hP.cells
          exact bodyPost_ret (v := .tuple #[.slice vb vm vc, .agg #[.int .i64 0, .int .i64 0], .int .i64 0]) (by simp [results, Tryz.results9, go_sem, r0, r1]) rfl ⟨.slice vb vm vc, (0, 0), 0, rfl, pre, hrw, hlow, .inr ⟨by omega, g1.symm, by unfold faultP; rw [g2], by rw [g2]; rfl⟩⟩
end Go.Proofs.YtjgpbpmicopemaaGreatDoor
