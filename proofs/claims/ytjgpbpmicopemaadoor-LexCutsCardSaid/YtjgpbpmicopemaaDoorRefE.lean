/-
  plumbobref4.Words: its switch at numbers.
-/
import Derived.Test.YtjgpbpmicopemaaDoorRefBase
namespace Go.Proofs.YtjgpbpmicopemaaDoor
open Go.RowKit

set_option maxRecDepth 20000 in
set_option maxHeartbeats 4000000 in
theorem sw_digit {s : List UInt8} {w w1 : World} {i fr : Nat} {ln : Int} {pre : List It} {vb : Option Addr} {vm vc : Nat} {c : UInt8} {ga : Nat} {K K1 K2 : Act → World → Prop} {z1 z2 z4 z17 z18 z19 z20 z21 z22 z242 z243 : Value} {a12 a13 a14 a15 a16 a23 a24 a25 a26 a27 a28 a29 a30 a31 a32 a33 a34 a35 a36 a37 a38 a39 a40 a41 a42 a43 a44 a45 a46 a47 a48 a49 a50 a51 a52 a53 a54 a55 a56 a57 a58 a59 a60 a61 a62 a63 a64 a65 a66 a67 a68 a69 a70 a71 a72 a73 a74 a75 a76 a77 a78 a79 a80 a81 a82 a83 a84 a85 a86 a87 a88 a89 a90 a91 a92 a93 a94 a95 a96 a97 a98 a99 a100 a101 a102 a103 a104 a105 a106 a107 a108 a109 a110 a111 a112 a113 a114 a115 a116 a117 a118 a119 a120 a121 a122 a123 a124 a125 a126 a127 a128 a129 a130 a131 a132 a133 a134 a135 a136 a137 a138 a139 a140 a141 a142 a143 a144 a145 a146 a147 a148 a149 a150 a151 a152 a153 a154 a155 a156 a157 a158 a159 a160 a161 a162 a163 a164 a165 a166 a167 a168 a169 a170 a171 a172 a173 a174 a175 a176 a177 a178 a179 a180 a181 a182 a183 a184 a185 a186 a187 a188 a189 a190 a191 a192 a193 a194 a195 a196 a197 a198 a199 a200 a201 a202 a203 a204 a205 a206 a207 a208 a209 a210 a211 a212 a213 a214 a215 a216 a217 a218 a219 a220 a221 a222 a223 a224 a225 a226 a227 a228 a229 a230 a231 a232 a233 a234 a235 a236 a237 a238 a239 a240 a241 : Value} {C : Code}
    (hC : Tryd.f10.body.bind (blockOf 2) = some C) (hlt : i < s.length) (hA : At10 s w w1 i fr ln pre (.slice vb vm vc) c ga hlt) (hws : ¬ [32, 9, 13, 10].contains c = true) (hln : ¬ (c = 47 ∧ ∃ h1 : i + 1 < s.length, s[i + 1] = 47)) (hst : ¬ (c = 47 ∧ ∃ h1 : i + 1 < s.length, s[i + 1] = 42)) (hz : blankV (s.drop i) = (0, true)) (hgo : goesC c = true) (hsd : startsI (c.toNat : Int) = false) (hdd : digitI (c.toNat : Int) = true)
    (hmeet : Meets s w i fr ln ga K z1 z2 z4 z17 z18 z19 z20 z21 z22 z242 z243) :
    Code.wp Tryd.prog C (Exit.then K (Exit.inBlock 1 (Exit.then K1 (Exit.inBlock 0 (Exit.then K2 (bodyPost Tryd.prog Tryd.f10 (RRw s w)))))))
      { tmps := #[(.string ⟨s.toArray⟩), z1, z2, (.pointer (some ⟨w.heap.size, 0, none⟩)), z4, (.slice vb vm vc), (.int .i64 ln), (.int .i64 (fr : Int)), (.int .i64 (i : Int)), (.pointer (some ⟨ga, 0, none⟩)), (.int .u8 (c.toNat : Int)), (.int .i64 1), a12, a13, a14, a15, a16, z17, z18, z19, z20, z21, z22, a23, a24, a25, a26, a27, a28, a29, a30, a31, a32, a33, a34, a35, a36, a37, a38, a39, a40, a41, a42, a43, a44, a45, a46, a47, a48, a49, a50, a51, a52, a53, a54, a55, a56, a57, a58, a59, a60, a61, a62, a63, a64, a65, a66, a67, a68, a69, a70, a71, a72, a73, a74, a75, a76, a77, a78, a79, a80, a81, a82, a83, a84, a85, a86, a87, a88, a89, a90, a91, a92, a93, a94, a95, a96, a97, a98, a99, a100, a101, a102, a103, a104, a105, a106, a107, a108, a109, a110, a111, a112, a113, a114, a115, a116, a117, a118, a119, a120, a121, a122, a123, a124, a125, a126, a127, a128, a129, a130, a131, a132, a133, a134, a135, a136, a137, a138, a139, a140, a141, a142, a143, a144, a145, a146, a147, a148, a149, a150, a151, a152, a153, a154, a155, a156, a157, a158, a159, a160, a161, a162, a163, a164, a165, a166, a167, a168, a169, a170, a171, a172, a173, a174, a175, a176, a177, a178, a179, a180, a181, a182, a183, a184, a185, a186, a187, a188, a189, a190, a191, a192, a193, a194, a195, a196, a197, a198, a199, a200, a201, a202, a203, a204, a205, a206, a207, a208, a209, a210, a211, a212, a213, a214, a215, a216, a217, a218, a219, a220, a221, a222, a223, a224, a225, a226, a227, a228, a229, a230, a231, a232, a233, a234, a235, a236, a237, a238, a239, a240, a241, z242, z243], defers := [] } w1 := by
  obtain rfl : _ = C := Option.some.inj ((rfl : Tryd.f10.body.bind (blockOf 2) = some _).symm.trans hC)
  clear hC
  obtain ⟨hl, hi, hfr, S1, S2, hc, R3, hat⟩ := hA
  replace hc := Lib.hid hc
  have h65 : s.length ≤ 65536 := by omega
  have hcc : c ≠ 32 ∧ c ≠ 9 ∧ c ≠ 13 ∧ c ≠ 10 := by simpa using hws
  have k1 : ((c.toNat : Int) == 32) = false := byteNe (k := 32) hcc.1
  have k2 : ((c.toNat : Int) == 9) = false := byteNe (k := 9) hcc.2.1
  have k3 : ((c.toNat : Int) == 13) = false := byteNe (k := 13) hcc.2.2.1
  have k4 : ((c.toNat : Int) == 10) = false := byteNe (k := 10) hcc.2.2.2
  clear hcc
  have hn47 : c ≠ 47 := by rintro rfl; revert hgo; decide
  have d1 : ((c.toNat : Int) == 47) = false := byteNe (k := 47) hn47
  have hdr := List.drop_eq_getElem_cons hlt
  rw [← hc.out] at hdr
  have hn1 : 1 ≤ nameN (s.drop i) := by rw [hdr, nameN_cons, if_pos hgo]; omega
  have hnl : i + nameN (s.drop i) ≤ s.length := by have := nameN_le (s.drop i); rw [List.length_drop] at this; omega
  have CA := rletter_any (c.toNat : Int)
  have CB := rdigit_any (c.toNat : Int)
  have R3 := Lib.hid R3
  have hat := Lib.hid hat
  clear hws hln hst hgo hn47
  rw [hsd] at CA
  rw [hdd] at CB
  go_wp2_with fail
  refine (CA _).mono ?_
  rintro e w2 ⟨rfl, rfl⟩
  go_wp2_with fail
  refine (CB _).mono ?_
  rintro e w2 ⟨rfl, rfl⟩
  go_upto_block 7 with fail
  go_cut [11] from 23 to 241 (fun s11 wx => s11 = .int .i64 (nameN (s.drop i)) ∧ wx = w1)
  case first =>
    clear CA CB
    go_wp2_with fail
    go_loopg [11] s.length (fun g s11 wr => ∃ n : Nat, s11 = .int .i64 n ∧ 1 ≤ n ∧ n ≤ nameN (s.drop i) ∧ s.length - n ≤ g ∧ wr = w1)
    case atStart => exact ⟨1, rfl, Nat.le_refl _, hn1, by omega, rfl⟩
    case round =>
      obtain ⟨n, rfl, hq1, hq2, hg2, rfl⟩ := hrel
      by_cases hin : i + n < s.length
      · have jn : (i : Int) + n < s.length := by omega
        obtain ⟨ce, hce⟩ : ∃ ce, s[i + n] = ce := ⟨_, rfl⟩
        have hb2 : ({ data := s.toArray } : ByteArray)[i + n]'(by show i + n < s.toArray.size; simpa using hin) = ce := hce
        have DA := rletter_any (ce.toNat : Int)
        have DB := rdigit_any (ce.toNat : Int)
        have hgs : startsI (ce.toNat : Int) = true ∧ goesC ce = true ∨ (startsI (ce.toNat : Int) = false ∧ digitI (ce.toNat : Int) = true ∧ goesC ce = true) ∨ (startsI (ce.toNat : Int) = false ∧ digitI (ce.toNat : Int) = false ∧ goesC ce = false) := by
          have h : goesC ce = (startsI (ce.toNat : Int) || digitI (ce.toNat : Int)) := rfl
          rw [h]
          cases startsI (ce.toNat : Int) <;> cases digitI (ce.toNat : Int) <;> simp
        rcases hgs with ⟨h1, h3⟩ | ⟨h1, h2, h3⟩ | ⟨h1, h2, h3⟩
        · rw [h1] at DA
          have hN := nameS_go hq2 hin (by rw [hce]; exact h3)
          clear hce h3
          go_wp2_with fail
          refine (DA _).mono ?_
          rintro e w2 ⟨rfl, rfl⟩
          go_wp2_with fail
          go_roundg (s.length - (n + 1))
          case measure => omega
          case rel => exact ⟨n + 1, by simp, by omega, hN, by omega, rfl⟩
        · rw [h1] at DA
          rw [h2] at DB
          have hN := nameS_go hq2 hin (by rw [hce]; exact h3)
          clear hce h3
          go_wp2_with fail
          refine (DA _).mono ?_
          rintro e w2 ⟨rfl, rfl⟩
          go_wp2_with fail
          refine (DB _).mono ?_
          rintro e w2 ⟨rfl, rfl⟩
          go_wp2_with fail
          go_roundg (s.length - (n + 1))
          case measure => omega
          case rel => exact ⟨n + 1, by simp, by omega, hN, by omega, rfl⟩
        · rw [h1] at DA
          rw [h2] at DB
          have hN := nameS_stop hq2 hin (by rw [hce]; exact h3)
          clear hce h3
          go_wp2_with fail
          refine (DA _).mono ?_
          rintro e w2 ⟨rfl, rfl⟩
          go_wp2_with fail
          refine (DB _).mono ?_
          rintro e w2 ⟨rfl, rfl⟩
          go_wp2_with fail
          go_meet
          exact ⟨by rw [hN], rfl⟩
      · have hN := nameS_end hq2 hin
        have jn : ¬ (i : Int) + n < s.length := by omega
        go_wp2_with fail
        go_meet
        exact ⟨by rw [hN], rfl⟩
  case rest =>
    obtain ⟨rfl, hw⟩ := hcut
    rw [hw]
    clear hw
    have hat2 := hat.out
    obtain ⟨t0, t1, -, -⟩ := hat2.cells
    have y0 := fun o => ((belowAlloc w1 o).cell (cell_lt t0)).trans t0
    have y1 := fun o => ((belowAlloc w1 o).cell (cell_lt t1)).trans t1
    simp only at t0 t1 y0 y1
    have hmid := cut_mid s i (nameN (s.drop i))
    have htl : ((s.drop i).take (nameN (s.drop i))).length = nameN (s.drop i) := by rw [List.length_take]; have := nameN_le (s.drop i); omega
    have hwO : wordO (s.drop i) = (numV ((s.drop i).take (nameN (s.drop i)))).map (fun v => ⟨2, (s.drop i).take (nameN (s.drop i)), v⟩) := by
      unfold wordO
      rw [hdr, List.headD_cons, if_neg (show ¬ startsC c = true by rw [show startsC c = startsI (c.toNat : Int) from rfl, hsd]; simp), ← hdr, if_pos (by omega)]
    have hY : ∀ v, numV ((s.drop i).take (nameN (s.drop i))) = some v → i + nameN (s.drop i) ≤ s.length ∧ Rs s (i + nameN (s.drop i)) (pre ++ [⟨⟨2, (s.drop i).take (nameN (s.drop i)), v⟩, (ln, (i : Int) - fr + 1), false⟩]) := fun v h => by
      rw [h] at hwO
      obtain ⟨a1, a2, a3⟩ := S2.word hlt hz hwO
      simp only [htl, S1] at a1 a3
      exact ⟨a1, a3⟩
    have hF : numV ((s.drop i).take (nameN (s.drop i))) = none → goods s = pre ∧ faultO s = some (itBad (nextP (1, 1) (s.take i))) := fun h => by
      rw [h] at hwO
      exact S2.none hlt hz hwO
    have CN : ∀ W, Calls Tryd.prog 15 #[.string ⟨((s.drop i).take (nameN (s.drop i))).toArray⟩] W (RNb ((s.drop i).take (nameN (s.drop i))) W) := fun W => by
      obtain ⟨M, hM⟩ : ∃ M, nameN (s.drop i) = M + 1 := ⟨nameN (s.drop i) - 1, by omega⟩
      rw [hM, hdr, List.take_succ_cons]
      exact rnumber_any c _ (by rw [List.length_cons, List.length_take]; omega) W
    replace hY := Lib.hid hY
    replace hF := Lib.hid hF
    have hpl := S2.few
    clear hwO hz hdr CA
    have hNl : nameN (s.drop i) ≤ 65536 := by omega
    generalize (s.drop i).take (nameN (s.drop i)) = t at *
    generalize nameN (s.drop i) = N at *
    go_wp2_with fail
    go_cut [12] from 188 to 195 (fun s12 wx => s12 = .pointer (some ⟨w1.heap.size, 0, none⟩) ∧ wx.heap[w1.heap.size]? = some (.cells #[.int .i64 1, .string ⟨t.toArray⟩, .int .i64 0, .int .i64 ln, .int .i64 ((i : Int) - fr + 1)] 34 (0, 0)) ∧ Below w1.heap.size w1 wx)
    case first =>
      go_region
      all_goals go_wp2_with fail
      all_goals go_meet
      all_goals exact ⟨rfl, heap_alloc_new w1 _, below_drewN (belowAlloc w1 _) 1⟩
    case rest =>
      obtain ⟨rfl, hbx, hbw⟩ := hcut
      have R4 := Lib.hid (R3.out.below hbw)
      have hat2 := Lib.hid (hat.out.below hbw)
      have hgb1 : w.heap.size < w1.heap.size := heap_lt R3.out.plc
      have hgb2 : ∀ g, (Value.slice vb vm vc).ownBlock = some g → g < w1.heap.size := fun g h => (row34_in R3.out.row g h).2
      generalize w1.heap.size = gb at *
      clear R3 hat y0 y1 t0 t1 hbw
      obtain ⟨x0, x1, x2, x3, x4, y0, y2⟩ := box5t hbx
      have R3 := R4
      have hat := hat2
      obtain ⟨q0, q1, q2, q3⟩ := R3.out.plc.cells
      obtain ⟨t0, t1, -, -⟩ := hat.out.cells
      simp only at q0 q1 t0 t1
      obtain ⟨i0, hi0, hz0, hz1, hz2⟩ := info_parts info34
      unfold RNb at CN
      cases hnv : numV t with
      | none =>
        obtain ⟨g1, g2⟩ := hF.out hnv
        rw [hnv] at CN
        go_wp2_with fail
        refine (CB _).mono ?_
        rintro e w2 ⟨rfl, rfl⟩
        go_wp2_with fail
        refine (CN _).mono ?_
        rintro e w3 ⟨v, rfl, hv, hb3⟩
        have R5 := Lib.hid (R3.out.below hb3)
        have hat5 := Lib.hid (hat.out.below hb3)
        clear R3 hat q0 q1 q2 q3 t0 t1
        have R3 := R5
        have hat := hat5
        obtain ⟨q0, q1, q2, q3⟩ := R3.out.plc.cells
        obtain ⟨t0, t1, -, -⟩ := hat.out.cells
        simp only at q0 q1 t0 t1
        go_wp2_with fail
        go_region
        all_goals go_wp2_with fail
        all_goals
          obtain ⟨hP, hrw, hlow⟩ := R3.out.told ln ((i : Int) - fr + 1)
          have hP' : PlcAt _ w.heap.size (ln, (i : Int) - fr + 1) := hP.mv (Mv.drew (X := fun _ => False) _) (fun h => h)
          obtain ⟨r0, r1, -⟩ := hP'.cells
          simp only at r0 r1
          exact bodyPost_ret (v := .tuple #[.slice vb vm vc, .agg #[.int .i64 ln, .int .i64 ((i : Int) - fr + 1)], .int .i64 3]) (by simp [results, Tryd.results10, go_sem, r0, r1]) rfl ⟨.slice vb vm vc, (ln, (i : Int) - fr + 1), 3, rfl, pre, row34_alloc hrw (below_drewN (Below.refl _ _) 1), below_drewN hlow 1, .inr ⟨by omega, g1.symm, by unfold faultP; rw [g2]; exact S1.symm, by rw [g2]; rfl⟩⟩
      | some u =>
        obtain ⟨hle, hR⟩ := hY.out u hnv
        replace hR := Lib.hid hR
        rw [hnv] at CN
        go_wp2_with fail
        refine (CB _).mono ?_
        rintro e w2 ⟨rfl, rfl⟩
        go_wp2_with fail
        refine (CN _).mono ?_
        rintro e w3 ⟨v, rfl, hv, hb3⟩
        have hv := hv u rfl
        subst hv
        have R5 := Lib.hid (R3.out.below hb3)
        obtain ⟨p0, p1, p2, p3, p4, f0, f2⟩ := box5t ((hb3.block _ (heap_lt hbx)).trans hbx)
        have hsz := R5.out.low.size
        have hs3 : ((w3.setCell ⟨gb, 0, none⟩ (.int .i64 2)).setCell ⟨gb, 2, none⟩ (.int .i64 u)).heap.size = w3.heap.size := by simp
        have R6 := Lib.hid ((R5.out.set hgb1 hgb2 0 (.int .i64 2)).set hgb1 hgb2 2 (.int .i64 u))
        go_wp2_with (at_builtin; refine wpList_append_own _ rfl _ _ 31 rfl (w.heap.size + 1) 34 i0 _ 5 48 Tryd.underlying31 hi0 hz0 hz1 hz2 rfl (by decide) (.slice vb vm vc) pre.length _ rfl (row34_alloc R6.out.row (belowAlloc _ _)) ⟨w3.heap.size, 0, none⟩ 1 1 (It.cells ⟨⟨2, t, u⟩, (ln, (i : Int) - fr + 1), false⟩) rfl rfl (by have q := cell_five_new ((w3.setCell ⟨gb, 0, none⟩ (.int .i64 2)).setCell ⟨gb, 2, none⟩ (.int .i64 u)) (.int .i64 2) (.string ⟨t.toArray⟩) (.int .i64 u) (.int .i64 ln) (.int .i64 ((i : Int) - fr + 1)) 34; rw [hs3] at q; exact q) (by simp [It.cells, str, Value.oneCell']) (by unfold maxLen; omega) (by omega) (by simp; omega) ?_; intro v' w4 hown' hgrow hnil; obtain ⟨g', cap', rfl⟩ := ownsRow_succ hown')
        exact hmeet _ _ N _ _ _ rfl (by omega) hle hR.out (R6.out.appended _ hown' hgrow) _ _ _ _ _ _ _ _ _ _ _ _ _ _ _ _ _ _ _ _ _ _ _ _ _ _ _ _ _ _ _ _ _ _ _ _ _ _ _ _ _ _ _ _ _ _ _ _ _ _ _ _ _ _ _ _ _ _ _ _ _ _ _ _ _ _ _ _ _ _ _ _ _ _ _ _ _ _ _ _ _ _ _ _ _ _ _ _ _ _ _ _ _ _ _ _ _ _ _ _ _ _ _ _ _ _ _ _ _ _ _ _ _ _ _ _ _ _ _ _ _ _ _ _ _ _ _ _ _ _ _ _ _ _ _ _ _ _ _ _ _ _ _ _ _ _ _ _ _ _ _ _ _ _ _ _ _ _ _ _ _ _ _ _ _ _ _ _ _ _ _ _ _ _ _ _ _ _ _ _ _ _ _ _ _ _ _ _ _ _ _ _ _ _ _ _ _ _ _ _ _ _ _ _ _ _ _ _ _ _ _ _ _ _ _ _ _ _ _ _ _ _ _ _ 
end Go.Proofs.YtjgpbpmicopemaaDoor
