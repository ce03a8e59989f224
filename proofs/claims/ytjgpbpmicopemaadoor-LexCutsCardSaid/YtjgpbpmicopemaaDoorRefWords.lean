/-
  plumbobref4.Words: what it answers, for every text.
-/
import Derived.Test.YtjgpbpmicopemaaDoorRefA
import Derived.Test.YtjgpbpmicopemaaDoorRefB
import Derived.Test.YtjgpbpmicopemaaDoorRefC
import Derived.Test.YtjgpbpmicopemaaDoorRefD
import Derived.Test.YtjgpbpmicopemaaDoorRefE
namespace Go.Proofs.YtjgpbpmicopemaaDoor
open Go.RowKit

set_option maxRecDepth 20000 in
set_option maxHeartbeats 4000000 in
theorem rwords_any (s : List UInt8) (hs : s.length ≤ 9223372036854775807) (w : World) : Calls Tryd.prog 10 #[str s] w (RRw s w) := by
  have hmk := mk31
  have hst := Rw.start w
  by_cases hl : 65536 < s.length
  · unfold str
    go_enter Tryd.func10, Tryd.ntmps10
    go_wp2_with fail
    generalize (w.alloc (Obj.cells #[Value.int IntKind.i64 0, Value.int IntKind.i64 0] 25)).alloc (Obj.cells #[] 34) = W at *
    obtain ⟨r0, r1, -⟩ := hst.plc.cells
    simp only at r0 r1
    exact bodyPost_ret (v := .tuple #[.slice (some ⟨w.heap.size + 1, 0, none⟩) 0 0, .agg #[.int .i64 0, .int .i64 0], .int .i64 2]) (by simp [results, Tryd.results10, go_sem, r0, r1]) rfl ⟨_, (0, 0), 2, rfl, [], row34_base hst.row (by omega), hst.low, .inl ⟨hl, rfl, rfl, rfl⟩⟩
  · unfold str
    go_enter Tryd.func10, Tryd.ntmps10
    go_wp2_with fail
    generalize (w.alloc (Obj.cells #[Value.int IntKind.i64 0, Value.int IntKind.i64 0] 25)).alloc (Obj.cells #[] 34) = W at *
    go_loopg [5, 6, 7, 8, 9, 10, 11, 12, 13, 14, 15, 16] s.length (fun g s5 s6 s7 s8 s9 s10 s11 s12 s13 s14 s15 s16 wr => ∃ (v : Value) (pre : List It) (i fr : Nat) (ln : Int), s5 = v ∧ s6 = .int .i64 ln ∧ s7 = .int .i64 fr ∧ s8 = .int .i64 i ∧ i ≤ s.length ∧ fr ≤ i ∧ s.length - i ≤ g ∧ Hid (nextP (1, 1) (s.take i) = (ln, (i : Int) - fr + 1) ∧ Rs s i pre ∧ Rw w v pre wr))
    case atStart => exact ⟨_, [], 0, 0, 1, rfl, rfl, rfl, rfl, Nat.zero_le _, Nat.le_refl _, by omega, Lib.hid ⟨rfl, Rs.start s, hst⟩⟩
    case round =>
      obtain ⟨v, pre, i, fr, ln, rfl, rfl, rfl, rfl, hi, hfr, hg, S⟩ := hrel
      by_cases hlt : i < s.length
      · obtain ⟨S1, S2, S3⟩ := S.out
        obtain ⟨vb, vm, vc, rfl⟩ := slice_of_row34 S3.row
        have hbyte : ({ data := s.toArray } : ByteArray)[i]'(by show i < s.toArray.size; simpa using hlt) = s[i] := rfl
        obtain ⟨c, hc⟩ : ∃ c, c = s[i] := ⟨_, rfl⟩
        rw [← hc] at hbyte
        replace hc := Lib.hid hc
        have R3 := S3.below (belowAlloc wr (.cells #[.int .i64 ln, .int .i64 ((i : Int) - fr + 1)] 25))
        have hat : PlcAt (wr.alloc (.cells #[.int .i64 ln, .int .i64 ((i : Int) - fr + 1)] 25)) wr.heap.size (ln, (i : Int) - fr + 1) := heap_alloc_new wr _
        clear S S3
        go_upto_block 2 with fail
        generalize wr.heap.size = ga at *
        generalize wr.alloc (.cells #[.int .i64 ln, .int .i64 ((i : Int) - fr + 1)] 25) = w1 at *
        have sw : ∀ {P : Prop} {Z : Prop}, ((hws : [32, 9, 13, 10].contains c = true) → P → Z) → ((hws : ¬ [32, 9, 13, 10].contains c = true) → (h47 : c = 47) → (hlt1 : i + 1 < s.length) → (hd : s[i + 1] = 47) → P → Z) →
            ((hws : ¬ [32, 9, 13, 10].contains c = true) → (hln : ¬ (c = 47 ∧ ∃ h1 : i + 1 < s.length, s[i + 1] = 47)) → (h47 : c = 47) → (hlt1 : i + 1 < s.length) → (hd : s[i + 1] = 42) → P → Z) →
            ((hws : ¬ [32, 9, 13, 10].contains c = true) → (hln : ¬ (c = 47 ∧ ∃ h1 : i + 1 < s.length, s[i + 1] = 47)) → (hst : ¬ (c = 47 ∧ ∃ h1 : i + 1 < s.length, s[i + 1] = 42)) → (hz : blankV (s.drop i) = (0, true)) → (hgo : goesC c = false) → P → Z) →
            ((hws : ¬ [32, 9, 13, 10].contains c = true) → (hln : ¬ (c = 47 ∧ ∃ h1 : i + 1 < s.length, s[i + 1] = 47)) → (hst : ¬ (c = 47 ∧ ∃ h1 : i + 1 < s.length, s[i + 1] = 42)) → (hz : blankV (s.drop i) = (0, true)) → (hgo : goesC c = true) → (hsd : startsI (c.toNat : Int) = true) → P → Z) →
            ((hws : ¬ [32, 9, 13, 10].contains c = true) → (hln : ¬ (c = 47 ∧ ∃ h1 : i + 1 < s.length, s[i + 1] = 47)) → (hst : ¬ (c = 47 ∧ ∃ h1 : i + 1 < s.length, s[i + 1] = 42)) → (hz : blankV (s.drop i) = (0, true)) → (hgo : goesC c = true) → (hsd : startsI (c.toNat : Int) = false) → (hdd : digitI (c.toNat : Int) = true) → P → Z) → P → Z := by
          intro P Z q1 q2 q3 q4 q5 q6 hp
          by_cases hws : [32, 9, 13, 10].contains c = true
          · exact q1 hws hp
          · by_cases hln : c = 47 ∧ ∃ h1 : i + 1 < s.length, s[i + 1] = 47
            · obtain ⟨h47, hlt1, hd⟩ := hln
              exact q2 hws h47 hlt1 hd hp
            · by_cases hst : c = 47 ∧ ∃ h1 : i + 1 < s.length, s[i + 1] = 42
              · obtain ⟨h47, hlt1, hd⟩ := hst
                exact q3 hws hln h47 hlt1 hd hp
              · have hz : blankV (s.drop i) = (0, true) := no_blank hlt (by rw [← hc.out]; simpa using hws) (by rw [← hc.out]; exact hln) (by rw [← hc.out]; exact hst)
                cases hgo : goesC c
                · exact q4 hws hln hst hz hgo hp
                · have h : (startsI (c.toNat : Int) || digitI (c.toNat : Int)) = true := hgo
                  cases h1 : startsI (c.toNat : Int)
                  · rw [h1] at h
                    exact q6 hws hln hst hz hgo h1 h hp
                  · exact q5 hws hln hst hz hgo h1 hp
        refine sw (sw_ws rfl hlt ⟨hl, hi, hfr, S1, S2, hc.out, R3, hat⟩) (sw_line rfl hlt ⟨hl, hi, hfr, S1, S2, hc.out, R3, hat⟩) (fun hws _ => sw_star rfl hlt ⟨hl, hi, hfr, S1, S2, hc.out, R3, hat⟩ hws) (sw_mark rfl hlt ⟨hl, hi, hfr, S1, S2, hc.out, R3, hat⟩) (sw_letter rfl hlt ⟨hl, hi, hfr, S1, S2, hc.out, R3, hat⟩) (sw_digit rfl hlt ⟨hl, hi, hfr, S1, S2, hc.out, R3, hat⟩) ?_
        clear sw R3 hat hc hbyte
        unfold Meets
        intro v' pre' n x10 x11 wc hx11 hn1 hn2 hR' hW' b12 b13 b14 b15 b16 b23 b24 b25 b26 b27 b28 b29 b30 b31 b32 b33 b34 b35 b36 b37 b38 b39 b40 b41 b42 b43 b44 b45 b46 b47 b48 b49 b50 b51 b52 b53 b54 b55 b56 b57 b58 b59 b60 b61 b62 b63 b64 b65 b66 b67 b68 b69 b70 b71 b72 b73 b74 b75 b76 b77 b78 b79 b80 b81 b82 b83 b84 b85 b86 b87 b88 b89 b90 b91 b92 b93 b94 b95 b96 b97 b98 b99 b100 b101 b102 b103 b104 b105 b106 b107 b108 b109 b110 b111 b112 b113 b114 b115 b116 b117 b118 b119 b120 b121 b122 b123 b124 b125 b126 b127 b128 b129 b130 b131 b132 b133 b134 b135 b136 b137 b138 b139 b140 b141 b142 b143 b144 b145 b146 b147 b148 b149 b150 b151 b152 b153 b154 b155 b156 b157 b158 b159 b160 b161 b162 b163 b164 b165 b166 b167 b168 b169 b170 b171 b172 b173 b174 b175 b176 b177 b178 b179 b180 b181 b182 b183 b184 b185 b186 b187 b188 b189 b190 b191 b192 b193 b194 b195 b196 b197 b198 b199 b200 b201 b202 b203 b204 b205 b206 b207 b208 b209 b210 b211 b212 b213 b214 b215 b216 b217 b218 b219 b220 b221 b222 b223 b224 b225 b226 b227 b228 b229 b230 b231 b232 b233 b234 b235 b236 b237 b238 b239 b240 b241
        subst hx11
        go_wp2_with fail
        go_loopg [6, 7, 16] s.length (fun g s6 s7 s16 wr => ∃ (k fr : Nat) (ln : Int), s6 = .int .i64 ln ∧ s7 = .int .i64 fr ∧ s16 = .int .i64 k ∧ i ≤ k ∧ k ≤ i + n ∧ fr ≤ k ∧ i + n - k ≤ g ∧ wr = wc ∧ Hid (nextP (1, 1) (s.take k) = (ln, (k : Int) - fr + 1)))
        case atStart => exact ⟨i, fr, ln, rfl, rfl, rfl, Nat.le_refl _, by omega, hfr, by omega, rfl, Lib.hid S1⟩
        case round =>
          clear S1
          obtain ⟨k, fr, ln, rfl, rfl, rfl, hk1, hk2, hfr, hg2, rfl, S⟩ := hrel
          have hlow := nextP_low (s.take k) (1, 1) (by decide) (by decide)
          rw [S.out, List.length_take] at hlow
          simp only at hlow
          by_cases hlk : k < i + n
          · have hks : k < s.length := by omega
            have hsn := nextP_snoc s[k] (s.take k) (1, 1)
            rw [List.take_append_getElem hks, S.out] at hsn
            by_cases hc : s[k] = 10
            · rw [if_pos hc] at hsn
              have hsn := Lib.hid hsn
              have hc' : (((({ data := s.toArray } : ByteArray)[k]'(by show k < s.toArray.size; simpa using hks)).toNat : Int) == 10) = true := by show ((s[k].toNat : Int) == 10) = true; rw [hc]; rfl
              clear hc
              go_wp2_with fail
              go_roundg (i + n - (k + 1))
              case measure => omega
              case rel => exact ⟨k + 1, k + 1, ln + 1, rfl, by simp, by simp, by omega, by omega, by omega, by omega, rfl, Lib.hid (by rw [hsn.out]; exact Prod.ext rfl (by show (1 : Int) = _; omega))⟩
            · rw [if_neg hc] at hsn
              have hsn := Lib.hid hsn
              have hc' : (((({ data := s.toArray } : ByteArray)[k]'(by show k < s.toArray.size; simpa using hks)).toNat : Int) == 10) = false := byteNe (k := 10) hc
              clear hc
              go_wp2_with fail
              go_roundg (i + n - (k + 1))
              case measure => omega
              case rel => exact ⟨k + 1, fr, ln, rfl, rfl, by simp, by omega, by omega, by omega, by omega, rfl, Lib.hid (by rw [hsn.out]; exact Prod.ext rfl (by show (k : Int) - fr + 1 + 1 = _; omega))⟩
          · have hkn : k = i + n := by omega
            subst hkn
            go_wp2_with fail
            go_roundg (s.length - (i + n))
            case measure => omega
            case rel => exact ⟨_, pre', i + n, fr, ln, rfl, rfl, rfl, by simp, hn2, hfr, by omega, Lib.hid ⟨S.out, hR', hW'⟩⟩
      · skip
        have hil : i = s.length := by omega
        subst hil
        obtain ⟨S1, S2, S3⟩ := S.out
        obtain ⟨g1, g2⟩ := S2.over
        obtain ⟨vb, vm, vc, rfl⟩ := slice_of_row34 S3.row
        obtain ⟨q0, q1, q2, q3⟩ := S3.plc.cells
        simp only at q0 q1
        have R3 := Lib.hid S3
        clear S S1 S2 S3
        go_wp2_with fail
        all_goals
          obtain ⟨hP, hrw, hlow⟩ := R3.out.told 0 0
          obtain ⟨r0, r1, -⟩ := hP.cells
          exact bodyPost_ret (v := .tuple #[.slice vb vm vc, .agg #[.int .i64 0, .int .i64 0], .int .i64 0]) (by simp [results, Tryd.results10, go_sem, r0, r1]) rfl ⟨.slice vb vm vc, (0, 0), 0, rfl, pre, hrw, hlow, .inr ⟨by omega, g1.symm, by unfold faultP; rw [g2], by rw [g2]; rfl⟩⟩
end Go.Proofs.YtjgpbpmicopemaaDoor
