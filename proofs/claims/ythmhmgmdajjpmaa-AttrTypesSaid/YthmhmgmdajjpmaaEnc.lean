/- Lists go to bytes. -/
import Derived.Test.YthmhmgmdajjpmaaEnc0
namespace Go.Proofs.Ythmhmgmdajjpmaa
set_option linter.unusedVariables false
set_option linter.unusedSimpArgs false
open Go.RowKit

section
variable {w : World} {v : Value} {l : List Av}

set_option maxRecDepth 100000 in
set_option maxHeartbeats 16000000 in
theorem encode_calls (h : Ats w v l) : Calls Try.prog 31 #[v] w (GotPost (encG l) w) := by
  obtain ⟨p, cap, rfl, h1, h2, h3, h4⟩ := h.at
  have hll : l.length ≤ 9223372036854775807 := by unfold maxLen at h2; omega
  have HR := hid h4
  clear h h3 h4
  by_cases hlong : l.length ≤ 64
  · have b0 : ¬ (64 : Int) < (l.length : Int) := by omega
    go_enter Try.func31, Try.ntmps31
    go_wp2_with fail
    go_loopw [4, 12] (fun o i wr => ∃ (k : Nat) (q : Option Addr) (n c : Nat), k ≤ l.length ∧ i = .int .i64 k ∧ o = .slice q n c ∧ Enc w l k q n c wr) (fun _ i _ => l.length - (intOf i).toNat)
    case atStart => exact ⟨0, none, 0, 0, Nat.zero_le _, rfl, rfl, Enc.nil _ _⟩
    case round =>
      obtain ⟨k, q0, n0, c0, hk, rfl, rfl, hE⟩ := hrel
      have HE := hid hE
      have hn0 : n0 ≤ 2000000 := by have := hE.most; omega
      clear hE
      by_cases hlt : k < l.length
      · obtain ⟨b, o, q, c, rfl, hb, e0, e1, hB⟩ := HR.out k hlt
        rw [← HE.out.same.cell (by exact hb) (fun h => h)] at e0 e1
        have HB := hid hB
        have hvl : l[k].v.length ≤ 9223372036854775807 := by obtain ⟨_, _, _, _, _, hz, _⟩ := hB; omega
        have HS := hid (fun X => HE.out.same.alloc X)
        clear hB
        by_cases ht0 : l[k].t < 0
        · have HV := hid (encG_bad hlt (fineE_not (by omega)))
          go_wp2_with fail
          go_ret2
          rw [HV.out]
          exact ⟨_, _, rfl, Bs.nil _, HS.out _⟩
        · by_cases ht1 : 65535 < l[k].t
          · have HV := hid (encG_bad hlt (fineE_not (by omega)))
            go_wp2_with fail
            go_ret2
            rw [HV.out]
            exact ⟨_, _, rfl, Bs.nil _, HS.out _⟩
          · by_cases hv1 : (16384 : Int) < (l[k].v.length : Int)
            · have HV := hid (encG_bad hlt (fineE_not (by omega)))
              go_wp2_with fail
              go_ret2
              rw [HV.out]
              exact ⟨_, _, rfl, Bs.nil _, HS.out _⟩
            · have HF := hid (allB_next hlt HE.out.fine (fineE_of (by omega) (by omega) (by omega)))
              go_wp2_with fail
              have hW0 : Same wr (wr.alloc (.cells #[.int .i64 l[k].t, .slice q l[k].v.length c] 24)) := (Chg.refl _ wr).alloc _
              have hN0 := heap_alloc_new wr (.cells #[.int .i64 l[k].t, .slice q l[k].v.length c] 24)
              have hzw := HE.out.same.size
              have hr0 := ownsRow_same HE.out.row hW0
              have hne0 := row_ne_block hr0 hN0
              refine (append16_to hr0 (by simp; omega) (by omega) _ (by omega) (by omega)).mono ?_
              rintro e w1 ⟨q1, c1, rfl, hr1, hc1⟩
              have hN1 : w1.heap[wr.heap.size]? = some (.cells #[.int .i64 l[k].t, .slice q l[k].v.length c] 24 (0, 0)) := (hc1.block wr.heap.size (lt_of_heap hN0) hne0).trans hN0
              have HS1 : Hid (Same w w1) := Chg.trans (HE.out.same.trans hW0 (fun _ h => h.elim)) hc1 (fun j hj => .inr (HE.out.row.lt j hj).1)
              have d0 := cell_of_heap hN1 1
              have HR1 := hid hr1
              have HN1 := hid hN1
              have hz1 := HS1.out.size
              have hne1 := hid (row_ne_block hr1 hN1)
              clear hW0 hN0 hr0 hne0 hr1 hc1 hN1
              simp at d0
              go_wp2_with fail
              refine (append16_to HR1.out hz1 (by omega) _ (by omega) (by omega)).mono ?_
              rintro e w2 ⟨q2, c2, rfl, hr2, hc2⟩
              have hN2 := (hc2.block wr.heap.size (lt_of_heap HN1.out) hne1.out).trans HN1.out
              have HS2 : Hid (Same w w2) := Chg.trans HS1.out hc2 (fun j hj => .inr (HR1.out.lt j hj).1)
              have d1 := cell_of_heap hN2 1
              have HR2 := hid hr2
              have hz2 := HS2.out.size
              clear hr2 hc2 hN2 d0
              simp at d1
              go_wp2_with (at_builtin; refine bytes_list rfl (.tmp 41) (.tmp 43) rfl rfl rfl HR2.out hz2 (HB.out.same HS2.out) (by omega) ?_; intro q3 c3 w3 hr3 hc3)
              have HE3 := hid (Enc.mk (w := w) (l := l) (k := k + 1) (q := q3) (n := n0 + 2 + 2 + l[k].v.length) (c := c3) (wr := w3) (by rw [encTo_step hlt]; simpa [encB, bytes] using hr3) (by rw [encTo_step hlt, List.length_append, encB_length, HE.out.len]; omega) (by rw [encTo_step hlt]; exact byt_append HE.out.byt (byt_append (byt_append (of16_byt _) (of16_byt _)) HB.out.byt)) (Chg.trans HS2.out hc3 (fun j hj => .inr (HR2.out.lt j hj).1)) HF.out (by have := HE.out.most; omega))
              clear hr3 hc3 d1
              go_wp2_with fail
              go_roundw
              case rel => exact ⟨k + 1, q3, _, c3, by omega, by go_num, rfl, HE3.out⟩
              case measure => simp [intOf]; omega
      · have hkl : k = l.length := by omega
        subst hkl
        have HV := hid (encG_ok hlong HE.out.fine)
        have HL := hid HE.out.len
        go_wp2_with fail
        go_ret2
        rw [HV.out]
        refine ⟨q0, c0, ?_, HE.out.gives hlong, HE.out.same⟩
        rw [← HL.out]
        rfl
  · have b0 : (64 : Int) < (l.length : Int) := by omega
    have HV := hid (encG_long hlong)
    go_enter Try.func31, Try.ntmps31
    go_wp2_with fail
    go_ret2
    rw [HV.out]
    exact ⟨_, _, rfl, Bs.nil _, Chg.refl _ _⟩
end
end Go.Proofs.Ythmhmgmdajjpmaa
