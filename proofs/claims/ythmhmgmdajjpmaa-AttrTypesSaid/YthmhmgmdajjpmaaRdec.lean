/- Bytes are read as lists, as the document says. -/
import Derived.Test.YthmhmgmdajjpmaaDec
namespace Go.Proofs.Ythmhmgmdajjpmaa
set_option linter.unusedVariables false
set_option linter.unusedSimpArgs false
open Go.RowKit

theorem n16_of {b : List Int} (h : Byt b) {i : Nat} (hi : i + 1 < b.length) : ((n16 b i : Nat) : Int) = b[i] * (256 : Int) + b[i + 1] := by
  have h1 := h b[i] (List.getElem_mem _)
  have h2 := h b[i + 1] (List.getElem_mem _)
  unfold n16
  have e0 : b.getD i 0 = b[i] := by simp [List.getD, show i < b.length by omega]
  have e1 : b.getD (i + 1) 0 = b[i + 1] := by simp [List.getD, hi]
  rw [e0, e1]
  omega

section
variable {w : World} {u : Value} {l : List Int}

set_option maxRecDepth 100000 in
set_option maxHeartbeats 16000000 in
theorem rdecode_calls (h : Bs w u l) : Calls Try.prog 34 #[u] w (DecPost (decG l) w) := by
  have H := hid h
  obtain ⟨p, cap, rfl, h1, h2, h3, h4, h5, h6⟩ := h
  obtain ⟨i24, hi24, hz24, hs24, hb24⟩ := info_parts Try.info24
  have hll : l.length ≤ 9223372036854775807 := by omega
  have hcc : cap ≤ 9223372036854775807 := by unfold maxLen at h2; omega
  clear h2 h4 h5 h6
  go_enter Try.func34, Try.ntmps34
  go_wp2_with fail
  go_loopw [0, 4] (fun s o wr => ∃ (b : List Int) (pb : Option Addr) (nb cb : Nat) (L : List Av) (q : Option Addr) (c : Nat), s = .slice pb nb cb ∧ nb = b.length ∧ nb ≤ l.length ∧ nb ≤ cb ∧ cb ≤ 9223372036854775807 ∧ o = .slice q L.length c ∧ L.length ≤ 64 ∧ Own wr w.heap.size (.slice q L.length c) L ∧ Same w wr ∧ Bs w (.slice pb nb cb) b ∧ Left l (L.map Av.at) b) (fun s _ _ => match s with | .slice _ n _ => n | _ => 0)
  case atStart => exact ⟨l, p, l.length, cap, [], none, 0, rfl, rfl, Nat.le_refl _, h1, hcc, rfl, by simp, Own.nil _ _, Chg.refl _ _, H.out, left_start _⟩
  case round =>
    obtain ⟨b, pb, nb, cb, L, q0, c0, rfl, hnb, hbl, hbc, hcb, rfl, hL, ho, hs, hB, hleft⟩ := hrel
    have HO := hid ho
    have HS := hid hs
    have HB := hid hB
    have HLF := hid hleft
    have HNB := hid hnb
    have hnl : nb ≤ 9223372036854775807 := by omega
    clear ho hs hB hleft hnb
    by_cases h0 : 0 < nb
    · by_cases h4 : nb < 4
      · have HV := hid (left_bad HLF.out (by have := HNB.out; omega) (decStep_bad (fun h => by have := HNB.out; omega)))
        go_wp2_with fail
        go_ret2
        rw [HV.out]
        exact ⟨none, [], 0, rfl, Own.nil _ _, rfl, HS.out⟩
      · cases h64 : ((L.length : Int) == 64) with
        | true =>
          have HV := hid (left_full HLF.out (by have := HNB.out; omega) (by rw [List.length_map]; have : (L.length : Int) = 64 := by simpa using h64
                                                                            omega))
          go_wp2_with fail
          go_ret2
          rw [HV.out]
          exact ⟨none, [], 0, rfl, Own.nil _ _, rfl, HS.out⟩
        | false =>
          have hn4 : 4 ≤ b.length := by have := HNB.out; omega
          obtain ⟨pp, cc, hq, k1, k2, k3, k4, k5, k6⟩ := (HB.out.same HS.out)
          obtain ⟨B0, O0, rfl, hB0, hc⟩ := k6 (by omega)
          cases hq
          have c0' := hc 0 (by omega)
          have c1' := hc 1 (by omega)
          have c2' := hc 2 (by omega)
          have c3' := hc 3 (by omega)
          simp only [Nat.add_zero] at c0'
          obtain ⟨x0, x1⟩ := k5 b[0] (List.getElem_mem _)
          obtain ⟨y0, y1⟩ := k5 b[1] (List.getElem_mem _)
          obtain ⟨z0, z1⟩ := k5 b[2] (List.getElem_mem _)
          obtain ⟨t0, t1⟩ := k5 b[3] (List.getElem_mem _)
          have E2 : bits .or .i64 (b[2] * 256) b[3] = (n16 b 2 : Int) := by rw [i64_or_add2 z0 z1 t0 t1, n16_of HB.out.byt (by omega)]
          have E0 := hid (show bits .or .i64 (b[0] * 256) b[1] = (n16 b 0 : Int) by rw [i64_or_add2 x0 x1 y0 y1, n16_of HB.out.byt (by omega)])
          have i0 : (0 : Int) < (b.length : Int) := by omega
          have i1 : (1 : Int) < (b.length : Int) := by omega
          have i2 : (2 : Int) < (b.length : Int) := by omega
          have i3 : (3 : Int) < (b.length : Int) := by omega
          have m0 := n16_lt HB.out.byt 0
          have m2 := n16_lt HB.out.byt 2
          clear hc k4 k5 k6
          go_wp2_with fail
          go_quiet (fail)
          obtain ⟨w1, hw1⟩ : ∃ w1, w1 = wr.drewN nq := ⟨_, rfl⟩
          have HS1 : Hid (Same wr w1) := by rw [hw1]; exact (Chg.refl _ _).drewN _
          have d0 : w1.cell? ⟨B0, O0, none⟩ = some (.int .u8 b[0]) := by rw [hw1]; exact c0'
          have d1 : w1.cell? ⟨B0, O0 + 1, none⟩ = some (.int .u8 b[1]) := by rw [hw1]; exact c1'
          have hB1 : B0 < w1.heap.size := Nat.lt_of_lt_of_le hB0 HS1.out.size
          obtain ⟨m, hm⟩ : ∃ m, m = n16 b 2 := ⟨_, rfl⟩
          obtain ⟨tt, htt⟩ : ∃ tt, tt = n16 b 0 := ⟨_, rfl⟩
          rw [← hw1, ← hm]
          rw [← hm] at m2
          rw [← htt] at m0
          have e0 : bits .or .i64 (b[0] * 256) b[1] = (tt : Int) := by rw [htt]; exact E0.out
          have HM := hid hm
          have HT := hid htt
          clear hw1 hm htt E2 c0' c1' c2' c3'
          have hzs := HS.out.size
          have hz1 := HS1.out.size
          have HSW := hid (HS.out.trans HS1.out (fun _ h => h.elim))
          have hB00 : B0 < w.heap.size := by
            obtain ⟨pp, cc, hq, -, -, -, -, -, k6⟩ := HB.out
            obtain ⟨B9, O9, h9, hB9, -⟩ := k6 (by omega)
            cases hq
            cases h9
            exact hB9
          by_cases hn2 : m ≤ 16384
          · by_cases hn1 : m ≤ b.length - 4
            · have q1 : ¬ ((b.length : Int) - 4 < (m : Int)) := by omega
              have q2 : ¬ ((16384 : Int) < (m : Int)) := by omega
              have HTL := hid (show ((b.drop 4).take m).length = m by rw [List.length_take, List.length_drop]; omega)
              have HBY : Hid (Byt ((b.drop 4).take m)) := fun x hx => HB.out.byt x (List.mem_of_mem_drop (List.mem_of_mem_take hx))
              have HBW := hid ((HB.out.same HS.out).same HS1.out)
              have hL64 : L.length < 64 := by
                have : (L.length : Int) ≠ 64 := by simpa using h64
                omega
              have HLX := hid (left_next HLF.out (by omega) (by rw [decStep_ok ⟨hn4, by rw [← HM.out]; exact hn1, by rw [← HM.out]; exact hn2⟩, ← HM.out, ← HT.out, List.drop_drop]) (by simpa using hL64))
              have y1 : IntKind.i64.wrap (4 + (m : Int)) = 4 + (m : Int) := by rw [IntKind.wrap_i64]; omega
              have y2 : (0 : Int) ≤ 4 + (m : Int) := by omega
              have y3 : (4 + (m : Int)).toNat = 4 + m := by omega
              have y4 : 4 + (m : Int) ≤ (b.length : Int) := by omega
              have y5 : 4 + (m : Int) ≤ (cb : Int) := by omega
              have y6 : (4 : Int) ≤ 4 + (m : Int) := by omega
              have v1 : IntKind.i64.wrap b[0] = b[0] := by rw [IntKind.wrap_i64]; omega
              have v2 : IntKind.i64.wrap (b[0] * 256) = b[0] * 256 := by rw [IntKind.wrap_i64]; omega
              have v3 : IntKind.i64.wrap b[1] = b[1] := by rw [IntKind.wrap_i64]; omega
              by_cases hcb4 : cb = 4
              · obtain rfl : m = 0 := by omega
                subst hcb4
                have HSA : Hid (Bs w1 (.slice (some ⟨B0, O0, none⟩) 0 0) ((b.drop 4).take 0)) := by
                  have := (HBW.out.drop (k := 4) (by omega)).take' (k := 0) (by omega)
                  rw [if_pos rfl] at this
                  exact this
                have hb4 : b.length - 4 = 0 := by omega
                have HB4 := hid hb4
                have y7 : IntKind.i64.wrap ((4 : Int) + 0) = 4 := by rw [IntKind.wrap_i64]; omega
                have y8 : IntKind.i64.wrap (4 : Int) = 4 := by rw [IntKind.wrap_i64]; omega
                clear hb4 y1 y2 y3 y4 y5 y6
                go_wp2_with fail
                go_region_held3 (fun w' => w'.cell? ⟨B0, O0, none⟩ = some (.int .u8 b[0]) ∧ w'.cell? ⟨B0, O0 + 1, none⟩ = some (.int .u8 b[1]))
                  (first | go_keep | (refine ⟨?_, ?_⟩ <;> (rw [hc2.cell (by simpa using hB1) (by simp [Value.ownBlock])]; go_keep)) | (refine ⟨?_, ?_⟩ <;> (rw [hc3.cell (by simp; omega) (by exact hne3)]; go_keep)))
                  (first
                    | (refine step_bytes (by rfl) _ _ (by rfl) (by rfl) (by rfl) (World.ownsRow_nil _ w.heap.size _ _) (by simp; omega) (Bs.same HSA.out (by exact ((Chg.refl _ _).drewN _))) (by rw [HTL.out]; omega) ?_; intro p2 cap2 w2 hown2 hc2; rw [HTL.out] at hown2 ⊢; have hs2 : Same wr w2 := Chg.trans (HS1.out.drewN _) hc2 (by intro k hk; simp [Value.ownBlock] at hk); have ho2 := HO.out.same hs2; have hz2 := hs2.size)
                    | (refine push_step _ (by rfl) _ _ 35 (by rfl) 24 i24 _ 2 32 Try.underlying35 hi24 hz24 hs24 hb24 rfl (by decide) w.heap.size (by simp; omega) _ _ _ (by rfl) (by first | exact ho2.row.alloc _ | exact (ho2.row.alloc _).drew) w2.heap.size [.int .i64 tt, .slice p2 0 cap2] (by rfl) (by first | exact heap_alloc_new _ _) rfl (by simp [Value.oneCell']) (by unfold maxLen; omega) (by omega) ?_; intro g3 cap3 w3 hown3 hc3 hat3 hlt3; have hne3 : ¬ ((Value.slice q0 L.length c0).ownBlock = some B0) := by (intro e; have := (HO.out.row.lt B0 e).1; omega)))
                have hu2 : w2.ownsRow w.heap.size 5 1 (.slice p2 0 cap2) 0 (bytes ((b.drop 4).take 0)) := by simpa using hown2
                have HO3 := hid ((ho2.same ((Chg.refl _ w2).alloc _)).push (t := (tt : Int)) (l := (b.drop 4).take 0) (by rw [HTL.out]; exact ownsRow_same hu2 ((Chg.refl _ w2).alloc _)) HBY.out (by rw [HTL.out]; omega) hown3 hc3)
                have HS4 : Hid (Same w w3) := Chg.trans (HS.out.trans (hs2.alloc _) (fun _ h => h.elim)) hc3 (fun j hj => .inr (HO.out.row.lt j hj).1)
                clear hown2 hc2 hs2 ho2 hz2 hown3 hc3 hat3 hlt3 hne3 hu2 v1 v2 v3 e0
                go_wp2_with fail
                go_roundw
                case rel => exact ⟨b.drop (4 + 0), _, _, _, L ++ [⟨tt, (b.drop 4).take 0, .slice p2 0 cap2⟩], some ⟨g3, 0, none⟩, cap3, rfl, by rw [List.length_drop]; try omega, by omega, by omega, by omega, by simp, by simp; omega, by simpa using HO3.out, HS4.out, (show Bs w (.slice (some ⟨B0, O0, none⟩) 0 0) (b.drop (4 + 0)) from by have := HB.out.drop (k := 4) (by omega); rw [if_pos rfl, HB4.out] at this; exact this), by rw [List.map_append]; exact HLX.out⟩
                case measure => first | (simp; done) | (simp; omega)
              · have HSL := hid (show Bs w1 (.slice (some ⟨B0, O0 + 4, none⟩) m (cb - 4)) ((b.drop 4).take m) from by
                  have := (HBW.out.dropm (k := 4) (by omega) (by omega) hcb4).take' (k := m) (by omega)
                  simpa using this)
                by_cases hcm : cb = 4 + m
                · subst hcm
                  have hm0 : ¬ m = 0 := by omega
                  have HSM : Hid (Bs w1 (.slice (some ⟨B0, O0 + 4, none⟩) m m) ((b.drop 4).take m)) := by
                    have := HSL.out
                    rw [show 4 + m - 4 = m from by omega] at this
                    exact this
                  go_wp2_with fail
                  go_region_held3 (fun w' => w'.cell? ⟨B0, O0, none⟩ = some (.int .u8 b[0]) ∧ w'.cell? ⟨B0, O0 + 1, none⟩ = some (.int .u8 b[1]))
                    (first | go_keep | (refine ⟨?_, ?_⟩ <;> (rw [hc2.cell (by simpa using hB1) (by simp [Value.ownBlock])]; go_keep)) | (refine ⟨?_, ?_⟩ <;> (rw [hc3.cell (by simp; omega) (by exact hne3)]; go_keep)))
                    (first
                      | (refine step_bytes (by rfl) _ _ (by rfl) (by rfl) (by rfl) (World.ownsRow_nil _ w.heap.size _ _) (by simp; omega) (Bs.same HSM.out (by exact ((Chg.refl _ _).drewN _))) (by rw [HTL.out]; omega) ?_; intro p2 cap2 w2 hown2 hc2; rw [HTL.out] at hown2 ⊢; have hs2 : Same wr w2 := Chg.trans (HS1.out.drewN _) hc2 (by intro k hk; simp [Value.ownBlock] at hk); have ho2 := HO.out.same hs2; have hz2 := hs2.size)
                      | (refine push_step _ (by rfl) _ _ 35 (by rfl) 24 i24 _ 2 32 Try.underlying35 hi24 hz24 hs24 hb24 rfl (by decide) w.heap.size (by simp; omega) _ _ _ (by rfl) (by first | exact ho2.row.alloc _ | exact (ho2.row.alloc _).drew) w2.heap.size [.int .i64 tt, .slice p2 m cap2] (by rfl) (by first | exact heap_alloc_new _ _) rfl (by simp [Value.oneCell']) (by unfold maxLen; omega) (by omega) ?_; intro g3 cap3 w3 hown3 hc3 hat3 hlt3; have hne3 : ¬ ((Value.slice q0 L.length c0).ownBlock = some B0) := by (intro e; have := (HO.out.row.lt B0 e).1; omega)))
                  have hu2 : w2.ownsRow w.heap.size 5 1 (.slice p2 m cap2) m (bytes ((b.drop 4).take m)) := by simpa using hown2
                  have HO3 := hid ((ho2.same ((Chg.refl _ w2).alloc _)).push (t := (tt : Int)) (l := (b.drop 4).take m) (by rw [HTL.out]; exact ownsRow_same hu2 ((Chg.refl _ w2).alloc _)) HBY.out (by rw [HTL.out]; omega) hown3 hc3)
                  have HS4 : Hid (Same w w3) := Chg.trans (HS.out.trans (hs2.alloc _) (fun _ h => h.elim)) hc3 (fun j hj => .inr (HO.out.row.lt j hj).1)
                  clear hown2 hc2 hs2 ho2 hz2 hown3 hc3 hat3 hlt3 hne3 hu2 v1 v2 v3 e0
                  go_wp2_with fail
                  go_roundw
                  case rel => exact ⟨b.drop (4 + m), _, _, _, L ++ [⟨tt, (b.drop 4).take m, .slice p2 m cap2⟩], some ⟨g3, 0, none⟩, cap3, rfl, by rw [List.length_drop]; try omega, by omega, by omega, by omega, by simp, by simp; omega, by simpa using HO3.out, HS4.out, (show Bs w (.slice (some ⟨B0, O0, none⟩) 0 0) (b.drop (4 + m)) from by have := HB.out.drop (k := 4 + m) (by omega); rw [if_pos rfl, show b.length - (4 + m) = 0 from by omega, show 4 + m - (4 + m) = 0 from by omega] at this; exact this), by rw [List.map_append]; exact HLX.out⟩
                  case measure => first | (simp; done) | (simp; omega)
                · have HCM := hid hcm
                  go_wp2_with fail
                  go_region_held3 (fun w' => w'.cell? ⟨B0, O0, none⟩ = some (.int .u8 b[0]) ∧ w'.cell? ⟨B0, O0 + 1, none⟩ = some (.int .u8 b[1]))
                    (first | go_keep | (refine ⟨?_, ?_⟩ <;> (rw [hc2.cell (by simpa using hB1) (by simp [Value.ownBlock])]; go_keep)) | (refine ⟨?_, ?_⟩ <;> (rw [hc3.cell (by simp; omega) (by exact hne3)]; go_keep)))
                    (first
                      | (refine step_bytes (by rfl) _ _ (by rfl) (by rfl) (by rfl) (World.ownsRow_nil _ w.heap.size _ _) (by simp; omega) (Bs.same HSL.out (by exact ((Chg.refl _ _).drewN _))) (by rw [HTL.out]; omega) ?_; intro p2 cap2 w2 hown2 hc2; rw [HTL.out] at hown2 ⊢; have hs2 : Same wr w2 := Chg.trans (HS1.out.drewN _) hc2 (by intro k hk; simp [Value.ownBlock] at hk); have ho2 := HO.out.same hs2; have hz2 := hs2.size)
                      | (refine push_step _ (by rfl) _ _ 35 (by rfl) 24 i24 _ 2 32 Try.underlying35 hi24 hz24 hs24 hb24 rfl (by decide) w.heap.size (by simp; omega) _ _ _ (by rfl) (by first | exact ho2.row.alloc _ | exact (ho2.row.alloc _).drew) w2.heap.size [.int .i64 tt, .slice p2 m cap2] (by rfl) (by first | exact heap_alloc_new _ _) rfl (by simp [Value.oneCell']) (by unfold maxLen; omega) (by omega) ?_; intro g3 cap3 w3 hown3 hc3 hat3 hlt3; have hne3 : ¬ ((Value.slice q0 L.length c0).ownBlock = some B0) := by (intro e; have := (HO.out.row.lt B0 e).1; omega)))
                  have hu2 : w2.ownsRow w.heap.size 5 1 (.slice p2 m cap2) m (bytes ((b.drop 4).take m)) := by simpa using hown2
                  have HO3 := hid ((ho2.same ((Chg.refl _ w2).alloc _)).push (t := (tt : Int)) (l := (b.drop 4).take m) (by rw [HTL.out]; exact ownsRow_same hu2 ((Chg.refl _ w2).alloc _)) HBY.out (by rw [HTL.out]; omega) hown3 hc3)
                  have HS4 : Hid (Same w w3) := Chg.trans (HS.out.trans (hs2.alloc _) (fun _ h => h.elim)) hc3 (fun j hj => .inr (HO.out.row.lt j hj).1)
                  clear hown2 hc2 hs2 ho2 hz2 hown3 hc3 hat3 hlt3 hne3 hu2 v1 v2 v3 e0
                  go_wp2_with fail
                  go_roundw
                  case rel => exact ⟨b.drop (4 + m), _, _, _, L ++ [⟨tt, (b.drop 4).take m, .slice p2 m cap2⟩], some ⟨g3, 0, none⟩, cap3, rfl, by rw [List.length_drop]; try omega, by omega, by omega, by omega, by simp, by simp; omega, by simpa using HO3.out, HS4.out, (by have := HB.out.drop (k := 4 + m) (by omega); rw [if_neg HCM.out] at this; simpa [addr_add] using this), by rw [List.map_append]; exact HLX.out⟩
                  case measure => first | (simp; done) | (simp; omega)
            · have q1 : ((b.length : Int) - 4 < (m : Int)) := by omega
              have q2 : ¬ ((16384 : Int) < (m : Int)) := by omega
              have HV := hid (left_bad HLF.out (by omega) (decStep_bad (fun h => hn1 (by rw [HM.out]; exact h.2.1))))
              go_wp2_with fail
              go_ret2
              rw [HV.out]
              exact ⟨none, [], 0, rfl, Own.nil _ _, rfl, HSW.out⟩
          · have q2 : ((16384 : Int) < (m : Int)) := by omega
            have HV := hid (left_bad HLF.out (by omega) (decStep_bad (fun h => hn2 (by rw [HM.out]; exact h.2.2))))
            go_wp2_with fail
            go_ret2
            rw [HV.out]
            exact ⟨none, [], 0, rfl, Own.nil _ _, rfl, HSW.out⟩
    · have hnb0 : nb = 0 := by omega
      have hb0 : b = [] := List.eq_nil_of_length_eq_zero (by rw [← HNB.out]; exact hnb0)
      subst hb0
      have HV := hid (left_end HLF.out)
      have qq : ¬ (0 : Int) < (nb : Int) := by omega
      clear hnb0
      go_wp2_with fail
      go_ret2
      rw [HV.out]
      exact ⟨q0, L, c0, rfl, HO.out, rfl, HS.out⟩
end
end Go.Proofs.Ythmhmgmdajjpmaa
