/- Bytes are read as lists. -/
import Derived.Test.YthmhmgmdajjpmaaDec0
namespace Go.Proofs.Ythmhmgmdajjpmaa
set_option linter.unusedVariables false
set_option linter.unusedSimpArgs false
open Go.RowKit

/-- A list that is read, and whether. -/
def DecPost (g : List At × Bool) (w : World) (e : Ending) (w' : World) : Prop :=
  ∃ p L cap, e = .returned (.tuple #[.slice p L.length cap, .bool g.2]) ∧ Own w' w.heap.size (.slice p L.length cap) L ∧ L.map Av.at = g.1 ∧ Same w w'

section
variable {w : World} {u : Value} {l : List Int}

set_option maxRecDepth 100000 in
set_option maxHeartbeats 16000000 in
theorem decode_calls (h : Bs w u l) : Calls Try.prog 33 #[u] w (DecPost (decG l) w) := by
  have H := hid h
  obtain ⟨p, cap, rfl, h1, h2, h3, h4, h5, h6⟩ := h
  obtain ⟨i24, hi24, hz24, hs24, hb24⟩ := info_parts Try.info24
  have hll : l.length ≤ 9223372036854775807 := by omega
  have hcc : cap ≤ 9223372036854775807 := by unfold maxLen at h2; omega
  clear h2 h4 h5 h6
  go_enter Try.func33, Try.ntmps33
  go_wp2_with fail
  go_loopw [0, 4] (fun s o wr => ∃ (b : List Int) (pb : Option Addr) (nb cb : Nat) (L : List Av) (q : Option Addr) (c : Nat), s = .slice pb nb cb ∧ nb = b.length ∧ nb ≤ l.length ∧ nb ≤ cb ∧ cb ≤ 9223372036854775807 ∧ o = .slice q L.length c ∧ L.length ≤ 64 ∧ Own wr w.heap.size (.slice q L.length c) L ∧ Same w wr ∧ Bs w (.slice pb nb cb) b ∧ Left l (L.map Av.at) b) (fun s _ _ => match s with | .slice _ n _ => n | _ => 0)
  case atStart => exact ⟨l, p, l.length, cap, [], none, 0, rfl, rfl, Nat.le_refl _, h1, hcc, rfl, by simp, Own.nil _ _, Chg.refl _ _, H.out, left_start _⟩
  case round =>
    obtain ⟨b, pb, nb, cb, L, q0, c0, rfl, hnb, hbl, hbc, hcb, rfl, hL, ho, hs, hB, hleft⟩ := hrel
    have HO := hid ho
    have HS := hid hs
    have HB := hid hB
    have HLF := hid hleft
    have HNB := hid hnb
    have hnl : nb ≤ 9223372036854775807 := by omega
    clear ho hs hB hleft hnb
    by_cases h0 : 0 < nb
    · by_cases h4 : nb < 4
      · have HV := hid (left_bad HLF.out (by have := HNB.out; omega) (decStep_bad (fun h => by have := HNB.out; omega)))
        go_wp2_with fail
        go_ret2
        rw [HV.out]
        exact ⟨none, [], 0, rfl, Own.nil _ _, rfl, HS.out⟩
      · cases h64 : ((L.length : Int) == 64) with
        | true =>
          have HV := hid (left_full HLF.out (by have := HNB.out; omega) (by rw [List.length_map]; have : (L.length : Int) = 64 := by simpa using h64
                                                                            omega))
          go_wp2_with fail
          go_ret2
          rw [HV.out]
          exact ⟨none, [], 0, rfl, Own.nil _ _, rfl, HS.out⟩
        | false =>
          have hBw := HB.out.same HS.out
          have hn4 : 4 ≤ b.length := by have := HNB.out; omega
          have HQ := hid (fun n => get16_quiet (hBw.same ((Chg.refl _ wr).drewN n)) (by omega) (n16 b 0) rfl)
          have HQ2 := hid (fun n => get16_quiet ((hBw.same ((Chg.refl _ wr).drewN n)).dropc (k := 2) (by omega) (by omega)) (by rw [List.length_drop]; omega) (n16 b 2) (n16_drop b 2 0))
          have HQ3 := hid (fun n => get16_quiet ((hBw.same ((Chg.refl _ wr).drewN n)).dropm (k := 2) (by omega) (by omega) (by omega)) (by rw [List.length_drop]; omega) (n16 b 2) (n16_drop b 2 0))
          have j1 : (2 : Int) ≤ (nb : Int) := by omega
          have j2 : (2 : Int) ≤ (cb : Int) := by omega
          have j3 : (4 : Int) ≤ (nb : Int) := by omega
          have j4 : (4 : Int) ≤ (cb : Int) := by omega
          have m0 := n16_lt HB.out.byt 0
          have m2 := n16_lt HB.out.byt 2
          clear hBw
          go_wp2_with fail
          go_quiet ((go_at_call 44; first | (with_reducible exact Calls.quiet_of (HQ.out _)) | (with_reducible exact Calls.quiet_of (HQ2.out _)) | (with_reducible exact Calls.quiet_of (HQ3.out _)) | trace_state))
          obtain ⟨w1, hw1⟩ : ∃ w1, w1 = wr.drewN nq := ⟨_, rfl⟩
          have HS1 : Hid (Same wr w1) := by rw [hw1]; exact (Chg.refl _ _).drewN _
          obtain ⟨m, hm⟩ : ∃ m, m = n16 b 2 := ⟨_, rfl⟩
          obtain ⟨tt, htt⟩ : ∃ tt, tt = n16 b 0 := ⟨_, rfl⟩
          rw [← hw1, ← hm, ← htt]
          rw [← hm] at m2
          rw [← htt] at m0
          have HM := hid hm
          have HT := hid htt
          clear hw1 hm htt HQ HQ2 HQ3
          by_cases hn1 : m ≤ nb - 4
          · by_cases hn2 : m ≤ 16384
            · have q1 : ¬ ((nb : Int) - 4 < (m : Int)) := by omega
              have q2 : ¬ ((16384 : Int) < (m : Int)) := by omega
              have q3 : ¬ ((nb - 4 : Nat) : Int) < (m : Int) := by omega
              have HTL := hid (show ((b.drop 4).take m).length = m by rw [List.length_take, List.length_drop, ← HNB.out]; omega)
              have HBY : Hid (Byt ((b.drop 4).take m)) := fun x hx => HB.out.byt x (List.mem_of_mem_drop (List.mem_of_mem_take hx))
              have HBW := hid ((HB.out.same HS.out).same HS1.out)
              have hL64 : L.length < 64 := by
                have : (L.length : Int) ≠ 64 := by simpa using h64
                omega
              have HLX := hid (left_next HLF.out (by omega) (by rw [decStep_ok ⟨hn4, by rw [← HM.out, ← HNB.out]; exact hn1, by rw [← HM.out]; exact hn2⟩, ← HM.out, ← HT.out]) (by simpa using hL64))
              by_cases hcb4 : cb = 4
              · obtain rfl : nb = 4 := by omega
                obtain rfl : m = 0 := by omega
                subst hcb4
                go_wp2_with fail
                refine (clone_calls (show Bs w1 (.slice pb 0 0) ((b.drop 4).take 0) from Bs.take' (n := 0) (by have := HBW.out.drop (k := 4) (by omega); simpa using this) (by omega))).mono ?_
                rintro e w2 ⟨v2, rfl, hown2, hs2⟩
                rw [show ((b.drop 4).take 0).length = 0 from HTL.out] at hown2
                obtain ⟨a2, cap2, rfl, -, -⟩ := ownsRow_form hown2
                have hs3 : Same wr w2 := HS1.out.trans hs2 (fun _ h => h.elim)
                have HS3 := hid hs3
                have hz2 : w.heap.size ≤ w2.heap.size := Nat.le_trans HS.out.size hs3.size
                have HO2 := hid (ownsRow_base hown2 (B' := w.heap.size) (Nat.le_trans HS.out.size HS1.out.size))
                clear hown2 hs2 hs3
                go_wp2_with (at_builtin; refine push_list _ rfl (.tmp 35) (.tmp 42) 35 rfl 24 i24 _ 2 32 Try.underlying35 hi24 hz24 hs24 hb24 rfl (by decide) w.heap.size (by simp; omega) (.slice q0 L.length c0) L.length (avRow L) rfl ((HO.out.same HS3.out).row.alloc _) w2.heap.size [.int .i64 tt, .slice a2 0 cap2] rfl (heap_alloc_new _ _) rfl (by simp [Value.oneCell']) (by unfold maxLen; omega) (by omega) ?_; intro g3 cap3 w3 hown3 hc3 hat3 hlt3)
                have HO3 := hid (((HO.out.same HS3.out).same ((Chg.refl _ w2).alloc _)).push (t := (tt : Int)) (l := (b.drop 4).take 0) (by rw [HTL.out]; exact ownsRow_same HO2.out ((Chg.refl _ w2).alloc _)) HBY.out (by rw [HTL.out]; omega) hown3 hc3)
                have HS4 : Hid (Same w w3) := Chg.trans (HS.out.trans (HS3.out.alloc _) (fun _ h => h.elim)) hc3 (fun j hj => .inr (HO.out.row.lt j hj).1)
                clear hown3 hc3 hat3 hlt3 hz2
                go_wp2_with fail
                go_roundw
                case rel =>
                  refine ⟨(b.drop 4).drop 0, _, _, _, L ++ [⟨tt, (b.drop 4).take 0, .slice a2 0 cap2⟩], some ⟨g3, 0, none⟩, cap3, rfl, ?_, ?_, ?_, ?_, by simp, by simp; omega, by simpa using HO3.out, HS4.out, (show Bs w (.slice pb 0 0) ((b.drop 4).drop 0) from by have := HB.out.drop (k := 4) (by omega); simpa using this), by rw [List.map_append]; exact HLX.out⟩
                  · rw [List.length_drop, List.length_drop, ← HNB.out]; try omega
                  · omega
                  · omega
                  · omega
                case measure => first | (simp; done) | (simp; omega)
              · by_cases hcm : cb - 4 = m
                · have HCM := hid hcm
                  go_wp2_with fail
                  refine (clone_calls (show Bs w1 (.slice (Option.map (fun x => (⟨x.block, x.off + 4, none⟩ : Addr)) pb) m m) ((b.drop 4).take m) from by have := (Bs.take' (n := nb - 4) (HBW.out.dropm (k := 4) (by omega) (by omega) hcb4) (k := m) (by omega)); rw [HCM.out] at this; exact this)).mono ?_
                  rintro e w2 ⟨v2, rfl, hown2, hs2⟩
                  rw [show ((b.drop 4).take m).length = m from HTL.out] at hown2
                  obtain ⟨a2, cap2, rfl, -, -⟩ := ownsRow_form hown2
                  have hs3 : Same wr w2 := HS1.out.trans hs2 (fun _ h => h.elim)
                  have HS3 := hid hs3
                  have hz2 : w.heap.size ≤ w2.heap.size := Nat.le_trans HS.out.size hs3.size
                  have HO2 := hid (ownsRow_base hown2 (B' := w.heap.size) (Nat.le_trans HS.out.size HS1.out.size))
                  clear hown2 hs2 hs3
                  go_wp2_with (at_builtin; refine push_list _ rfl (.tmp 35) (.tmp 42) 35 rfl 24 i24 _ 2 32 Try.underlying35 hi24 hz24 hs24 hb24 rfl (by decide) w.heap.size (by simp; omega) (.slice q0 L.length c0) L.length (avRow L) rfl ((HO.out.same HS3.out).row.alloc _) w2.heap.size [.int .i64 tt, .slice a2 m cap2] rfl (heap_alloc_new _ _) rfl (by simp [Value.oneCell']) (by unfold maxLen; omega) (by omega) ?_; intro g3 cap3 w3 hown3 hc3 hat3 hlt3)
                  have HO3 := hid (((HO.out.same HS3.out).same ((Chg.refl _ w2).alloc _)).push (t := (tt : Int)) (l := (b.drop 4).take m) (by rw [HTL.out]; exact ownsRow_same HO2.out ((Chg.refl _ w2).alloc _)) HBY.out (by rw [HTL.out]; omega) hown3 hc3)
                  have HS4 : Hid (Same w w3) := Chg.trans (HS.out.trans (HS3.out.alloc _) (fun _ h => h.elim)) hc3 (fun j hj => .inr (HO.out.row.lt j hj).1)
                  clear hown3 hc3 hat3 hlt3 hz2
                  go_wp2_with fail
                  go_roundw
                  case rel =>
                    refine ⟨(b.drop 4).drop m, _, _, _, L ++ [⟨tt, (b.drop 4).take m, .slice a2 m cap2⟩], some ⟨g3, 0, none⟩, cap3, rfl, ?_, ?_, ?_, ?_, by simp, by simp; omega, by simpa using HO3.out, HS4.out, (by have := (HB.out.dropm (k := 4) (by omega) (by omega) hcb4).drop (k := m) (by omega); rw [if_pos HCM.out] at this; simpa [HCM.out] using this), by rw [List.map_append]; exact HLX.out⟩
                    · rw [List.length_drop, List.length_drop, ← HNB.out]; try omega
                    · omega
                    · omega
                    · omega
                  case measure => first | (simp; done) | (simp; omega)
                · have HCM := hid hcm
                  go_wp2_with fail
                  refine (clone_calls (Bs.take' (n := nb - 4) (HBW.out.dropm (k := 4) (by omega) (by omega) hcb4) (k := m) (by omega))).mono ?_
                  rintro e w2 ⟨v2, rfl, hown2, hs2⟩
                  rw [show ((b.drop 4).take m).length = m from HTL.out] at hown2
                  obtain ⟨a2, cap2, rfl, -, -⟩ := ownsRow_form hown2
                  have hs3 : Same wr w2 := HS1.out.trans hs2 (fun _ h => h.elim)
                  have HS3 := hid hs3
                  have hz2 : w.heap.size ≤ w2.heap.size := Nat.le_trans HS.out.size hs3.size
                  have HO2 := hid (ownsRow_base hown2 (B' := w.heap.size) (Nat.le_trans HS.out.size HS1.out.size))
                  clear hown2 hs2 hs3
                  go_wp2_with (at_builtin; refine push_list _ rfl (.tmp 35) (.tmp 42) 35 rfl 24 i24 _ 2 32 Try.underlying35 hi24 hz24 hs24 hb24 rfl (by decide) w.heap.size (by simp; omega) (.slice q0 L.length c0) L.length (avRow L) rfl ((HO.out.same HS3.out).row.alloc _) w2.heap.size [.int .i64 tt, .slice a2 m cap2] rfl (heap_alloc_new _ _) rfl (by simp [Value.oneCell']) (by unfold maxLen; omega) (by omega) ?_; intro g3 cap3 w3 hown3 hc3 hat3 hlt3)
                  have HO3 := hid (((HO.out.same HS3.out).same ((Chg.refl _ w2).alloc _)).push (t := (tt : Int)) (l := (b.drop 4).take m) (by rw [HTL.out]; exact ownsRow_same HO2.out ((Chg.refl _ w2).alloc _)) HBY.out (by rw [HTL.out]; omega) hown3 hc3)
                  have HS4 : Hid (Same w w3) := Chg.trans (HS.out.trans (HS3.out.alloc _) (fun _ h => h.elim)) hc3 (fun j hj => .inr (HO.out.row.lt j hj).1)
                  clear hown3 hc3 hat3 hlt3 hz2
                  go_wp2_with fail
                  go_roundw
                  case rel =>
                    refine ⟨(b.drop 4).drop m, _, _, _, L ++ [⟨tt, (b.drop 4).take m, .slice a2 m cap2⟩], some ⟨g3, 0, none⟩, cap3, rfl, ?_, ?_, ?_, ?_, by simp, by simp; omega, by simpa using HO3.out, HS4.out, (by have := (HB.out.dropm (k := 4) (by omega) (by omega) hcb4).drop (k := m) (by omega); rw [if_neg HCM.out, Option.map_map] at this; exact this), by rw [List.map_append]; exact HLX.out⟩
                    · rw [List.length_drop, List.length_drop, ← HNB.out]; try omega
                    · omega
                    · omega
                    · omega
                  case measure => first | (simp; done) | (simp; omega)
            · have q1 : ¬ ((nb : Int) - 4 < (m : Int)) := by omega
              have q2 : ((16384 : Int) < (m : Int)) := by omega
              have q3 : ¬ ((nb - 4 : Nat) : Int) < (m : Int) := by omega
              have HV := hid (left_bad HLF.out (by have := HNB.out; omega) (decStep_bad (fun h => hn2 (by rw [HM.out]; exact h.2.2))))
              have HSW := hid (HS.out.trans HS1.out (fun _ h => h.elim))
              go_wp2_with fail
              all_goals
                go_ret2
                rw [HV.out]
                exact ⟨none, [], 0, rfl, Own.nil _ _, rfl, HSW.out⟩
          · have q1 : ((nb : Int) - 4 < (m : Int)) := by omega
            have q3 : ((nb - 4 : Nat) : Int) < (m : Int) := by omega
            have HV := hid (left_bad HLF.out (by have := HNB.out; omega) (decStep_bad (fun h => hn1 (by rw [HM.out, HNB.out]; exact h.2.1))))
            have HSW := hid (HS.out.trans HS1.out (fun _ h => h.elim))
            go_wp2_with fail
            all_goals
              go_ret2
              rw [HV.out]
              exact ⟨none, [], 0, rfl, Own.nil _ _, rfl, HSW.out⟩
    · have hnb0 : nb = 0 := by omega
      have hb0 : b = [] := List.eq_nil_of_length_eq_zero (by rw [← HNB.out]; exact hnb0)
      subst hb0
      have HV := hid (left_end HLF.out)
      have qq : ¬ (0 : Int) < (nb : Int) := by omega
      clear hnb0
      go_wp2_with fail
      go_ret2
      rw [HV.out]
      exact ⟨q0, L, c0, rfl, HO.out, rfl, HS.out⟩
end
end Go.Proofs.Ythmhmgmdajjpmaa
