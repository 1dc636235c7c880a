/- Values are got, put and matched as the document says: the walk. -/
import Derived.Test.YthmhmgmdajjpmaaCode
namespace Go.Proofs.Ythmhmgmdajjpmaa
set_option linter.unusedVariables false
set_option linter.unusedSimpArgs false
open Go.RowKit

section
variable {w : World} {v v' u : Value} {l m : List Av} {val : List Int}

theorem cut_short {L l : List Av} {n k : Nat} (h : L.map Av.at = cutOf l n k) : L.length ≤ n := by
  have := len_of_map h
  rw [this]
  unfold cutOf
  rw [List.length_map]
  exact List.length_take_le _ _

set_option maxRecDepth 100000 in
set_option maxHeartbeats 16000000 in
theorem lists_calls (h : Ats w v l) (h' : Ats w v' m) (hu : Bs w u val) (t : Int) : Calls Try.prog 5 #[v, v', .agg #[.int .i64 t, u]] w (BoolPost true w) := by
  have H := hid h
  have H' := hid h'
  have HU := hid hu
  obtain ⟨p0, cp0, rfl, -⟩ := id h
  obtain ⟨p1, cp1, rfl, -⟩ := id h'
  obtain ⟨pu, cu, rfl, -⟩ := id hu
  clear h h' hu
  go_enter Try.func5, Try.ntmps5
  go_wp2_with fail
  obtain ⟨wA, hwA⟩ : ∃ wA, wA = w.alloc (.cells #[.int .i64 t, .slice pu val.length cu] 24) := ⟨_, rfl⟩
  have HA : Hid (wA.heap[w.heap.size]? = some (.cells #[.int .i64 t, .slice pu val.length cu] 24 (0, 0))) := by rw [hwA]; exact heap_alloc_new _ _
  have SA : Hid (Same w wA) := by rw [hwA]; exact (Chg.refl _ w).alloc _
  rw [← hwA]
  clear hwA
  have HBOX : Hid (∀ W, Same wA W → W.cell? ⟨w.heap.size, 0, none⟩ = some (.int .i64 t) ∧ W.cell? ⟨w.heap.size, 1, none⟩ = some (.slice pu val.length cu)) := fun W hW => by
    have hH := (hW.block w.heap.size (lt_of_heap HA.out) (fun h => h)).trans HA.out
    exact ⟨by rw [cell_of_heap hH]; rfl, by rw [cell_of_heap hH]; rfl⟩
  refine (begun_calls wA).mono ?_
  rintro e w1 ⟨rfl, hs1⟩
  have S1 := hid hs1
  clear hs1
  go_wp2_with fail
  refine (cut_calls (H.out.same (SA.out.trans S1.out (fun _ h => h.elim))) 12 30 (by decide) (by decide)).mono ?_
  rintro e w2 ⟨p2, L, c2, rfl, hO2, hM2, hs2⟩
  have HO2 := hid hO2.ats
  have HLN := hid (cut_short hM2)
  have S2 := hid (S1.out.trans hs2 (fun _ h => h.elim))
  clear hO2 hM2 hs2
  go_wp2_with fail
  refine (cut_calls (H'.out.same (SA.out.trans S2.out (fun _ h => h.elim))) 4 30 (by decide) (by decide)).mono ?_
  rintro e w3 ⟨p3, T, c3, rfl, hO3, hM3, hs3⟩
  have HT3 := hid hO3.ats
  have HO3 := hid (HO2.out.same hs3)
  have S3 := hid (S2.out.trans hs3 (fun _ h => h.elim))
  obtain ⟨d0, d1⟩ := HBOX.out w3 S3.out
  clear hO3 hM3 hs3
  go_wp2_with fail
  refine (get_calls HO3.out t).mono ?_
  rintro e w4 ⟨p4, c4, rfl, hB4, hs4⟩
  have HB4 := hid hB4
  have HO4 := hid (HO3.out.same hs4)
  have HT4 := hid (HT3.out.same hs4)
  have S4 := hid (S3.out.trans hs4 (fun _ h => h.elim))
  clear d0 d1 hB4 hs4
  obtain ⟨d0, d1⟩ := HBOX.out w4 S4.out
  go_wp2_with fail
  refine (rget_calls HO4.out t).mono ?_
  rintro e w5 ⟨p5, c5, rfl, hB5, hs5⟩
  have HB5 := hid hB5
  have HB45 := hid (HB4.out.same hs5)
  have HO5 := hid (HO4.out.same hs5)
  have HT5 := hid (HT4.out.same hs5)
  have S5 := hid (S4.out.trans hs5 (fun _ h => h.elim))
  clear d0 d1 hB5 hs5
  obtain ⟨d0, d1⟩ := HBOX.out w5 S5.out
  go_wp2_with fail
  refine (int_calls HO5.out t).mono ?_
  rintro e w6 ⟨rfl, hs6⟩
  have HB46 := hid (HB45.out.same hs6)
  have HB56 := hid (HB5.out.same hs6)
  have HO6 := hid (HO5.out.same hs6)
  have HT6 := hid (HT5.out.same hs6)
  have S6 := hid (S5.out.trans hs6 (fun _ h => h.elim))
  clear d0 d1 hs6
  obtain ⟨d0, d1⟩ := HBOX.out w6 S6.out
  go_wp2_with fail
  refine (rint_calls HO6.out t).mono ?_
  rintro e w7 ⟨rfl, hs7⟩
  have HB47 := hid (HB46.out.same hs7)
  have HB57 := hid (HB56.out.same hs7)
  have HO7 := hid (HO6.out.same hs7)
  have HT7 := hid (HT6.out.same hs7)
  have S7 := hid (S6.out.trans hs7 (fun _ h => h.elim))
  clear d0 d1 hs7
  obtain ⟨d0, d1⟩ := HBOX.out w7 S7.out
  go_wp2_with fail
  refine (put_calls HO7.out (by have := HLN.out; omega) (HU.out.same (SA.out.trans S7.out (fun _ h => h.elim))) t).mono ?_
  rintro e w8 ⟨p8, P8, c8, rfl, hO8, hM8, hs8⟩
  have HP8 := hid hO8.ats
  have HMP := hid hM8
  have HB48 := hid (HB47.out.same hs8)
  have HB58 := hid (HB57.out.same hs8)
  have HO8 := hid (HO7.out.same hs8)
  have HT8 := hid (HT7.out.same hs8)
  have S8 := hid (S7.out.trans hs8 (fun _ h => h.elim))
  have HU8 := hid (HU.out.same (SA.out.trans S8.out (fun _ h => h.elim)))
  clear d0 d1 hO8 hM8 hs8
  have KEEP : Hid (∀ W, Same w8 W → W.cell? ⟨w.heap.size, 0, none⟩ = some (.int .i64 t) ∧ W.cell? ⟨w.heap.size, 1, none⟩ = some (.slice pu val.length cu) ∧
      (convert 22 9 (.slice p4 (gotOf L t).1.length c4)).run Try.prog W = .ok (.string (strOfNums (gotOf L t).1)) W ∧ (convert 22 9 (.slice p5 (gotOf L t).1.length c5)).run Try.prog W = .ok (.string (strOfNums (gotOf L t).1)) W) := fun W hW => by
    obtain ⟨d0, d1⟩ := HBOX.out W (S8.out.trans hW (fun _ h => h.elim))
    exact ⟨d0, d1, (HB48.out.same hW).str, (HB58.out.same hW).str⟩
  have hk : Same w8 w8 := Chg.refl _ _
  obtain ⟨d0, d1, d2, d3⟩ := KEEP.out w8 (Chg.refl _ _)
  go_wp2_with fail
  go_region_held3 (fun w' => w'.cell? ⟨w.heap.size, 0, none⟩ = some (.int .i64 t) ∧ w'.cell? ⟨w.heap.size, 1, none⟩ = some (.slice pu val.length cu) ∧ (convert 22 9 (.slice p4 (gotOf L t).1.length c4)).run Try.prog w' = .ok (.string (strOfNums (gotOf L t).1)) w' ∧ (convert 22 9 (.slice p5 (gotOf L t).1.length c5)).run Try.prog w' = .ok (.string (strOfNums (gotOf L t).1)) w')
    (first | exact KEEP.out _ hk | exact KEEP.out _ (Chg.drew hk))
    (first
      | (go_at_call 24; refine (flag_calls (HO8.out.same (by first | exact hk | exact Chg.drew hk)) t).mono ?_; rintro e wa ⟨rfl, hsa⟩; replace hk : Same w8 wa := Chg.trans (by first | exact hk | exact Chg.drew hk) hsa (fun _ h => h.elim))
      | (go_at_call 25; refine (rflag_calls (HO8.out.same (by first | exact hk | exact Chg.drew hk)) t).mono ?_; rintro e wb ⟨rfl, hsb⟩; replace hk : Same w8 wb := Chg.trans (by first | exact hk | exact Chg.drew hk) hsb (fun _ h => h.elim))
      | (go_at_call 27; refine (rput_calls (HO8.out.same (by first | exact hk | exact Chg.drew hk)) (by have := HLN.out; omega) (HU8.out.same (by first | exact hk | exact Chg.drew hk)) t).mono ?_; rintro e wc ⟨pc, Pc, cc, rfl, hOc, hMc, hsc⟩; have HEQ := hid (eqAts_self P8 Pc (HMP.out.trans hMc.symm)); replace hk : Same w8 wc := Chg.trans (by first | exact hk | exact Chg.drew hk) hsc (fun _ h => h.elim); clear hMc)
      | (go_at_call 26; refine (eq_calls (HP8.out.same (by first | exact hk | exact Chg.drew hk)) (by first | exact hOc | exact hOc.same ((Chg.refl _ _).drew))).mono ?_; rintro e wd ⟨hed, hsd⟩; rw [HEQ.out] at hed; subst hed; replace hk : Same w8 wd := Chg.trans (by first | exact hk | exact Chg.drew hk) hsd (fun _ h => h.elim))
      | (go_at_call 28; refine (match_calls (HO8.out.same (by first | exact hk | exact Chg.drew hk)) (HT8.out.same (by first | exact hk | exact Chg.drew hk))).mono ?_; rintro e we ⟨rfl, hse⟩; replace hk : Same w8 we := Chg.trans (by first | exact hk | exact Chg.drew hk) hse (fun _ h => h.elim))
      | (go_at_call 29; refine (rmatch_calls (HO8.out.same (by first | exact hk | exact Chg.drew hk)) (HT8.out.same (by first | exact hk | exact Chg.drew hk))).mono ?_; rintro e wf ⟨rfl, hsf⟩; replace hk : Same w8 wf := Chg.trans (by first | exact hk | exact Chg.drew hk) hsf (fun _ h => h.elim)))
  have HK := hid (SA.out.trans (S8.out.trans hk (fun _ h => h.elim)) (fun _ h => h.elim))
  go_wp2_with fail
  clear HB4 HB45 HB46 HB47 HB48 HB5 HB56 HB57 HB58 S1 S2 S3 S4 S5 S6 S7 S8 HO2 HO3 HO4 HO5 HO6 HO7 HO8 HT3 HT4 HT5 HT6 HT7 HT8 KEEP HBOX
  go_ret
  exact ⟨rfl, HK.out⟩
end
end Go.Proofs.Ythmhmgmdajjpmaa
