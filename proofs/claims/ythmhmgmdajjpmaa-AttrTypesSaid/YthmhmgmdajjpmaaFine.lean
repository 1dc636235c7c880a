/- Is a value of its type's form? -/
import Derived.Test.YthmhmgmdajjpmaaForm
namespace Go.Proofs.Ythmhmgmdajjpmaa
set_option linter.unusedVariables false
set_option linter.unusedSimpArgs false
open Go.RowKit

theorem formOf_cases (t : Int) : formOf t = 1 ∨ formOf t = 2 ∨ formOf t = 3 ∨ formOf t = 4 ∨ formOf t = 0 := by
  unfold formOf
  split
  · exact .inl rfl
  split
  · exact .inr (.inl rfl)
  split
  · exact .inr (.inr (.inl rfl))
  split
  · exact .inr (.inr (.inr (.inl rfl)))
  · exact .inr (.inr (.inr (.inr rfl)))

def fineB (t : Int) (l : List Int) : Bool :=
  if formOf t = 1 then l.length == 1 && decide (l.getD 0 0 < 2)
  else if formOf t = 2 then (l.length : Int) == 4
  else if formOf t = 3 then decide ((l.length : Int) ≤ 16384)
  else if formOf t = 4 then decide (0 < l.length) && decide ((l.length : Int) ≤ 512) && (l.getD 0 0 != 0)
  else false

section
variable {w : World} {u : Value} {l : List Int} {t : Int}

theorem fine_1 (h : formOf t = 1) (hn : l.length = 1) : fineB t l = decide (l.getD 0 0 < 2) := by unfold fineB; rw [if_pos h, hn]; rfl
theorem fine_1' (h : formOf t = 1) (hn : ¬ l.length = 1) : fineB t l = false := by
  unfold fineB
  have : (l.length == 1) = false := by simpa using hn
  rw [if_pos h, this]; rfl
theorem fine_2 (h : formOf t = 2) : fineB t l = ((l.length : Int) == 4) := by unfold fineB; rw [if_neg (by omega), if_pos h]
theorem fine_3 (h : formOf t = 3) : fineB t l = decide ((l.length : Int) ≤ 16384) := by unfold fineB; rw [if_neg (by omega), if_neg (by omega), if_pos h]
theorem fine_4 (h : formOf t = 4) (hn : 0 < l.length) (hm : (l.length : Int) ≤ 512) : fineB t l = (l[0] != 0) := by
  unfold fineB
  rw [if_neg (by omega), if_neg (by omega), if_neg (by omega), if_pos h, decide_eq_true hn, decide_eq_true hm]
  simp [List.getD, hn]
theorem fine_4' (h : formOf t = 4) (hn : ¬ (0 < l.length ∧ (l.length : Int) ≤ 512)) : fineB t l = false := by
  unfold fineB
  rw [if_neg (by omega), if_neg (by omega), if_neg (by omega), if_pos h, Bool.and_eq_false_iff, Bool.and_eq_false_iff, decide_eq_false_iff_not, decide_eq_false_iff_not]
  left
  omega
theorem fine_0 (h : formOf t = 0) : fineB t l = false := by
  unfold fineB
  rw [if_neg (by omega), if_neg (by omega), if_neg (by omega), if_neg (by omega)]


set_option maxHeartbeats 8000000 in
theorem fine_calls (h : Bs w u l) (t : Int) : Calls Try.prog 15 #[.agg #[.int .i64 t, u]] w (SBool (fineB t l) w) := by
  obtain ⟨p, cap, rfl, h1, h2, h3, h4, h5, h6⟩ := h
  have hll : l.length ≤ 9223372036854775807 := by omega
  have H6 := hid h6
  have H5 := hid h5
  clear h4 h5 h6
  rcases formOf_cases t with hf | hf | hf | hf | hf
  · have HF := hid hf
    clear hf
    by_cases hn : l.length = 1
    · have hn0 : 0 < l.length := by omega
      have HN := hid hn
      have b1 : ((l.length : Int) == 1) = true := by simp [hn]
      have i0 : (0 : Int) < (l.length : Int) := by omega
      clear hn
      obtain ⟨b, o, rfl, hb, hc⟩ := H6.out hn0
      have c0 := hc 0 hn0
      simp only [Nat.add_zero] at c0
      obtain ⟨x0, x1⟩ := H5.out l[0] (List.getElem_mem _)
      clear hc
      by_cases hx : l[0] < 2
      · have hx' : l[0] ≤ 1 := by omega
        go_enter Try.func15, Try.ntmps15
        go_wp2_with fail
        refine (form_calls _ _).mono ?_
        rintro e w' ⟨rfl, rfl⟩
        rw [HF.out]
        go_wp2_with fail
        go_ret
        exact ⟨by rw [fine_1 HF.out HN.out]; first | (simp [List.getD, HN.out, hx]; done) | (simp [List.getD, HN.out, hx]; omega), (Chg.refl _ w).alloc _⟩
      · have hx' : ¬ l[0] ≤ 1 := by omega
        go_enter Try.func15, Try.ntmps15
        go_wp2_with fail
        refine (form_calls _ _).mono ?_
        rintro e w' ⟨rfl, rfl⟩
        rw [HF.out]
        go_wp2_with fail
        go_ret
        exact ⟨by rw [fine_1 HF.out HN.out]; first | (simp [List.getD, HN.out, hx]; done) | (simp [List.getD, HN.out, hx]; omega), (Chg.refl _ w).alloc _⟩
    · have b1 : ((l.length : Int) == 1) = false := by simp; omega
      have HN := hid hn
      clear hn
      go_enter Try.func15, Try.ntmps15
      go_wp2_with fail
      refine (form_calls _ _).mono ?_
      rintro e w' ⟨rfl, rfl⟩
      rw [HF.out]
      go_wp2_with fail
      go_ret
      exact ⟨by rw [fine_1' HF.out HN.out]; rfl, (Chg.refl _ w).alloc _⟩
  · have HF := hid hf
    clear hf
    cases hq : ((l.length : Int) == 4)
    all_goals
      have HQ := hid hq
      go_enter Try.func15, Try.ntmps15
      go_wp2_with fail
      refine (form_calls _ _).mono ?_
      rintro e w' ⟨rfl, rfl⟩
      rw [HF.out]
      go_wp2_with fail
      go_ret
      exact ⟨by rw [fine_2 HF.out, HQ.out]; rfl, (Chg.refl _ w).alloc _⟩
  · have HF := hid hf
    clear hf
    cases hq : decide ((l.length : Int) ≤ 16384)
    all_goals
      have HQ := hid hq
      go_enter Try.func15, Try.ntmps15
      go_wp2_with fail
      refine (form_calls _ _).mono ?_
      rintro e w' ⟨rfl, rfl⟩
      rw [HF.out]
      go_wp2_with fail
      go_ret
      exact ⟨by rw [fine_3 HF.out, HQ.out]; rfl, (Chg.refl _ w).alloc _⟩
  · have HF := hid hf
    clear hf
    by_cases hn : 0 < l.length
    · obtain ⟨b, o, rfl, hb, hc⟩ := H6.out hn
      have c0 := hc 0 hn
      simp only [Nat.add_zero] at c0
      obtain ⟨x0, x1⟩ := H5.out l[0] (List.getElem_mem _)
      have b0 : (0 : Int) < (l.length : Int) := by omega
      have b1 : (1 : Int) ≤ (l.length : Int) := by omega
      clear hc
      by_cases hm : (l.length : Int) ≤ 512
      · cases hx : (l[0] != 0)
        all_goals
          have HX := hid hx
          go_enter Try.func15, Try.ntmps15
          go_wp2_with fail
          refine (form_calls _ _).mono ?_
          rintro e w' ⟨rfl, rfl⟩
          rw [HF.out]
          go_wp2_with fail
          go_ret
          exact ⟨by rw [fine_4 HF.out hn hm, HX.out]; rfl, (Chg.refl _ w).alloc _⟩
      · go_enter Try.func15, Try.ntmps15
        go_wp2_with fail
        refine (form_calls _ _).mono ?_
        rintro e w' ⟨rfl, rfl⟩
        rw [HF.out]
        go_wp2_with fail
        go_ret
        exact ⟨by rw [fine_4' HF.out (by omega)]; rfl, (Chg.refl _ w).alloc _⟩
    · have b0 : ¬ (0 : Int) < (l.length : Int) := by omega
      have b1 : ¬ (1 : Int) ≤ (l.length : Int) := by omega
      go_enter Try.func15, Try.ntmps15
      go_wp2_with fail
      refine (form_calls _ _).mono ?_
      rintro e w' ⟨rfl, rfl⟩
      rw [HF.out]
      go_wp2_with fail
      go_ret
      exact ⟨by rw [fine_4' HF.out (by omega)]; rfl, (Chg.refl _ w).alloc _⟩
  · have HF := hid hf
    clear hf
    go_enter Try.func15, Try.ntmps15
    go_wp2_with fail
    refine (form_calls _ _).mono ?_
    rintro e w' ⟨rfl, rfl⟩
    rw [HF.out]
    go_wp2_with fail
    go_ret
    exact ⟨by rw [fine_0 HF.out]; rfl, (Chg.refl _ w).alloc _⟩


set_option maxHeartbeats 8000000 in
theorem rfine_calls (h : Bs w u l) (t : Int) : Calls Try.prog 16 #[.agg #[.int .i64 t, u]] w (SBool (fineB t l) w) := by
  obtain ⟨p, cap, rfl, h1, h2, h3, h4, h5, h6⟩ := h
  have hll : l.length ≤ 9223372036854775807 := by omega
  have H6 := hid h6
  have H5 := hid h5
  clear h4 h5 h6
  rcases formOf_cases t with hf | hf | hf | hf | hf
  · have HF := hid hf
    clear hf
    by_cases hn : l.length = 1
    · have hn0 : 0 < l.length := by omega
      have HN := hid hn
      have b1 : ((l.length : Int) == 1) = true := by simp [hn]
      have i0 : (0 : Int) < (l.length : Int) := by omega
      clear hn
      obtain ⟨b, o, rfl, hb, hc⟩ := H6.out hn0
      have c0 := hc 0 hn0
      simp only [Nat.add_zero] at c0
      obtain ⟨x0, x1⟩ := H5.out l[0] (List.getElem_mem _)
      clear hc
      by_cases hx : l[0] < 2
      · have hx' : l[0] ≤ 1 := by omega
        go_enter Try.func16, Try.ntmps16
        go_wp2_with fail
        refine (rform_calls _ _).mono ?_
        rintro e w' ⟨rfl, rfl⟩
        rw [HF.out]
        go_wp2_with fail
        go_ret
        exact ⟨by rw [fine_1 HF.out HN.out]; first | (simp [List.getD, HN.out, hx]; done) | (simp [List.getD, HN.out, hx]; omega), (Chg.refl _ w).alloc _⟩
      · have hx' : ¬ l[0] ≤ 1 := by omega
        go_enter Try.func16, Try.ntmps16
        go_wp2_with fail
        refine (rform_calls _ _).mono ?_
        rintro e w' ⟨rfl, rfl⟩
        rw [HF.out]
        go_wp2_with fail
        go_ret
        exact ⟨by rw [fine_1 HF.out HN.out]; first | (simp [List.getD, HN.out, hx]; done) | (simp [List.getD, HN.out, hx]; omega), (Chg.refl _ w).alloc _⟩
    · have b1 : ((l.length : Int) == 1) = false := by simp; omega
      have HN := hid hn
      clear hn
      go_enter Try.func16, Try.ntmps16
      go_wp2_with fail
      refine (rform_calls _ _).mono ?_
      rintro e w' ⟨rfl, rfl⟩
      rw [HF.out]
      go_wp2_with fail
      go_ret
      exact ⟨by rw [fine_1' HF.out HN.out]; rfl, (Chg.refl _ w).alloc _⟩
  · have HF := hid hf
    clear hf
    cases hq : ((l.length : Int) == 4)
    all_goals
      have HQ := hid hq
      go_enter Try.func16, Try.ntmps16
      go_wp2_with fail
      refine (rform_calls _ _).mono ?_
      rintro e w' ⟨rfl, rfl⟩
      rw [HF.out]
      go_wp2_with fail
      go_ret
      exact ⟨by rw [fine_2 HF.out, HQ.out]; rfl, (Chg.refl _ w).alloc _⟩
  · have HF := hid hf
    clear hf
    cases hq : decide ((l.length : Int) ≤ 16384)
    all_goals
      have HQ := hid hq
      go_enter Try.func16, Try.ntmps16
      go_wp2_with fail
      refine (rform_calls _ _).mono ?_
      rintro e w' ⟨rfl, rfl⟩
      rw [HF.out]
      go_wp2_with fail
      go_ret
      exact ⟨by rw [fine_3 HF.out, HQ.out]; rfl, (Chg.refl _ w).alloc _⟩
  · have HF := hid hf
    clear hf
    by_cases hn : 0 < l.length
    · obtain ⟨b, o, rfl, hb, hc⟩ := H6.out hn
      have c0 := hc 0 hn
      simp only [Nat.add_zero] at c0
      obtain ⟨x0, x1⟩ := H5.out l[0] (List.getElem_mem _)
      have b0 : (0 : Int) < (l.length : Int) := by omega
      have b1 : (1 : Int) ≤ (l.length : Int) := by omega
      clear hc
      by_cases hm : (l.length : Int) ≤ 512
      · cases hx : (l[0] != 0)
        all_goals
          have HX := hid hx
          go_enter Try.func16, Try.ntmps16
          go_wp2_with fail
          refine (rform_calls _ _).mono ?_
          rintro e w' ⟨rfl, rfl⟩
          rw [HF.out]
          go_wp2_with fail
          go_ret
          exact ⟨by rw [fine_4 HF.out hn hm, HX.out]; rfl, (Chg.refl _ w).alloc _⟩
      · go_enter Try.func16, Try.ntmps16
        go_wp2_with fail
        refine (rform_calls _ _).mono ?_
        rintro e w' ⟨rfl, rfl⟩
        rw [HF.out]
        go_wp2_with fail
        go_ret
        exact ⟨by rw [fine_4' HF.out (by omega)]; rfl, (Chg.refl _ w).alloc _⟩
    · have b0 : ¬ (0 : Int) < (l.length : Int) := by omega
      have b1 : ¬ (1 : Int) ≤ (l.length : Int) := by omega
      go_enter Try.func16, Try.ntmps16
      go_wp2_with fail
      refine (rform_calls _ _).mono ?_
      rintro e w' ⟨rfl, rfl⟩
      rw [HF.out]
      go_wp2_with fail
      go_ret
      exact ⟨by rw [fine_4' HF.out (by omega)]; rfl, (Chg.refl _ w).alloc _⟩
  · have HF := hid hf
    clear hf
    go_enter Try.func16, Try.ntmps16
    go_wp2_with fail
    refine (rform_calls _ _).mono ?_
    rintro e w' ⟨rfl, rfl⟩
    rw [HF.out]
    go_wp2_with fail
    go_ret
    exact ⟨by rw [fine_0 HF.out]; rfl, (Chg.refl _ w).alloc _⟩

end
end Go.Proofs.Ythmhmgmdajjpmaa
