/- begun: the walk. -/
import Derived.Test.YthmhmgmdajjpmaaBegun
namespace Go.Proofs.Ythmhmgmdajjpmaa
set_option linter.unusedVariables false
set_option linter.unusedSimpArgs false
open Go.RowKit

theorem len_of_map {l : List Av} {A : List At} (h : l.map Av.at = A) : l.length = A.length := by rw [← h, List.length_map]

set_option maxRecDepth 100000 in
set_option maxHeartbeats 8000000 in
theorem begun_calls (w : World) : Calls Try.prog 8 #[] w (BoolPost true w) := by
  go_enter Try.func8, Try.ntmps8
  go_wp2_with fail
  refine (num_calls w 0 4).mono ?_
  rintro e w1 ⟨v1, rfl, hr1, hs1⟩
  have hB1 := Bs.own hr1 (of32_byt 4) (by decide)
  obtain ⟨a1, c1, rfl, -, -⟩ := ownsRow_form hr1
  have HB1 := hid hB1
  have S1 := hid hs1
  clear hr1 hB1 hs1
  go_wp2_with fail
  refine (put_calls (Ats.nil w1) (by decide) HB1.out 0).mono ?_
  rintro e w2 ⟨p2, L2, c2, rfl, hO2, hM2, hs2⟩
  have hM2' : L2.map Av.at = oneList := by rw [hM2, putOf_at]; exact told_one
  have HO2 := hid hO2.ats
  have HM2 := hid hM2'
  have S2 := hid (S1.out.trans hs2 (fun _ h => h.elim))
  clear hO2 hM2 hM2' hs2
  go_wp2_with fail
  refine (bool_calls w2 1 true).mono ?_
  rintro e w3 ⟨v3, rfl, hr3, hs3⟩
  have hB3 := Bs.own hr3 (by intro x hx; simp at hx; omega) (by decide)
  obtain ⟨a3, c3, rfl, -, -⟩ := ownsRow_form hr3
  have HB3 := hid hB3
  have HO3 := hid (HO2.out.same hs3)
  have S3 := hid (S2.out.trans hs3 (fun _ h => h.elim))
  clear hr3 hB3 hs3
  go_wp2_with fail
  refine (put_calls HO3.out (by have := len_of_map HM2.out; simp [oneList] at this; omega) HB3.out 1).mono ?_
  rintro e w4 ⟨p4, L4, c4, rfl, hO4, hM4, hs4⟩
  have hM4' : L4.map Av.at = twoList := by rw [hM4, putOf_at, HM2.out]; exact told_two
  have HO4 := hid hO4.ats
  have HM4 := hid hM4'
  have S4 := hid (S3.out.trans hs4 (fun _ h => h.elim))
  clear hO4 hM4 hM4' hs4
  go_wp2_with fail
  refine (int_calls HO4.out 0).mono ?_
  rintro e w5 ⟨he5, hs5⟩
  rw [gotOf_at, HM4.out, told_num] at he5
  subst he5
  have HO5 := hid (HO4.out.same hs5)
  have S5 := hid (S4.out.trans hs5 (fun _ h => h.elim))
  clear hs5
  go_wp2_with fail
  refine (encode_calls HO5.out).mono ?_
  rintro e w6 ⟨p6, c6, he6, hB6, hs6⟩
  rw [encG_at, HM4.out, told_enc] at he6 hB6
  subst he6
  have HB6 := hid hB6
  have HO6 := hid (HO5.out.same hs6)
  have S6 := hid (S5.out.trans hs6 (fun _ h => h.elim))
  clear hs6 hB6
  go_wp2_with fail
  refine (decode_calls HB6.out).mono ?_
  rintro e w7 ⟨p7, L7, c7, he7, hO7, hM7, hs7⟩
  rw [told_dec] at he7 hM7
  subst he7
  have HL7 := hid (len_of_map hM7)
  have HT7 := hid hO7.ats
  have HM7 := hid hM7
  have HO7 := hid (HO6.out.same hs7)
  have S7 := hid (S6.out.trans hs7 (fun _ h => h.elim))
  clear hs7 hO7 hM7
  go_wp2_with fail
  refine (get_calls HO7.out 1).mono ?_
  rintro e w8 ⟨p8, c8, he8, hB8, hs8⟩
  rw [gotOf_at, HM4.out, told_get] at he8
  subst he8
  have HT8 := hid (HT7.out.same hs8)
  have HO8 := hid (HO7.out.same hs8)
  have S8 := hid (S7.out.trans hs8 (fun _ h => h.elim))
  clear hs8 hB8
  go_wp2_with fail
  refine (types_calls w8).mono ?_
  rintro e w9 ⟨rfl, rfl⟩
  have hfn : ∀ (cs : Array Value) (W : World), (binOp .neq 32 (.func (.func 37) #[] cs) .nilFunc).run Try.prog W = .ok (.bool true) W := by intro cs W; kernel_rfl
  have hl7 : ((L7.length : Int) == 2) = true := by rw [HL7.out]; rfl
  go_wp2_with fail
  refine (flag_calls HO8.out 1).mono ?_
  rintro e w10 ⟨he10, hs10⟩
  rw [gotOf_at, HM4.out, told_flag] at he10
  subst he10
  have HT10 := hid (HT8.out.same hs10)
  have HO10 := hid (HO8.out.same hs10)
  have S10 := hid (S8.out.trans hs10 (fun _ h => h.elim))
  clear hs10
  go_wp2_with fail
  refine (match_calls HO10.out HT10.out).mono ?_
  rintro e w11 ⟨he11, hs11⟩
  rw [matchOf_at, HM4.out, HM7.out, told_match] at he11
  subst he11
  have S11 := hid (S10.out.trans hs11 (fun _ h => h.elim))
  have hT11 := HT10.out.same hs11
  obtain ⟨p, cap, hq, -, -, -, hx⟩ := hT11.at
  have hl0 : 0 < L7.length := by rw [HL7.out]; decide
  obtain ⟨b, o, q, c, hp, hb, c0, c1, hB⟩ := hx 0 hl0
  have h70 : L7[0].at = ⟨0, [0, 0, 0, 4]⟩ := by
    have h1 : (L7.map Av.at)[0]? = twoList[0]? := by rw [HM7.out]
    simpa [hl0, twoList] using h1
  have h7t : L7[0].t = 0 := congrArg At.t h70
  have h7v : L7[0].v = [0, 0, 0, 4] := congrArg At.v h70
  rw [h7t] at c0
  rw [h7v] at c1 hB
  cases hq
  subst hp
  have HB11 := hid hB
  have j0 : (0 : Int) < (L7.length : Int) := by omega
  simp only [Nat.zero_mul, Nat.add_zero] at c0 c1
  clear hs11 hT11 hx h70 h7t h7v hB
  go_wp2_with fail
  refine (form_calls w11 3).mono ?_
  rintro e w12 ⟨rfl, rfl⟩
  rw [form3]
  go_wp2_with fail
  refine (fine_calls HB11.out 0).mono ?_
  rintro e w13 ⟨he13, hs13⟩
  rw [told_fine] at he13
  subst he13
  have S13 := hid (S11.out.trans hs13 (fun _ h => h.elim))
  clear hs13 c0 c1
  go_wp2_with fail
  go_ret
  exact ⟨rfl, S13.out⟩
end Go.Proofs.Ythmhmgmdajjpmaa
