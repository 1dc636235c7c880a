/- Lists go to bytes and back: the walk. -/
import Derived.Test.YthmhmgmdajjpmaaBegun2
namespace Go.Proofs.Ythmhmgmdajjpmaa
set_option linter.unusedVariables false
set_option linter.unusedSimpArgs false
open Go.RowKit

theorem getD_append_left' (a b : List Int) (i : Nat) (h : i < a.length) : (a ++ b).getD i 0 = a.getD i 0 := by
  simp [List.getD, List.getElem?_append_left h]

theorem decStep_enc {x : Av} (hf : fineE x = true) (r : List Int) : decStep (encB x ++ r) = some (x.at, r) := by
  simp only [fineE, Bool.and_eq_true, decide_eq_true_eq] at hf
  obtain ⟨⟨h0, h1⟩, h2⟩ := hf
  obtain ⟨t, v, u⟩ := x
  simp only at h0 h1 h2
  have e : encB ⟨t, v, u⟩ ++ r = (t / 256 % 256) :: (t % 256) :: ((v.length : Int) / 256 % 256) :: ((v.length : Int) % 256) :: (v ++ r) := by simp [encB, of16]
  rw [e]
  have n0 : n16 ((t / 256 % 256) :: (t % 256) :: ((v.length : Int) / 256 % 256) :: ((v.length : Int) % 256) :: (v ++ r)) 0 = t.toNat := by
    unfold n16
    simp only [List.getD_cons_zero, List.getD_cons_succ, Nat.zero_add]
    omega
  have n2 : n16 ((t / 256 % 256) :: (t % 256) :: ((v.length : Int) / 256 % 256) :: ((v.length : Int) % 256) :: (v ++ r)) 2 = v.length := by
    unfold n16
    simp only [List.getD_cons_zero, List.getD_cons_succ]
    omega
  rw [decStep_ok ⟨by simp, by rw [n2]; simp, by rw [n2]; exact h2⟩, n0, n2]
  simp only [List.drop_succ_cons, List.drop_zero, List.take_left, List.drop_left]
  congr 2
  show (⟨(t.toNat : Int), v⟩ : At) = ⟨t, v⟩
  rw [Int.toNat_of_nonneg h0]

theorem decF_enc : ∀ (L : List Av) (f : Nat), L.length ≤ f → L.all fineE = true → decF f (L.flatMap encB) = some (L.map Av.at)
  | [], f, _, _ => decF_nil f
  | x :: L, 0, h, _ => by simp at h
  | x :: L, f + 1, h, hf => by
    rw [List.all_cons, Bool.and_eq_true] at hf
    rw [List.flatMap_cons, decF_ok (by rw [List.length_append, encB_length]; omega) (decStep_enc hf.1 _), decF_enc L f (by simpa using h) hf.2]
    rfl

theorem dec_enc {L : List Av} (h : (encG L).2 = true) : decG (encG L).1 = (L.map Av.at, true) := by
  unfold encG at h ⊢
  split at h
  · rename_i hc
    rw [if_pos hc]
    unfold decG
    rw [decF_enc L 64 hc.1 hc.2]
  · cases h

theorem eqAts_self (l m : List Av) (h : l.map Av.at = m.map Av.at) : eqAts l m = true := by unfold eqAts; rw [decide_eq_true_iff]; exact h

section
variable {w : World} {v u : Value} {l : List Av} {b : List Int}

set_option maxRecDepth 100000 in
set_option maxHeartbeats 16000000 in
theorem code_calls (h : Ats w v l) (hb : Bs w u b) : Calls Try.prog 6 #[v, u] w (BoolPost true w) := by
  have H := hid h
  have HB := hid hb
  obtain ⟨p0, cp0, rfl, -⟩ := id h
  obtain ⟨p1, cp1, rfl, -⟩ := id hb
  clear h hb
  go_enter Try.func6, Try.ntmps6
  go_wp2_with fail
  refine (begun_calls w).mono ?_
  rintro e w1 ⟨rfl, hs1⟩
  have S1 := hid hs1
  clear hs1
  go_wp2_with fail
  refine (cut_calls (H.out.same S1.out) 70 60 (by decide) (by decide)).mono ?_
  rintro e w2 ⟨p2, L, c2, rfl, hO2, hM2, hs2⟩
  have HO2 := hid hO2.ats
  have HLN := hid (show L.length ≤ 70 by have := len_of_map hM2; rw [this]; unfold cutOf; rw [List.length_map]; exact List.length_take_le _ _)
  have S2 := hid (S1.out.trans hs2 (fun _ h => h.elim))
  clear hO2 hM2 hs2
  go_wp2_with fail
  refine (short_calls (HB.out.same S2.out) 200 (by decide)).mono ?_
  rintro e w3 ⟨p3, c3, rfl, hB3, rfl⟩
  generalize b.take 200 = bb at *
  have HB3 := hid hB3
  clear hB3
  go_wp2_with fail
  refine (encode_calls HO2.out).mono ?_
  rintro e w4 ⟨p4, c4, rfl, hB4, hs4⟩
  have HE := hid (dec_enc (L := L))
  have RE : Hid (∀ W, Ats W (.slice p2 L.length c2) L → Calls Try.prog 32 #[.slice p2 L.length c2] W (GotPost (encG L) W)) := fun W hW => rencode_calls hW
  generalize encG L = E at *
  obtain ⟨g, ok⟩ := E
  simp only at hB4 HE
  have HB4 := hid hB4
  have HO4 := hid (HO2.out.same hs4)
  have HB34 := hid (HB3.out.same hs4)
  have S4 := hid (S2.out.trans hs4 (fun _ h => h.elim))
  clear hB4 hs4
  go_wp2_with fail
  refine (RE.out _ HO4.out).mono ?_
  rintro e w5 ⟨p5, c5, rfl, hB5, hs5⟩
  have HB5 := hid hB5
  have HB45 := hid (HB4.out.same hs5)
  have HB35 := hid (HB34.out.same hs5)
  have HO5 := hid (HO4.out.same hs5)
  have S5 := hid (S4.out.trans hs5 (fun _ h => h.elim))
  clear hB5 hs5
  go_wp2_with fail
  have RD : Hid (∀ W, Bs W (.slice p3 bb.length c3) bb → Calls Try.prog 34 #[.slice p3 bb.length c3] W (DecPost (decG bb) W)) := fun W hW => rdecode_calls hW
  refine (decode_calls HB35.out).mono ?_
  rintro e w6 ⟨p6, L6, c6, rfl, hO6, hM6, hs6⟩
  generalize decG bb = D at *
  obtain ⟨dl, dok⟩ := D
  simp only at hM6
  have HO6 := hid hO6.ats
  have HM6 := hid hM6
  have HB46 := hid (HB45.out.same hs6)
  have HB56 := hid (HB5.out.same hs6)
  have HB36 := hid (HB35.out.same hs6)
  have HOO6 := hid (HO5.out.same hs6)
  have S6 := hid (S5.out.trans hs6 (fun _ h => h.elim))
  clear hO6 hM6 hs6
  go_wp2_with fail
  refine (RD.out _ HB36.out).mono ?_
  rintro e w7 ⟨p7, L7, c7, rfl, hO7, hM7, hs7⟩
  simp only at hM7
  have HO7 := hid hO7.ats
  have HEQ := hid (eqAts_self L6 L7 (HM6.out.trans hM7.symm))
  have HO67 := hid (HO6.out.same hs7)
  have hB47 := HB46.out.same hs7
  have hB57 := HB56.out.same hs7
  have HB47 := hid hB47
  have HOO7 := hid (HOO6.out.same hs7)
  have S7 := hid (S6.out.trans hs7 (fun _ h => h.elim))
  have k1 := hB47.str
  have k2 := hB57.str
  clear hO7 hM7 hs7 hB47 hB57
  go_wp2_with fail
  refine (eq_calls HO67.out HO7.out).mono ?_
  rintro e w8 ⟨he8, hs8⟩
  rw [HEQ.out] at he8
  subst he8
  have HB48 := hid (HB47.out.same hs8)
  have HOO8 := hid (HOO7.out.same hs8)
  have S8 := hid (S7.out.trans hs8 (fun _ h => h.elim))
  clear hs8 k1 k2
  cases ok with
  | false =>
    go_wp2_with fail
    go_ret
    exact ⟨rfl, S8.out⟩
  | true =>
    go_wp2_with fail
    refine (decode_calls HB48.out).mono ?_
    rintro e w9 ⟨p9, L9, c9, he9, hO9, hM9, hs9⟩
    rw [HE.out (by first | trivial | rfl)] at he9 hM9
    subst he9
    have HO9 := hid hO9.ats
    have HEQ9 := hid (eqAts_self L9 L hM9)
    have HOO9 := hid (HOO8.out.same hs9)
    have S9 := hid (S8.out.trans hs9 (fun _ h => h.elim))
    clear hO9 hM9 hs9
    go_wp2_with fail
    refine (eq_calls HO9.out HOO9.out).mono ?_
    rintro e w10 ⟨he10, hs10⟩
    rw [HEQ9.out] at he10
    subst he10
    have S10 := hid (S9.out.trans hs10 (fun _ h => h.elim))
    clear hs10
    go_wp2_with fail
    go_ret
    exact ⟨rfl, S10.out⟩
end
end Go.Proofs.Ythmhmgmdajjpmaa
