/- Numbers and truths are got. -/
import Derived.Test.YthmhmgmdajjpmaaGet
namespace Go.Proofs.Ythmhmgmdajjpmaa
set_option linter.unusedVariables false
set_option linter.unusedSimpArgs false
open Go.RowKit

def numIn (l : List Int) : Int × Bool := if h : l.length = 4 then (num4 l[0] l[1] l[2] l[3], true) else (0, false)

/-- A number that is got. -/
def NumPost (g : Int × Bool) (w : World) (e : Ending) (w' : World) : Prop := e = .returned (.tuple #[.int .i64 g.1, .bool g.2]) ∧ Same w w'

theorem gotOf_false {l : List Av} {t : Int} (h : (gotOf l t).2 = false) : (gotOf l t).1 = [] := by
  unfold gotOf at h ⊢
  split
  · rename_i he
    rw [he] at h
    cases h
  · rfl

section
variable {w : World} {v : Value} {l : List Av} {u : Value}

set_option maxHeartbeats 2000000 in
theorem int_calls (h : Ats w v l) (t : Int) : Calls Try.prog 21 #[v, .int .i64 t] w (NumPost (numIn (gotOf l t).1) w) := by
  have H := hid h
  obtain ⟨p, cap, rfl, h1, h2, h3, h4⟩ := h.at
  clear h h3 h4
  go_enter Try.func21, Try.ntmps21
  go_wp2_with fail
  refine (get_calls H.out t).mono ?_
  rintro e w1 ⟨p1, cap1, rfl, hB, hs⟩
  generalize gotOf l t = g at *
  obtain ⟨g, ok⟩ := g
  simp only at hB
  simp only
  have HB := hid hB
  have HS := hid hs
  have hlen : g.length ≤ 9223372036854775807 := by obtain ⟨_, _, _, _, _, hz, _⟩ := hB; omega
  clear hB hs
  by_cases hn : g.length = 4
  · have hn4 : 4 ≤ g.length := by omega
    have b1 : ((g.length : Int) != 4) = false := by simp [hn]
    have HN := hid hn
    clear hn
    have HV := hid (show numIn g = (num4 g[0] g[1] g[2] g[3], true) by unfold numIn; rw [dif_pos HN.out])
    have hby := HB.out.byt
    have y0 := hby g[0] (List.getElem_mem _)
    have y1 := hby g[1] (List.getElem_mem _)
    have y2 := hby g[2] (List.getElem_mem _)
    have y3 := hby g[3] (List.getElem_mem _)
    have z0 : 0 ≤ num4 g[0] g[1] g[2] g[3] := by unfold num4; omega
    have z1 : num4 g[0] g[1] g[2] g[3] < 4294967296 := by unfold num4; omega
    clear hby y0 y1 y2 y3
    go_wp2_with fail
    refine (get32_calls HB.out hn4).mono ?_
    rintro e w2 ⟨rfl, hs2⟩
    have HS2 := hid (HS.out.trans hs2 (fun _ h => h.elim))
    clear hs2
    go_wp2_with fail
    go_ret2
    exact ⟨by rw [HV.out]; rfl, HS2.out⟩
  · have b1 : ((g.length : Int) != 4) = true := by simp; omega
    have HV := hid (show numIn g = (0, false) by unfold numIn; rw [dif_neg hn])
    clear hn
    go_wp2_with fail
    go_ret2
    exact ⟨by rw [HV.out]; rfl, HS.out⟩

set_option maxHeartbeats 4000000 in
theorem rint_calls (h : Ats w v l) (t : Int) : Calls Try.prog 22 #[v, .int .i64 t] w (NumPost (numIn (gotOf l t).1) w) := by
  have H := hid h
  obtain ⟨p, cap, rfl, h1, h2, h3, h4⟩ := h.at
  clear h h3 h4
  go_enter Try.func22, Try.ntmps22
  go_wp2_with fail
  refine (rget_calls H.out t).mono ?_
  rintro e w1 ⟨p1, cap1, rfl, hB, hs⟩
  have hF := gotOf_false (l := l) (t := t)
  generalize gotOf l t = g at *
  obtain ⟨g, ok⟩ := g
  simp only at hB hF
  simp only
  have HB := hid hB
  have HS := hid hs
  have HF := hid hF
  have hlen : g.length ≤ 9223372036854775807 := by obtain ⟨_, _, _, _, _, hz, _⟩ := hB; omega
  clear hB hs hF
  cases ok with
  | false =>
    obtain rfl := HF.out rfl
    go_wp2_with fail
    go_ret2
    exact ⟨rfl, HS.out⟩
  | true =>
    by_cases hn : g.length = 4
    · have hn4 : 4 ≤ g.length := by omega
      have b1 : ((g.length : Int) != 4) = false := by simp [hn]
      have HN := hid hn
      clear hn
      have HV := hid (show numIn g = (num4 g[0] g[1] g[2] g[3], true) by unfold numIn; rw [dif_pos HN.out])
      obtain ⟨q, c, hq, k1, k2, k3, k4, h5, h6⟩ := HB.out
      obtain ⟨b, o, rfl, hb, hc⟩ := h6 (by omega)
      cases hq
      have c0 := hc 0 (by omega)
      have c1 := hc 1 (by omega)
      have c2 := hc 2 (by omega)
      have c3 := hc 3 (by omega)
      simp only [Nat.add_zero] at c0
      obtain ⟨x0, x1⟩ := h5 g[0] (List.getElem_mem _)
      obtain ⟨y0, y1⟩ := h5 g[1] (List.getElem_mem _)
      obtain ⟨z0, z1⟩ := h5 g[2] (List.getElem_mem _)
      obtain ⟨t0, t1⟩ := h5 g[3] (List.getElem_mem _)
      have i1 : (1 : Int) < (g.length : Int) := by omega
      have i0 : (0 : Int) < (g.length : Int) := by omega
      have i2 : (2 : Int) < (g.length : Int) := by omega
      have i3 : (3 : Int) < (g.length : Int) := by omega
      have E := hid (i64_or_add x0 x1 y0 y1 z0 z1 t0 t1)
      clear hc h5 h6 k4
      go_wp2_with fail
      go_quiet (fail)
      go_wp2_with fail
      go_ret2
      exact ⟨by rw [HV.out, ← E.out]; rfl, HS.out.drewN _⟩
    · have b1 : ((g.length : Int) != 4) = true := by simp; omega
      have HV := hid (show numIn g = (0, false) by unfold numIn; rw [dif_neg hn])
      clear hn
      go_wp2_with fail
      go_ret2
      exact ⟨by rw [HV.out]; rfl, HS.out⟩

def truthIn (l : List Int) : Bool := if h : l.length = 1 then l[0] == 1 else false

set_option maxHeartbeats 4000000 in
theorem flag_calls (h : Ats w v l) (t : Int) : Calls Try.prog 24 #[v, .int .i64 t] w (SBool (truthIn (gotOf l t).1) w) := by
  have H := hid h
  obtain ⟨p, cap, rfl, h1, h2, h3, h4⟩ := h.at
  clear h h3 h4
  go_enter Try.func24, Try.ntmps24
  go_wp2_with fail
  refine (get_calls H.out t).mono ?_
  rintro e w1 ⟨p1, cap1, rfl, hB, hs⟩
  generalize gotOf l t = g at *
  obtain ⟨g, ok⟩ := g
  simp only at hB
  simp only
  have HB := hid hB
  have HS := hid hs
  have hlen : g.length ≤ 9223372036854775807 := by obtain ⟨_, _, _, _, _, hz, _⟩ := hB; omega
  clear hB hs
  by_cases hn : g.length = 1
  · have hn4 : 0 < g.length := by omega
    have b1 : ((g.length : Int) == 1) = true := by simp [hn]
    have HN := hid hn
    clear hn
    have HV := hid (show truthIn g = (g[0] == 1) by unfold truthIn; rw [dif_pos HN.out])
    obtain ⟨q, c, hq, k1, k2, k3, k4, h5, h6⟩ := HB.out
    obtain ⟨b, o, rfl, hb, hc⟩ := h6 (by omega)
    cases hq
    have c0 := hc 0 (by omega)
    simp only [Nat.add_zero] at c0
    obtain ⟨x0, x1⟩ := h5 g[0] (List.getElem_mem _)
    have i0 : (0 : Int) < (g.length : Int) := by omega
    clear hc h5 h6 k4
    cases hp : (g[0] == 1)
    all_goals
      have HP := hid hp
      go_wp2_with fail
      go_ret
      exact ⟨by rw [HV.out, HP.out]; rfl, HS.out⟩
  · have b1 : ((g.length : Int) == 1) = false := by simp; omega
    have HV := hid (show truthIn g = false by unfold truthIn; rw [dif_neg hn])
    clear hn
    go_wp2_with fail
    go_ret
    exact ⟨by rw [HV.out]; rfl, HS.out⟩

set_option maxHeartbeats 4000000 in
theorem rflag_calls (h : Ats w v l) (t : Int) : Calls Try.prog 25 #[v, .int .i64 t] w (SBool (truthIn (gotOf l t).1) w) := by
  have H := hid h
  obtain ⟨p, cap, rfl, h1, h2, h3, h4⟩ := h.at
  clear h h3 h4
  go_enter Try.func25, Try.ntmps25
  go_wp2_with fail
  refine (rget_calls H.out t).mono ?_
  rintro e w1 ⟨p1, cap1, rfl, hB, hs⟩
  have hF := gotOf_false (l := l) (t := t)
  generalize gotOf l t = g at *
  obtain ⟨g, ok⟩ := g
  simp only at hB hF
  simp only
  have HB := hid hB
  have HS := hid hs
  have HF := hid hF
  have hlen : g.length ≤ 9223372036854775807 := by obtain ⟨_, _, _, _, _, hz, _⟩ := hB; omega
  clear hB hs hF
  cases ok with
  | false =>
    obtain rfl := HF.out rfl
    go_wp2_with fail
    go_ret
    exact ⟨rfl, HS.out⟩
  | true =>
    by_cases hn : g.length = 1
    · have hn4 : 0 < g.length := by omega
      have b1 : ((g.length : Int) == 1) = true := by simp [hn]
      have HN := hid hn
      clear hn
      have HV := hid (show truthIn g = (g[0] == 1) by unfold truthIn; rw [dif_pos HN.out])
      obtain ⟨q, c, hq, k1, k2, k3, k4, h5, h6⟩ := HB.out
      obtain ⟨b, o, rfl, hb, hc⟩ := h6 (by omega)
      cases hq
      have c0 := hc 0 (by omega)
      simp only [Nat.add_zero] at c0
      obtain ⟨x0, x1⟩ := h5 g[0] (List.getElem_mem _)
      have i0 : (0 : Int) < (g.length : Int) := by omega
      clear hc h5 h6 k4
      cases hp : (g[0] == 1)
      all_goals
        have HP := hid hp
        go_wp2_with fail
        go_ret
        exact ⟨by rw [HV.out, HP.out]; rfl, HS.out⟩
    · have b1 : ((g.length : Int) == 1) = false := by simp; omega
      have HV := hid (show truthIn g = false by unfold truthIn; rw [dif_neg hn])
      clear hn
      go_wp2_with fail
      go_ret
      exact ⟨by rw [HV.out]; rfl, HS.out⟩
end
end Go.Proofs.Ythmhmgmdajjpmaa
