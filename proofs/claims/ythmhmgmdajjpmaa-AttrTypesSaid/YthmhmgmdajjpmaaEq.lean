/- The same lists; what is cut short. -/
import Derived.Test.YthmhmgmdajjpmaaStr
namespace Go.Proofs.Ythmhmgmdajjpmaa
set_option linter.unusedVariables false
set_option linter.unusedSimpArgs false
open Go.RowKit

def eqAts (l m : List Av) : Bool := decide (l.map Av.at = m.map Av.at)

def SameTo (l m : List Av) (k : Nat) : Prop := ∀ j (h : j < l.length) (h' : j < m.length), j < k → l[j].at = m[j].at
theorem sameTo_next {l m : List Av} {k : Nat} (hx : k < l.length) (hy : k < m.length) (h : SameTo l m k) (he : l[k].at = m[k].at) : SameTo l m (k + 1) := by
  intro j h1 h2 hj
  by_cases e : j = k
  · subst e; exact he
  · exact h j h1 h2 (by omega)
theorem sameTo_all {l m : List Av} (hl : l.length = m.length) (h : SameTo l m l.length) : eqAts l m = true := by
  unfold eqAts
  rw [decide_eq_true_iff]
  refine List.ext_getElem (by simpa using hl) fun i h1 h2 => ?_
  rw [List.getElem_map, List.getElem_map]
  exact h i (by simpa using h1) (by simpa using h2) (by simpa using h1)
theorem sameTo_not {l m : List Av} {k : Nat} (hx : k < l.length) (hy : k < m.length) (he : l[k].at ≠ m[k].at) : eqAts l m = false := by
  unfold eqAts
  rw [decide_eq_false_iff_not]
  intro h
  apply he
  have h1 : (l.map Av.at)[k]? = (m.map Av.at)[k]? := by rw [h]
  simpa [hx, hy] using h1
theorem sameTo_len {l m : List Av} (h : l.length ≠ m.length) : eqAts l m = false := by
  unfold eqAts
  rw [decide_eq_false_iff_not]
  intro e
  apply h
  have := congrArg List.length e
  simpa using this

section
variable {w : World} {v v' : Value} {l m : List Av} {u : Value}

set_option maxHeartbeats 4000000 in
theorem eq_calls (h : Ats w v l) (h' : Ats w v' m) : Calls Try.prog 26 #[v, v'] w (SBool (eqAts l m) w) := by
  obtain ⟨p0, cap0, rfl, g1, g2, g3, g4⟩ := h.at
  obtain ⟨p, cap, rfl, h1, h2, h3, h4⟩ := h'.at
  have hll : l.length ≤ 9223372036854775807 := by unfold maxLen at g2; omega
  have hll' : m.length ≤ 9223372036854775807 := by unfold maxLen at h2; omega
  have HR := hid h4
  have HR0 := hid g4
  clear h h' h3 h4 g3 g4
  by_cases hl : l.length = m.length
  · have b1 : ((l.length : Int) != (m.length : Int)) = false := by simp [hl]
    have hle : l.length ≤ m.length := by omega
    have hle' : m.length ≤ l.length := by omega
    have HL := hid hl
    clear hl
    go_enter Try.func26, Try.ntmps26
    go_wp2_with fail
    go_loopw [5] (fun i wr => ∃ k : Nat, k ≤ l.length ∧ i = .int .i64 k ∧ Same w wr ∧ SameTo l m k) (fun i _ => l.length - (intOf i).toNat)
    case atStart => exact ⟨0, Nat.zero_le _, rfl, Chg.refl _ _, fun j _ _ h => by omega⟩
    case round =>
      obtain ⟨k, hk, rfl, hs, hnb⟩ := hrel
      have HN := hid hnb
      have HS := hid hs
      clear hnb hs
      by_cases hlt : k < l.length
      · have hltm : k < m.length := by omega
        obtain ⟨b, o, q, c, rfl, hb, c0, c1, hB⟩ := HR0.out k hlt
        obtain ⟨b', o', q', c', rfl, hb', c0', c1', hB'⟩ := HR.out k hltm
        rw [← HS.out.cell (by exact hb) (fun h => h)] at c0 c1
        rw [← HS.out.cell (by exact hb') (fun h => h)] at c0' c1'
        have i1 : (k : Int) < (l.length : Int) := by omega
        have i2 : (k : Int) < (m.length : Int) := by omega
        have k1 := fun n => ((hB.same HS.out).same ((Chg.refl _ wr).drewN n)).str
        have k2 := fun n => ((hB'.same HS.out).same ((Chg.refl _ wr).drewN n)).str
        have HE := hid (str_eq hB.byt hB'.byt)
        have hS := hid (fun n => HS.out.drewN n)
        clear hB hB'
        cases hp : (l[k].t != m[k].t) with
        | true =>
          have HV := hid (sameTo_not hlt hltm (by intro e; have := congrArg At.t e; simp [Av.at] at this; simp [this] at hp))
          go_wp2_with fail
          go_quiet (fail)
          go_wp2_with fail
          go_ret
          exact ⟨by rw [HV.out]; rfl, hS.out _⟩
        | false =>
          cases hq : eqB l[k].v m[k].v with
          | false =>
            have HV := hid (sameTo_not hlt hltm (by intro e; have := congrArg At.v e; simp [Av.at] at this; unfold eqB at hq; simp [this] at hq))
            have e1 := HE.out.trans hq
            go_wp2_with fail
            go_quiet (fail)
            go_wp2_with fail
            go_ret
            exact ⟨by rw [HV.out]; rfl, hS.out _⟩
          | true =>
            have HV := hid (sameTo_next hlt hltm HN.out (by
              have e1 : l[k].t = m[k].t := by simpa [bne] using hp
              have e2 : l[k].v = m[k].v := by simpa [eqB] using hq
              simp [Av.at, e1, e2]))
            have e1 := HE.out.trans hq
            go_wp2_with fail
            go_quiet (fail)
            go_wp2_with fail
            go_roundw
            case rel => exact ⟨k + 1, by omega, by go_num, hS.out _, HV.out⟩
            case measure => simp [intOf]; omega
      · have hkl : k = l.length := by omega
        subst hkl
        go_wp2_with fail
        go_ret
        exact ⟨by rw [sameTo_all HL.out HN.out]; rfl, HS.out⟩
  · have b1 : ((l.length : Int) != (m.length : Int)) = true := by simp; omega
    have HV := hid (sameTo_len hl)
    clear hl
    go_enter Try.func26, Try.ntmps26
    go_wp2_with fail
    go_ret
    exact ⟨by rw [HV.out]; rfl, Chg.refl _ _⟩

/-- What lies ahead in a slice of bytes. -/
theorem Bs.take {p : Option Addr} {n cap : Nat} {l : List Int} (h : Bs w (.slice p n cap) l) (k : Nat) : Bs w (.slice p (l.take k).length cap) (l.take k) := by
  obtain ⟨q, c, e, h1, h2, h3, h4, h5, h6⟩ := h
  cases e
  have hl : (l.take k).length ≤ l.length := List.length_take_le' _ _
  refine ⟨p, cap, rfl, by omega, h2, by omega, h4, fun x hx => h5 x (List.mem_of_mem_take hx), fun h0 => ?_⟩
  obtain ⟨b, o, e, hb, hc⟩ := h6 (by omega)
  refine ⟨b, o, e, hb, fun i hi => ?_⟩
  rw [hc i (by omega)]
  simp

/-- What is given back as it is. -/
def GivesBytes (l : List Int) (w : World) (e : Ending) (w' : World) : Prop := ∃ p cap, e = .returned (.slice p l.length cap) ∧ Bs w (.slice p l.length cap) l ∧ w = w'

set_option maxHeartbeats 4000000 in
theorem short_calls {l : List Int} (h : Bs w u l) (n : Nat) (hn : n ≤ 1000000) : Calls Try.prog 30 #[u, .int .i64 n] w (GivesBytes (l.take n) w) := by
  have H := hid h
  obtain ⟨p, cap, rfl, h1, h2, h3, h4, h5, h6⟩ := h
  have hll : l.length ≤ 9223372036854775807 := by omega
  have hcc : cap ≤ 9223372036854775807 := by unfold maxLen at h2; omega
  clear h4 h5 h6
  by_cases hlt : n < l.length
  · have e1 : (l.take n).length = n := by simp; omega
    have E1 := hid e1
    have i0 : (0 : Int) ≤ (n : Int) := by omega
    have i1 : (n : Int) ≤ (cap : Int) := by omega
    have i2 : (n : Int) < (l.length : Int) := by omega
    clear e1
    go_enter Try.func30, Try.ntmps30
    go_wp2_with fail
    go_ret
    have hB := H.out.take n
    refine ⟨p, cap, ?_, hB, rfl⟩
    rw [E1.out]
    rfl
  · have e1 : l.take n = l := List.take_of_length_le (by omega)
    have E1 := hid e1
    have i2 : ¬ (n : Int) < (l.length : Int) := by omega
    clear e1
    go_enter Try.func30, Try.ntmps30
    go_wp2_with fail
    go_ret
    rw [E1.out]
    exact ⟨p, cap, rfl, H.out, rfl⟩
end
end Go.Proofs.Ythmhmgmdajjpmaa
