/- Bytes as strings; lists that match. -/
import Derived.Test.YthmhmgmdajjpmaaInt
import Derived.Lib.Bytes
namespace Go.Proofs.Ythmhmgmdajjpmaa
set_option linter.unusedVariables false
set_option linter.unusedSimpArgs false
open Go.RowKit

theorem Bs.str {w : World} {p : Option Addr} {n cap : Nat} {l : List Int} (h : Bs w (.slice p n cap) l) : (convert 22 9 (.slice p n cap)).run Try.prog w = .ok (.string (strOfNums l)) w := by
  obtain ⟨q, c, hq, h1, h2, h3, h4, h5, h6⟩ := h
  cases hq
  by_cases hl : 0 < l.length
  · obtain ⟨b, o, rfl, hb, hc⟩ := h6 hl
    exact run_convert_bytes_arg (P := Try.prog) w 22 5 Try.underlying22 Try.underlying5 b o l.length cap l rfl (fun i hi => by rw [hc i hi]; simp [List.getD, hi]) 9 Try.underlying9
  · have : l = [] := List.eq_nil_of_length_eq_zero (by omega)
    subst this
    show (convert 22 9 (.slice p 0 cap)).run Try.prog w = _
    rw [run_convert_bytes_string w 22 9 5 _ 0 cap Try.underlying22 Try.underlying5 Try.underlying9]
    cases p <;> simp [Conv.bytesToString, loadCells]
    all_goals rfl

/-- The same bytes? -/
def eqB (xs ys : List Int) : Bool := decide (xs = ys)

theorem bytesOf_inj : ∀ {xs ys : List Int}, Byt xs → Byt ys → Lib.bytesOf xs = Lib.bytesOf ys → xs = ys
  | [], [], _, _, _ => rfl
  | [], y :: ys, _, _, h => by simp [Lib.bytesOf] at h
  | x :: xs, [], _, _, h => by simp [Lib.bytesOf] at h
  | x :: xs, y :: ys, hx, hy, h => by
    simp only [Lib.bytesOf, List.map_cons, List.cons.injEq] at h
    have h1 := hx x List.mem_cons_self
    have h2 := hy y List.mem_cons_self
    have e : x.toNat = y.toNat := by
      have := congrArg UInt8.toNat h.1
      rw [UInt8.toNat_ofNat', UInt8.toNat_ofNat'] at this
      omega
    rw [bytesOf_inj (fun z hz => hx z (List.mem_cons_of_mem _ hz)) (fun z hz => hy z (List.mem_cons_of_mem _ hz)) h.2]
    congr 1
    omega

theorem str_eq {xs ys : List Int} (hx : Byt xs) (hy : Byt ys) : ((strOfNums xs).toList == (strOfNums ys).toList) = eqB xs ys := by
  rw [Lib.strOfNums_toList, Lib.strOfNums_toList]
  unfold eqB
  rw [Bool.eq_iff_iff, beq_iff_eq, decide_eq_true_iff]
  exact ⟨bytesOf_inj hx hy, fun h => by rw [h]⟩

set_option maxHeartbeats 2000000 in
theorem equal_calls {w : World} {u v : Value} {xs ys : List Int} (hx : Bs w u xs) (hy : Bs w v ys) : Calls Try.prog 42 #[u, v] w (KBool (eqB xs ys) w) := by
  have HE := hid (str_eq hx.byt hy.byt)
  obtain ⟨p, c, rfl, -⟩ := id hx
  obtain ⟨q, d, rfl, -⟩ := id hy
  have k1 := hx.str
  have k2 := hy.str
  clear hx hy
  go_enter Try.func42, Try.ntmps42
  go_wp2_with fail
  go_ret
  exact ⟨by rw [← HE.out]; rfl, rfl⟩

def matchOf (o t : List Av) : Bool := t.all fun a => (gotOf o a.t).2 && eqB (gotOf o a.t).1 a.v

def AllB {α : Type} (p : α → Bool) (l : List α) (k : Nat) : Prop := ∀ j (hj : j < l.length), j < k → p l[j] = true
theorem allB_next {α : Type} {p : α → Bool} {l : List α} {k : Nat} (hk : k < l.length) (h : AllB p l k) (hp : p l[k] = true) : AllB p l (k + 1) := by
  intro j hj hlt
  by_cases e : j = k
  · subst e; exact hp
  · exact h j hj (by omega)
theorem allB_0 {α : Type} (p : α → Bool) (l : List α) : AllB p l 0 := fun _ _ h => by omega
theorem allB_end {α : Type} {p : α → Bool} {l : List α} (h : AllB p l l.length) : l.all p = true := by
  rw [List.all_eq_true]
  intro x hx
  obtain ⟨j, hj, rfl⟩ := List.getElem_of_mem hx
  exact h j hj hj
theorem allB_not {α : Type} {p : α → Bool} {l : List α} {k : Nat} (hk : k < l.length) (hp : p l[k] = false) : l.all p = false := by
  rw [List.all_eq_false]
  exact ⟨_, List.getElem_mem hk, by simp [hp]⟩

section
variable {w : World} {v v' : Value} {o t : List Av}

set_option maxHeartbeats 4000000 in
theorem match_calls (h : Ats w v o) (h' : Ats w v' t) : Calls Try.prog 28 #[v, v'] w (SBool (matchOf o t) w) := by
  have H := hid h
  obtain ⟨p0, cap0, rfl, -⟩ := id h
  obtain ⟨p, cap, rfl, h1, h2, h3, h4⟩ := h'.at
  have hll : t.length ≤ 9223372036854775807 := by unfold maxLen at h2; omega
  have HR := hid h4
  clear h h' h3 h4
  go_enter Try.func28, Try.ntmps28
  go_wp2_with fail
  go_loopw [11] (fun i wr => ∃ k : Nat, k ≤ t.length ∧ i = .int .i64 k ∧ Same w wr ∧ AllB (fun a => (gotOf o a.t).2 && eqB (gotOf o a.t).1 a.v) t k) (fun i _ => t.length - (intOf i).toNat)
  case atStart => exact ⟨0, Nat.zero_le _, rfl, Chg.refl _ _, allB_0 _ _⟩
  case round =>
    obtain ⟨k, hk, rfl, hs, hnb⟩ := hrel
    have HN := hid hnb
    have HS := hid hs
    clear hnb hs
    by_cases hlt : k < t.length
    · obtain ⟨b, o1, q, c, rfl, hb, c0, c1, hB⟩ := HR.out k hlt
      rw [← HS.out.cell (by exact hb) (fun h => h)] at c0 c1
      have HB := hid (hB.same HS.out)
      clear hB
      go_wp2_with fail
      refine (get_calls (H.out.same (HS.out.alloc _)) _).mono ?_
      rintro e w1 ⟨p1, cap1, rfl, hB1, hs1⟩
      have hx1 := hs1.new
      have c6 : w1.cell? ⟨wr.heap.size, 1, none⟩ = some (.slice q t[k].v.length c) := by rw [cell_of_heap hx1]; rfl
      have HS1 := hid ((HS.out.alloc _).trans hs1 (fun _ h => h.elim))
      have HB0 := hid (HB.out.same (((Chg.refl _ wr).alloc _).trans hs1 (fun _ h => h.elim)))
      have HB1 := hid hB1
      clear hB1 hs1 hx1
      cases hp : (gotOf o t[k].t).2 with
      | false =>
        have HV := hid (allB_not (p := fun a => (gotOf o a.t).2 && eqB (gotOf o a.t).1 a.v) hlt (by simp [hp]))
        go_wp2_with fail
        go_ret
        exact ⟨by unfold matchOf; rw [HV.out]; rfl, HS1.out⟩
      | true =>
        go_wp2_with fail
        refine (equal_calls HB1.out HB0.out).mono ?_
        rintro e w2 ⟨rfl, rfl⟩
        cases hq : eqB (gotOf o t[k].t).1 t[k].v with
        | false =>
          have HV := hid (allB_not (p := fun a => (gotOf o a.t).2 && eqB (gotOf o a.t).1 a.v) hlt (by simp [hp, hq]))
          go_wp2_with fail
          go_ret
          exact ⟨by unfold matchOf; rw [HV.out]; rfl, HS1.out⟩
        | true =>
          have HV := hid (allB_next hlt HN.out (by simp [hp, hq]))
          go_wp2_with fail
          go_roundw
          case rel => exact ⟨k + 1, by omega, by go_num, HS1.out, HV.out⟩
          case measure => simp [intOf]; omega
    · have hkl : k = t.length := by omega
      subst hkl
      go_wp2_with fail
      go_ret
      exact ⟨by unfold matchOf; rw [allB_end HN.out]; rfl, HS.out⟩

set_option maxHeartbeats 4000000 in
theorem rmatch_calls (h : Ats w v o) (h' : Ats w v' t) : Calls Try.prog 29 #[v, v'] w (SBool (matchOf o t) w) := by
  have H := hid h
  obtain ⟨p0, cap0, rfl, -⟩ := id h
  obtain ⟨p, cap, rfl, h1, h2, h3, h4⟩ := h'.at
  have hll : t.length ≤ 9223372036854775807 := by unfold maxLen at h2; omega
  have HR := hid h4
  clear h h' h3 h4
  go_enter Try.func29, Try.ntmps29
  go_wp2_with fail
  go_loopw [5] (fun i wr => ∃ k : Nat, k ≤ t.length ∧ i = .int .i64 k ∧ Same w wr ∧ AllB (fun a => (gotOf o a.t).2 && eqB (gotOf o a.t).1 a.v) t k) (fun i _ => t.length - (intOf i).toNat)
  case atStart => exact ⟨0, Nat.zero_le _, rfl, Chg.refl _ _, allB_0 _ _⟩
  case round =>
    obtain ⟨k, hk, rfl, hs, hnb⟩ := hrel
    have HN := hid hnb
    have HS := hid hs
    clear hnb hs
    by_cases hlt : k < t.length
    · obtain ⟨b, o1, q, c, rfl, hb, c0, c1, hB⟩ := HR.out k hlt
      rw [← HS.out.cell (by exact hb) (fun h => h)] at c0 c1
      have HB := hid (hB.same HS.out)
      have hbr : b < wr.heap.size := Nat.lt_of_lt_of_le hb HS.out.size
      have i1 : (k : Int) < (t.length : Int) := by omega
      clear hB
      go_wp2_with fail
      refine (rget_calls (H.out.same HS.out) _).mono ?_
      rintro e w1 ⟨p1, cap1, rfl, hB1, hs1⟩
      rw [← hs1.cell (by exact hbr) (fun h => h)] at c0 c1
      have HS1 := hid (HS.out.trans hs1 (fun _ h => h.elim))
      have hB0 := HB.out.same hs1
      have k1 := fun n => (hB1.same ((Chg.refl _ w1).drewN n)).str
      have k2 := fun n => (hB0.same ((Chg.refl _ w1).drewN n)).str
      have HE := hid (str_eq hB1.byt hB0.byt)
      have hS := hid (fun n => HS1.out.drewN n)
      clear hB1 hs1 hB0
      cases hp : (gotOf o t[k].t).2 with
      | false =>
        have HV := hid (allB_not (p := fun a => (gotOf o a.t).2 && eqB (gotOf o a.t).1 a.v) hlt (by simp [hp]))
        go_wp2_with fail
        go_quiet (fail)
        go_wp2_with fail
        go_ret
        exact ⟨by unfold matchOf; rw [HV.out]; rfl, hS.out _⟩
      | true =>
        cases hq : eqB (gotOf o t[k].t).1 t[k].v with
        | false =>
          have HV := hid (allB_not (p := fun a => (gotOf o a.t).2 && eqB (gotOf o a.t).1 a.v) hlt (by simp [hp, hq]))
          have e1 := HE.out.trans hq
          go_wp2_with fail
          go_quiet (fail)
          go_wp2_with fail
          go_ret
          exact ⟨by unfold matchOf; rw [HV.out]; rfl, hS.out _⟩
        | true =>
          have HV := hid (allB_next hlt HN.out (by simp [hp, hq]))
          have e1 := HE.out.trans hq
          go_wp2_with fail
          go_quiet (fail)
          go_wp2_with fail
          go_roundw
          case rel => exact ⟨k + 1, by omega, by go_num, hS.out _, HV.out⟩
          case measure => simp [intOf]; omega
    · have hkl : k = t.length := by omega
      subst hkl
      go_wp2_with fail
      go_ret
      exact ⟨by unfold matchOf; rw [allB_end HN.out]; rfl, HS.out⟩
end
end Go.Proofs.Ythmhmgmdajjpmaa
