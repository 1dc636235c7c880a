/- Values are got. -/
import Derived.Test.YthmhmgmdajjpmaaFine
namespace Go.Proofs.Ythmhmgmdajjpmaa
set_option linter.unusedVariables false
set_option linter.unusedSimpArgs false
open Go.RowKit

/-- A list of attributes, opened at each place. -/
theorem Ats.at {w : World} {v : Value} {l : List Av} (h : Ats w v l) : ∃ p cap, v = .slice p l.length cap ∧ l.length ≤ cap ∧ cap ≤ maxLen ∧ (p = none → l = [] ∧ cap = 0) ∧
    ∀ k (hk : k < l.length), ∃ b o q c, p = some ⟨b, o, none⟩ ∧ b < w.heap.size ∧ w.cell? ⟨b, o + k * 2, none⟩ = some (.int .i64 l[k].t) ∧ w.cell? ⟨b, o + k * 2 + 1, none⟩ = some (.slice q l[k].v.length c) ∧ Bs w (.slice q l[k].v.length c) l[k].v := by
  obtain ⟨p, cap, e, h1, h2, h3, h4, h5⟩ := h
  refine ⟨p, cap, e, h1, h2, fun hp => ⟨List.eq_nil_of_length_eq_zero (by have := h3 hp; omega), h3 hp⟩, fun k hk => ?_⟩
  obtain ⟨b, o, rfl, hb, hc⟩ := h5 (by omega)
  obtain ⟨c0, c1⟩ := hc k hk
  have hB := h4 l[k] (List.getElem_mem hk)
  obtain ⟨q, c, hu, r⟩ := hB
  have hB := h4 l[k] (List.getElem_mem hk)
  rw [hu] at c1 hB
  exact ⟨b, o, q, c, rfl, hb, c0, c1, hB⟩

def NoneB {α : Type} (p : α → Bool) (l : List α) (k : Nat) : Prop := ∀ j (hj : j < l.length), j < k → p l[j] = false
theorem noneB_next {α : Type} {p : α → Bool} {l : List α} {k : Nat} (hk : k < l.length) (h : NoneB p l k) (hp : p l[k] = false) : NoneB p l (k + 1) := by
  intro j hj hlt
  by_cases e : j = k
  · subst e; exact hp
  · exact h j hj (by omega)
theorem noneB_0 {α : Type} (p : α → Bool) (l : List α) : NoneB p l 0 := fun _ _ h => by omega
theorem findB_hit {α : Type} {p : α → Bool} {l : List α} {k : Nat} (hk : k < l.length) (h : NoneB p l k) (hp : p l[k] = true) : l.find? p = some l[k] := by
  rw [List.find?_eq_some_iff_getElem]
  exact ⟨hp, k, hk, rfl, fun j hj => by simpa using h j (by omega) hj⟩
theorem findB_miss {α : Type} {p : α → Bool} {l : List α} (h : NoneB p l l.length) : l.find? p = none := by
  rw [List.find?_eq_none]
  intro x hx
  obtain ⟨j, hj, rfl⟩ := List.getElem_of_mem hx
  simp [h j hj hj]

def gotOf (l : List Av) (t : Int) : List Int × Bool := match l.find? (fun x => x.t == t) with | some x => (x.v, true) | none => ([], false)
theorem gotOf_hit {l : List Av} {t : Int} {k : Nat} (hk : k < l.length) (h : NoneB (fun x => x.t == t) l k) (hp : (l[k].t == t) = true) : gotOf l t = (l[k].v, true) := by
  unfold gotOf
  rw [findB_hit hk h hp]
theorem gotOf_miss {l : List Av} {t : Int} (h : NoneB (fun x => x.t == t) l l.length) : gotOf l t = ([], false) := by
  unfold gotOf
  rw [findB_miss h]

/-- What is got. -/
def GotPost (g : List Int × Bool) (w : World) (e : Ending) (w' : World) : Prop :=
  ∃ p cap, e = .returned (.tuple #[.slice p g.1.length cap, .bool g.2]) ∧ Bs w' (.slice p g.1.length cap) g.1 ∧ Same w w'

section
variable {w : World} {v : Value} {l : List Av} {u : Value}

set_option maxHeartbeats 2000000 in
theorem get_calls (h : Ats w v l) (t : Int) : Calls Try.prog 19 #[v, .int .i64 t] w (GotPost (gotOf l t) w) := by
  obtain ⟨p, cap, rfl, h1, h2, h3, h4⟩ := h.at
  have hll : l.length ≤ 9223372036854775807 := by unfold maxLen at h2; omega
  have HR := hid h4
  clear h h3 h4
  go_enter Try.func19, Try.ntmps19
  go_wp2_with fail
  go_loopw [10] (fun i wr => ∃ k : Nat, k ≤ l.length ∧ i = .int .i64 k ∧ Same w wr ∧ NoneB (fun x => x.t == t) l k) (fun i _ => l.length - (intOf i).toNat)
  case atStart => exact ⟨0, Nat.zero_le _, rfl, Chg.refl _ _, noneB_0 _ _⟩
  case round =>
    obtain ⟨k, hk, rfl, hs, hnb⟩ := hrel
    have HN := hid hnb
    have HS := hid hs
    clear hnb hs
    by_cases hlt : k < l.length
    · obtain ⟨b, o, q, c, rfl, hb, c0, c1, hB⟩ := HR.out k hlt
      rw [← HS.out.cell (by exact hb) (fun h => h)] at c0 c1
      have HB := hid (hB.same HS.out)
      clear hB
      cases hp : (l[k].t == t) with
      | false =>
        have hS := hid (fun X => (HS.out.alloc X))
        go_wp2_with fail
        go_roundw
        case rel => exact ⟨k + 1, by omega, by go_num, hS.out _, noneB_next hlt HN.out hp⟩
        case measure => simp [intOf]; omega
      | true =>
        have HG := hid (gotOf_hit hlt HN.out hp)
        go_wp2_with fail
        refine (clone_calls (HB.out.same ((Chg.refl _ wr).alloc _))).mono ?_
        rintro e w1 ⟨v1, rfl, hown, hs1⟩
        have hB1 := Bs.own hown HB.out.byt (by obtain ⟨_, _, _, _, _, hz, _⟩ := HB.out; exact hz)
        obtain ⟨a1, cap1, rfl, -, -⟩ := ownsRow_form hown
        have HB1 := hid hB1
        have HS1 := hid ((HS.out.alloc _).trans hs1 (fun _ h => h.elim))
        clear hB1 hown hs1
        go_wp2_with fail
        go_ret2
        rw [HG.out]
        exact ⟨_, _, rfl, HB1.out, HS1.out⟩
    · have hkl : k = l.length := by omega
      subst hkl
      have HG := hid (gotOf_miss HN.out)
      go_wp2_with fail
      go_ret2
      rw [HG.out]
      exact ⟨_, _, rfl, Bs.nil _, HS.out⟩

set_option maxHeartbeats 2000000 in
theorem rget_calls (h : Ats w v l) (t : Int) : Calls Try.prog 20 #[v, .int .i64 t] w (GotPost (gotOf l t) w) := by
  obtain ⟨p, cap, rfl, h1, h2, h3, h4⟩ := h.at
  have hll : l.length ≤ 9223372036854775807 := by unfold maxLen at h2; omega
  have HR := hid h4
  clear h h3 h4
  go_enter Try.func20, Try.ntmps20
  go_wp2_with fail
  go_loop [6] (fun i => ∃ k : Nat, k ≤ l.length ∧ i = .int .i64 k ∧ NoneB (fun x => x.t == t) l k) (fun i => l.length - (intOf i).toNat)
  case atStart => exact ⟨0, Nat.zero_le _, rfl, noneB_0 _ _⟩
  case round =>
    obtain ⟨k, hk, rfl, hnb⟩ := hrel
    have HN := hid hnb
    clear hnb
    by_cases hlt : k < l.length
    · obtain ⟨b, o, q, c, rfl, hb, c0, c1, hB⟩ := HR.out k hlt
      have HB := hid hB
      clear hB
      cases hp : (l[k].t == t) with
      | false =>
        go_wp2_with fail
        go_round
        case rel => exact ⟨k + 1, by omega, by go_num, noneB_next hlt HN.out hp⟩
        case measure => simp [intOf]; omega
      | true =>
        have HG := hid (gotOf_hit hlt HN.out hp)
        go_wp2_with fail
        go_ret2
        rw [HG.out]
        exact ⟨_, _, rfl, HB.out, Chg.refl _ _⟩
    · have hkl : k = l.length := by omega
      subst hkl
      have HG := hid (gotOf_miss HN.out)
      go_wp2_with fail
      go_ret2
      rw [HG.out]
      exact ⟨_, _, rfl, Bs.nil _, Chg.refl _ _⟩
end
end Go.Proofs.Ythmhmgmdajjpmaa
