/- What one connection does leaves the other one's session: the plain law, and each call as a step. -/
import Derived.Test.YtlfdcfgpbigjdaaFns6
namespace Go.Proofs.Ytlfdcfgpbigjdaa
set_option linter.unusedVariables false
set_option linter.unusedSimpArgs false
open Go.RowKit

def mine : Se := ⟨1, 77, 1, true⟩

structure Inv (l : List Se) (last : Int) (U : Int → Int → Option Int) (n : Nat) : Prop where
  one : mine ∈ l
  all : ∀ x ∈ l, (x.h = 1 ∨ x.c = 77) → x = mine
  user : U 77 1 = some 1
  vals : ∀ c s v, U c s = some v → 0 ≤ v
  low : 1 ≤ last
  high : last ≤ n + 1
  len : l.length ≤ n + 1

section
variable {l : List Se} {last : Int} {U : Int → Int → Option Int} {n : Nat}

theorem Inv.find (h : Inv l last U n) : findSe l 77 1 = some mine := by
  unfold findSe
  have h1 : (l.find? (fun x => x.h == 1 && x.c == 77)).isSome := by
    rw [List.find?_isSome]
    exact ⟨mine, h.one, by decide⟩
  obtain ⟨x, hx⟩ := Option.isSome_iff_exists.1 h1
  have hm := List.mem_of_find?_eq_some hx
  have hp := List.find?_some hx
  rw [hx, h.all x hm (.inl (by simpa using (Bool.and_eq_true_iff.1 hp).1))]

theorem Inv.state (h : Inv l last U n) : stateOf l U 77 1 = 3 := by
  have e : (U mine.c mine.s).getD (-1) = 1 := by show (U 77 1).getD (-1) = 1; rw [h.user]; rfl
  simp only [stateOf, h.find]
  rw [e]
  rfl

theorem Inv.findOther (h : Inv l last U n) {c : Int} (hc : c ≠ 77) : findSe l c 1 = none := by
  unfold findSe
  rw [List.find?_eq_none]
  intro x hx hp
  simp only [Bool.and_eq_true, beq_iff_eq] at hp
  have := h.all x hx (.inl hp.1)
  rw [this] at hp
  exact hc hp.2.symm

theorem Inv.other (h : Inv l last U n) {c : Int} (hc : c ≠ 77) : stateOf l U c 1 = -1 := by
  simp only [stateOf, h.findOther hc]

theorem Inv.up (h : Inv l last U n) : Inv l last U (n + 1) :=
  ⟨h.one, h.all, h.user, h.vals, h.low, by have := h.high; omega, by have := h.len; omega⟩

theorem Inv.opened (h : Inv l last U n) {c s : Int} {rw : Bool} (hc : c ≠ 77) : Inv (l ++ [⟨last + 1, c, s, rw⟩]) (last + 1) U (n + 1) := by
  refine ⟨List.mem_append_left _ h.one, ?_, h.user, h.vals, by have := h.low; omega, by have := h.high; omega, by have := h.len; simp; omega⟩
  intro x hx hq
  rcases List.mem_append.1 hx with hx | hx
  · exact h.all x hx hq
  · rw [List.mem_singleton.1 hx] at hq
    rcases hq with hq | hq
    · have := h.low
      have h2 : last + 1 = 1 := hq
      omega
    · exact absurd hq hc

theorem Inv.stayed (h : Inv l last U n) {p : Se → Bool} (hp : p mine = false) : Inv (stay p l) last (trimU (stay p l) U) (n + 1) := by
  have hm : mine ∈ stay p l := List.mem_filter.2 ⟨h.one, by rw [hp]; rfl⟩
  refine ⟨hm, fun x hx => h.all x (List.mem_filter.1 hx).1, ?_, ?_, h.low, by have := h.high; omega, ?_⟩
  · unfold trimU
    rw [if_pos (List.any_eq_true.2 ⟨mine, hm, by decide⟩)]
    exact h.user
  · intro c s v hv
    unfold trimU at hv
    split at hv
    · exact h.vals c s v hv
    · cases hv
  · have := h.len
    have : (stay p l).length ≤ l.length := List.length_filter_le _ _
    omega

theorem Inv.closed (h : Inv l last U n) {c hd : Int} (hc : c ≠ 77) : Inv (closeL l c hd) last (closeU l U c hd) (n + 1) := by
  unfold closeL closeU
  cases hf : findSe l c hd with
  | none => exact h.up
  | some x =>
    refine h.stayed ?_
    have hp := List.find?_some hf
    have hm := List.mem_of_find?_eq_some hf
    simp only [Bool.and_eq_true, beq_iff_eq] at hp
    have hne : hd ≠ 1 := by
      rintro rfl
      have := h.all x hm (.inl hp.1)
      rw [this] at hp
      exact hc hp.2.symm
    show ((1 : Int) == hd) = false
    simpa using fun e => hne e.symm

theorem putU_other {c s : Int} {v : Option Int} (hc : c ≠ 77) : putU U c s v 77 1 = U 77 1 := by
  unfold putU
  rw [if_neg]
  rintro ⟨h, -⟩
  exact hc h.symm

theorem Inv.put (h : Inv l last U n) {c s : Int} {v : Option Int} (hc : c ≠ 77) (hv : ∀ u, v = some u → 0 ≤ u) : Inv l last (putU U c s v) (n + 1) := by
  refine ⟨h.one, h.all, by rw [putU_other hc]; exact h.user, ?_, h.low, by have := h.high; omega, by have := h.len; omega⟩
  intro c' s' u hu
  unfold putU at hu
  split at hu
  · exact hv u hu
  · exact h.vals c' s' u hu

theorem Inv.login (h : Inv l last U n) {c s u : Int} (hc : c ≠ 77) : Inv l last (loginU l U c s u) (n + 1) := by
  unfold loginU
  split
  · rename_i hm
    refine h.put hc ?_
    rintro v hv
    cases hv
    unfold mayOf at hm
    split at hm
    · cases hm
    · rename_i hu
      omega
  · exact h.up

theorem Inv.logout (h : Inv l last U n) {c s : Int} (hc : c ≠ 77) : Inv l last (logoutU U c s) (n + 1) := by
  unfold logoutU
  split
  · exact h.up
  · exact h.put hc (fun u hu => by cases hu)
end
end Go.Proofs.Ytlfdcfgpbigjdaa
