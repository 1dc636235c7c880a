/- Each call on the table as a step that leaves the other connection's session. -/
import Derived.Test.YtlfdcfgpbigjdaaApart0
namespace Go.Proofs.Ytlfdcfgpbigjdaa
set_option linter.unusedVariables false
set_option linter.unusedSimpArgs false
open Go.RowKit

theorem same_refl (w : World) : Same w w := Chg.refl _ w

theorem cell_lt {w : World} {a : Addr} {v : Value} (h : w.cell? a = some v) : a.block < w.heap.size := by
  unfold World.cell? at h
  split at h
  · rename_i hh
    exact lt_of_heap hh
  · cases h

/-- Behind n rounds; F: the table's own blocks. -/
def HeldF (w0 : World) (t n : Nat) (F : Nat → Prop) (w : World) : Prop :=
  ∃ l last U sl M L clock, Tab w F t l last U sl M L clock ∧ Inv l last U n ∧ Same w0 w ∧ ∀ k, F k → w0.heap.size ≤ k

def Held (w0 : World) (t n : Nat) (w : World) : Prop := ∃ F, HeldF w0 t n F w

def HeldPost (w0 : World) (t n : Nat) (F : Nat → Prop) (w : World) (e : Ending) (w' : World) : Prop := (∃ v, e = .returned v) ∧ Held w0 t n w' ∧ Chg F w w'

section
variable {w0 w : World} {t n : Nat}

theorem Held.same (h : Held w0 t n w) : Same w0 w := by
  obtain ⟨_, _, _, _, _, _, _, _, _, _, h, _⟩ := h
  exact h

theorem HeldF.old {F : Nat → Prop} (h : HeldF w0 t n F w) : ∀ k, F k → k < w.heap.size := by
  obtain ⟨l, last, U, sl, M, L, clock, h1, h2, h3, h4⟩ := h
  exact h1.old

theorem HeldF.up {F : Nat → Prop} (h : HeldF w0 t n F w) : HeldF w0 t (n + 1) F w := by
  obtain ⟨l, last, U, sl, M, L, clock, h1, h2, h3, h4⟩ := h
  exact ⟨l, last, U, sl, M, L, clock, h1, h2.up, h3, h4⟩

theorem HeldF.later {F : Nat → Prop} (h : HeldF w0 t n F w) {w' : World} (hs : Same w w') : HeldF w0 t n F w' := by
  obtain ⟨l, last, U, sl, M, L, clock, h1, h2, h3, h4⟩ := h
  exact ⟨l, last, U, sl, M, L, clock, h1.same hs, h2, Same.trans h3 hs, h4⟩

theorem Held.later (h : Held w0 t n w) {w' : World} (hs : Same w w') : Held w0 t n w' := by
  obtain ⟨F, h⟩ := h
  exact ⟨F, h.later hs⟩

theorem Held.up (h : Held w0 t n w) : Held w0 t (n + 1) w := by
  obtain ⟨F, l, last, U, sl, M, L, clock, h1, h2, h3, h4⟩ := h
  exact ⟨F, l, last, U, sl, M, L, clock, h1, h2.up, h3, h4⟩

theorem held_of {F : Nat → Prop} {l : List Se} {last : Int} {U : Int → Int → Option Int} {w' : World} (h3 : Same w0 w) (h4 : ∀ k, F k → w0.heap.size ≤ k) (hto : TabTo w F t l last U w') (hi : Inv l last U n) : Held w0 t n w' := by
  obtain ⟨F', sl, M, L, clock, hT, hc, hF⟩ := hto
  refine ⟨F', l, last, U, sl, M, L, clock, hT, hi, Chg.trans h3 hc (fun k hk => .inr (h4 k hk)), fun k hk => ?_⟩
  rcases hF k hk with q | q
  · exact h4 k q
  · exact Nat.le_trans h3.size q

theorem to_chg {F : Nat → Prop} {l : List Se} {last : Int} {U : Int → Int → Option Int} {w' : World} (hto : TabTo w F t l last U w') : Chg F w w' := by
  obtain ⟨F', sl, M, L, clock, hT, hc, hF⟩ := hto
  exact hc

variable {F : Nat → Prop}

theorem HeldF.opens (h : HeldF w0 t n F w) (hn : n < 1000) {c : Int} (s : Int) (rw : Bool) (hc : c ≠ 77) :
    Calls Try.prog 8 #[.pointer (some ⟨t, 0, none⟩), .int .i64 c, .int .i64 s, .bool rw] w (HeldPost w0 t (n + 1) F w) := by
  obtain ⟨l, last, U, sl, M, L, clock, h1, h2, h3, h4⟩ := h
  refine (open2_calls h1 ⟨by have := h2.low; omega, by have := h2.high; omega⟩ c s rw).mono ?_
  rintro e w' (⟨-, he, hto⟩ | ⟨-, he, hto⟩)
  · exact ⟨⟨_, he⟩, held_of h3 h4 hto h2.up, to_chg hto⟩
  · exact ⟨⟨_, he⟩, held_of h3 h4 hto (h2.opened hc), to_chg hto⟩

theorem HeldF.closes (h : HeldF w0 t n F w) (hn : n < 90) {c : Int} (hd : Int) (hc : c ≠ 77) :
    Calls Try.prog 10 #[.pointer (some ⟨t, 0, none⟩), .int .i64 c, .int .i64 hd] w (HeldPost w0 t (n + 1) F w) := by
  obtain ⟨l, last, U, sl, M, L, clock, h1, h2, h3, h4⟩ := h
  refine (close_calls h1 (by have := h2.len; omega) c hd).mono ?_
  rintro e w' ⟨he, hto⟩
  exact ⟨⟨_, he⟩, held_of h3 h4 hto (h2.closed hc), to_chg hto⟩

theorem held_closes {l : List Se} {last : Int} {U : Int → Int → Option Int} {p : Se → Bool} {e : Ending} {w' : World} (h2 : Inv l last U n) (h3 : Same w0 w) (h4 : ∀ k, F k → w0.heap.size ≤ k) (hp : p mine = false) (h : ClosesPost w F t l last U p e w') :
    HeldPost w0 t (n + 1) F w e w' := by
  obtain ⟨gv, F', sl, M, L, clock, he, hT, hc, hF, -, -⟩ := h
  exact ⟨⟨_, he⟩, held_of h3 h4 ⟨F', sl, M, L, clock, hT, hc, hF⟩ (h2.stayed hp), hc⟩

theorem HeldF.closesAll (h : HeldF w0 t n F w) (hn : n < 90) {c : Int} (s : Int) (hc : c ≠ 77) :
    Calls Try.prog 12 #[.pointer (some ⟨t, 0, none⟩), .int .i64 c, .int .i64 s] w (HeldPost w0 t (n + 1) F w) := by
  obtain ⟨l, last, U, sl, M, L, clock, h1, h2, h3, h4⟩ := h
  refine (closeAll_calls h1 (by have := h2.len; omega) c s).mono ?_
  intro e w' hp
  refine held_closes h2 h3 h4 ?_ hp
  unfold hasAt mine
  simp
  intro e
  exact absurd e.symm hc

theorem HeldF.drops (h : HeldF w0 t n F w) (hn : n < 90) {c : Int} (hc : c ≠ 77) :
    Calls Try.prog 15 #[.pointer (some ⟨t, 0, none⟩), .int .i64 c] w (HeldPost w0 t (n + 1) F w) := by
  obtain ⟨l, last, U, sl, M, L, clock, h1, h2, h3, h4⟩ := h
  refine (drop_calls h1 (by have := h2.len; omega) c).mono ?_
  intro e w' hp
  refine held_closes h2 h3 h4 ?_ hp
  show ((77 : Int) == c) = false
  simpa using fun e => hc e.symm

theorem HeldF.logins (h : HeldF w0 t n F w) {c : Int} (s u : Int) (hc : c ≠ 77) :
    Calls Try.prog 16 #[.pointer (some ⟨t, 0, none⟩), .int .i64 c, .int .i64 s, .int .i64 u] w (HeldPost w0 t (n + 1) F w) := by
  obtain ⟨l, last, U, sl, M, L, clock, h1, h2, h3, h4⟩ := h
  refine (login_calls h1 h2.vals c s u).mono ?_
  rintro e w' ⟨he, hto⟩
  exact ⟨⟨_, he⟩, held_of h3 h4 hto (h2.login hc), to_chg hto⟩

theorem HeldF.logouts (h : HeldF w0 t n F w) {c : Int} (s : Int) (hc : c ≠ 77) :
    Calls Try.prog 18 #[.pointer (some ⟨t, 0, none⟩), .int .i64 c, .int .i64 s] w (HeldPost w0 t (n + 1) F w) := by
  obtain ⟨l, last, U, sl, M, L, clock, h1, h2, h3, h4⟩ := h
  refine (logout_calls h1 c s).mono ?_
  rintro e w' ⟨he, hto⟩
  exact ⟨⟨_, he⟩, held_of h3 h4 hto (h2.logout hc), to_chg hto⟩

theorem HeldF.states (h : HeldF w0 t n F w) : Calls Try.prog 21 #[.pointer (some ⟨t, 0, none⟩), .int .i64 77, .int .i64 1] w (IntPost 3 w) := by
  obtain ⟨l, last, U, sl, M, L, clock, h1, h2, h3, h4⟩ := h
  rw [← h2.state]
  exact state_calls h1 77 1

theorem HeldF.statesOther (h : HeldF w0 t n F w) {c : Int} (hc : c ≠ 77) : Calls Try.prog 21 #[.pointer (some ⟨t, 0, none⟩), .int .i64 c, .int .i64 1] w (IntPost (-1) w) := by
  obtain ⟨l, last, U, sl, M, L, clock, h1, h2, h3, h4⟩ := h
  rw [← h2.other hc]
  exact state_calls h1 c 1
end
end Go.Proofs.Ytlfdcfgpbigjdaa
