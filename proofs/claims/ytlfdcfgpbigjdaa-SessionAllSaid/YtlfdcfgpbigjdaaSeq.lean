/- A region that draws its order, whose operations but the calls only read what every world at hand holds: walked in one order. -/
import Derived.Deep.RegionHeld3
import Derived.WalkKit
namespace Go.Proofs.Ytlfdcfgpbigjdaa
set_option linter.unusedVariables false
set_option linter.unusedSimpArgs false

/-- The order is one in which each operation but a call may be taken first, and a call is the only one that may come up. -/
def okSeq (md : Region.Mode) (ops : Array Oper) (call : List Nat) : List Nat → Array Bool → Bool
  | [], listed => (Region.ready md ops listed).isEmpty
  | i :: rest, listed => (if call.contains i then Region.ready md ops listed == [i] else (Region.ready md ops listed).contains i && Region.free md ops listed i) && okSeq md ops call rest (listed.setIfInBounds i true)

/-- The walk in that order. -/
def seqH (P : Program) (ops : Array Oper) (Q : Exit → Act → World → Prop) (S : World → Prop) (call : List Nat) : List Nat → Act → World → Prop
  | [], a, w => Q .normal a w
  | i :: rest, a, w => match ops[i]? with
    | none => False
    | some o => if call.contains i then wpOp P ops (NoPanic Q) i (fun a' w' => S w' ∧ seqH P ops Q S call rest a' w') a w
      else ∃ v, YieldsIf P ops S o v a ∧ seqH P ops Q S call rest (a.put o.dst v) w

section
variable {P : Program} {ops : Array Oper} {Q : Exit → Act → World → Prop} {S : World → Prop} {call : List Nat} {md : Region.Mode}

theorem seqH_sound (hs : Region.noSelect ops = true) : ∀ (order : List Nat) (listed : Array Bool) (a : Act) (w : World) (x : Nat), okSeq md ops call order listed = true → S w → seqH P ops Q S call order a w → wpAnyH P md ops (NoPanic Q) S (order.length + x) listed a w
  | [], listed, a, w, x, hk, _, h => wpAnyH_done (Q := NoPanic Q) (by simpa [okSeq] using hk) (NoPanic.normal h) _
  | i :: rest, listed, a, w, x, hk, hS, h => by
    simp only [okSeq, Bool.and_eq_true] at hk
    obtain ⟨h1, h2⟩ := hk
    rw [show (i :: rest).length + x = (rest.length + x) + 1 by simp; omega]
    unfold seqH at h
    cases ho : ops[i]? with
    | none => rw [ho] at h; exact h.elim
    | some o =>
      rw [ho] at h
      simp only at h
      by_cases hc : call.contains i = true
      · rw [if_pos hc] at h h1
        refine wpAnyH_all (rs := [i]) (by simpa using h1) (by simp) fun j hj => ?_
        rw [List.mem_singleton.1 hj]
        exact wpOp_mono (fun a' w' hh => ⟨hh.1, seqH_sound hs rest _ a' w' x h2 hh.1 hh.2⟩) h
      · rw [if_neg hc] at h h1
        simp only [Bool.and_eq_true] at h1
        obtain ⟨v, hy, hr⟩ := h
        exact wpAnyH_take ho hs h1.2 h1.1 (fun _ _ _ h => h.elim) hy hS (seqH_sound hs rest _ _ w x h2 hS hr)

theorem wp_region_seq {id : Nat} {a : Act} {w : World} (S : World → Prop) (call order : List Nat) (hm : P.follows .mixedOrders = true) (hs : Region.noSelect ops = true) (hl : order.length = ops.size)
    (hk : okSeq .any ops call order (Array.replicate ops.size false) = true) (hS : S w.drew) (h : seqH P ops Q S call order a w.drew) : (Code.region id ops true).wp P Q a w :=
  wp_region_noPanic (wp_region_held (S := S) hm (by
    have := seqH_sound (md := .any) hs order (Array.replicate ops.size false) a w.drew 0 hk hS h
    rw [Nat.add_zero, hl] at this
    exact this))

/-- What comes behind, as a name. -/
theorem seqH_gen {order : List Nat} {a : Act} {w : World} (h : ∀ Q' : Exit → Act → World → Prop, (∀ a w, S w → Q .normal a w → Q' .normal a w) → seqH P ops Q' S call order a w) : seqH P ops Q S call order a w := h Q (fun _ _ _ h => h)

theorem seqH_nil {a : Act} {w : World} (h : Q .normal a w) : seqH P ops Q S call [] a w := h

/-- An operation that reads. -/
theorem seqH_pure {i : Nat} {rest : List Nat} {o : Oper} {v : Value} {a : Act} {w : World} (ho : ops[i]? = some o) (hc : call.contains i = false) (hw : Region.wanted o (yielded ops a.tmps) = true)
    (hy : ∀ W, S W → (execOp a.eval o).run P W = .ok (.value v) W) (h : seqH P ops Q S call rest (a.put o.dst v) w) : seqH P ops Q S call (i :: rest) a w := by
  unfold seqH
  rw [ho]
  simp only
  rw [if_neg (by rw [hc]; decide)]
  exact ⟨v, .inl ⟨hw, hy⟩, h⟩

/-- An operation whose guard says no. -/
theorem seqH_off {i : Nat} {rest : List Nat} {o : Oper} {a : Act} {w : World} (ho : ops[i]? = some o) (hc : call.contains i = false) (hw : Region.wanted o (yielded ops a.tmps) = false)
    (h : seqH P ops Q S call rest (a.put o.dst undef) w) : seqH P ops Q S call (i :: rest) a w := by
  unfold seqH
  rw [ho]
  simp only
  rw [if_neg (by rw [hc]; decide)]
  exact ⟨undef, .inr ⟨hw, rfl⟩, h⟩

theorem seqH_offCall {i : Nat} {rest : List Nat} {o : Oper} {a : Act} {w : World} (ho : ops[i]? = some o) (hc : call.contains i = true) (hw : Region.wanted o (yielded ops a.tmps) = false) (hS : S w)
    (h : seqH P ops Q S call rest (a.put o.dst undef) w) : seqH P ops Q S call (i :: rest) a w := by
  unfold seqH
  rw [ho]
  simp only
  rw [if_pos hc]
  unfold wpOp
  rw [ho]
  simp only [hw]
  exact ⟨hS, h⟩

/-- A call (or whatever else turns the world). -/
theorem seqH_call {i : Nat} {rest : List Nat} {o : Oper} {a : Act} {w : World} (ho : ops[i]? = some o) (hc : call.contains i = true) (hw : Region.wanted o (yielded ops a.tmps) = true)
    (h : ∀ K : Act → World → Prop, (∀ a w, S w → seqH P ops Q S call rest a w → K a w) → o.wp P a w K (NoPanic Q)) : seqH P ops Q S call (i :: rest) a w := by
  unfold seqH
  rw [ho]
  simp only
  rw [if_pos hc]
  unfold wpOp
  rw [ho]
  simp only [hw, if_true]
  exact .inl (h _ fun a w h1 h2 => ⟨h1, h2⟩)
end
end Go.Proofs.Ytlfdcfgpbigjdaa
