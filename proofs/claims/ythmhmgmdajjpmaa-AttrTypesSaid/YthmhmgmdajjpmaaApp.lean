/- Bytes put behind bytes of one's own; an attribute put behind a list of one's own. -/
import Derived.Test.YthmhmgmdajjpmaaCop
import Derived.Maps.AppendAt
namespace Go.Proofs.Ythmhmgmdajjpmaa
set_option linter.unusedVariables false
set_option linter.unusedSimpArgs false
open Go.RowKit

section
variable {w : World} {u v : Value} {l : List Int} {B n : Nat} {xs : List Value}

theorem bytes_append (hv : w.ownsRow B 5 1 v n xs) (hB : B ≤ w.heap.size) (hu : Bs w u l) (hn : n + l.length ≤ 140737488355328) (ty : TypeId) :
    ∃ v' w', (Builtin.append_ #[22, 22] ty #[v, u]).run Try.prog w = .ok v' w' ∧ w'.ownsRow B 5 1 v' (n + l.length) (xs ++ bytes l) ∧ Chg (fun k => v.ownBlock = some k) w w' := by
  obtain ⟨i5, hi, hz0, hz1, hz2⟩ := info_parts Try.info5
  obtain ⟨p, cap, rfl, h1, h2, h3, h4, h5, h6⟩ := hu
  cases p with
  | none =>
    have : l = [] := List.eq_nil_of_length_eq_zero (by have := h4 rfl; omega)
    subst this
    refine ⟨v, w, ?_, by simpa [bytes] using hv, Chg.refl _ _⟩
    rcases hv.2 with ⟨rfl, rfl⟩ | ⟨g, cap', cur, rfl, _, _, hnc, _⟩
    · simp [Builtin.append_, run_underlying Try.underlying22, sizeOf, typeInfo, hi, Builtin.lenOf, Builtin.firstCells, run_underlying Try.underlying5]
    · simp [Builtin.append_, run_underlying Try.underlying22, sizeOf, typeInfo, hi, Builtin.lenOf, Builtin.firstCells, hnc, storeCells]
  | some a =>
    obtain ⟨v', w', hr, ho, hg, -, -⟩ := run_append_own_at (P := Try.prog) w B 22 ty 5 i5 _ 1 1 Try.underlying22 hi hz0 hz1 hz2 rfl (by decide) v n xs hv a l.length cap (bytes l) (by simp [bytes])
      (by
        intro j u hj
        have hjn : j < l.length := by
          have := (List.getElem?_eq_some_iff.1 hj).1
          simpa [bytes] using this
        obtain ⟨b, o, hbo, hb, hc⟩ := h6 (by omega)
        cases hbo
        have e : (bytes l)[j]? = some (Value.int .u8 l[j]) := by simp [bytes, hjn]
        rw [e] at hj
        cases hj
        rw [addr_add]
        exact hc j hjn)
      (by intro u hu; obtain ⟨x, _, rfl⟩ := List.mem_map.1 hu; rfl) (by unfold maxLen; omega) (by omega) hB
    exact ⟨v', w', hr, ho, hg.os, hg.tape, hg.output, hg.size, fun k hk hn => hg.block k hk (fun e => hn e.symm)⟩

/-- At a plain list of operations. -/
theorem bytes_list {ops : Array Oper} {rest : List Oper} {o : Oper} {a : Act} {Q : Exit → Act → World → Prop} (hgd : o.guard = none) (s x : Operand)
    (ho : o.op = .call { callee := .builtin .append, args := #[s, x], argTypes := #[22, 22] }) (hs : a.eval s = v) (hx : a.eval x = u)
    (hv : w.ownsRow B 5 1 v n xs) (hB : B ≤ w.heap.size) (hu : Bs w u l) (hn : n + l.length ≤ 140737488355328)
    (h : ∀ p cap w', w'.ownsRow B 5 1 (.slice p (n + l.length) cap) (n + l.length) (xs ++ bytes l) → Chg (fun k => v.ownBlock = some k) w w' → wpList Try.prog ops Q rest (a.put o.dst (.slice p (n + l.length) cap)) w') :
    wpList Try.prog ops Q (o :: rest) a w := by
  obtain ⟨v', w', hr, h1, h2⟩ := bytes_append hv hB hu hn o.type
  obtain ⟨p, cap, rfl, -, -⟩ := ownsRow_form h1
  refine wpList_plain hgd fun K hK => ?_
  unfold Oper.wp execOp
  simp only [ho, resolve, invoke, builtin, Sem.run_bind, Sem.run_pure, Result.andThen_ok, List.map_toArray, List.map_cons, List.map_nil, hs, hx, hr]
  exact hK _ _ (h p cap w' h1 h2)

/-- At a step of a region that draws its order. -/
theorem step_bytes {ops : Array Oper} {o : Oper} {a : Act} {K : Act → World → Prop} {Q : Exit → Act → World → Prop} {E : Prop} (hgd : o.guard = none) (s x : Operand)
    (ho : o.op = .call { callee := .builtin .append, args := #[s, x], argTypes := #[22, 22] }) (hs : a.eval s = v) (hx : a.eval x = u)
    (hv : w.ownsRow B 5 1 v n xs) (hB : B ≤ w.heap.size) (hu : Bs w u l) (hn : n + l.length ≤ 140737488355328)
    (h : ∀ p cap w', w'.ownsRow B 5 1 (.slice p (n + l.length) cap) (n + l.length) (xs ++ bytes l) → Chg (fun k => v.ownBlock = some k) w w' → K (a.put o.dst (.slice p (n + l.length) cap)) w') :
    if Region.wanted o (yielded ops a.tmps) = true then Oper.wp Try.prog o a w K Q else E := by
  obtain ⟨v', w', hr, h1, h2⟩ := bytes_append hv hB hu hn o.type
  obtain ⟨p, cap, rfl, -, -⟩ := ownsRow_form h1
  have hw : Region.wanted o (yielded ops a.tmps) = true := by simp [Region.wanted, hgd]
  rw [if_pos hw]
  unfold Oper.wp execOp
  simp only [ho, resolve, invoke, builtin, Sem.run_bind, Sem.run_pure, Result.andThen_ok, List.map_toArray, List.map_cons, List.map_nil, hs, hx, hr]
  exact h p cap w' h1 h2
end
end Go.Proofs.Ythmhmgmdajjpmaa
