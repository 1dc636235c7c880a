/- What is handed in: an attribute by value, a number. -/
import Derived.Test.YthmhmgmdajjpmaaOps
namespace Go.Proofs.Ythmhmgmdajjpmaa
set_option linter.unusedVariables false
set_option linter.unusedSimpArgs false
open Go.ChangeShapes Go.WideShapes Go.ChangeAt Go.RowKit Go.Deep

section
variable {H : Type} {enc : TypeId × Value → H} {w : World} {v : Value} {d : DataW H} {p : List MemPlace} {r : Go.Reach} {b0 : Nat}

theorem agg_at (hv : Value.okWide Try.prog w r b0 24 v) (h : DataW.Trod enc Try.prog w 0 (fun _ => true) true 24 v d p) (hr : Reach 24 d) :
    ∃ t u, v = .agg #[.int .i64 t, u] ∧ ∃ l, Bs w u l := by
  obtain ⟨cs, rfl, hsz⟩ := okWide_struct Try.underlying24 hv
  obtain ⟨c0, c1, rfl⟩ := Go.Joins.array2 (hsz.trans cells24)
  obtain ⟨fu, hf⟩ := h
  have hf' : DataW.trod enc Try.prog w 0 (fun _ => true) true fu 24 [c0, c1] = some (d, p) := by simpa [Value.cells] using hf
  obtain ⟨x, hx, hB⟩ := attr_at hf' hr
  simp only [List.cons.injEq, and_true] at hx
  obtain ⟨rfl, rfl⟩ := hx
  exact ⟨x.t, x.u, rfl, x.v, hB⟩

theorem int_at (h : DataW.Trod enc Try.prog w 0 (fun _ => true) true 3 v d p) (h1 : Value.okWide Try.prog w r b0 3 v) : ∃ z : Int, v = .int .i64 z ∧ -9223372036854775808 ≤ z ∧ z ≤ 9223372036854775807 := by
  obtain ⟨z, rfl⟩ := okWide_int Try.underlying3 h1
  obtain ⟨fu, hf⟩ := h
  obtain ⟨z', hz, -, hwf⟩ := DataW.trod_int Try.underlying3 (cs := [.int .i64 z]) (by simpa [Value.cells] using hf)
  simp only [List.cons.injEq, Value.int.injEq, true_and, and_true] at hz
  subst hz
  refine ⟨z, rfl, ?_⟩
  simp [Lit.wf, IntKind.min, IntKind.max, IntKind.signed, IntKind.bits] at hwf
  omega
end
end Go.Proofs.Ythmhmgmdajjpmaa
