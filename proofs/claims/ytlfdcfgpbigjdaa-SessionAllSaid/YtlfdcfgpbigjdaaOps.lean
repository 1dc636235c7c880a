/- The slice of calls that is handed in: what its cells hold. -/
import Derived.Test.YtlfdcfgpbigjdaaApart
import Derived.Test.YtlfdcfgpbigjdaaEnd
import Derived.Deep.Slices
import Derived.Deep.Fields
import Derived.Carry
namespace Go.Proofs.Ytlfdcfgpbigjdaa
set_option linter.unusedVariables false
set_option linter.unusedSimpArgs false
open Go.ChangeShapes Go.WideShapes Go.ChangeAt Go.RowKit Go.Deep

theorem laidOut : laidOutB Try.prog = true := by kernel_rfl
theorem cells32 : Try.prog.cellsOf 32 = 6 := by kernel_rfl

theorem int_field {H : Type} {enc : TypeId × Value → H} {w : World} {base n : Nat} {sp : Nat → Bool} {hd : Bool} {v : Value} {y : DataW H × List MemPlace} (h : DataW.trod enc Try.prog w base sp hd n 3 [v] = some y) : ∃ i, v = .int .i64 i := by
  obtain ⟨i, hi, -⟩ := DataW.trod_int Try.underlying3 h
  exact ⟨i, by simpa using hi⟩

theorem bool_field {H : Type} {enc : TypeId × Value → H} {w : World} {base n : Nat} {sp : Nat → Bool} {hd : Bool} {v : Value} {y : DataW H × List MemPlace} (h : DataW.trod enc Try.prog w base sp hd n 4 [v] = some y) : ∃ b, v = .bool b := by
  obtain ⟨b, hb, -⟩ := DataW.trod_bool Try.underlying4 h
  exact ⟨b, by simpa using hb⟩

theorem six {α : Type} {l : List α} (h : l.length = 6) : ∃ a b c d e f, l = [a, b, c, d, e, f] := by
  match l, h with
  | [a, b, c, d, e, f], _ => exact ⟨a, b, c, d, e, f, rfl⟩

theorem ops_at {H : Type} {enc : TypeId × Value → H} {w : World} {a : Option Addr} {n cap : Nat} {d : DataW H} {p : List MemPlace} (h : DataW.Trod enc Try.prog w 0 (fun _ => true) true 22 (.slice a n cap) d p) : OpsAt w (.slice a n cap) := by
  obtain ⟨fuel, hf⟩ := h
  rcases open_slice Try.underlying22 hf with ⟨he, -⟩ | ⟨b, len, cap', m, k, D, Pl, he, -, hle, hmax, hm, -, hi⟩
  · have : Value.slice a n cap = .slice none 0 0 := by simpa [Value.cells] using he
    cases this
    exact ⟨none, 0, 0, rfl, by unfold maxLen; omega, fun k hk => absurd hk (Nat.not_lt_zero _)⟩
  · have : Value.slice a n cap = .slice (some b) len cap' := by simpa [Value.cells] using he
    cases this
    refine ⟨some b, n, cap, rfl, by omega, fun i hin => ?_⟩
    obtain ⟨cs, hc, ht⟩ := hi i (by rw [hm]; simp; omega)
    rw [cells32] at hc
    obtain ⟨-, hcl, hat⟩ := World.cells?_some hc
    obtain ⟨c0, c1, c2, c3, c4, c5, rfl⟩ := six hcl
    obtain ⟨xs, fu, -, -, -, hxl, hg⟩ := DataW.trod_struct Try.underlying32 ht
    have hxl' : xs.length = 6 := hxl
    obtain ⟨y0, y1, y2, y3, y4, y5, rfl⟩ := six hxl'
    obtain ⟨i0, rfl⟩ := int_field (hg 0 _ rfl)
    obtain ⟨i1, rfl⟩ := int_field (hg 1 _ rfl)
    obtain ⟨i2, rfl⟩ := int_field (hg 2 _ rfl)
    obtain ⟨i3, rfl⟩ := int_field (hg 3 _ rfl)
    obtain ⟨i4, rfl⟩ := int_field (hg 4 _ rfl)
    obtain ⟨i5, rfl⟩ := bool_field (hg 5 _ rfl)
    have h0 := hat 0 (by decide)
    have h1 := hat 1 (by decide)
    have h2 := hat 2 (by decide)
    have h3 := hat 3 (by decide)
    have h4 := hat 4 (by decide)
    have h5 := hat 5 (by decide)
    refine ⟨b, ⟨i0, i1, i2, i3, i4, i5⟩, rfl, ?_, h0, h1, h2, h3, h4, h5⟩
    exact cell_lt (a := b.add (i * 6)) h0

/-- The slice reads behind the call as it read before. -/
theorem ops_again {H : Type} {enc : TypeId × Value → H} {w w' : World} {v : Value} {d : DataW H} {p : List MemPlace} (h : DataW.Trod enc Try.prog w 0 (fun _ => true) true 22 v d p) (hs : Same w w') (hlt : ∀ x ∈ p, x.block < w.heap.size) {sp : Nat → Bool} (hsp : ∀ x ∈ p, sp x.block = true) :
    DataW.Trod enc Try.prog w' 0 sp true 22 v d p :=
  WideElems.Trod_stays laidOut (by kernel_rfl) (of_decide_eq_true (by kernel_rfl)) h (fun x hx => hs.below.same (hlt x hx)) hsp
end Go.Proofs.Ytlfdcfgpbigjdaa
