/- The form of a type. -/
import Derived.Test.YthmhmgmdajjpmaaFns2
namespace Go.Proofs.Ythmhmgmdajjpmaa
set_option linter.unusedVariables false
set_option linter.unusedSimpArgs false
open Go.RowKit

def truths : List Int := [1, 2, 259, 260, 261, 262, 263, 264, 266, 268, 354, 355, 356, 357, 368, 369]
def numbers : List Int := [0, 256, 289, 353]
def plains : List Int := [3, 17, 258, 384, 385]
def naturals : List Int := [288, 290, 291, 292, 293]
def formOf (t : Int) : Int := if t ∈ truths then 1 else if t ∈ numbers then 2 else if t ∈ plains then 3 else if t ∈ naturals then 4 else 0

/-- One of the types that have a form. -/
def known : List Int := truths ++ numbers ++ plains ++ naturals

theorem formOf_none {t : Int} (h : t ∉ known) : formOf t = 0 := by
  simp only [known, List.mem_append, not_or] at h
  unfold formOf
  rw [if_neg h.1.1.1, if_neg h.1.1.2, if_neg h.1.2, if_neg h.2]

set_option maxHeartbeats 4000000 in
theorem form_calls (w : World) (t : Int) : Calls Try.prog 13 #[.int .i64 t] w (KInt (formOf t) w) := by
  by_cases hk : t ∈ known
  · simp only [known, truths, numbers, plains, naturals, List.cons_append, List.nil_append, List.mem_cons, List.not_mem_nil, or_false] at hk
    rcases hk with rfl | rfl | rfl | rfl | rfl | rfl | rfl | rfl | rfl | rfl | rfl | rfl | rfl | rfl | rfl | rfl | rfl | rfl | rfl | rfl | rfl | rfl | rfl | rfl | rfl | rfl | rfl | rfl | rfl | rfl
    all_goals
      go_enter Try.func13, Try.ntmps13
      go_wp2
      go_ret
      exact ⟨rfl, rfl⟩
  · have hf := formOf_none hk
    have hk' := hk
    simp only [known, truths, numbers, plains, naturals, List.cons_append, List.nil_append, List.mem_cons, List.not_mem_nil, or_false, not_or] at hk'
    obtain ⟨a1, a2, a3, a4, a5, a6, a7, a8, a9, a10, a11, a12, a13, a14, a15, a16, b1, b2, b3, b4, c1, c2, c3, c4, c5, d1, d2, d3, d4, d5⟩ := hk'
    have HF := hid hf
    clear hk hf
    go_enter Try.func13, Try.ntmps13
    go_wp2
    go_ret
    exact ⟨by rw [HF.out]; rfl, rfl⟩

set_option maxHeartbeats 4000000 in
theorem rform_calls (w : World) (t : Int) : Calls Try.prog 14 #[.int .i64 t] w (KInt (formOf t) w) := by
  by_cases hk : t ∈ known
  · simp only [known, truths, numbers, plains, naturals, List.cons_append, List.nil_append, List.mem_cons, List.not_mem_nil, or_false] at hk
    rcases hk with rfl | rfl | rfl | rfl | rfl | rfl | rfl | rfl | rfl | rfl | rfl | rfl | rfl | rfl | rfl | rfl | rfl | rfl | rfl | rfl | rfl | rfl | rfl | rfl | rfl | rfl | rfl | rfl | rfl | rfl
    all_goals
      go_enter Try.func14, Try.ntmps14
      go_wp2
      go_ret
      exact ⟨rfl, rfl⟩
  · have hf := formOf_none hk
    have hk' := hk
    simp only [known, truths, numbers, plains, naturals, List.cons_append, List.nil_append, List.mem_cons, List.not_mem_nil, or_false, not_or] at hk'
    obtain ⟨a1, a2, a3, a4, a5, a6, a7, a8, a9, a10, a11, a12, a13, a14, a15, a16, b1, b2, b3, b4, c1, c2, c3, c4, c5, d1, d2, d3, d4, d5⟩ := hk'
    have HF := hid hf
    clear hk hf
    go_enter Try.func14, Try.ntmps14
    go_wp2
    go_ret
    exact ⟨by rw [HF.out]; rfl, rfl⟩
end Go.Proofs.Ythmhmgmdajjpmaa
