/- Copies of attributes; bytes put behind bytes. -/
import Derived.Test.YthmhmgmdajjpmaaEq
import Derived.Outline
namespace Go.Proofs.Ythmhmgmdajjpmaa
set_option linter.unusedVariables false
set_option linter.unusedSimpArgs false
open Go.RowKit

section
variable {w : World} {u : Value} {l : List Int}

theorem Same.new2 {w W : World} {o : Obj} (h : Same (w.alloc o).drew W) : W.heap[w.heap.size]? = some o := by
  have : Same (w.alloc o) W := ((Chg.refl _ _).drew).trans h (fun _ h => h.elim)
  exact this.new

set_option maxHeartbeats 4000000 in
theorem copied_calls (h : Bs w u l) (t : Int) : Calls Try.prog 40 #[.agg #[.int .i64 t, u]] w (NewAttr t l w) := by
  have H := hid h
  obtain ⟨p, cap, rfl, h1, h2, h3, h4, h5, h6⟩ := h
  clear h4 h5 h6
  have HB := hid ((H.out.same ((Chg.refl _ w).alloc (.cells #[.int .i64 t, .slice p l.length cap] 24))).same ((Chg.refl _ _).alloc (.cells #[.int .i64 0, .slice none 0 0] 24)))
  go_enter Try.func40, Try.ntmps40
  go_wp2_with fail
  go_region_held3 (fun w' => w'.cell? ⟨w.heap.size, 0, none⟩ = some (.int .i64 t) ∧ w'.cell? ⟨w.heap.size, 1, none⟩ = some (.slice p l.length cap))
    (first | go_keep | (refine ⟨?_, ?_⟩ <;> (rw [hs1.cell (by simp; try omega) (fun h => h)]; go_keep)))
    ((go_at_call 38; refine (clone_calls (HB.out.same (by exact ((Chg.refl _ _).drewN _)))).mono ?_; rintro e w1 ⟨v1, rfl, hown, hs1⟩; obtain ⟨a1, cap1, rfl, q1, q2⟩ := ownsRow_form hown; have hN := hs1.new2; have d0 := cell_of_heap hN 0; have d1 := cell_of_heap hN 1; have d2 := frozen_of_heap hN; have d3 := lt_of_heap hN; simp only [World.size_alloc, World.size_drew] at d0 d1 d2 d3 hs1 hown; clear hN))
  have HO := hid hown
  have HS : Hid (Same w w1) := ((((Chg.refl _ w).alloc _).alloc _).drew).trans hs1 (fun _ h => h.elim)
  clear hown hs1
  go_wp2_with fail
  refine bodyPost_ret (v := .agg #[.int .i64 t, .slice a1 l.length cap1]) (by simp [results, Try.results40, go_sem, d0, d1, d3]) rfl ⟨_, rfl, ?_, ?_⟩
  · exact ownsRow_base (ownsRow_set (B' := 0) (ownsRow_set (B' := 0) HO.out (by simp) _) (by simp) _) (by omega)
  · exact (HS.out.setCell (.inr (by simp)) _).setCell (.inr (by simp)) _
end
end Go.Proofs.Ythmhmgmdajjpmaa
