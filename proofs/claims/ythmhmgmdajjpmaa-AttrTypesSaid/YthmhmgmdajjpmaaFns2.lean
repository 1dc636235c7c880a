/- Numbers written to bytes and read. -/
import Derived.Test.YthmhmgmdajjpmaaFns
import Derived.Test.YthmhmgmdajjpmaaNums
namespace Go.Proofs.Ythmhmgmdajjpmaa
set_option linter.unusedVariables false
set_option linter.unusedSimpArgs false
open Go.RowKit

section
variable {w : World} {u : Value} {l : List Int}

set_option maxHeartbeats 2000000 in
theorem append32_calls (w : World) (x : Int) (h0 : 0 ≤ x) (h1 : x < 4294967296) : Calls Try.prog 36 #[.slice none 0 0, .int .u32 x] w (NewBytes (of32 x) w) := by
  obtain ⟨i5, hi, hz0, hz1, hz2⟩ := info_parts Try.info5
  go_enter Try.func36, Try.ntmps36
  go_wp2_with (at_builtin; refine wpList_append_own _ rfl _ _ 22 rfl w.heap.size 5 i5 (.int .u8 0) 1 1 Try.underlying22 hi hz0 hz1 hz2 rfl (by decide) _ _ _ rfl (World.ownsRow_nil _ _ _ _) ⟨w.heap.size, 0, none⟩ 4 4 _ rfl ?c1 (World.news_of_block (heap_alloc_new w _)) ?c3 ?c4 ?c5 ?c6 ?_)
  case c3 => exact ⟨rfl, rfl, rfl, rfl⟩
  case c4 => unfold maxLen; omega
  case c5 => omega
  case c6 => simp
  intro v' w1 hown hgrow hnil
  go_wp2
  go_ret
  refine ⟨v', rfl, ?_, ((Chg.refl _ w).alloc _).grown hgrow (by intro k hk; simp [Value.ownBlock] at hk)⟩
  have e1 : x / 16777216 % 256 = x / 16777216 := by omega
  simpa [of32, bytes, e1] using hown

/-- An own slice of bytes has two more. -/
def Onto (B : Nat) (v : Value) (l : List Int) (w : World) (e : Ending) (w' : World) : Prop :=
  ∃ v', e = .returned v' ∧ w'.ownsRow B 5 1 v' l.length (bytes l) ∧ Chg (fun k => v.ownBlock = some k) w w'

set_option maxHeartbeats 2000000 in
theorem append16_calls {v : Value} {B : Nat} (hv : w.ownsRow B 5 1 v l.length (bytes l)) (hB : B ≤ w.heap.size) (hl : l.length < 1000000000) (x : Int) (h0 : 0 ≤ x) (h1 : x < 65536) : Calls Try.prog 43 #[v, .int .u16 x] w (Onto B v (l ++ of16 x) w) := by
  obtain ⟨i5, hi, hz0, hz1, hz2⟩ := info_parts Try.info5
  have HV := hid hv
  obtain ⟨a, cap, rfl, hc1, hc2⟩ := ownsRow_form hv
  clear hv
  go_enter Try.func43, Try.ntmps43
  go_wp2_with (at_builtin; refine wpList_append_own _ rfl _ _ 22 rfl B 5 i5 (.int .u8 0) 1 1 Try.underlying22 hi hz0 hz1 hz2 rfl (by decide) _ _ _ rfl (HV.out.alloc _) ⟨w.heap.size, 0, none⟩ 2 2 _ rfl ?c1 (World.news_of_block (heap_alloc_new w _)) ?c3 ?c4 ?c5 ?c6 ?_)
  case c3 => exact ⟨rfl, rfl⟩
  case c4 => unfold maxLen; omega
  case c5 => omega
  case c6 => simp; omega
  intro v' w1 hown hgrow hnil
  go_wp2
  go_ret
  refine ⟨v', rfl, ?_, ((Chg.refl _ w).alloc _).grown hgrow (by intro k hk; left; exact hk)⟩
  have e1 : x / 256 % 256 = x / 256 := by omega
  simpa [of16, bytes, e1] using hown

def KInt' (k : IntKind) (n : Int) (w : World) (e : Ending) (w' : World) : Prop := e = .returned (.int k n) ∧ Same w w'

set_option maxHeartbeats 2000000 in
theorem get16_calls (h : Bs w u l) (hl : 2 ≤ l.length) : Calls Try.prog 44 #[u] w (KInt' .u16 (l[0] * (256 : Int) + l[1]) w) := by
  obtain ⟨p, cap, rfl, h1, h2, h3, h4, h5, h6⟩ := h
  obtain ⟨b, o, rfl, hb, hc⟩ := h6 (by omega)
  have c0 := hc 0 (by omega)
  have c1 := hc 1 (by omega)
  simp only [Nat.add_zero] at c0
  obtain ⟨x0, x1⟩ := h5 l[0] (List.getElem_mem _)
  obtain ⟨y0, y1⟩ := h5 l[1] (List.getElem_mem _)
  have i1 : (1 : Int) < (l.length : Int) := by omega
  have i0 : (0 : Int) < (l.length : Int) := by omega
  have E := hid (u16_or_add x0 x1 y0 y1)
  clear hc h5 h6 h4
  go_enter Try.func44, Try.ntmps44
  go_wp2_with fail
  go_quiet (fail)
  go_wp2_with fail
  go_ret
  exact ⟨by rw [E.out]; rfl, (Chg.refl _ w).drewN _⟩

set_option maxHeartbeats 4000000 in
theorem get32_calls (h : Bs w u l) (hl : 4 ≤ l.length) : Calls Try.prog 39 #[u] w (KInt' .u32 (num4 l[0] l[1] l[2] l[3]) w) := by
  obtain ⟨p, cap, rfl, h1, h2, h3, h4, h5, h6⟩ := h
  obtain ⟨b, o, rfl, hb, hc⟩ := h6 (by omega)
  have c0 := hc 0 (by omega)
  have c1 := hc 1 (by omega)
  have c2 := hc 2 (by omega)
  have c3 := hc 3 (by omega)
  simp only [Nat.add_zero] at c0
  obtain ⟨x0, x1⟩ := h5 l[0] (List.getElem_mem _)
  obtain ⟨y0, y1⟩ := h5 l[1] (List.getElem_mem _)
  obtain ⟨z0, z1⟩ := h5 l[2] (List.getElem_mem _)
  obtain ⟨t0, t1⟩ := h5 l[3] (List.getElem_mem _)
  have i1 : (1 : Int) < (l.length : Int) := by omega
  have i0 : (0 : Int) < (l.length : Int) := by omega
  have i2 : (2 : Int) < (l.length : Int) := by omega
  have i3 : (3 : Int) < (l.length : Int) := by omega
  have E := hid (u32_or_add x0 x1 y0 y1 z0 z1 t0 t1)
  clear hc h5 h6 h4
  go_enter Try.func39, Try.ntmps39
  go_wp2_with fail
  go_quiet (fail)
  go_wp2_with fail
  go_ret
  exact ⟨by rw [E.out]; rfl, (Chg.refl _ w).drewN _⟩

/-- A new attribute. -/
def NewAttr (t : Int) (l : List Int) (w : World) (e : Ending) (w' : World) : Prop := ∃ v, e = .returned (.agg #[.int .i64 t, v]) ∧ w'.ownsRow w.heap.size 5 1 v l.length (bytes l) ∧ Same w w'

set_option maxHeartbeats 2000000 in
theorem num_calls (w : World) (t v : Int) : Calls Try.prog 10 #[.int .i64 t, .int .i64 v] w (NewAttr t (of32 v) w) := by
  have hm0 : 0 ≤ v % 4294967296 := by omega
  have hm1 : v % 4294967296 < 4294967296 := by omega
  go_enter Try.func10, Try.ntmps10
  go_wp2_with fail
  refine (append32_calls _ _ (by first | assumption | omega) (by first | assumption | omega)).mono ?_
  rintro e w1 ⟨u1, rfl, hown, hs⟩
  obtain ⟨a, cap, rfl, q1, q2⟩ := ownsRow_form hown
  have hN := hid hs.new
  have HO := hid hown
  have HS := hid hs
  have hz : w.heap.size < w1.heap.size := lt_of_heap hs.new
  have c0 : w1.cell? ⟨w.heap.size, 0, none⟩ = some (.int .i64 0) := by rw [cell_of_heap hs.new]; rfl
  have c1 : w1.cell? ⟨w.heap.size, 1, none⟩ = some (.slice none 0 0) := by rw [cell_of_heap hs.new]; rfl
  have f0 : ∀ o, w1.frozen? ⟨w.heap.size, o, none⟩ = false := fun o => frozen_of_heap hs.new o
  clear hown hs
  go_wp2_with fail
  refine bodyPost_ret (v := .agg #[.int .i64 t, .slice a (of32 (v % 4294967296)).length cap]) (by simp [results, Try.results10, go_sem, c0, c1, hz]) rfl ⟨_, rfl, ?_⟩
  have h := laid2 HS.out HO.out 0 1 (.int .i64 t) (.slice a (of32 (v % 4294967296)).length cap)
  rw [of32_mod] at h ⊢
  exact h

set_option maxHeartbeats 2000000 in
theorem rnum_calls (w : World) (t v : Int) (h0 : -9223372036854775808 ≤ v) (h1 : v ≤ 9223372036854775807) : Calls Try.prog 12 #[.int .i64 t, .int .i64 v] w (NewAttr t (of32 v) w) := by
  go_enter Try.func12, Try.ntmps12
  go_wp2_with fail
  refine bodyPost_ret (v := .agg #[.int .i64 t, .slice (some ⟨w.heap.size + 1, 0, none⟩) 4 4]) (by simp [results, Try.results12, go_sem]) rfl ⟨_, rfl, ?_⟩
  exact laid_row w _ 5 1 4 (bytes (of32 v)) rfl (by unfold maxLen; omega)

set_option maxHeartbeats 2000000 in
theorem bool_calls (w : World) (t : Int) (b : Bool) : Calls Try.prog 9 #[.int .i64 t, .bool b] w (NewAttr t [if b then 1 else 0] w) := by
  cases b
  · go_enter Try.func9, Try.ntmps9
    go_wp2_with fail
    refine bodyPost_ret (v := .agg #[.int .i64 t, .slice (some ⟨w.heap.size + 1, 0, none⟩) 1 1]) (by simp [results, Try.results9, go_sem]) rfl ⟨_, rfl, ?_⟩
    exact laid_row w _ 5 1 1 (bytes [0]) rfl (by unfold maxLen; omega)
  · go_enter Try.func9, Try.ntmps9
    go_wp2_with fail
    refine bodyPost_ret (v := .agg #[.int .i64 t, .slice (some ⟨w.heap.size + 1, 0, none⟩) 1 1]) (by simp [results, Try.results9, go_sem]) rfl ⟨_, rfl, ?_⟩
    exact laid_row w _ 5 1 1 (bytes [1]) rfl (by unfold maxLen; omega)

set_option maxHeartbeats 2000000 in
theorem rbool_calls (w : World) (t : Int) (b : Bool) : Calls Try.prog 11 #[.int .i64 t, .bool b] w (NewAttr t [if b then 1 else 0] w) := by
  cases b
  · go_enter Try.func11, Try.ntmps11
    go_wp2_with fail
    refine bodyPost_ret (v := .agg #[.int .i64 t, .slice (some ⟨w.heap.size + 1, 0, none⟩) 1 1]) (by simp [results, Try.results11, go_sem]) rfl ⟨_, rfl, ?_⟩
    exact laid_row w _ 5 1 1 (bytes [0]) rfl (by unfold maxLen; omega)
  · go_enter Try.func11, Try.ntmps11
    go_wp2_with fail
    refine bodyPost_ret (v := .agg #[.int .i64 t, .slice (some ⟨w.heap.size + 1, 0, none⟩) 1 1]) (by simp [results, Try.results11, go_sem]) rfl ⟨_, rfl, ?_⟩
    exact laid_row w _ 5 1 1 (bytes [1]) rfl (by unfold maxLen; omega)
end
end Go.Proofs.Ythmhmgmdajjpmaa
