/- No table has no sessions. -/
import Derived.Test.YtlfdcfgpbigjdaaNil
namespace Go.Proofs.Ytlfdcfgpbigjdaa
set_option linter.unusedVariables false
set_option linter.unusedSimpArgs false
open Go.RowKit
attribute [local go_sem] Oper.semAt_some

set_option maxRecDepth 100000 in
set_option maxHeartbeats 4000000 in
theorem none_calls (w : World) : Calls Try.prog 5 #[] w (BoolPost true w) := by
  refine calls_of_marks Try.func5 rfl ?_
  simp only [Try.ntmps5, List.size_toArray, List.length_cons, List.length_nil, Nat.reduceAdd, Nat.reduceSub, Array.replicate_succ, Array.replicate_zero, List.push_toArray, List.append_toArray, List.nil_append, List.cons_append]
  go_wp2_with fail
  refine (nilOpen_calls w 1 1 true).mono ?_
  rintro e w1 ⟨rfl, hs1⟩
  have S1 := hid hs1
  clear hs1
  go_wp2_with fail
  refine (all_calls none 1 1 w1).mono ?_
  rintro e w5 ⟨rfl, hs5, b0, b1, b2⟩
  have S5 := hid (S1.out.trans hs5)
  have B0 := hid b0
  have B1 := hid b1
  have B2 := hid b2
  clear hs5 b0 b1 b2
  have hfn : ∀ (cs : Array Value) (W : World), (binOp .eql 46 (.func (.func 40) #[] cs) .nilFunc).run Try.prog W = .ok (.bool false) W := by intro cs W; kernel_rfl
  go_wp2_with fail
  clear hfn
  refine wp_range rfl callFunc40 (allNil_stops 8 (by omega) _ _ _ w5 B0.out w5.heap.size 1) (by simp) ((Below.refl _ w5).alloc (Nat.le_refl _) _) (fun _ => rfl) (fun pre W => Below w5.heap.size w5 W ∧ (W.cell? ⟨w5.heap.size, 0, none⟩ = some (.int .i64 (pre.length : Int)) ∧ W.frozen? ⟨w5.heap.size, 0, none⟩ = false)) ((own_below (Nat.le_refl _) (by simp)).and (own_cell _ _)) ⟨(Below.refl _ w5).alloc (Nat.le_refl _) _, by simp, by simp⟩ ?_ ?_
  · apply Exists.intro
    apply And.intro
    · intro lp x W K hK
      gi_wp2
      exact hK
    · rintro lp pre x W ⟨hb, hc, hf⟩ hlt
      have hlt' : pre.length < 100 := Nat.lt_of_lt_of_le hlt (by decide)
      have HB := hid hb
      clear hb hlt
      gi_wp2
      refine ⟨(KeepsOthers.setCell _ _ _).from _, (Below.refl w5.heap.size W).setCell (p := ⟨w5.heap.size, 0, none⟩) (Nat.le_refl _) _, HB.out.setCell (p := ⟨w5.heap.size, 0, none⟩) (Nat.le_refl _) _, ?_, ?_⟩
      · rw [World.cell?_setCell_same' _ _ _ (by rw [hc]; rfl)]; simp
      · rw [World.frozen?_setCell]; exact hf
  · rintro D xs W hD rfl ⟨hb, hc, hf⟩ hK
    have hS : Same w5 W := Chg.of_below hb
    have HS := hid (S5.out.trans hS)
    have HK := hid hK
    have HD := hid hD
    have hkc0 : w5.heap.size < W.heap.size := by have := lt_of_heap HK.out; have := HD.out; simp at this; omega
    have HKC := hid hkc0
    clear hb hS hK hD hkc0
    have HC : Hid (W.cell? ⟨w5.heap.size, 0, none⟩ = some (.int .i64 0)) := hc
    clear hc hf
    go_wp2_with fail
    refine (nilSlot_calls W 1 1).mono ?_
    rintro e w6 ⟨rfl, hs6⟩
    have S6 := hid hs6
    clear hs6
    go_wp2_with fail
    refine (begun_calls w6).mono ?_
    rintro e w7 ⟨rfl, hs7⟩
    have S7 := hid (S6.out.trans hs7)
    clear hs7
    go_wp2_with fail
    refine (nilClose_calls w7 1 1).mono ?_
    rintro e w8 ⟨rfl, hs8⟩
    have S8 := hid (S7.out.trans hs8)
    clear hs8
    go_wp2_with fail
    refine (nilCloseAll_calls w8 1 1).mono ?_
    rintro e w9 ⟨rfl, hs9⟩
    have S9 := hid (S8.out.trans hs9)
    clear hs9
    go_wp2_with fail
    refine (nilDrop_calls w9 1).mono ?_
    rintro e w10 ⟨rfl, hs10⟩
    have S10 := hid (S9.out.trans hs10)
    clear hs10
    go_wp2_with fail
    refine (nilState_calls w10 1 1).mono ?_
    rintro e w11 ⟨rfl, hs11⟩
    have S11 := hid (S10.out.trans hs11)
    clear hs11
    go_wp2_with fail
    refine (nilLogin_calls w11 1 1 1).mono ?_
    rintro e w12 ⟨rfl, hs12⟩
    have S12 := hid (S11.out.trans hs12)
    clear hs12
    go_wp2_with fail
    refine (nilLogout_calls w12 1 1).mono ?_
    rintro e w13 ⟨rfl, hs13⟩
    have S13 := hid (S12.out.trans hs13)
    clear hs13
    go_wp2_with fail
    refine (nilUsed_calls w13 1).mono ?_
    rintro e w14 ⟨rfl, hs14⟩
    have S14 := hid (S13.out.trans hs14)
    clear hs14
    have c14 : w14.cell? ⟨w5.heap.size, 0, none⟩ = some (.int .i64 0) := by rw [S14.out.cell (by exact HKC.out) (fun h => h)]; exact HC.out
    have hK14 := hid (heap_same HK.out S14.out)
    have H14 := hid (HS.out.trans S14.out)
    go_wp2_with fail
    refine ⟨by simp, .inl ⟨_, _, rfl, run_takeDeferred hK14.out, ?_⟩⟩
    refine ⟨_, results_tmp rfl _ _ _, rfl, ?_⟩
    have hg := grownBy_putObj' w14 D (.deferred none)
    exact H14.out.grown hg (fun k hk => by cases hk; right; have := HD.out; simp at this; have := S5.out.size; omega)
end Go.Proofs.Ytlfdcfgpbigjdaa
