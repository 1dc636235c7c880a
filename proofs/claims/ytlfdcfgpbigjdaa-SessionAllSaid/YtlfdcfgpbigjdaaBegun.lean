/- begun: one login is told. -/
import Derived.Test.YtlfdcfgpbigjdaaAll
namespace Go.Proofs.Ytlfdcfgpbigjdaa
set_option linter.unusedVariables false
set_option linter.unusedSimpArgs false
open Go.RowKit
attribute [local go_sem] Oper.semAt_some

/-- A function's contract where its body holds a range over a function. -/
theorem calls_of_marks {P : Program} {f : FuncId} {fn : Func} {c : Code} {args : Array Value} {w : World} {R : Ending → World → Prop} (hf : P.funcs[f]? = some fn) (hb : fn.body = some c)
    (h : c.wp P (bodyPostM Fence.wide 9 P fn R) { tmps := args ++ Array.replicate (fn.ntmps - args.size) undef, defers := [] } w) : Calls P f args w R :=
  (callsIn_wide (n := 9)).1 (callsIn_of_wp_marks hf hb trivial (wpIn_wide.2 h))

set_option maxHeartbeats 4000000 in
theorem begun_calls (w : World) : Calls Try.prog 6 #[] w (BoolPost true w) := by
  refine calls_of_marks Try.func6 rfl ?_
  simp only [Try.ntmps6, List.size_toArray, List.length_cons, List.length_nil, Nat.reduceAdd, Nat.reduceSub, Array.replicate_succ, Array.replicate_zero, List.push_toArray, List.append_toArray, List.nil_append, List.cons_append]
  go_wp2_with fail
  refine (new_calls w).mono ?_
  rintro e w1 ⟨t, F, sl, M, L, clock, rfl, hT, hs1, hF⟩
  have HT := hid hT
  have S1 := hid hs1
  have HF := hid hF
  clear hT hs1 hF
  go_wp2_with fail
  refine (open2_calls HT.out (by omega) 3 1 true).mono ?_
  rintro e w2 (⟨hn, -, -⟩ | ⟨-, rfl, hto⟩)
  · exact absurd (by decide) hn
  obtain ⟨F2, sl2, M2, L2, clock2, hT2, hc2, hg2⟩ := hto
  have HT2 := hid hT2
  have C2 := hid hc2
  have G2 := hid hg2
  clear hT2 hc2 hg2
  go_wp2_with fail
  refine (login_calls HT2.out (by intro c s v h; cases h) 3 1 1).mono ?_
  rintro e w3 ⟨rfl, hto⟩
  have e3 : mayOf ([] ++ [⟨0 + 1, 3, 1, true⟩]) (fun _ _ => none) 3 1 1 = 0 := by decide
  rw [e3]
  obtain ⟨F3, sl3, M3, L3, clock3, hT3, hc3, hg3⟩ := hto
  have e4 : loginU ([] ++ [⟨0 + 1, 3, 1, true⟩]) (fun _ _ => none) 3 1 1 = putU (fun _ _ => none) 3 1 (some 1) := by unfold loginU; rw [if_pos e3]
  rw [e4] at hT3
  have HT3 := hid hT3
  have C3 := hid hc3
  have G3 := hid hg3
  clear hT3 hc3 hg3 e3 e4
  go_wp2_with fail
  refine (slot_calls HT3.out 3 1).mono ?_
  rintro e w4 ⟨he4, hs4⟩
  obtain rfl : e = .returned (.tuple #[.int .i64 1, .bool true]) := he4
  have HT4 := hid (HT3.out.same hs4)
  have S4 := hid hs4
  clear hs4
  go_wp2_with fail
  refine (all_calls (some ⟨t, 0, none⟩) 3 1 w4).mono ?_
  rintro e w5 ⟨rfl, hs5, b0, b1, b2⟩
  have HT5 := hid (HT4.out.same hs5)
  have S5 := hid hs5
  have B0 := hid b0
  have B1 := hid b1
  have B2 := hid b2
  clear hs5 b0 b1 b2
  have hfn : ∀ (cs : Array Value) (W : World), (binOp .eql 46 (.func (.func 40) #[] cs) .nilFunc).run Try.prog W = .ok (.bool false) W := by intro cs W; kernel_rfl
  go_wp2_with fail
  have hg5 : goneOf (hasAt 3 1) ([] ++ [⟨0 + 1, 3, 1, true⟩]) = [1] := by decide
  have HG5 := hid hg5
  clear hg5 hfn
  obtain ⟨n5, hn5⟩ : ∃ n5, n5 = w5.heap.size := ⟨_, rfl⟩
  have HN5 := hid hn5
  clear hn5
  refine wp_range rfl callFunc40 (all_stops 8 (by omega) HT5.out B0.out B1.out B2.out) (by simp) ((Below.refl _ w5).alloc (Nat.le_refl _) _) (fun _ => rfl) (fun pre W => Below w5.heap.size w5 W ∧ (W.cell? ⟨w5.heap.size, 0, none⟩ = some (.int .i64 (pre.length : Int)) ∧ W.frozen? ⟨w5.heap.size, 0, none⟩ = false)) ((own_below (Nat.le_refl _) (by simp)).and (own_cell _ _)) ⟨(Below.refl _ w5).alloc (Nat.le_refl _) _, by simp, by simp⟩ ?_ ?_
  · apply Exists.intro
    apply And.intro
    · intro lp x W K hK
      gi_wp2
      exact hK
    · rintro lp pre x W ⟨hb, hc, hf⟩ hlt
      have hlt' : pre.length < 100 := by
        simp at hlt; omega
      have HB := hid hb
      clear hb hlt
      gi_wp2
      refine ⟨(KeepsOthers.setCell _ _ _).from _, (Below.refl w5.heap.size W).setCell (p := ⟨w5.heap.size, 0, none⟩) (Nat.le_refl _) _, HB.out.setCell (p := ⟨w5.heap.size, 0, none⟩) (Nat.le_refl _) _, ?_, ?_⟩
      · rw [World.cell?_setCell_same' _ _ _ (by rw [hc]; rfl)]; simp
      · rw [World.frozen?_setCell]; exact hf
  · rintro D xs W hD rfl ⟨hb, hc, hf⟩ hK
    rw [HG5.out] at hc
    have hS : Same w5 W := Chg.of_below hb
    have HT6 := hid (HT5.out.same hS)
    have HS := hid hS
    have HK := hid hK
    have HD := hid hD
    clear hb hS hK hD
    have HC : Hid (W.cell? ⟨w5.heap.size, 0, none⟩ = some (.int .i64 1)) := hc
    clear hc hf
    go_wp2_with fail
    refine (state_calls HT6.out 3 1).mono ?_
    rintro e w7 ⟨he7, hs7⟩
    obtain rfl : e = .returned (.int .i64 3) := he7
    have HT7 := hid (HT6.out.same hs7)
    have S7 := hid hs7
    clear hs7
    go_wp2_with fail
    refine (used_calls HT7.out 1).mono ?_
    rintro e w8 ⟨he8, hs8⟩
    obtain rfl : e = .returned (.bool true) := he8
    have HT8 := hid (HT7.out.same hs8)
    have S8 := hid (S7.out.trans hs8)
    have hkc : w5.heap.size < W.heap.size := by have := lt_of_heap HK.out; have := HD.out; simp at this; omega
    have c8 : w8.cell? ⟨w5.heap.size, 0, none⟩ = some (.int .i64 1) := by rw [S8.out.cell (by exact hkc) (fun h => h)]; exact HC.out
    clear hs8 hkc
    go_wp2_with fail
    refine (may_calls HT8.out 3 1 0).mono ?_
    rintro e w9 ⟨he9, hs9⟩
    obtain rfl : e = .returned (.int .i64 260) := he9
    have HT9 := hid (HT8.out.same hs9)
    have S9 := hid (S8.out.trans hs9)
    clear hs9 c8
    go_wp2_with fail
    refine (drop_calls HT9.out (by decide) 3).mono ?_
    rintro e w10 ⟨gv, F10, sl10, M10, L10, clock10, rfl, hT10, hc10, hg10, hrow, hoff⟩
    have hgo : goneOf (fun x => x.c == 3) ([] ++ [⟨0 + 1, 3, 1, true⟩]) = [1] := by decide
    rw [hgo] at hrow
    obtain ⟨ga, gcap, rfl, -, -, -⟩ := row_int hrow
    have hDF : ¬ F3 D := fun hf => by have := HT5.out.old D hf; have := HD.out; simp at this; omega
    have hK9 : w9.heap[D]? = some (.deferred (some [])) := heap_same HK.out S9.out
    have hK10 : w10.heap[D]? = some (.deferred (some [])) := by rw [hc10.block D (lt_of_heap hK9) hDF]; exact hK9
    have HK10 := hid hK10
    have HC10 := hid hc10
    clear hT10 hg10 hrow hoff hDF hK9 hK10 hc10 hgo
    go_wp2_with fail
    refine ⟨by simp, .inl ⟨_, _, rfl, run_takeDeferred HK10.out, ?_⟩⟩
    refine ⟨_, results_tmp rfl _ _ _, rfl, ?_⟩
    have f1 : ∀ k, F k → w.heap.size ≤ k := HF.out
    have f2 : ∀ k, F2 k → w.heap.size ≤ k := fun k hk => by rcases G2.out k hk with q | q; exact f1 k q; have := S1.out.size; omega
    have f3 : ∀ k, F3 k → w.heap.size ≤ k := fun k hk => by rcases G3.out k hk with q | q; exact f2 k q; have := S1.out.size; have := C2.out.size; omega
    have h2 : Same w w2 := Chg.trans S1.out C2.out (fun k hk => .inr (f1 k hk))
    have h3 : Same w w3 := Chg.trans h2 C3.out (fun k hk => .inr (f2 k hk))
    have h9 : Same w w9 := (((h3.trans S4.out).trans S5.out).trans HS.out).trans S9.out
    have h10 : Same w w10 := Chg.trans h9 HC10.out (fun k hk => .inr (f3 k hk))
    have hg := grownBy_putObj' w10 D (.deferred none)
    exact h10.grown hg (fun k hk => by cases hk; right; have := HD.out; simp at this; have := h3.size; have := S4.out.size; have := S5.out.size; omega)
end Go.Proofs.Ytlfdcfgpbigjdaa
