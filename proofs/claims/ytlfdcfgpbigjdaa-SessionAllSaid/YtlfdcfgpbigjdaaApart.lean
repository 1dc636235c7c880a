/- What one connection does is nothing to another one: the walk. -/
import Derived.Test.YtlfdcfgpbigjdaaApart1
import Derived.Test.YtlfdcfgpbigjdaaBegun
namespace Go.Proofs.Ytlfdcfgpbigjdaa
set_option linter.unusedVariables false
set_option linter.unusedSimpArgs false
open Go.RowKit

/-- One of the calls that is handed in. -/
structure Opc where
  kind : Int
  conn : Int
  slot : Int
  h : Int
  user : Int
  rw : Bool

def OpcAt (w : World) (b : Addr) (x : Opc) : Prop :=
  w.cell? b = some (.int .i64 x.kind) ∧ w.cell? ⟨b.block, b.off + 1, none⟩ = some (.int .i64 x.conn) ∧ w.cell? ⟨b.block, b.off + 2, none⟩ = some (.int .i64 x.slot) ∧
  w.cell? ⟨b.block, b.off + 3, none⟩ = some (.int .i64 x.h) ∧ w.cell? ⟨b.block, b.off + 4, none⟩ = some (.int .i64 x.user) ∧ w.cell? ⟨b.block, b.off + 5, none⟩ = some (.bool x.rw)

/-- A slice of calls. -/
def OpsAt (w : World) (v : Value) : Prop :=
  ∃ a n cap, v = .slice a n cap ∧ n ≤ maxLen ∧ ∀ k, k < n → ∃ b x, a = some b ∧ (b.add (k * 6)).block < w.heap.size ∧ OpcAt w (b.add (k * 6)) x

theorem kinds (i : Int) : i = 0 ∨ i = 1 ∨ i = 2 ∨ i = 3 ∨ i = 4 ∨ ((i == 0) = false ∧ (i == 1) = false ∧ (i == 2) = false ∧ (i == 3) = false ∧ (i == 4) = false) := by
  simp only [beq_eq_false_iff_ne]
  omega

set_option maxRecDepth 100000 in
set_option maxHeartbeats 4000000 in
theorem apart_calls (w : World) (v : Value) (hv : OpsAt w v) : Calls Try.prog 4 #[v] w (BoolPost true w) := by
  obtain ⟨a, n, cap, rfl, hn, hx⟩ := hv
  have hn' : n ≤ 9223372036854775807 := by unfold maxLen at hn; omega
  have HX := hid hx
  have HN := hid hn'
  clear hx hn hn'
  go_enter Try.func4, Try.ntmps4
  go_wp2_with fail
  refine (begun_calls w).mono ?_
  rintro e w1 ⟨rfl, hs1⟩
  have S1 := hid hs1
  clear hs1
  go_wp2_with fail
  refine (new_calls w1).mono ?_
  rintro e w2 ⟨t, F, sl, M, L, clock, rfl, hT, hs2, hF⟩
  have HT := hid hT
  have S2 := hid (S1.out.trans hs2)
  have HF : Hid (∀ k, F k → w.heap.size ≤ k) := fun k hk => Nat.le_trans S1.out.size (hF k hk)
  clear hT hs2 hF
  go_wp2_with fail
  refine (open2_calls HT.out (by omega) 77 1 true).mono ?_
  rintro e w3 (⟨hn, -, -⟩ | ⟨-, rfl, hto⟩)
  · exact absurd (by decide) hn
  obtain ⟨F2, sl2, M2, L2, clock2, hT2, hc2, hg2⟩ := hto
  have HT2 := hid hT2
  have C2 := hid hc2
  have G2 := hid hg2
  clear hT2 hc2 hg2
  go_wp2_with fail
  refine (login_calls HT2.out (by intro c s v h; cases h) 77 1 1).mono ?_
  rintro e w4 ⟨rfl, hto⟩
  have e3 : mayOf ([] ++ [⟨0 + 1, 77, 1, true⟩]) (fun _ _ => none) 77 1 1 = 0 := by decide
  have e4 : loginU ([] ++ [⟨0 + 1, 77, 1, true⟩]) (fun _ _ => none) 77 1 1 = putU (fun _ _ => none) 77 1 (some 1) := by unfold loginU; rw [if_pos e3]
  rw [e4] at hto
  have h2 : Same w w3 := Chg.trans S2.out C2.out (fun k hk => .inr (HF.out k hk))
  have f2 : ∀ k, F2 k → w.heap.size ≤ k := fun k hk => by
    rcases G2.out k hk with q | q
    · exact HF.out k q
    · exact Nat.le_trans S2.out.size q
  have hi : Inv ([] ++ [⟨0 + 1, 77, 1, true⟩]) (0 + 1) (putU (fun _ _ => none) 77 1 (some 1)) 0 := by
    refine ⟨by decide, ?_, by decide, ?_, by decide, by decide, by decide⟩
    · intro x hx _
      simpa [mine] using hx
    · intro c s v hv
      unfold putU at hv
      split at hv
      · cases hv; decide
      · cases hv
  have hh : Held w t 0 w4 := held_of h2 f2 hto hi
  have HH := hid hh
  clear hh f2 h2 e3 e4 hto hi
  go_wp2_with fail
  go_loopw [7] (fun i wr => ∃ k : Nat, k ≤ 30 ∧ i = .int .i64 k ∧ Held w t k wr) (fun i _ => 30 - (intOf i).toNat)
  case atStart => exact ⟨0, Nat.zero_le _, rfl, HH.out⟩
  case round =>
    obtain ⟨k, hk, rfl, hh⟩ := hrel
    have HK := hid hh
    clear hh
    by_cases hlt : k < n
    · by_cases h30 : k < 30
      · obtain ⟨b, x, rfl, hg, c0, c1, c2, c3, c4, c5⟩ := HX.out k hlt
        obtain ⟨kind, conn, slot, hd, user, rw⟩ := x
        simp only at c0 c1 c2 c3 c4 c5
        rw [← HK.out.same.cell (by exact hg) (fun h => h)] at c0 c1 c2 c3 c4 c5
        obtain ⟨F5, hf5⟩ := HK.out
        have CC : Hid (∀ W, Chg F5 (wr.alloc (.cells #[.int .i64 kind, .int .i64 conn, .int .i64 slot, .int .i64 hd, .int .i64 user, .bool rw] 32)) W → W.cell? ⟨wr.heap.size, 1, none⟩ = some (.int .i64 conn)) := by
          intro W hW
          have hN := heap_alloc_new wr (.cells #[.int .i64 kind, .int .i64 conn, .int .i64 slot, .int .i64 hd, .int .i64 user, .bool rw] 32)
          have : W.heap[wr.heap.size]? = _ := (hW.block wr.heap.size (lt_of_heap hN) (fun hf => Nat.lt_irrefl _ (hf5.old _ hf))).trans hN
          rw [cell_of_heap this]
          rfl
        have HK5 := hid (hf5.later ((same_refl wr).alloc (.cells #[.int .i64 kind, .int .i64 conn, .int .i64 slot, .int .i64 hd, .int .i64 user, .bool rw] 32)))
        clear hg hf5
        by_cases h77 : conn = 77
        · subst h77
          go_wp2_with fail
          case roundEnd => exact ⟨⟨k + 1, by omega, by simp, ⟨_, HK5.out.up⟩⟩, by simp [intOf]; omega⟩
        · have b77 : (conn == 77) = false := by simpa using h77
          rcases kinds kind with rfl | rfl | rfl | rfl | rfl | ⟨d0, d1, d2, d3, d4⟩
          · go_wp2_with fail
            refine (HK5.out.opens (by omega) slot rw h77).mono ?_
            rintro e w5 ⟨⟨v5, rfl⟩, hh5, hc5⟩
            have c5 := CC.out w5 hc5
            have HH5 := hid hh5
            clear hh5 hc5
            go_wp2_with fail
            obtain ⟨F6, hh6⟩ := HH5.out
            have HH6 := hid hh6
            clear hh6
            refine HH6.out.states.mono ?_
            rintro e w6 ⟨rfl, hs6⟩
            have c6 : w6.cell? ⟨wr.heap.size, 1, none⟩ = some (.int .i64 conn) := by rw [hs6.cell (cell_lt c5) (fun h => h)]; exact c5
            have HH7 := hid (HH6.out.later hs6)
            clear hs6 c5
            go_wp2_with fail
            refine (HH7.out.statesOther h77).mono ?_
            rintro e w7 ⟨rfl, hs7⟩
            have HH8 := hid (HH7.out.later hs7)
            clear hs7 c6
            go_wp2_with fail
            case roundEnd => exact ⟨⟨k + 1, by omega, by simp, ⟨_, HH8.out⟩⟩, by simp [intOf]; omega⟩
          · go_wp2_with fail
            refine (HK5.out.closes (by omega) hd h77).mono ?_
            rintro e w5 ⟨⟨v5, rfl⟩, hh5, hc5⟩
            have c5 := CC.out w5 hc5
            have HH5 := hid hh5
            clear hh5 hc5
            go_wp2_with fail
            obtain ⟨F6, hh6⟩ := HH5.out
            have HH6 := hid hh6
            clear hh6
            refine HH6.out.states.mono ?_
            rintro e w6 ⟨rfl, hs6⟩
            have c6 : w6.cell? ⟨wr.heap.size, 1, none⟩ = some (.int .i64 conn) := by rw [hs6.cell (cell_lt c5) (fun h => h)]; exact c5
            have HH7 := hid (HH6.out.later hs6)
            clear hs6 c5
            go_wp2_with fail
            refine (HH7.out.statesOther h77).mono ?_
            rintro e w7 ⟨rfl, hs7⟩
            have HH8 := hid (HH7.out.later hs7)
            clear hs7 c6
            go_wp2_with fail
            case roundEnd => exact ⟨⟨k + 1, by omega, by simp, ⟨_, HH8.out⟩⟩, by simp [intOf]; omega⟩
          · go_wp2_with fail
            refine (HK5.out.closesAll (by omega) slot h77).mono ?_
            rintro e w5 ⟨⟨v5, rfl⟩, hh5, hc5⟩
            have c5 := CC.out w5 hc5
            have HH5 := hid hh5
            clear hh5 hc5
            go_wp2_with fail
            obtain ⟨F6, hh6⟩ := HH5.out
            have HH6 := hid hh6
            clear hh6
            refine HH6.out.states.mono ?_
            rintro e w6 ⟨rfl, hs6⟩
            have c6 : w6.cell? ⟨wr.heap.size, 1, none⟩ = some (.int .i64 conn) := by rw [hs6.cell (cell_lt c5) (fun h => h)]; exact c5
            have HH7 := hid (HH6.out.later hs6)
            clear hs6 c5
            go_wp2_with fail
            refine (HH7.out.statesOther h77).mono ?_
            rintro e w7 ⟨rfl, hs7⟩
            have HH8 := hid (HH7.out.later hs7)
            clear hs7 c6
            go_wp2_with fail
            case roundEnd => exact ⟨⟨k + 1, by omega, by simp, ⟨_, HH8.out⟩⟩, by simp [intOf]; omega⟩
          · go_wp2_with fail
            refine (HK5.out.drops (by omega) h77).mono ?_
            rintro e w5 ⟨⟨v5, rfl⟩, hh5, hc5⟩
            have c5 := CC.out w5 hc5
            have HH5 := hid hh5
            clear hh5 hc5
            go_wp2_with fail
            obtain ⟨F6, hh6⟩ := HH5.out
            have HH6 := hid hh6
            clear hh6
            refine HH6.out.states.mono ?_
            rintro e w6 ⟨rfl, hs6⟩
            have c6 : w6.cell? ⟨wr.heap.size, 1, none⟩ = some (.int .i64 conn) := by rw [hs6.cell (cell_lt c5) (fun h => h)]; exact c5
            have HH7 := hid (HH6.out.later hs6)
            clear hs6 c5
            go_wp2_with fail
            refine (HH7.out.statesOther h77).mono ?_
            rintro e w7 ⟨rfl, hs7⟩
            have HH8 := hid (HH7.out.later hs7)
            clear hs7 c6
            go_wp2_with fail
            case roundEnd => exact ⟨⟨k + 1, by omega, by simp, ⟨_, HH8.out⟩⟩, by simp [intOf]; omega⟩
          · go_wp2_with fail
            refine (HK5.out.logins slot user h77).mono ?_
            rintro e w5 ⟨⟨v5, rfl⟩, hh5, hc5⟩
            have c5 := CC.out w5 hc5
            have HH5 := hid hh5
            clear hh5 hc5
            go_wp2_with fail
            obtain ⟨F6, hh6⟩ := HH5.out
            have HH6 := hid hh6
            clear hh6
            refine HH6.out.states.mono ?_
            rintro e w6 ⟨rfl, hs6⟩
            have c6 : w6.cell? ⟨wr.heap.size, 1, none⟩ = some (.int .i64 conn) := by rw [hs6.cell (cell_lt c5) (fun h => h)]; exact c5
            have HH7 := hid (HH6.out.later hs6)
            clear hs6 c5
            go_wp2_with fail
            refine (HH7.out.statesOther h77).mono ?_
            rintro e w7 ⟨rfl, hs7⟩
            have HH8 := hid (HH7.out.later hs7)
            clear hs7 c6
            go_wp2_with fail
            case roundEnd => exact ⟨⟨k + 1, by omega, by simp, ⟨_, HH8.out⟩⟩, by simp [intOf]; omega⟩
          · go_wp2_with fail
            refine (HK5.out.logouts slot h77).mono ?_
            rintro e w5 ⟨⟨v5, rfl⟩, hh5, hc5⟩
            have c5 := CC.out w5 hc5
            have HH5 := hid hh5
            clear hh5 hc5
            go_wp2_with fail
            obtain ⟨F6, hh6⟩ := HH5.out
            have HH6 := hid hh6
            clear hh6
            refine HH6.out.states.mono ?_
            rintro e w6 ⟨rfl, hs6⟩
            have c6 : w6.cell? ⟨wr.heap.size, 1, none⟩ = some (.int .i64 conn) := by rw [hs6.cell (cell_lt c5) (fun h => h)]; exact c5
            have HH7 := hid (HH6.out.later hs6)
            clear hs6 c5
            go_wp2_with fail
            refine (HH7.out.statesOther h77).mono ?_
            rintro e w7 ⟨rfl, hs7⟩
            have HH8 := hid (HH7.out.later hs7)
            clear hs7 c6
            go_wp2_with fail
            case roundEnd => exact ⟨⟨k + 1, by omega, by simp, ⟨_, HH8.out⟩⟩, by simp [intOf]; omega⟩
      · go_wp2_with fail
        go_ret
        exact ⟨rfl, HK.out.same⟩
    · go_wp2_with fail
      go_ret
      exact ⟨rfl, HK.out.same⟩
end Go.Proofs.Ytlfdcfgpbigjdaa
