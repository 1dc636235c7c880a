/- Sessions are opened and closed, users log in and out, as the document says: the walk. -/
import Derived.Test.YtlfdcfgpbigjdaaAll2
import Derived.Test.YtlfdcfgpbigjdaaApart
namespace Go.Proofs.Ytlfdcfgpbigjdaa
set_option linter.unusedVariables false
set_option linter.unusedSimpArgs false
open Go.RowKit

/-- The call that is copied out of the list. -/
def CopyAt (b : Nat) (kind conn slot hd user : Int) (rw : Bool) (W : World) : Prop :=
  W.cell? ⟨b, 0, none⟩ = some (.int .i64 kind) ∧ W.cell? ⟨b, 1, none⟩ = some (.int .i64 conn) ∧ W.cell? ⟨b, 2, none⟩ = some (.int .i64 slot) ∧
  W.cell? ⟨b, 3, none⟩ = some (.int .i64 hd) ∧ W.cell? ⟨b, 4, none⟩ = some (.int .i64 user) ∧ W.cell? ⟨b, 5, none⟩ = some (.bool rw)

def copyRow (kind conn slot hd user : Int) (rw : Bool) : Obj := .cells #[.int .i64 kind, .int .i64 conn, .int .i64 slot, .int .i64 hd, .int .i64 user, .bool rw] 32

theorem copy_at {w W : World} {G : Nat → Prop} {kind conn slot hd user : Int} {rw : Bool} (hG : ∀ k, G k → k < w.heap.size)
    (h : Chg G (w.alloc (.cells #[.int .i64 kind, .int .i64 conn, .int .i64 slot, .int .i64 hd, .int .i64 user, .bool rw] 32)) W) : CopyAt w.heap.size kind conn slot hd user rw W := by
  have hN := heap_alloc_new w (.cells #[.int .i64 kind, .int .i64 conn, .int .i64 slot, .int .i64 hd, .int .i64 user, .bool rw] 32)
  have hH : W.heap[w.heap.size]? = _ := (h.block w.heap.size (lt_of_heap hN) (fun hf => Nat.lt_irrefl _ (hG _ hf))).trans hN
  refine ⟨?_, ?_, ?_, ?_, ?_, ?_⟩ <;> (rw [cell_of_heap hH]; rfl)

theorem BothF.oldFG {w0 w : World} {t r n : Nat} {F G : Nat → Prop} {l : List Se} {last next : Int} {U : Int → Int → Option Int} {ws : List Lo} (h : BothF w0 t r n F G l last next U ws w) : ∀ k, FG F G k → k < w.heap.size := by
  rintro k (hk | hk)
  · exact h.oldF k hk
  · exact h.oldG k hk

theorem rtab_new (w : World) : RTab (w.alloc (.cells #[.slice none 0 0, .int .i64 0, .slice none 0 0] 30)) (fun k => k = w.heap.size) w.heap.size [] 0 [] (.slice none 0 0) (.slice none 0 0) := by
  refine ⟨heap_alloc_new _ _, World.ownsRow_nil _ _ _ _, World.ownsRow_nil _ _ _ _, rfl, fun g hg => by simp [Value.ownBlock] at hg, fun g hg => by simp [Value.ownBlock] at hg, ?_⟩
  rintro k rfl
  simp

set_option maxRecDepth 100000 in
set_option maxHeartbeats 8000000 in
theorem sessAll_calls (w : World) (v : Value) (hv : OpsAt w v) : Calls Try.prog 3 #[v] w (BoolPost true w) := by
  obtain ⟨a, n, cap, rfl, hn, hx⟩ := hv
  have hn' : n ≤ 9223372036854775807 := by unfold maxLen at hn; omega
  have HX := hid hx
  have HN := hid hn'
  clear hx hn hn'
  go_enter Try.func3, Try.ntmps3
  go_wp2_with fail
  refine (begun_calls w).mono ?_
  rintro e w1 ⟨rfl, hs1⟩
  have S1 := hid hs1
  clear hs1
  go_wp2_with fail
  refine (new_calls w1).mono ?_
  rintro e w2 ⟨t, F, sl, M, L, clock, rfl, hT, hs2, hF⟩
  have hh : Both w t w2.heap.size 0 (w2.alloc (.cells #[.slice none 0 0, .int .i64 0, .slice none 0 0] 30)) := by
    have hs3 : Same w2 (w2.alloc (.cells #[.slice none 0 0, .int .i64 0, .slice none 0 0] 30)) := (same_refl w2).alloc _
    have h1 := S1.out.size
    have h2 := hs2.size
    refine ⟨F, fun k => k = w2.heap.size, [], 0, 0, fun _ _ => none, [], ⟨sl, M, L, clock, hT.same hs3⟩, ⟨_, _, rtab_new w2⟩, alike_new, Same.trans (Same.trans S1.out hs2) hs3, fun k hk => Nat.le_trans h1 (hF k hk), ?_, ?_⟩
    · rintro k rfl
      omega
    · rintro k hk rfl
      exact Nat.lt_irrefl _ (hT.old _ hk)
  have HH := hid hh
  clear hh hT hs2 hF
  go_wp2_with fail
  go_loopw [6] (fun i wr => ∃ k : Nat, k ≤ 50 ∧ i = .int .i64 k ∧ Both w t w2.heap.size k wr) (fun i _ => 50 - (intOf i).toNat)
  case atStart => exact ⟨0, Nat.zero_le _, rfl, HH.out⟩
  case round =>
    obtain ⟨k, hk, rfl, hh⟩ := hrel
    have HK := hid hh
    clear hh
    by_cases hlt : k < n
    · by_cases h50 : k < 50
      · obtain ⟨b, x, rfl, hg, c0, c1, c2, c3, c4, c5⟩ := HX.out k hlt
        obtain ⟨kind, conn, slot, hd, user, rw⟩ := x
        simp only at c0 c1 c2 c3 c4 c5
        rw [← HK.out.same.cell (by exact hg) (fun h => h)] at c0 c1 c2 c3 c4 c5
        obtain ⟨F5, G5, l5, last5, next5, U5, ws5, hf5⟩ := HK.out
        have CC : Hid (∀ W, Chg (FG F5 G5) (wr.alloc (.cells #[.int .i64 kind, .int .i64 conn, .int .i64 slot, .int .i64 hd, .int .i64 user, .bool rw] 32)) W → CopyAt wr.heap.size kind conn slot hd user rw W) := fun W hW => copy_at hf5.oldFG hW
        have HK5 := hid (hf5.later ((same_refl wr).alloc (.cells #[.int .i64 kind, .int .i64 conn, .int .i64 slot, .int .i64 hd, .int .i64 user, .bool rw] 32)))
        have HUP := hid (HK.out.up.later ((same_refl wr).alloc (.cells #[.int .i64 kind, .int .i64 conn, .int .i64 slot, .int .i64 hd, .int .i64 user, .bool rw] 32)))
        clear hg hf5
        rcases kinds kind with rfl | rfl | rfl | rfl | rfl | ⟨d0, d1, d2, d3, d4⟩
        · go_wp2_with fail
          refine (HK5.out.opens (by omega) conn slot rw).mono ?_
          rintro e w5 ⟨a5, x5, rfl, hc5, hcall⟩
          have HC := hid hcall
          obtain ⟨e0, e1, e2, e3, e4, e5⟩ := CC.out w5 hc5
          clear hcall hc5
          go_wp2_with fail
          refine HC.out.mono ?_
          rintro e w6 ⟨rfl, hb6, hc6⟩
          have HB6 := hid hb6
          have C6 := hid hc6
          clear hb6 hc6 e0 e1 e2 e3 e4 e5
          obtain ⟨e0, e1, e2, e3, e4, e5⟩ := CC.out w6 C6.out
          go_wp2_with fail
          refine (HB6.out.tells (by omega) ⟨0, conn, slot, hd, user, rw⟩).mono ?_
          rintro e w9 ⟨rfl, hs9⟩
          have HH9 := hid (HB6.out.later hs9)
          clear hs9 e0 e1 e2 e3 e4 e5
          go_wp2_with fail
          case roundEnd => exact ⟨⟨k + 1, by omega, by simp, HH9.out⟩, by simp [intOf]; omega⟩
        · go_wp2_with fail
          refine (HK5.out.closes (by omega) conn hd).mono ?_
          rintro e w5 ⟨x5, rfl, hc5, hcall⟩
          have HC := hid hcall
          obtain ⟨e0, e1, e2, e3, e4, e5⟩ := CC.out w5 hc5
          clear hcall hc5
          go_wp2_with fail
          refine HC.out.mono ?_
          rintro e w6 ⟨rfl, hb6, hc6⟩
          have HB6 := hid hb6
          have C6 := hid hc6
          clear hb6 hc6 e0 e1 e2 e3 e4 e5
          obtain ⟨e0, e1, e2, e3, e4, e5⟩ := CC.out w6 C6.out
          go_wp2_with fail
          refine (HB6.out.tells (by omega) ⟨1, conn, slot, hd, user, rw⟩).mono ?_
          rintro e w9 ⟨rfl, hs9⟩
          have HH9 := hid (HB6.out.later hs9)
          clear hs9 e0 e1 e2 e3 e4 e5
          go_wp2_with fail
          case roundEnd => exact ⟨⟨k + 1, by omega, by simp, HH9.out⟩, by simp [intOf]; omega⟩
        · by_cases hsl : slot < 0
          · go_wp2_with fail
            case roundEnd => exact ⟨⟨k + 1, by omega, by simp, HUP.out⟩, by simp [intOf]; omega⟩
          · go_wp2_with fail
            refine (HK5.out.closesAll (by omega) conn slot (by omega)).mono ?_
            rintro e w5 ⟨v5, rfl, hc5, hcall⟩
            have HC := hid hcall
            obtain ⟨e0, e1, e2, e3, e4, e5⟩ := CC.out w5 hc5
            clear hcall hc5
            go_wp2_with fail
            refine HC.out.mono ?_
            rintro e w6 ⟨v6, rfl, hb6, hc6, hcall6⟩
            have HB6 := hid hb6
            have C6 := hid hc6
            have HC6 := hid hcall6
            clear hb6 hc6 hcall6 e0 e1 e2 e3 e4 e5
            go_wp2_with fail
            refine HC6.out.mono ?_
            rintro e w7 ⟨rfl, hs7⟩
            have HB7 := hid (HB6.out.later hs7)
            have C7 := hid (Chg.trans C6.out hs7 (fun k hk => hk.elim))
            clear hs7
            obtain ⟨e0, e1, e2, e3, e4, e5⟩ := CC.out w7 C7.out
            go_wp2_with fail
            refine (HB7.out.tells (by omega) ⟨2, conn, slot, hd, user, rw⟩).mono ?_
            rintro e w9 ⟨rfl, hs9⟩
            have HH9 := hid (HB7.out.later hs9)
            clear hs9 e0 e1 e2 e3 e4 e5
            go_wp2_with fail
            case roundEnd => exact ⟨⟨k + 1, by omega, by simp, HH9.out⟩, by simp [intOf]; omega⟩
        · go_wp2_with fail
          refine (HK5.out.drops (by omega) conn).mono ?_
          rintro e w5 ⟨v5, rfl, hc5, hcall⟩
          have HC := hid hcall
          obtain ⟨e0, e1, e2, e3, e4, e5⟩ := CC.out w5 hc5
          clear hcall hc5
          go_wp2_with fail
          refine HC.out.mono ?_
          rintro e w6 ⟨v6, rfl, hb6, hc6, hcall6⟩
          have HB6 := hid hb6
          have C6 := hid hc6
          have HC6 := hid hcall6
          clear hb6 hc6 hcall6 e0 e1 e2 e3 e4 e5
          go_wp2_with fail
          refine HC6.out.mono ?_
          rintro e w7 ⟨rfl, hs7⟩
          have HB7 := hid (HB6.out.later hs7)
          have C7 := hid (Chg.trans C6.out hs7 (fun k hk => hk.elim))
          clear hs7
          obtain ⟨e0, e1, e2, e3, e4, e5⟩ := CC.out w7 C7.out
          go_wp2_with fail
          refine (HB7.out.tells (by omega) ⟨3, conn, slot, hd, user, rw⟩).mono ?_
          rintro e w9 ⟨rfl, hs9⟩
          have HH9 := hid (HB7.out.later hs9)
          clear hs9 e0 e1 e2 e3 e4 e5
          go_wp2_with fail
          case roundEnd => exact ⟨⟨k + 1, by omega, by simp, HH9.out⟩, by simp [intOf]; omega⟩
        · go_wp2_with fail
          refine (HK5.out.logins (by omega) conn slot user).mono ?_
          rintro e w5 ⟨x5, rfl, hc5, hcall⟩
          have HC := hid hcall
          obtain ⟨e0, e1, e2, e3, e4, e5⟩ := CC.out w5 hc5
          clear hcall hc5
          go_wp2_with fail
          refine HC.out.mono ?_
          rintro e w6 ⟨rfl, hb6, hc6⟩
          have HB6 := hid hb6
          have C6 := hid hc6
          clear hb6 hc6 e0 e1 e2 e3 e4 e5
          obtain ⟨e0, e1, e2, e3, e4, e5⟩ := CC.out w6 C6.out
          go_wp2_with fail
          refine (HB6.out.tells (by omega) ⟨4, conn, slot, hd, user, rw⟩).mono ?_
          rintro e w9 ⟨rfl, hs9⟩
          have HH9 := hid (HB6.out.later hs9)
          clear hs9 e0 e1 e2 e3 e4 e5
          go_wp2_with fail
          case roundEnd => exact ⟨⟨k + 1, by omega, by simp, HH9.out⟩, by simp [intOf]; omega⟩
        · go_wp2_with fail
          refine (HK5.out.logouts (by omega) conn slot).mono ?_
          rintro e w5 ⟨x5, rfl, hc5, hcall⟩
          have HC := hid hcall
          obtain ⟨e0, e1, e2, e3, e4, e5⟩ := CC.out w5 hc5
          clear hcall hc5
          go_wp2_with fail
          refine HC.out.mono ?_
          rintro e w6 ⟨rfl, hb6, hc6⟩
          have HB6 := hid hb6
          have C6 := hid hc6
          clear hb6 hc6 e0 e1 e2 e3 e4 e5
          obtain ⟨e0, e1, e2, e3, e4, e5⟩ := CC.out w6 C6.out
          go_wp2_with fail
          refine (HB6.out.tells (by omega) ⟨kind, conn, slot, hd, user, rw⟩).mono ?_
          rintro e w9 ⟨rfl, hs9⟩
          have HH9 := hid (HB6.out.later hs9)
          clear hs9 e0 e1 e2 e3 e4 e5
          go_wp2_with fail
          case roundEnd => exact ⟨⟨k + 1, by omega, by simp, HH9.out⟩, by simp [intOf]; omega⟩
      · go_wp2_with fail
        go_ret
        exact ⟨rfl, HK.out.same⟩
    · go_wp2_with fail
      go_ret
      exact ⟨rfl, HK.out.same⟩
end Go.Proofs.Ytlfdcfgpbigjdaa
