/- lists: the same numbers? -/
import Derived.Test.YtlfdcfgpbigjdaaBegun
namespace Go.Proofs.Ytlfdcfgpbigjdaa
set_option linter.unusedVariables false
set_option linter.unusedSimpArgs false
open Go.RowKit

def EqTo (xs ys : List Int) (k : Nat) : Prop := ∀ j (h : j < xs.length) (h' : j < ys.length), j < k → xs[j] = ys[j]

theorem eqTo_next {xs ys : List Int} {k : Nat} (hx : k < xs.length) (hy : k < ys.length) (h : EqTo xs ys k) (he : xs[k] = ys[k]) : EqTo xs ys (k + 1) := by
  intro j h1 h2 hj
  by_cases e : j = k
  · subst e; exact he
  · exact h j h1 h2 (by omega)

theorem eqTo_all {xs ys : List Int} (hl : xs.length = ys.length) (h : EqTo xs ys xs.length) : xs = ys :=
  List.ext_getElem hl fun i h1 h2 => h i h1 h2 h1

set_option maxHeartbeats 1000000 in
theorem lists_calls {w : World} {B B' : Nat} {v v' : Value} {xs ys : List Int} (h : w.ownsRow B 3 1 v xs.length (ints xs)) (h' : w.ownsRow B' 3 1 v' ys.length (ints ys)) :
   Calls Try.prog 14 #[v, v'] w (BoolPost (decide (xs = ys)) w) := by
  obtain ⟨a, cap, rfl, hlc, hcm, hrow⟩ := row_int h
  obtain ⟨a', cap', rfl, hlc', hcm', hrow'⟩ := row_int h'
  have hll : xs.length ≤ 9223372036854775807 := by unfold maxLen at hcm; omega
  have hll' : ys.length ≤ 9223372036854775807 := by unfold maxLen at hcm'; omega
  have HR := hid hrow
  have HR' := hid hrow'
  clear hrow hrow' h h'
  by_cases hl : xs.length = ys.length
  · have b1 : ((xs.length : Int) != (ys.length : Int)) = false := by simp [hl]
    have HL := hid hl
    have hle : xs.length ≤ ys.length := by omega
    have hle' : ys.length ≤ xs.length := by omega
    clear hl
    go_enter Try.func14, Try.ntmps14
    go_wp2
    go_loopw [5] (fun i wr => ∃ k : Nat, k ≤ xs.length ∧ i = .int .i64 k ∧ Same w wr ∧ EqTo xs ys k) (fun i _ => xs.length - (intOf i).toNat)
    case atStart => exact ⟨0, Nat.zero_le _, rfl, Chg.refl _ _, fun j _ _ h => by omega⟩
    case round =>
      obtain ⟨k, hk, rfl, hs, hq⟩ := hrel
      have HS := hid hs
      have HQ := hid hq
      clear hs hq
      by_cases hlt : k < xs.length
      · have hlt' : k < ys.length := by omega
        rcases HR.out with ⟨_, rfl⟩ | ⟨g, rfl, hg, _, hcells⟩
        · simp at hlt
        rcases HR'.out with ⟨_, rfl⟩ | ⟨g', rfl, hg', _, hcells'⟩
        · simp at hlt'
        have c0 := hcells k hlt
        have c1 := hcells' k hlt'
        rw [← HS.out.cell (by exact hg) (fun h => h)] at c0
        rw [← HS.out.cell (by exact hg') (fun h => h)] at c1
        have i1 : (k : Int) < (xs.length : Int) := by omega
        have i2 : (k : Int) < (ys.length : Int) := by omega
        clear hcells hcells'
        have hS : ∀ n, Same w (wr.drewN n) := fun n => HS.out.drewN n
        have HSS := hid hS
        clear hS
        cases hp : (xs[k] != ys[k]) with
        | true =>
          have hne : xs ≠ ys := by rintro rfl; simp at hp
          have HNE := hid hne
          clear hne
          go_wp2_with fail
          go_quiet (fail)
          go_wp2_with fail
          go_ret
          exact ⟨by rw [decide_eq_false HNE.out]; rfl, HSS.out _⟩
        | false =>
          have heq : xs[k] = ys[k] := by simpa using hp
          have HQ2 := hid (eqTo_next hlt hlt' HQ.out heq)
          clear heq
          go_wp2_with fail
          go_quiet (fail)
          go_wp2_with fail
          go_roundw
          case rel => exact ⟨k + 1, by omega, by go_num, HSS.out _, HQ2.out⟩
          case measure => simp [intOf]; omega
      · have hkl : k = xs.length := by omega
        subst hkl
        go_wp2_with fail
        go_ret
        exact ⟨by rw [decide_eq_true (eqTo_all HL.out HQ.out)]; rfl, HS.out⟩
  · have b1 : ((xs.length : Int) != (ys.length : Int)) = true := by simp; omega
    have HL : Hid (xs ≠ ys) := by rintro rfl; exact hl rfl
    clear hl
    go_enter Try.func14, Try.ntmps14
    go_wp2
    go_ret
    exact ⟨by rw [decide_eq_false HL.out]; rfl, Chg.refl _ _⟩
end Go.Proofs.Ytlfdcfgpbigjdaa
