/- The types that have a form, as they come: the iterator's contract. -/
import Derived.Test.YthmhmgmdajjpmaaCode
import Derived.RangeFuncWrites
import Derived.LoopIn
import Derived.LoopNIn
namespace Go.Proofs.Ythmhmgmdajjpmaa
set_option linter.unusedVariables false
set_option linter.unusedSimpArgs false
open Go.RowKit

/-- The types below k that have a form, rising. -/
def typesTo : Nat → List Int
  | 0 => []
  | k + 1 => if formOf (k : Int) = 0 then typesTo k else typesTo k ++ [(k : Int)]

theorem typesTo_length : ∀ k, (typesTo k).length ≤ k
  | 0 => Nat.le_refl _
  | k + 1 => by
    unfold typesTo
    split
    · have := typesTo_length k; omega
    · rw [List.length_append]; have := typesTo_length k; simp; omega

theorem typesTo_prefix {j k : Nat} (h : j ≤ k) : typesTo j <+: typesTo k := by
  induction k with
  | zero => have : j = 0 := by omega
            subst this; exact List.prefix_refl _
  | succ k ih =>
    rcases Nat.lt_or_ge k j with q | q
    · have : j = k + 1 := by omega
      subst this; exact List.prefix_refl _
    · refine (ih q).trans ?_
      show _ <+: (if formOf (k : Int) = 0 then typesTo k else typesTo k ++ [(k : Int)])
      split
      · exact List.prefix_refl _
      · exact List.prefix_append _ _

theorem typesTo_succ {k : Nat} (h : formOf (k : Int) = 0) : typesTo (k + 1) = typesTo k := by rw [typesTo, if_pos h]
theorem typesTo_succ' {k : Nat} (h : ¬ formOf (k : Int) = 0) : typesTo (k + 1) = typesTo k ++ [(k : Int)] := by rw [typesTo, if_neg h]

/-- x is the next type with a form behind a. -/
def OkNext (a x : Int) : Prop := a < x ∧ (∀ y, a < y → y < x → formOf y = 0) ∧ formOf x ≠ 0
/-- Each is the next behind the one before. -/
def Chain : Int → List Int → Prop
  | _, [] => True
  | a, x :: r => OkNext a x ∧ Chain x r
def lastOf (a : Int) : List Int → Int
  | [] => a
  | x :: r => lastOf x r

theorem lastOf_push : ∀ (a : Int) (l : List Int) (x : Int), lastOf a (l ++ [x]) = x
  | _, [], _ => rfl
  | _, y :: r, x => lastOf_push y r x
theorem chain_push : ∀ (a : Int) (l : List Int) (x : Int), Chain a (l ++ [x]) ↔ Chain a l ∧ OkNext (lastOf a l) x
  | a, [], x => by simp [Chain, lastOf]
  | a, y :: r, x => by
    show OkNext a y ∧ Chain y (r ++ [x]) ↔ (OkNext a y ∧ Chain y r) ∧ OkNext (lastOf y r) x
    rw [chain_push y r x, and_assoc]
theorem chain_prefix : ∀ {a : Int} {l m : List Int}, l <+: m → Chain a m → Chain a l
  | _, [], _, _, _ => trivial
  | a, x :: r, [], h, _ => by simp at h
  | a, x :: r, y :: s, h, hc => by
    rw [List.cons_prefix_cons] at h
    obtain ⟨rfl, h⟩ := h
    exact ⟨hc.1, chain_prefix h hc.2⟩

/-- Up to k all that has a form is in the list, and the list is a chain. -/
theorem types_chain : ∀ k : Nat, Chain (-1) (typesTo k) ∧ lastOf (-1) (typesTo k) < (k : Int) ∧ ∀ y, lastOf (-1) (typesTo k) < y → y < (k : Int) → formOf y = 0
  | 0 => ⟨trivial, by simp [typesTo, lastOf], fun y h1 h2 => by simp [typesTo, lastOf] at h1; omega⟩
  | k + 1 => by
    obtain ⟨h1, h2, h3⟩ := types_chain k
    by_cases h : formOf (k : Int) = 0
    · rw [typesTo_succ h]
      refine ⟨h1, by omega, fun y a b => ?_⟩
      by_cases e : y = (k : Int)
      · rw [e]; exact h
      · exact h3 y a (by omega)
    · rw [typesTo_succ' h, lastOf_push, chain_push]
      exact ⟨⟨h1, h2, h3, h⟩, by omega, fun y a b => by omega⟩

theorem formOf_big {t : Int} (h : t < 0 ∨ 385 < t) : formOf t = 0 := formOf_none (by
  intro hm
  have : ∀ x ∈ known, 0 ≤ x ∧ x ≤ 385 := by decide
  have := this t hm
  omega)

section
variable {w : World}

theorem callFunc37 (args : Array Value) (W : World) : (callFunc 37 args).run Try.prog W = .ok (.enter 37 args) W := by kernel_rfl

set_option maxRecDepth 100000 in
set_option maxHeartbeats 4000000 in
theorem types_stops (n : Nat) (hn : 1 ≤ n) (w : World) (n0 : Nat) :
    SeqStopsK Fence.wide n Try.prog 37 #[] (fun x : Int => #[.int .i64 x]) (Below n0) (fun xs => xs = typesTo 386) (fun pre => pre <+: typesTo 386) 386 w := fun lp J Jx W hW hJ hJx hY hj0 => by
  have HY := hid hY
  clear hJ hJx hY hW
  refine callsIn_of_wp Try.func37 rfl trivial ?_ rfl
  simp only [Try.ntmps37, List.size_toArray, List.length_cons, List.length_nil, Nat.reduceAdd, Nat.reduceSub, Array.replicate_succ, Array.replicate_zero, List.push_toArray, List.append_toArray, List.nil_append, List.cons_append]
  gi_wp2
  gi_loopw [2, 3] (fun s2 i wr => ∃ k : Nat, k ≤ 386 ∧ i = .int .i64 k ∧ J (typesTo k) wr) (fun _ i _ => 386 - (intOf i).toNat)
  case atStart => exact ⟨0, Nat.zero_le _, rfl, hj0⟩
  case round =>
    obtain ⟨k, hk, rfl, hj⟩ := hrel
    have HJJ := hid hj
    clear hj hj0
    by_cases hlt : k < 386
    · have i1 : (k : Int) < 386 := by omega
      gi_wp2
      refine ⟨trivial, ((callsIn_wide (n := _)).2 (form_calls wr (k : Int))).mono ?_⟩
      rintro e W1 ⟨rfl, rfl⟩
      by_cases hz : formOf (k : Int) = 0
      · have HZ := hid (typesTo_succ hz)
        rw [hz]
        gi_wp2
        refine ⟨fun _ h => (by cases h), ?_⟩
        gi_wp2
        go_roundw
        case rel => exact ⟨k + 1, by omega, by go_num, by rw [HZ.out]; exact HJJ.out⟩
        case measure => simp [intOf]; omega
      · have HZ := hid (typesTo_succ' hz)
        have hlen := typesTo_length k
        have hb : (formOf (k : Int) != 0) = true := by simpa using hz
        obtain ⟨f1, t1, a1, bd1, hy1, hR1⟩ := HY.out _ (k : Int) _ HJJ.out (by omega)
        have HR1 := hid hR1
        clear hR1 hlen hz
        gi_wp2
        refine HR1.out.mono ?_
        rintro e W1 (⟨rfl, hj1, hk1⟩ | ⟨rfl, hx1⟩)
        · rw [← HZ.out] at hj1
          have HJ1 := hid hj1
          clear hj1 hk1
          gi_wp2
          go_roundw
          case rel => exact ⟨k + 1, by omega, by go_num, HJ1.out⟩
          case measure => simp [intOf]; omega
        · rw [← HZ.out] at hx1
          have HX1 := hid hx1
          clear hx1
          gi_wp2
          refine bodyPost_ret (results_none rfl _ _ _) rfl ?_
          exact ⟨⟨_, rfl⟩, .inr ⟨_, typesTo_prefix (by omega), HX1.out⟩⟩
    · have hkl : k = 386 := by omega
      subst hkl
      gi_wp2
      go_end0
      exact ⟨⟨_, rfl⟩, .inl HJJ.out⟩
end
end Go.Proofs.Ythmhmgmdajjpmaa
