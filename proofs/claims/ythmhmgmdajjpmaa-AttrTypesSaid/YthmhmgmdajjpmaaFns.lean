/- Bytes: copies, numbers written and read. -/
import Derived.Test.YthmhmgmdajjpmaaDat
namespace Go.Proofs.Ythmhmgmdajjpmaa
set_option linter.unusedVariables false
set_option linter.unusedSimpArgs false
open Go.RowKit

/-- A new slice of these bytes. -/
def NewBytes (l : List Int) (w : World) (e : Ending) (w' : World) : Prop := ∃ v, e = .returned v ∧ w'.ownsRow w.heap.size 5 1 v l.length (bytes l) ∧ Same w w'

section
variable {w : World} {u : Value} {l : List Int}

set_option maxHeartbeats 2000000 in
set_option maxRecDepth 100000 in
theorem clone_calls (h : Bs w u l) : Calls Try.prog 38 #[u] w (NewBytes l w) := by
  obtain ⟨p, cap, rfl, h1, h2, h3, h4, h5, h6⟩ := h
  have q22 : ∀ (w : World) (a : Option Addr) (n c n' c' : Nat), (binOp .eql 22 (.slice a n c) (.slice none n' c')).run Try.prog w = .ok (.bool a.isNone) w := fun w a n c n' c' => Lib.run_eql_slice_nil w _ _ a n c n' c' Try.underlying22
  cases p with
  | none =>
    have h40 := h4 rfl
    subst h40
    have hl : l = [] := List.eq_nil_of_length_eq_zero (by omega)
    subst hl
    clear h4 h6
    go_enter Try.func38, Try.ntmps38
    go_wp2
    go_ret
    exact ⟨_, rfl, World.ownsRow_nil _ _ _ _, Chg.refl _ _⟩
  | some a =>
    obtain ⟨i5, hi, hz0, hz1, hz2⟩ := info_parts Try.info5
    have H6 := hid h6
    have H5 := hid h5
    clear h4 h5 h6
    go_enter Try.func38, Try.ntmps38
    go_wp2_with (at_builtin; refine wpList_append_own _ rfl _ _ 22 rfl w.heap.size 5 i5 (.int .u8 0) 1 1 Try.underlying22 hi hz0 hz1 hz2 rfl (by decide) _ _ _ rfl (World.ownsRow_made w #[] 0 (Nat.le_refl _) (Nat.zero_le _) rfl) a l.length cap (bytes l) rfl ?qc1 ?qc2 ?qc3 ?qc4 ?qc5 ?qc6 ?_)
    case qc1 => simp [bytes]
    case qc2 =>
      intro j u hj
      have hjn : j < l.length := by
        have := (List.getElem?_eq_some_iff.1 hj).1
        simpa [bytes] using this
      obtain ⟨b, o, hbo, hb, hc⟩ := H6.out (by omega)
      cases hbo
      have e : (bytes l)[j]? = some (Value.int .u8 l[j]) := by simp [bytes, hjn]
      rw [e] at hj
      cases hj
      rw [addr_add, World.cell?_of_block (w := w) (Below.heap_alloc _ _ _ hb)]
      exact hc j hjn
    case qc3 => intro u hu; obtain ⟨x, _, rfl⟩ := List.mem_map.1 hu; rfl
    case qc4 => unfold maxLen; omega
    case qc5 => omega
    case qc6 => simp
    intro v' w1 hown hgrow hnil
    go_wp2
    go_ret
    refine ⟨v', rfl, by simpa using hown, ?_⟩
    exact ((Chg.refl _ w).alloc _).grown hgrow (by intro k hk; simp [Value.ownBlock] at hk; right; omega)
end
end Go.Proofs.Ythmhmgmdajjpmaa
