/- What both tables must say alike. -/
import Derived.Test.YtlfdcfgpbigjdaaRef6
namespace Go.Proofs.Ytlfdcfgpbigjdaa
set_option linter.unusedVariables false
set_option linter.unusedSimpArgs false
open Go.RowKit

theorem slot_said {l : List Se} {c hd : Int} {w w' : World} {e : Ending} (h : SlotPost l c hd w e w') : ∃ (sv : Int) (bv : Bool), e = .returned (.tuple #[.int .i64 sv, .bool bv]) ∧ (findSe l c hd = none → sv = 0 ∧ bv = false) ∧ (∀ x, findSe l c hd = some x → sv = x.s ∧ bv = true) ∧ Same w w' := by
  refine ⟨_, _, h.1, ?_, ?_, h.2⟩
  · intro hf
    rw [hf]
    exact ⟨rfl, rfl⟩
  · intro x hf
    rw [hf]
    exact ⟨rfl, rfl⟩

structure Opr where
  kind : Int
  conn : Int
  slot : Int
  h : Int
  user : Int
  rw : Bool

def Opr.val (o : Opr) : Value := .agg #[.int .i64 o.kind, .int .i64 o.conn, .int .i64 o.slot, .int .i64 o.h, .int .i64 o.user, .bool o.rw]

/-- The two tables say the same of who is logged in. -/
def Rel (U : Int → Int → Option Int) (ws : List Lo) : Prop := ∀ c s, (U c s).getD (-1) = userOf ws c s ∧ (userOf ws c s = -1 ∨ userOf ws c s = 0 ∨ userOf ws c s = 1)

theorem rel_state {U : Int → Int → Option Int} {ws : List Lo} (h : Rel U ws) (l : List Se) (c hd : Int) : stateOf l U c hd = rstateOf l ws c hd := by
  unfold stateOf rstateOf
  rcases placeOf_spec l c hd with ⟨-, h2, -⟩ | ⟨k, x, -, -, -, h2, hc, -, -⟩
  · rw [h2]
  · rw [h2]
    simp only
    rw [hc, (h c x.s).1]
    cases x.rw <;> rcases (h c x.s).2 with e | e | e <;> simp [e]

theorem rel_may {U : Int → Int → Option Int} {ws : List Lo} (h : Rel U ws) (l : List Se) (c s u : Int) : mayOf l U c s u = rmayOf l ws c s u := by
  unfold mayOf rmayOf
  rw [(h c s).1]
  rcases (h c s).2 with e | e | e <;> simp [e]

end Go.Proofs.Ytlfdcfgpbigjdaa
