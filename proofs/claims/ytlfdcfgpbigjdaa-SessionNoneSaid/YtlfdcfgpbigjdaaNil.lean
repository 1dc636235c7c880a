/- The methods of no table. -/
import Derived.Test.YtlfdcfgpbigjdaaBegun
namespace Go.Proofs.Ytlfdcfgpbigjdaa
set_option linter.unusedVariables false
set_option linter.unusedSimpArgs false
open Go.RowKit
attribute [local go_sem] Oper.semAt_some

def RetPost (v : Value) (w : World) (e : Ending) (w' : World) : Prop := e = .returned v ∧ Same w w'

theorem Same.refl (w : World) : Same w w := Chg.refl _ w

set_option maxRecDepth 100000 in
theorem nilOpen_calls (w : World) (c s : Int) (b : Bool) : Calls Try.prog 8 #[.pointer none, .int .i64 c, .int .i64 s, .bool b] w (RetPost (.tuple #[.int .i64 0, .int .i64 179]) w) := by
  go_enter Try.func8, Try.ntmps8
  go_wp2_with fail
  go_ret2
  exact ⟨rfl, (Same.refl w).alloc _⟩

theorem nilFind_calls (w : World) (c s : Int) : Calls Try.prog 29 #[.pointer none, .int .i64 c, .int .i64 s] w (RetPost (.pointer none) w) := by
  go_enter Try.func29, Try.ntmps29
  go_wp2_with fail
  go_ret
  exact ⟨rfl, Same.refl w⟩

theorem nilCloses_calls (w : World) (f : Value) : Calls Try.prog 30 #[.pointer none, f] w (RetPost (.slice none 0 0) w) := by
  go_enter Try.func30, Try.ntmps30
  go_wp2_with fail
  go_ret
  exact ⟨rfl, Same.refl w⟩

theorem nilMay_calls (w : World) (c s u : Int) : Calls Try.prog 25 #[.pointer none, .int .i64 c, .int .i64 s, .int .i64 u] w (RetPost (.int .i64 179) w) := by
  go_enter Try.func25, Try.ntmps25
  go_wp2_with fail
  go_ret
  exact ⟨rfl, (Same.refl w).alloc _⟩

theorem nilClose_calls (w : World) (c s : Int) : Calls Try.prog 10 #[.pointer none, .int .i64 c, .int .i64 s] w (RetPost (.int .i64 179) w) := by
  go_enter Try.func10, Try.ntmps10
  go_wp2_with fail
  refine (nilFind_calls _ c s).mono ?_
  rintro e w1 ⟨rfl, hs⟩
  go_wp2_with fail
  go_ret
  exact ⟨rfl, Same.trans ((Same.refl w).alloc _) hs⟩

theorem nilCloseAll_calls (w : World) (c s : Int) : Calls Try.prog 12 #[.pointer none, .int .i64 c, .int .i64 s] w (RetPost (.slice none 0 0) w) := by
  go_enter Try.func12, Try.ntmps12
  go_wp2_with fail
  refine (nilCloses_calls _ _).mono ?_
  rintro e w1 ⟨rfl, hs⟩
  go_wp2_with fail
  go_ret
  exact ⟨rfl, Same.trans (((Same.refl w).alloc _).alloc _) hs⟩

theorem nilDrop_calls (w : World) (c : Int) : Calls Try.prog 15 #[.pointer none, .int .i64 c] w (RetPost (.slice none 0 0) w) := by
  go_enter Try.func15, Try.ntmps15
  go_wp2_with fail
  refine (nilCloses_calls _ _).mono ?_
  rintro e w1 ⟨rfl, hs⟩
  go_wp2_with fail
  go_ret
  exact ⟨rfl, Same.trans ((Same.refl w).alloc _) hs⟩

theorem nilLogin_calls (w : World) (c s u : Int) : Calls Try.prog 16 #[.pointer none, .int .i64 c, .int .i64 s, .int .i64 u] w (RetPost (.int .i64 179) w) := by
  go_enter Try.func16, Try.ntmps16
  go_wp2_with fail
  refine (nilMay_calls _ c s u).mono ?_
  rintro e w1 ⟨rfl, hs⟩
  go_wp2_with fail
  go_ret
  exact ⟨rfl, hs⟩

theorem nilLogout_calls (w : World) (c s : Int) : Calls Try.prog 18 #[.pointer none, .int .i64 c, .int .i64 s] w (RetPost (.int .i64 179) w) := by
  go_enter Try.func18, Try.ntmps18
  go_wp2_with fail
  go_ret
  exact ⟨rfl, (Same.refl w).alloc _⟩

theorem nilState_calls (w : World) (c s : Int) : Calls Try.prog 21 #[.pointer none, .int .i64 c, .int .i64 s] w (RetPost (.int .i64 (-1)) w) := by
  go_enter Try.func21, Try.ntmps21
  go_wp2_with fail
  refine (nilFind_calls _ c s).mono ?_
  rintro e w1 ⟨rfl, hs⟩
  go_wp2_with fail
  go_ret
  exact ⟨rfl, hs⟩

theorem nilSlot_calls (w : World) (c s : Int) : Calls Try.prog 23 #[.pointer none, .int .i64 c, .int .i64 s] w (RetPost (.tuple #[.int .i64 0, .bool false]) w) := by
  go_enter Try.func23, Try.ntmps23
  go_wp2_with fail
  refine (nilFind_calls _ c s).mono ?_
  rintro e w1 ⟨rfl, hs⟩
  go_wp2_with fail
  go_ret2
  exact ⟨rfl, hs⟩

theorem nilUsed_calls (w : World) (s : Int) : Calls Try.prog 24 #[.pointer none, .int .i64 s] w (RetPost (.bool false) w) := by
  go_enter Try.func24, Try.ntmps24
  go_wp2_with fail
  go_ret
  exact ⟨rfl, (Same.refl w).alloc _⟩
end Go.Proofs.Ytlfdcfgpbigjdaa
