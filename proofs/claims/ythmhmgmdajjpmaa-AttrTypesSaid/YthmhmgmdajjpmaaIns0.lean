/- Cells laid over a row of attributes: copy, and what slices.overlaps says. -/
import Derived.Test.YthmhmgmdajjpmaaCut
import Derived.Laws.CopyRow
import Derived.Lib.AppendZerosOnto
import Derived.Lib.Overlaps
import Derived.Laws.Externs
namespace Go.Proofs.Ythmhmgmdajjpmaa
set_option linter.unusedVariables false
set_option linter.unusedSimpArgs false
open Go.RowKit

/-- Cells laid over a list, from a place on. -/
def lay (L : List Value) (o : Nat) (cs : List Value) : List Value := L.take o ++ cs ++ L.drop (o + cs.length)

theorem lay_length {L : List Value} {o : Nat} {cs : List Value} (h : o + cs.length ≤ L.length) : (lay L o cs).length = L.length := by simp [lay]; omega

theorem size24 (w : World) : (Go.sizeOf 24).run Try.prog w = .ok 2 w := by
  obtain ⟨i, hi, hz, hs, hb⟩ := info_parts Try.info24
  simp [Go.sizeOf, typeInfo, hi, hs]

section
variable {W : World} {g o dLen dCap sLen sCap : Nat} {ad : Addr} {cur cs : List Value}

theorem run_copy2 (hg : W.heap[g]? = some (.cells cur.toArray 24 (0, 0))) (hn : cs.length = Nat.min sLen dLen * 2)
    (hsrc : ∀ j v, cs[j]? = some v → W.cell? (ad.add j) = some v) (hfit : o + cs.length ≤ cur.length) (h1 : ∀ v ∈ cs, v.oneCell' = true) (ty : TypeId) :
    ∃ W', (Builtin.copy_ #[35, 35] ty #[.slice (some ⟨g, o, none⟩) dLen dCap, .slice (some ad) sLen sCap]).run Try.prog W = .ok (goInt (Nat.min sLen dLen)) W' ∧
      W'.heap[g]? = some (.cells (lay cur o cs).toArray 24 (0, 0)) ∧ Chg (fun k => k = g) W W' := by
  obtain ⟨i, hi, hz, hs, hb⟩ := info_parts Try.info24
  have hl := run_loadCells_list (P := Try.prog) W ad cs hsrc
  rw [hn] at hl
  have hst := run_storeCells_at Try.prog g o 24 cs 0 cur.toArray W hg (by simpa using hfit) h1
  refine ⟨W.setRow g (cur.take o ++ cs ++ cur.drop (o + cs.length)).toArray, ?_, setRow_heap W g _ _ _ _ hg, ⟨rfl, rfl, rfl, by simp, fun k _ hk => setRow_other W g k _ hk⟩⟩
  simp only [Nat.add_zero] at hst
  simp [Builtin.copy_, run_underlying Try.underlying35, Builtin.lenOf, Builtin.firstCells, sizeOf, typeInfo, hi, hs, hl, hst]

/-- At a step of a region that draws its order. -/
theorem step_copy2 {ops : Array Oper} {op : Oper} {a : Act} {K : Act → World → Prop} {Q : Exit → Act → World → Prop} {E : Prop} (hgd : op.guard = none) (d s : Operand)
    (ho : op.op = .call { callee := .builtin .copy, args := #[d, s], argTypes := #[35, 35] }) (hd : a.eval d = .slice (some ⟨g, o, none⟩) dLen dCap) (hs : a.eval s = .slice (some ad) sLen sCap)
    (hg : W.heap[g]? = some (.cells cur.toArray 24 (0, 0))) (hn : cs.length = Nat.min sLen dLen * 2)
    (hsrc : ∀ j v, cs[j]? = some v → W.cell? (ad.add j) = some v) (hfit : o + cs.length ≤ cur.length) (h1 : ∀ v ∈ cs, v.oneCell' = true)
    (h : ∀ W', Hid (W'.heap[g]? = some (.cells (lay cur o cs).toArray 24 (0, 0))) → Chg (fun k => k = g) W W' → K (a.put op.dst (goInt (Nat.min sLen dLen))) W') :
    if Region.wanted op (yielded ops a.tmps) = true then Oper.wp Try.prog op a W K Q else E := by
  obtain ⟨W', hr, h2, h3⟩ := run_copy2 (dLen := dLen) (dCap := dCap) (sCap := sCap) hg hn hsrc hfit h1 op.type
  have hw : Region.wanted op (yielded ops a.tmps) = true := by simp [Region.wanted, hgd]
  rw [if_pos hw]
  unfold Oper.wp execOp
  simp only [ho, resolve, invoke, builtin, Sem.run_bind, Sem.run_pure, Result.andThen_ok, List.map_toArray, List.map_cons, List.map_nil, hs, hd, hr]
  exact h W' h2 h3

/-- At a plain list of operations. -/
theorem list_copy2 {ops : Array Oper} {rest : List Oper} {op : Oper} {a : Act} {Q : Exit → Act → World → Prop} (hgd : op.guard = none) (d s : Operand)
    (ho : op.op = .call { callee := .builtin .copy, args := #[d, s], argTypes := #[35, 35] }) (hd : a.eval d = .slice (some ⟨g, o, none⟩) dLen dCap) (hs : a.eval s = .slice (some ad) sLen sCap)
    (hg : W.heap[g]? = some (.cells cur.toArray 24 (0, 0))) (hn : cs.length = Nat.min sLen dLen * 2)
    (hsrc : ∀ j v, cs[j]? = some v → W.cell? (ad.add j) = some v) (hfit : o + cs.length ≤ cur.length) (h1 : ∀ v ∈ cs, v.oneCell' = true)
    (h : ∀ W', Hid (W'.heap[g]? = some (.cells (lay cur o cs).toArray 24 (0, 0))) → Chg (fun k => k = g) W W' → wpList Try.prog ops Q rest (a.put op.dst (goInt (Nat.min sLen dLen))) W') :
    wpList Try.prog ops Q (op :: rest) a W := by
  obtain ⟨W', hr, h2, h3⟩ := run_copy2 (dLen := dLen) (dCap := dCap) (sCap := sCap) hg hn hsrc hfit h1 op.type
  refine wpList_plain hgd fun K hK => ?_
  unfold Oper.wp execOp
  simp only [ho, resolve, invoke, builtin, Sem.run_bind, Sem.run_pure, Result.andThen_ok, List.map_toArray, List.map_cons, List.map_nil, hs, hd, hr]
  exact hK _ _ (h W' h2 h3)
end

/-- Two slices in two blocks do not overlap. -/
theorem run_overlaps (W : World) (vb g o lb cb m vc : Nat) (hne : vb ≠ g) {ca cur : Array Value} (ha : W.heap[vb]? = some (.cells ca 24 (0, 0))) (hg : W.heap[g]? = some (.cells cur 24 (0, 0))) (hz : cur.size ≠ 0) :
    (callFunc 45 #[.slice (some ⟨vb, 0, none⟩) m vc, .slice (some ⟨g, o, none⟩) lb cb]).run Try.prog W = .ok (.value (.bool false)) W := by
  rw [run_callFunc_extern Try.func45 (by kernel_rfl) (by kernel_rfl) (by kernel_rfl) (e := Extern.SlicesOverlaps.overlaps #[35, 35] #[4]) (by kernel_rfl),
    Lib.run_overlaps_apart W 35 4 24 Try.underlying35 2 size24 ⟨vb, 0, none⟩ ⟨g, o, none⟩ m vc lb cb hne 24 24 ca.size cur.size (by simp [World.shape?, ha]) (by simp [World.shape?, hg]) hz (frozen_of_heap ha 0) (frozen_of_heap ha _)]
  rfl
end Go.Proofs.Ythmhmgmdajjpmaa
