/- All: the iterator over the sessions of a connection and a slot. -/
import Derived.Test.YtlfdcfgpbigjdaaRef6
import Derived.RangeFuncWrites
import Derived.LoopIn
import Derived.LoopNIn
namespace Go.Proofs.Ytlfdcfgpbigjdaa
set_option linter.unusedVariables false
set_option linter.unusedSimpArgs false
open Go.RowKit

theorem callFunc40 (args : Array Value) (W : World) : (callFunc 40 args).run Try.prog W = .ok (.enter 40 args) W := by kernel_rfl

section
variable {w : World} {F : Nat → Prop} {t : Nat} {l : List Se} {last : Int} {U : Int → Int → Option Int} {sl : Value} {M : Nat} {L : List En} {clock : Nat}

def AllPost (tv : Option Addr) (c s : Int) (w : World) (e : Ending) (w' : World) : Prop :=
  e = .returned (.func (.func 40) #[] #[.pointer (some ⟨w.heap.size, 0, none⟩), .pointer (some ⟨w.heap.size + 1, 0, none⟩), .pointer (some ⟨w.heap.size + 2, 0, none⟩)]) ∧ Same w w' ∧
  w'.heap[w.heap.size]? = some (.cells #[.pointer tv] 24 (0, 0)) ∧ w'.heap[w.heap.size + 1]? = some (.cells #[.int .i64 c] 3 (0, 0)) ∧ w'.heap[w.heap.size + 2]? = some (.cells #[.int .i64 s] 3 (0, 0))

theorem all_calls (tv : Option Addr) (c s : Int) (w : World) : Calls Try.prog 22 #[.pointer tv, .int .i64 c, .int .i64 s] w (AllPost tv c s w) := by
  go_enter Try.func22, Try.ntmps22
  go_wp2
  go_ret
  refine ⟨rfl, (((Chg.refl _ w).alloc _).alloc _).alloc _, ?_, ?_, ?_⟩
  · rw [Below.heap_alloc _ _ _ (by simp; omega), Below.heap_alloc _ _ _ (by simp)]
    exact heap_alloc_new _ _
  · rw [Below.heap_alloc _ _ _ (by simp)]
    have := heap_alloc_new (w.alloc (.cells #[.pointer tv] 24)) (.cells #[.int .i64 c] 3)
    rw [show (w.alloc (.cells #[.pointer tv] 24)).heap.size = w.heap.size + 1 from by simp] at this
    exact this
  · have := heap_alloc_new ((w.alloc (.cells #[.pointer tv] 24)).alloc (.cells #[.int .i64 c] 3)) (.cells #[.int .i64 s] 3)
    rw [show ((w.alloc (.cells #[.pointer tv] 24)).alloc (.cells #[.int .i64 c] 3)).heap.size = w.heap.size + 2 from by simp] at this
    exact this

/-- The iterator's contract: what the sessions of the place are. -/
theorem allNil_stops (n : Nat) (hn : 1 ≤ n) (b0 b1 b2 : Nat) (w : World) (h0 : w.heap[b0]? = some (.cells #[.pointer none] 24 (0, 0))) (n0 : Nat) (N : Nat) :
    SeqStopsK Fence.wide n Try.prog 40 #[.pointer (some ⟨b0, 0, none⟩), .pointer (some ⟨b1, 0, none⟩), .pointer (some ⟨b2, 0, none⟩)] (fun h : Int => #[.int .i64 h]) (Below n0) (fun xs => xs = []) (fun _ => False) N w := fun l J Jx W hW hJ hJx hY hj0 => by
  have c0 : W.cell? ⟨b0, 0, none⟩ = some (.pointer none) := by rw [hW.cell (by exact lt_of_heap h0), cell_of_heap h0]; rfl
  refine callsIn_of_wp Try.func40 rfl trivial ?_ rfl
  simp only [Try.ntmps40, List.size_toArray, List.length_cons, List.length_nil, Nat.reduceAdd, Nat.reduceSub, Array.replicate_succ, Array.replicate_zero, List.push_toArray, List.append_toArray, List.nil_append, List.cons_append]
  clear hY hJ hJx
  gi_wp2
  refine bodyPost_ret (results_none rfl _ _ _) rfl ?_
  exact ⟨⟨_, rfl⟩, .inl ⟨[], rfl, hj0⟩⟩

theorem grown_alloc (w : World) (o : Obj) : w.grownBy (w.alloc o) none := World.grownBy_alloc w o none

theorem below_same {w W W' : World} (h : Below w.heap.size w W) (h' : Below w.heap.size W W') : Below w.heap.size w W' := h.trans h'

set_option maxHeartbeats 4000000 in
theorem all_stops (n : Nat) (hn : 1 ≤ n) (h : Tab w F t l last U sl M L clock) {b0 b1 b2 : Nat} {c s : Int} (h0 : w.heap[b0]? = some (.cells #[.pointer (some ⟨t, 0, none⟩)] 24 (0, 0))) (h1 : w.heap[b1]? = some (.cells #[.int .i64 c] 3 (0, 0))) (h2 : w.heap[b2]? = some (.cells #[.int .i64 s] 3 (0, 0))) :
    SeqStopsK Fence.wide n Try.prog 40 #[.pointer (some ⟨b0, 0, none⟩), .pointer (some ⟨b1, 0, none⟩), .pointer (some ⟨b2, 0, none⟩)] (fun h : Int => #[.int .i64 h]) (Below w.heap.size) (fun xs => xs = goneOf (hasAt c s) l) (fun _ => True) (l.length + 1) w := fun lp J Jx W hW hJ hJx hY hj0 => by
  obtain ⟨a, cap, rfl, hlc, hcm, hrow⟩ := h.slice
  have hll : l.length ≤ 9223372036854775807 := by unfold maxLen at hcm; omega
  have ht := h.lt
  have HR := hid hrow
  have HY := hid hY
  have HJ := hid hJ
  have H := hid h
  have hs0 := lt_of_heap h0
  have hs1 := lt_of_heap h1
  have hs2 := lt_of_heap h2
  have hcells : ∀ W', Below w.heap.size w W' → W'.cell? ⟨b0, 0, none⟩ = some (.pointer (some ⟨t, 0, none⟩)) ∧ W'.cell? ⟨b1, 0, none⟩ = some (.int .i64 c) ∧ W'.cell? ⟨b2, 0, none⟩ = some (.int .i64 s) ∧ W'.cell? ⟨t, 0, none⟩ = some (.slice a l.length cap) := by
    intro W' hb
    exact ⟨by rw [hb.cell (by exact hs0), cell_of_heap h0]; rfl, by rw [hb.cell (by exact hs1), cell_of_heap h1]; rfl, by rw [hb.cell (by exact hs2), cell_of_heap h2]; rfl, by rw [hb.cell (by exact ht)]; exact H.out.sl_cell⟩
  have HCE := hid hcells
  obtain ⟨d0, d1, d2, d3⟩ := hcells W hW
  have HWB := hid hW
  clear hrow hY hJ hJx h h0 h1 h2 hcells hW
  refine callsIn_of_wp Try.func40 rfl trivial ?_ rfl
  simp only [Try.ntmps40, List.size_toArray, List.length_cons, List.length_nil, Nat.reduceAdd, Nat.reduceSub, Array.replicate_succ, Array.replicate_zero, List.push_toArray, List.append_toArray, List.nil_append, List.cons_append]
  gi_wp2
  gi_loopw [14] (fun i wr => ∃ k : Nat, k ≤ l.length ∧ i = .int .i64 k ∧ Below w.heap.size w wr ∧ J (goneOf (hasAt c s) (l.take k)) wr) (fun i _ => l.length - (intOf i).toNat)
  case atStart => exact ⟨0, Nat.zero_le _, rfl, HWB.out, by simpa [goneOf] using hj0⟩
  case round =>
    obtain ⟨k, hk, rfl, hb, hj⟩ := hrel
    have HB := hid hb
    have HJJ := hid hj
    clear hb hj
    by_cases hlt : k < l.length
    · rcases HR.out with ⟨_, rfl⟩ | ⟨g, rfl, hg, hgt, _, hcells⟩
      · simp at hlt
      obtain ⟨c0, c1, c2, c3⟩ := hcells k hlt
      rw [← HB.out.cell (by exact hg)] at c0 c1 c2 c3
      clear hcells d0 d1 d2 d3
      obtain ⟨d0, d1, d2, d3⟩ := HCE.out wr HB.out
      have hsz : w.heap.size ≤ wr.heap.size := HB.out.size
      have hw1 : b1 < wr.heap.size := by omega
      have hw2 : b2 < wr.heap.size := by omega
      have he : ∀ W, (binOp .eql 56 (.agg #[.int .i64 l[k].c, .int .i64 l[k].s]) (.agg #[.int .i64 c, .int .i64 s])).run Try.prog W = .ok (.bool (hasAt c s l[k])) W := by
        intro W
        have := equal56 l[k].c l[k].s c s W
        simp only [keyV] at this
        simp [binOp, this, hasAt]
      have hBA := hid (fun X => HB.out.alloc hsz X)
      have hJA := hid (fun X => HJ.out _ _ _ _ HJJ.out (grown_alloc wr X) (fun r e => by cases e))
      have hstep := take_step (p := hasAt c s) hlt
      have HST := hid hstep.1
      have HG := goneOf_le (hasAt c s) l k
      clear hstep
      cases hp : hasAt c s l[k] with
      | false =>
        rw [hp] at he
        gi_wp2
        refine ⟨fun _ h => (by cases h), ?_⟩
        gi_wp2
        go_roundw
        case rel => exact ⟨k + 1, by omega, by go_num, hBA.out _, by rw [HST.out, if_neg (by rw [hp]; decide)]; exact hJA.out _⟩
        case measure => simp [intOf]; omega
      | true =>
        rw [hp] at he
        obtain ⟨f1, t1, a1, bd1, hy1, hR1⟩ := HY.out _ l[k].h _ (hJA.out (.cells #[.int .i64 l[k].h, .int .i64 l[k].c, .int .i64 l[k].s, .bool l[k].rw] 59)) (by omega)
        have HR1 := hid hR1
        clear hR1
        gi_wp2
        refine HR1.out.mono ?_
        rintro e W1 (⟨rfl, hj1, hk1⟩ | ⟨rfl, hx1⟩)
        · have HN := hid (hBA.out (.cells #[.int .i64 l[k].h, .int .i64 l[k].c, .int .i64 l[k].s, .bool l[k].rw] 59) |>.trans hk1)
          have HJ1 := hid hj1
          clear hj1 hk1
          gi_wp2
          go_roundw
          case rel => exact ⟨k + 1, by omega, by go_num, HN.out, by rw [HST.out, if_pos hp]; exact HJ1.out⟩
          case measure => simp [intOf]; omega
        · have HX1 := hid hx1
          clear hx1
          gi_wp2
          refine bodyPost_ret (results_none rfl _ _ _) rfl ?_
          exact ⟨⟨_, rfl⟩, .inr ⟨_, HX1.out⟩⟩
    · have hkl : k = l.length := by omega
      subst hkl
      rw [List.take_length] at HJJ
      gi_wp2
      go_end0
      exact ⟨⟨_, rfl⟩, .inl HJJ.out⟩
end

/-- 'for .. range it { .. }' whose body is never left early. -/
theorem wp_range {P : Program} {α : Type} {g : Operand} {ps : Array Tmp} {assign body : Code} {Q : Exit → Act → World → Prop} {a : Act} {w : World} {gf : Nat} {lb : Array Value} (hg : a.eval g = .func (.func gf) #[] lb) (eg : ∀ args w, (callFunc gf args).run P w = .ok (.enter gf args) w)
    {encs : α → Array Value} {S Sp : List α → Prop} {N n0 : Nat} {w0 : World} (hseq : SeqStopsK Fence.wide 8 P gf lb encs (Below n0) S Sp N w0) (hn0 : n0 ≤ w.heap.size) (hb0 : Below w0.heap.size w0 w) (hps : ∀ x, (encs x).size = ps.size)
    (I : List α → World → Prop) (hI : OwnFrom w.heap.size I) (h0 : I [] w)
    (h : ∃ a₁ : α → Act, (∀ (l : Nat) (x : α) (W : World) (K : Act → World → Prop), K (a₁ x) W → assign.wpIn (Fence.wide.inRound l) 7 P (Exit.then K (fun _ _ _ => False)) { tmps := (ps.zip (encs x)).foldl (fun t (p, v) => t.setIfInBounds p v) a.tmps, defers := [] } W) ∧
      ∀ (l : Nat) (pre : List α) (x : α) (W : World), I pre W → pre.length < N → body.wpIn (Fence.wide.inRound l) 7 P (ownPostG w.heap.size (Below n0) I (fun _ _ _ => False) (pre ++ [x]) W) (a₁ x) W)
    (hdone : ∀ (D : Nat) (xs : List α) (W : World), w.heap.size ≤ D → S xs → I xs W → W.heap[D]? = some (.deferred (some [])) → Q .normal { a with defers := { target := .collected D, args := #[] } :: a.defers } W) :
    (Code.rangeFunc g ps assign body).wp P Q a w := by
  obtain ⟨a₁, hassign, hbody⟩ := h
  refine (wpIn_wide (n := 9)).1 (wpIn_rangeFunc_ownG (F := Fence.wide) (n := 9) rfl (by omega) hg trivial eg hseq (fun h k => belowK_t h k) (belowK_b hn0) hb0 hps I (fun _ _ _ => False) hI (fun _ _ _ _ _ h => h.elim) h0 a₁ hassign hbody hdone (fun _ _ _ _ _ _ h _ => h.elim))

/-- What lay below B lies as it lay. -/
theorem own_below {β : Type} {B B' : Nat} {w0 : World} (hB : B ≤ w0.heap.size) (hB' : B ≤ B') : OwnFrom (β := β) B' (fun _ W => Below B w0 W) := fun s W W' row hs hg hr =>
  ⟨hg.os.trans hs.os, hg.tape.trans hs.tape, hg.output.trans hs.output, Nat.le_trans hs.size hg.size, fun k hk => by
    rw [hg.block k (by have := hs.size; omega) (fun e => by have := (hr k e.symm).1; omega)]
    exact hs.block k hk⟩

/-- A cell holds what it held. -/
theorem own_cell {β : Type} {B : Nat} (p : Addr) (v : β → Value) : OwnFrom (β := β) B (fun s W => W.cell? p = some (v s) ∧ W.frozen? p = false) := fun s W W' row hs hg hr =>
  ⟨cell_kept hs.1 hg (fun r e => (hr r e).2), (frozen_kept hs.1 hg (fun r e => (hr r e).2)).trans hs.2⟩

end Go.Proofs.Ytlfdcfgpbigjdaa
