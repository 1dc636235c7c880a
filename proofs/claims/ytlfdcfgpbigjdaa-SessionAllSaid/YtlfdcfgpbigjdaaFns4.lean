/- Opening a session. -/
import Derived.Test.YtlfdcfgpbigjdaaFns3
import Derived.Deep.AppendLies
import Derived.Deep.RegionLaw
namespace Go.Proofs.Ytlfdcfgpbigjdaa
set_option linter.unusedVariables false
set_option linter.unusedSimpArgs false
open Go.RowKit

theorem Try.info59 : (Try.prog.info? 59).map (fun i => (i.zero, i.size, i.bytes)) = some (some (.agg #[.int .i64 0, .int .i64 0, .int .i64 0, .bool false]), 4, 32) := by kernel_rfl

section
variable {w : World} {F : Nat → Prop} {t : Nat} {l : List Se} {last : Int} {U : Int → Int → Option Int} {sl : Value} {M : Nat} {L : List En} {clock : Nat}

def openRV (l : List Se) (U : Int → Int → Option Int) (c s : Int) (rw : Bool) : Int :=
  if ¬ (0 ≤ s ∧ s < 4) then 3 else if 16 ≤ l.length then 177 else if rw = false ∧ (U c s).getD (-1) = 0 then 184 else 0

def OpenPost (w : World) (F : Nat → Prop) (t : Nat) (l : List Se) (last : Int) (U : Int → Int → Option Int) (c s : Int) (rw : Bool) (e : Ending) (w' : World) : Prop :=
  (openRV l U c s rw ≠ 0 ∧ e = .returned (.tuple #[.int .i64 0, .int .i64 (openRV l U c s rw)]) ∧ TabTo w F t l last U w') ∨
  (openRV l U c s rw = 0 ∧ e = .returned (.tuple #[.int .i64 (last + 1), .int .i64 0]) ∧ TabTo w F t (l ++ [⟨last + 1, c, s, rw⟩]) (last + 1) U w')

theorem Tab.len_le (h : Tab w F t l last U sl M L clock) : l.length ≤ 9223372036854775807 := by
  obtain ⟨a, cap, _, h1, h2, _⟩ := h.slice
  unfold maxLen at h2; omega

theorem step_open (h : Tab w F t l last U sl M L clock) (nl : Int) (y : Se) (hlen : l.length < 100) {ops : Array Oper} {o : Oper} {a : Act} {K : Act → World → Prop} {Q : Exit → Act → World → Prop} {E : Prop} (hgd : o.guard = none) (s x : Operand)
    (ho : o.op = .call { callee := .builtin .append, args := #[s, x], argTypes := #[52, 52] }) (hs : a.eval s = sl) (hx : a.eval x = .slice (some ⟨w.heap.size, 0, none⟩) 1 1)
    (hK : ∀ g cap W', W'.cell? ⟨t, 0, none⟩ = some sl → W'.cell? ⟨t, 1, none⟩ = some (.int .i64 nl) → W'.frozen? ⟨t, 0, none⟩ = false → Hid (TabTo w F t (l ++ [y]) nl U (W'.setCell ⟨t, 0, none⟩ (.slice (some ⟨g, 0, none⟩) (l.length + 1) cap))) → K (a.put o.dst (.slice (some ⟨g, 0, none⟩) (l.length + 1) cap)) W') :
    if Region.wanted o (yielded ops a.tmps) = true then Oper.wp Try.prog o a ((w.setCell ⟨t, 1, none⟩ (.int .i64 nl)).alloc (.cells #[.int .i64 y.h, .int .i64 y.c, .int .i64 y.s, .bool y.rw] 59)).drew K Q else E := by
  obtain ⟨i0, hi0, hz0, hz1, hz2⟩ := info_parts Try.info59
  have htl := h.lt
  have hc1 : Chg (fun k => k = t) w ((w.setCell ⟨t, 1, none⟩ (.int .i64 nl)).alloc (.cells #[.int .i64 y.h, .int .i64 y.c, .int .i64 y.s, .bool y.rw] 59)).drew := (((Chg.refl (fun k => k = t) w).setCell (p := ⟨t, 1, none⟩) (.inl rfl) _).alloc _).drew
  have hn : ((w.setCell ⟨t, 1, none⟩ (.int .i64 nl)).alloc (.cells #[.int .i64 y.h, .int .i64 y.c, .int .i64 y.s, .bool y.rw] 59)).drew.heap[w.heap.size]? = some (.cells #[.int .i64 y.h, .int .i64 y.c, .int .i64 y.s, .bool y.rw] 59 (0, 0)) := by
    have := heap_alloc_new (w.setCell ⟨t, 1, none⟩ (.int .i64 nl)) (.cells #[.int .i64 y.h, .int .i64 y.c, .int .i64 y.s, .bool y.rw] 59)
    rw [size_setCell] at this
    exact this
  have hh : ((w.setCell ⟨t, 1, none⟩ (.int .i64 nl)).alloc (.cells #[.int .i64 y.h, .int .i64 y.c, .int .i64 y.s, .bool y.rw] 59)).drew.heap[t]? = some (.cells #[sl, .int .i64 nl, .map (some M)] 54 (0, 0)) := by
    show ((w.setCell ⟨t, 1, none⟩ (.int .i64 nl)).alloc (.cells #[.int .i64 y.h, .int .i64 y.c, .int .i64 y.s, .bool y.rw] 59)).heap[t]? = _
    rw [Below.heap_alloc _ _ _ (by rw [size_setCell]; exact htl), heap_setCell_at h.heap]
    simp
  have hsz : ((w.setCell ⟨t, 1, none⟩ (.int .i64 nl)).alloc (.cells #[.int .i64 y.h, .int .i64 y.c, .int .i64 y.s, .bool y.rw] 59)).drew.heap.size = w.heap.size + 1 := by
    show ((w.setCell ⟨t, 1, none⟩ (.int .i64 nl)).alloc (.cells #[.int .i64 y.h, .int .i64 y.c, .int .i64 y.s, .bool y.rw] 59)).heap.size = _
    simp [size_setCell]
  have hown : ((w.setCell ⟨t, 1, none⟩ (.int .i64 nl)).alloc (.cells #[.int .i64 y.h, .int .i64 y.c, .int .i64 y.s, .bool y.rw] 59)).drew.ownsRow 0 59 4 sl l.length (seRow l) := ownsRow_keep h.row fun g hg => hc1.block g (row_lt h.row g hg) (h.row_ne g hg).2
  have hM : ((w.setCell ⟨t, 1, none⟩ (.int .i64 nl)).alloc (.cells #[.int .i64 y.h, .int .i64 y.c, .int .i64 y.s, .bool y.rw] 59)).drew.heap[M]? = w.heap[M]? := hc1.block M (h.old M h.inM) h.ne.symm
  generalize ((w.setCell ⟨t, 1, none⟩ (.int .i64 nl)).alloc (.cells #[.int .i64 y.h, .int .i64 y.c, .int .i64 y.s, .bool y.rw] 59)).drew = W at *
  refine push_step W hgd s x 52 ho 59 i0 _ 4 32 Try.underlying52 hi0 hz0 hz1 hz2 rfl (by decide) 0 (Nat.zero_le _) sl l.length (seRow l) hs hown w.heap.size (Se.cells y) hx hn rfl (by intro u hu; simp [Se.cells] at hu; rcases hu with rfl | rfl | rfl | rfl <;> rfl) (by unfold maxLen; omega) (by omega) ?_
  intro g cap W' hown' hc2 hb hlt
  have htW : t < W.heap.size := by omega
  have hh' : W'.heap[t]? = some (.cells #[sl, .int .i64 nl, .map (some M)] 54 (0, 0)) := by
    rw [hc2.block t htW (fun e => (h.row_ne t e).2 rfl)]; exact hh
  have hM' : W'.heap[M]? = w.heap[M]? := by
    rw [hc2.block M (by have := h.old M h.inM; omega) (fun e => (h.row_ne M e).1 rfl)]; exact hM
  refine hK g cap W' (by rw [cell_of_heap hh']; rfl) (by rw [cell_of_heap hh']; rfl) (frozen_of_heap hh' 0) ?_
  have hne : g ≠ t := by
    rintro rfl
    rcases hb with hb | hb
    · exact (h.row_ne g hb).2 rfl
    · omega
  refine ⟨fun k => F k ∨ k = g, .slice (some ⟨g, 0, none⟩) (l.length + 1) cap, M, L, clock, ⟨?_, ?_, ?_, h.users, .inl h.inT, .inl h.inM, fun g' hg => .inr (by cases hg; rfl), ?_⟩, ?_, ?_⟩
  · rw [heap_setCell_at hh']; simp
  · have : (l ++ [y]).length = l.length + 1 := by simp
    rw [this]
    have hr : seRow (l ++ [y]) = seRow l ++ y.cells := by simp [seRow]
    rw [hr]
    exact ownsRow_keep hown' fun g' hg => Below.heap_setCell _ _ _ _ (by cases hg; exact hne)
  · refine h.map.later ?_
    rw [Below.heap_setCell _ _ _ _ h.ne.symm]
    exact hM'
  · intro k hk
    rw [size_setCell]
    rcases hk with hk | hk
    · have := h.old k hk; have := hc2.size; omega
    · subst hk; exact hlt
  · refine Chg.setCell ?_ (.inl h.inT) _
    exact Chg.trans (hc1.mono fun k hk _ => by rw [hk]; exact h.inT) hc2 (fun k hk => .inl (h.inR k hk))
  · intro k hk
    rcases hk with hk | hk
    · exact .inl hk
    · subst hk
      rcases hb with hb | hb
      · exact .inl (h.inR k hb)
      · right; omega

set_option maxHeartbeats 4000000 in
theorem open2_calls (h : Tab w F t l last U sl M L clock) (hl : 0 ≤ last ∧ last < 1000000) (c s : Int) (rw : Bool) :
   Calls Try.prog 8 #[.pointer (some ⟨t, 0, none⟩), .int .i64 c, .int .i64 s, .bool rw] w (OpenPost w F t l last U c s rw) := by
  have HB := hid (heap_alloc_new w (.cells #[.int .i64 c, .int .i64 s] 56))
  have HW : Hid (Same w (w.alloc (.cells #[.int .i64 c, .int .i64 s] 56))) := (Chg.refl _ w).alloc _
  have hcell0 : ∀ W, Same (w.alloc (.cells #[.int .i64 c, .int .i64 s] 56)) W → W.cell? ⟨w.heap.size, 0, none⟩ = some (.int .i64 c) ∧ W.cell? ⟨w.heap.size, 1, none⟩ = some (.int .i64 s) :=
    fun W hW => ⟨cell_new_keep HB.out hW 0, cell_new_keep HB.out hW 1⟩
  have HC := hid hcell0
  have H := hid h
  clear h hcell0
  go_enter Try.func8, Try.ntmps8
  go_wp2_with fail
  refine (slots_calls s _).mono ?_
  rintro e w1 ⟨rfl, hw1⟩
  have S1 : Hid (Same (w.alloc (.cells #[.int .i64 c, .int .i64 s] 56)) w1) := by rw [← hw1]; exact Chg.refl _ _
  clear hw1
  cases t1 : decide (0 ≤ s ∧ s < 4) with
  | false =>
    have hs : ¬ (0 ≤ s ∧ s < 4) := by simpa using t1
    have HS := hid hs
    clear hs
    go_wp2_with fail
    go_ret2
    have e1 : openRV l U c s rw = 3 := by unfold openRV; rw [if_pos HS.out]
    exact .inl ⟨by rw [e1]; decide, by rw [e1]; rfl, TabTo.of_same H.out (HW.out.trans S1.out)⟩
  | true =>
    have hs : 0 ≤ s ∧ s < 4 := by simpa using t1
    have HS := hid hs
    clear hs
    have h0 := (H.out.same (HW.out.trans S1.out)).sl_cell
    have hlen := H.out.len_le
    obtain ⟨a, cap, hsl, hlc, hcm, hrow⟩ := H.out.slice
    clear hrow
    subst hsl
    by_cases h16 : 16 ≤ l.length
    · go_wp2_with fail
      go_ret2
      have e1 : openRV l U c s rw = 177 := by unfold openRV; rw [if_neg (by simpa using HS.out), if_pos h16]
      exact .inl ⟨by rw [e1]; decide, by rw [e1]; rfl, TabTo.of_same H.out (HW.out.trans S1.out)⟩
    · cases hq : rw with
      | true =>
        have hs2 := S1.out
        have hrw := hid hq; clear hq
        have e1 : openRV l U c s rw = 0 := by rw [hrw.out]; unfold openRV; rw [if_neg (by simpa using HS.out), if_neg h16, if_neg (by rintro ⟨h, _⟩; cases h)]
        have E := hid e1
        have c2 := (H.out.same (HW.out.trans hs2)).last_cell
        have d0 := (H.out.same (HW.out.trans hs2)).sl_cell
        have d2 := (HC.out w1 hs2).1
        have d3 := (HC.out w1 hs2).2
        have ht := H.out.lt
        have f2 := frozen_of_heap (H.out.same (HW.out.trans hs2)).heap 1
        have S2 := hid hs2
        clear e1 hs2
        have hb : last + 1 < 1000001 := by omega
        go_wp2_with fail
        have hl100 : l.length < 100 := by omega
        have HT := hid (H.out.same (HW.out.trans S2.out))
        have ht2 := HT.out.lt
        go_region_law (refine step_open HT.out (last + 1) ⟨last + 1, c, s, true⟩ hl100 rfl (.tmp 48) (.tmp 56) rfl rfl rfl ?_; intro g3 cap3 W3 e30 e31 e32 HT3)
        all_goals
          go_wp2_with fail
          go_ret2
          obtain ⟨F', sl', M', L', clock', hT', hC', hF'⟩ := Hid.out ‹_›
          exact .inr ⟨E.out, rfl, F', sl', M', L', clock', by rw [hrw.out]; exact hT', (Chg.same (HW.out.trans S2.out)).trans hC' (fun k hk => .inl hk), fun k hk => by rcases hF' k hk with h | h; exact .inl h; right; have := (HW.out.trans S2.out).size; omega⟩
      | false =>
        have hrw := hid hq; clear hq
        have g2 := (HC.out w1 S1.out).1
        have g3 := (HC.out w1 S1.out).2
        go_wp2_with fail
        refine (user_calls (H.out.same (HW.out.trans S1.out)) c s).mono ?_
        rintro e w2 ⟨rfl, hs2'⟩
        have hs2 := S1.out.trans hs2'
        clear hs2'
        cases t3 : ((U c s).getD (-1) == 0) with
        | true =>
          have e1 : openRV l U c s rw = 184 := by rw [hrw.out]; unfold openRV; rw [if_neg (by simpa using HS.out), if_neg h16, if_pos ⟨rfl, by simpa using t3⟩]
          have E := hid e1
          have S2 := hid (HW.out.trans hs2)
          clear e1 hs2
          go_wp2_with fail
          go_ret2
          exact .inl ⟨by rw [E.out]; decide, by rw [E.out]; rfl, TabTo.of_same H.out S2.out⟩
        | false =>
          have e1 : openRV l U c s rw = 0 := by rw [hrw.out]; unfold openRV; rw [if_neg (by simpa using HS.out), if_neg h16, if_neg (by rintro ⟨_, h⟩; simp [h] at t3)]
          have E := hid e1
          have c2 := (H.out.same (HW.out.trans hs2)).last_cell
          have d0 := (H.out.same (HW.out.trans hs2)).sl_cell
          have d2 := (HC.out w2 hs2).1
          have d3 := (HC.out w2 hs2).2
          have ht := H.out.lt
          have f2 := frozen_of_heap (H.out.same (HW.out.trans hs2)).heap 1
          have S2 := hid hs2
          clear e1 hs2
          have hb : last + 1 < 1000001 := by omega
          go_wp2_with fail
          have hl100 : l.length < 100 := by omega
          have HT := hid (H.out.same (HW.out.trans S2.out))
          have ht2 := HT.out.lt
          go_region_law (refine step_open HT.out (last + 1) ⟨last + 1, c, s, false⟩ hl100 rfl (.tmp 48) (.tmp 56) rfl rfl rfl ?_; intro g3 cap3 W3 e30 e31 e32 HT3)
          all_goals
            go_wp2_with fail
            go_ret2
            obtain ⟨F', sl', M', L', clock', hT', hC', hF'⟩ := Hid.out ‹_›
            exact .inr ⟨E.out, rfl, F', sl', M', L', clock', by rw [hrw.out]; exact hT', (Chg.same (HW.out.trans S2.out)).trans hC' (fun k hk => .inl hk), fun k hk => by rcases hF' k hk with h | h; exact .inl h; right; have := (HW.out.trans S2.out).size; omega⟩
end
end Go.Proofs.Ytlfdcfgpbigjdaa
