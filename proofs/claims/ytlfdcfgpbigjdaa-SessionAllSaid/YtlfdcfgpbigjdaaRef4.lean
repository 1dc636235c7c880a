/- The document's table of sessions: opening, logging in and out. -/
import Derived.Test.YtlfdcfgpbigjdaaRef3
namespace Go.Proofs.Ytlfdcfgpbigjdaa
set_option linter.unusedVariables false
set_option linter.unusedSimpArgs false
open Go.RowKit

section
variable {w : World} {F : Nat → Prop} {r : Nat} {l : List Se} {next : Int} {ws : List Lo} {lv wv : Value}

def ropenRV (l : List Se) (ws : List Lo) (c s : Int) (rw : Bool) : Int :=
  if s < 0 ∨ 4 ≤ s then 3 else if 16 ≤ l.length then 177 else if rw = false ∧ userOf ws c s = 0 then 184 else 0

def ROpenPost (w : World) (F : Nat → Prop) (r : Nat) (l : List Se) (next : Int) (ws : List Lo) (c s : Int) (rw : Bool) (e : Ending) (w' : World) : Prop :=
  (ropenRV l ws c s rw ≠ 0 ∧ e = .returned (.tuple #[.int .i64 0, .int .i64 (ropenRV l ws c s rw)]) ∧ RTabTo w F r l next ws w') ∨
  (ropenRV l ws c s rw = 0 ∧ e = .returned (.tuple #[.int .i64 (next + 1), .int .i64 0]) ∧ RTabTo w F r (l ++ [⟨next + 1, c, s, rw⟩]) (next + 1) ws w')

theorem rstep_open (h : RTab w F r l next ws lv wv) (nl : Int) (y : Se) (hlen : l.length < 100) {ops : Array Oper} {o : Oper} {a : Act} {K : Act → World → Prop} {Q : Exit → Act → World → Prop} {E : Prop} (hgd : o.guard = none) (s x : Operand)
    (ho : o.op = .call { callee := .builtin .append, args := #[s, x], argTypes := #[27, 27] }) (hs : a.eval s = lv) (hx : a.eval x = .slice (some ⟨w.heap.size, 0, none⟩) 1 1)
    (hK : ∀ g cap W', W'.cell? ⟨r, 0, none⟩ = some lv → W'.cell? ⟨r, 1, none⟩ = some (.int .i64 nl) → W'.frozen? ⟨r, 0, none⟩ = false → Hid (RTabTo w F r (l ++ [y]) nl ws (W'.setCell ⟨r, 0, none⟩ (.slice (some ⟨g, 0, none⟩) (l.length + 1) cap))) → K (a.put o.dst (.slice (some ⟨g, 0, none⟩) (l.length + 1) cap)) W') :
    if Region.wanted o (yielded ops a.tmps) = true then Oper.wp Try.prog o a ((w.setCell ⟨r, 1, none⟩ (.int .i64 nl)).alloc (.cells #[.int .i64 y.h, .int .i64 y.c, .int .i64 y.s, .bool y.rw] 61)).drew K Q else E := by
  obtain ⟨i0, hi0, hz0, hz1, hz2⟩ := info_parts Try.info61
  have htl := h.lt
  have hc1 : Chg (fun k => k = r) w ((w.setCell ⟨r, 1, none⟩ (.int .i64 nl)).alloc (.cells #[.int .i64 y.h, .int .i64 y.c, .int .i64 y.s, .bool y.rw] 61)).drew := (((Chg.refl (fun k => k = r) w).setCell (p := ⟨r, 1, none⟩) (.inl rfl) _).alloc _).drew
  have hn : ((w.setCell ⟨r, 1, none⟩ (.int .i64 nl)).alloc (.cells #[.int .i64 y.h, .int .i64 y.c, .int .i64 y.s, .bool y.rw] 61)).drew.heap[w.heap.size]? = some (.cells #[.int .i64 y.h, .int .i64 y.c, .int .i64 y.s, .bool y.rw] 61 (0, 0)) := by
    have := heap_alloc_new (w.setCell ⟨r, 1, none⟩ (.int .i64 nl)) (.cells #[.int .i64 y.h, .int .i64 y.c, .int .i64 y.s, .bool y.rw] 61)
    rw [size_setCell] at this
    exact this
  have hh : ((w.setCell ⟨r, 1, none⟩ (.int .i64 nl)).alloc (.cells #[.int .i64 y.h, .int .i64 y.c, .int .i64 y.s, .bool y.rw] 61)).drew.heap[r]? = some (.cells #[lv, .int .i64 nl, wv] 30 (0, 0)) := by
    show ((w.setCell ⟨r, 1, none⟩ (.int .i64 nl)).alloc (.cells #[.int .i64 y.h, .int .i64 y.c, .int .i64 y.s, .bool y.rw] 61)).heap[r]? = _
    rw [Below.heap_alloc _ _ _ (by rw [size_setCell]; exact htl), heap_setCell_at h.heap]
    simp
  have hsz : ((w.setCell ⟨r, 1, none⟩ (.int .i64 nl)).alloc (.cells #[.int .i64 y.h, .int .i64 y.c, .int .i64 y.s, .bool y.rw] 61)).drew.heap.size = w.heap.size + 1 := by
    show ((w.setCell ⟨r, 1, none⟩ (.int .i64 nl)).alloc (.cells #[.int .i64 y.h, .int .i64 y.c, .int .i64 y.s, .bool y.rw] 61)).heap.size = _
    simp [size_setCell]
  have hown : ((w.setCell ⟨r, 1, none⟩ (.int .i64 nl)).alloc (.cells #[.int .i64 y.h, .int .i64 y.c, .int .i64 y.s, .bool y.rw] 61)).drew.ownsRow 0 61 4 lv l.length (seRow l) := ownsRow_keep h.lrow fun g hg => hc1.block g (row_lt h.lrow g hg) (h.row_ne.1 g hg)
  have hownW : ((w.setCell ⟨r, 1, none⟩ (.int .i64 nl)).alloc (.cells #[.int .i64 y.h, .int .i64 y.c, .int .i64 y.s, .bool y.rw] 61)).drew.ownsRow 0 69 3 wv ws.length (loRow ws) := ownsRow_keep h.wrow fun g hg => hc1.block g (row_lt h.wrow g hg) (h.row_ne.2.1 g hg)
  generalize ((w.setCell ⟨r, 1, none⟩ (.int .i64 nl)).alloc (.cells #[.int .i64 y.h, .int .i64 y.c, .int .i64 y.s, .bool y.rw] 61)).drew = W at *
  refine push_step W hgd s x 27 ho 61 i0 _ 4 32 Try.underlying27 hi0 hz0 hz1 hz2 rfl (by decide) 0 (Nat.zero_le _) lv l.length (seRow l) hs hown w.heap.size (Se.cells y) hx hn rfl (by intro u hu; simp [Se.cells] at hu; rcases hu with rfl | rfl | rfl | rfl <;> rfl) (by unfold maxLen; omega) (by omega) ?_
  intro g cap W' hown' hc2 hb hlt
  have htW : r < W.heap.size := by omega
  have hh' : W'.heap[r]? = some (.cells #[lv, .int .i64 nl, wv] 30 (0, 0)) := by
    rw [hc2.block r htW (fun e => (h.row_ne.1 r e) rfl)]; exact hh
  refine hK g cap W' (by rw [cell_of_heap hh']; rfl) (by rw [cell_of_heap hh']; rfl) (frozen_of_heap hh' 0) ?_
  have hne : g ≠ r := by
    rintro rfl
    rcases hb with hb | hb
    · exact (h.row_ne.1 g hb) rfl
    · omega
  have hownW' : W'.ownsRow 0 69 3 wv ws.length (loRow ws) := ownsRow_keep hownW fun b hb' => hc2.block b (row_lt hownW b hb') (fun e => h.row_ne.2.2 b e hb')
  refine ⟨fun k => F k ∨ k = g, .slice (some ⟨g, 0, none⟩) (l.length + 1) cap, wv, ⟨?_, ?_, ?_, .inl h.inR, fun g' hg => .inr (by cases hg; rfl), fun g' hg => .inl (h.inW g' hg), ?_⟩, ?_, ?_⟩
  · rw [heap_setCell_at hh']; simp
  · have : (l ++ [y]).length = l.length + 1 := by simp
    rw [this]
    have hr : seRow (l ++ [y]) = seRow l ++ y.cells := by simp [seRow]
    rw [hr]
    exact ownsRow_keep hown' fun g' hg => Below.heap_setCell _ _ _ _ (by cases hg; exact hne)
  · exact ownsRow_keep hownW' fun g' hg => Below.heap_setCell _ _ _ _ (h.row_ne.2.1 g' hg)
  · intro k hk
    rw [size_setCell]
    rcases hk with hk | hk
    · have := h.old k hk; have := hc2.size; omega
    · subst hk; exact hlt
  · refine Chg.setCell ?_ (.inl h.inR) _
    exact Chg.trans (hc1.mono fun k hk _ => by rw [hk]; exact h.inR) hc2 (fun k hk => .inl (h.inL k hk))
  · intro k hk
    rcases hk with hk | hk
    · exact .inl hk
    · subst hk
      rcases hb with hb | hb
      · exact .inl (h.inL k hb)
      · right; omega

set_option maxHeartbeats 4000000 in
theorem ropen_calls (h : RTab w F r l next ws lv wv) (hl : 0 ≤ next ∧ next < 1000000) (c s : Int) (rw : Bool) :
   Calls Try.prog 9 #[.pointer (some ⟨r, 0, none⟩), .int .i64 c, .int .i64 s, .bool rw] w (ROpenPost w F r l next ws c s rw) := by
  have H := hid h
  clear h
  by_cases hs : s < 0 ∨ 4 ≤ s
  · have HS := hid hs
    have E : Hid (ropenRV l ws c s rw = 3) := by unfold ropenRV; rw [if_pos hs]; exact rfl
    have HH := hid (RTabTo.of_same H.out (Chg.refl _ _))
    rcases hs with hs | hs
    · go_enter Try.func9, Try.ntmps9
      go_wp2_with fail
      go_ret2
      exact .inl ⟨by rw [E.out]; decide, by rw [E.out]; rfl, HH.out⟩
    · have hs0 : 0 ≤ s := by omega
      go_enter Try.func9, Try.ntmps9
      go_wp2_with fail
      go_ret2
      exact .inl ⟨by rw [E.out]; decide, by rw [E.out]; rfl, HH.out⟩
  · have hs0 : 0 ≤ s := by omega
    have hs4 : s < 4 := by omega
    have HS := hid hs
    clear hs
    have h0 := H.out.l_cell
    obtain ⟨a, cap, hsl, hlc, hcm, hrow⟩ := row_se H.out.lrow
    have hlen : l.length ≤ 9223372036854775807 := by unfold maxLen at hcm; omega
    clear hrow
    subst hsl
    by_cases h16 : 16 ≤ l.length
    · have E : Hid (ropenRV l ws c s rw = 177) := by unfold ropenRV; rw [if_neg HS.out, if_pos h16]; exact rfl
      have HH := hid (RTabTo.of_same H.out (Chg.refl _ _))
      go_enter Try.func9, Try.ntmps9
      go_wp2_with fail
      go_ret2
      exact .inl ⟨by rw [E.out]; decide, by rw [E.out]; rfl, HH.out⟩
    · have c2 := H.out.n_cell
      have f1 := frozen_of_heap H.out.heap 1
      have f0 := frozen_of_heap H.out.heap 0
      have ht := H.out.lt
      have hl100 : l.length < 100 := by omega
      cases rw with
      | true =>
        have E : Hid (ropenRV l ws c s true = 0) := by unfold ropenRV; rw [if_neg HS.out, if_neg h16, if_neg (by rintro ⟨h, _⟩; cases h)]; exact rfl
        go_enter Try.func9, Try.ntmps9
        go_wp2_with fail
        go_region_law (refine rstep_open H.out (next + 1) ⟨next + 1, c, s, true⟩ hl100 rfl (.tmp 42) (.tmp 51) rfl rfl rfl ?_; intro g3 cap3 W3 e30 e31 e32 HT3)
        all_goals
          go_wp2_with fail
          go_ret2
          exact .inr ⟨E.out, rfl, Hid.out ‹_›⟩
      | false =>
        go_enter Try.func9, Try.ntmps9
        go_wp2_with fail
        refine (ruser_calls H.out c s).mono ?_
        rintro e w2 ⟨rfl, hw2⟩
        cases t3 : (userOf ws c s == 0) with
        | true =>
          have E : Hid (ropenRV l ws c s false = 184) := by unfold ropenRV; rw [if_neg HS.out, if_neg h16, if_pos ⟨rfl, by simpa using t3⟩]; exact rfl
          have HH : Hid (RTabTo w F r l next ws w2) := by rw [← hw2]; exact RTabTo.of_same H.out (Chg.refl _ _)
          clear hw2
          go_wp2_with fail
          go_ret2
          exact .inl ⟨by rw [E.out]; decide, by rw [E.out]; rfl, HH.out⟩
        | false =>
          have E : Hid (ropenRV l ws c s false = 0) := by unfold ropenRV; rw [if_neg HS.out, if_neg h16, if_neg (by rintro ⟨_, h⟩; simp [h] at t3)]; exact rfl
          subst hw2
          go_wp2_with fail
          go_region_law (refine rstep_open H.out (next + 1) ⟨next + 1, c, s, false⟩ hl100 rfl (.tmp 42) (.tmp 51) rfl rfl rfl ?_; intro g3 cap3 W3 e30 e31 e32 HT3)
          all_goals
            go_wp2_with fail
            go_ret2
            exact .inr ⟨E.out, rfl, Hid.out ‹_›⟩

def rloginW (l : List Se) (ws : List Lo) (c s u : Int) : List Lo := if rmayOf l ws c s u = 0 then ws ++ [⟨c, s, u⟩] else ws
def RLoginPost (w : World) (F : Nat → Prop) (r : Nat) (l : List Se) (next : Int) (ws : List Lo) (c s u : Int) (e : Ending) (w' : World) : Prop :=
  e = .returned (.int .i64 (rmayOf l ws c s u)) ∧ RTabTo w F r l next (rloginW l ws c s u) w'

/-- Behind the append the logins are stored. -/
theorem RTab.pushed (h : RTab w F r l next ws lv wv) {y : Lo} {W W' : World} {g cap : Nat} (hs : Same w W) (hown : W'.ownsRow 0 69 3 (.slice (some ⟨g, 0, none⟩) (ws.length + 1) cap) (ws.length + 1) (loRow ws ++ y.cells))
    (hc : Chg (fun b => wv.ownBlock = some b) W W') (hb : wv.ownBlock = some g ∨ g = W.heap.size) (hlt : g < W'.heap.size) :
    W'.cell? ⟨r, 2, none⟩ = some wv ∧ W'.frozen? ⟨r, 2, none⟩ = false ∧ RTabTo w F r l next (ws ++ [y]) (W'.setCell ⟨r, 2, none⟩ (.slice (some ⟨g, 0, none⟩) (ws.length + 1) cap)) := by
  have h1 := h.same hs
  have hh : W'.heap[r]? = some (.cells #[lv, .int .i64 next, wv] 30 (0, 0)) := by
    rw [hc.block r h1.lt (fun e => h.row_ne.2.1 r e rfl)]; exact h1.heap
  have hne : g ≠ r := by
    rintro rfl
    rcases hb with hb | hb
    · exact h.row_ne.2.1 g hb rfl
    · have := h1.lt; omega
  have hL : W'.ownsRow 0 61 4 lv l.length (seRow l) := ownsRow_keep h1.lrow fun b hb' => hc.block b (row_lt h1.lrow b hb') (fun e => h.row_ne.2.2 b hb' e)
  refine ⟨by rw [cell_of_heap hh]; rfl, frozen_of_heap hh 2, fun k => F k ∨ k = g, lv, .slice (some ⟨g, 0, none⟩) (ws.length + 1) cap, ⟨?_, ?_, ?_, .inl h.inR, fun g' hg => .inl (h.inL g' hg), fun g' hg => .inr (by cases hg; rfl), ?_⟩, ?_, ?_⟩
  · rw [heap_setCell_at hh]; simp
  · exact ownsRow_keep hL fun g' hg => Below.heap_setCell _ _ _ _ (h.row_ne.1 g' hg)
  · have : (ws ++ [y]).length = ws.length + 1 := by simp
    rw [this]
    have hr : loRow (ws ++ [y]) = loRow ws ++ y.cells := by simp [loRow]
    rw [hr]
    exact ownsRow_keep hown fun g' hg => Below.heap_setCell _ _ _ _ (by cases hg; exact hne)
  · intro k hk
    rw [size_setCell]
    rcases hk with hk | hk
    · have := h1.old k hk; have := hc.size; omega
    · subst hk; exact hlt
  · refine Chg.setCell ?_ (.inl h.inR) _
    exact Chg.trans hs.same hc (fun k hk => .inl (h.inW k hk))
  · intro k hk
    rcases hk with hk | hk
    · exact .inl hk
    · subst hk
      rcases hb with hb | hb
      · exact .inl (h.inW k hb)
      · right; have := hs.size; omega

set_option maxHeartbeats 2000000 in
theorem rlogin_calls (h : RTab w F r l next ws lv wv) (hw : ws.length < 1000) (c s u : Int) :
   Calls Try.prog 17 #[.pointer (some ⟨r, 0, none⟩), .int .i64 c, .int .i64 s, .int .i64 u] w (RLoginPost w F r l next ws c s u) := by
  have H := hid h
  clear h
  obtain ⟨i69, hi69, hz69, hs69, hb69⟩ := info_parts Try.info69
  go_enter Try.func17, Try.ntmps17
  go_wp2_with fail
  refine (rmay_calls H.out c s u).mono ?_
  rintro e w1 ⟨rfl, rfl⟩
  have hl : rloginW l ws c s u = if rmayOf l ws c s u = 0 then ws ++ [⟨c, s, u⟩] else ws := rfl
  generalize hrv : rmayOf l ws c s u = rv at *
  have HRV := hid hrv
  have HL := hid hl
  clear hrv hl
  by_cases hz : rv = 0
  · subst hz
    have h2 := H.out.w_cell
    have ht := H.out.lt
    obtain ⟨wa, wn, wc, hwv⟩ := ownsRow_form H.out.wrow
    subst hwv
    have HO : Hid (∀ X, (w.alloc X).ownsRow 0 69 3 (.slice wa wn wc) ws.length (loRow ws)) := fun X => (H.out.same ((Chg.refl _ w).alloc X)).wrow
    go_wp2_with (at_builtin; refine push_list _ rfl (.tmp 21) (.tmp 26) 28 rfl 69 i69 _ 3 24 Try.underlying28 hi69 hz69 hs69 hb69 rfl (by decide) 0 (Nat.zero_le _) _ _ _ rfl (HO.out _) w.heap.size (Lo.cells ⟨c, s, u⟩) rfl (heap_alloc_new _ _) rfl (by intro u hu; simp [Lo.cells] at hu; rcases hu with rfl | rfl | rfl <;> rfl) ?c1 ?c2 ?_)
    case c1 => unfold maxLen; omega
    case c2 => omega
    intro g2 cap2 W2 hown2 hc2 hat2 hlt2
    obtain ⟨d0, d1, d2⟩ := H.out.pushed ((Chg.refl _ w).alloc _) hown2 hc2 (by simpa using hat2) hlt2
    have D2 := hid d2
    clear hown2 hc2 hat2 hlt2 d2 h2
    go_wp2_with fail
    go_ret
    exact ⟨by rw [HRV.out]; rfl, by rw [HL.out]; simp only [if_true]; exact D2.out⟩
  · have hb : (rv == 0) = false := by simpa using hz
    have HZ := hid hz
    have HH := hid (RTabTo.of_same H.out (Chg.refl _ _))
    clear hz
    go_wp2_with fail
    go_ret
    exact ⟨by rw [HRV.out]; rfl, by rw [HL.out, if_neg HZ.out]; exact HH.out⟩

def RLogoutPost (w : World) (F : Nat → Prop) (r : Nat) (l : List Se) (next : Int) (ws : List Lo) (c s : Int) (e : Ending) (w' : World) : Prop :=
  e = .returned (.int .i64 (if userOf ws c s < 0 then 257 else 0)) ∧ RTabTo w F r l next (if userOf ws c s < 0 then ws else outW ws c s) w'

set_option maxHeartbeats 2000000 in
theorem rlogout_calls (h : RTab w F r l next ws lv wv) (hw : ws.length < 1000) (c s : Int) :
   Calls Try.prog 19 #[.pointer (some ⟨r, 0, none⟩), .int .i64 c, .int .i64 s] w (RLogoutPost w F r l next ws c s) := by
  have H := hid h
  clear h
  go_enter Try.func19, Try.ntmps19
  go_wp2_with fail
  refine (ruser_calls H.out c s).mono ?_
  rintro e w1 ⟨rfl, rfl⟩
  by_cases hz : userOf ws c s < 0
  · have HZ := hid hz
    have hd : decide (userOf ws c s < 0) = true := by simpa using hz
    have HH := hid (RTabTo.of_same H.out (Chg.refl _ _))
    clear hz
    go_wp2_with fail
    go_ret
    exact ⟨by rw [if_pos HZ.out]; rfl, by rw [if_pos HZ.out]; exact HH.out⟩
  · have HZ := hid hz
    have hd : decide (userOf ws c s < 0) = false := by simpa using hz
    clear hz
    go_wp2_with fail
    refine (rout_calls H.out hw c s).mono ?_
    rintro e w2 ⟨rfl, hp⟩
    have HP := hid hp
    clear hp
    go_wp2_with fail
    go_ret
    have HZ' : ¬ userOf ws c s < 0 := by have := HZ.out; omega
    exact ⟨by rw [if_neg HZ']; rfl, by rw [if_neg HZ']; exact HP.out⟩
end
end Go.Proofs.Ytlfdcfgpbigjdaa
