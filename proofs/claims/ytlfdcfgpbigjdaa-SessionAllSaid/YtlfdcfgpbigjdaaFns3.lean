/- The functions of the table of sessions that change it. -/
import Derived.Test.YtlfdcfgpbigjdaaFns2
import Derived.StillTailTactics
namespace Go.Proofs.Ytlfdcfgpbigjdaa
set_option linter.unusedVariables false
set_option linter.unusedSimpArgs false
open Go.RowKit

/-- Behind the call the table is this one. -/
def TabTo (w : World) (F : Nat → Prop) (t : Nat) (l : List Se) (last : Int) (U : Int → Int → Option Int) (w' : World) : Prop :=
  ∃ F' sl M L clock, Tab w' F' t l last U sl M L clock ∧ Chg F w w' ∧ ∀ k, F' k → F k ∨ w.heap.size ≤ k

section
variable {w : World} {F : Nat → Prop} {t : Nat} {l : List Se} {last : Int} {U : Int → Int → Option Int} {sl : Value} {M : Nat} {L : List En} {clock : Nat}

def putU (U : Int → Int → Option Int) (c s : Int) (v : Option Int) : Int → Int → Option Int := fun c' s' => if c' = c ∧ s' = s then v else U c' s'

theorem Tab.ne (h : Tab w F t l last U sl M L clock) : t ≠ M := by
  rintro rfl
  have := h.heap.symm.trans h.map.heap
  cases this
theorem Tab.row_ne (h : Tab w F t l last U sl M L clock) : ∀ g, sl.ownBlock = some g → g ≠ M ∧ g ≠ t := by
  intro g hg
  rcases h.row.2 with ⟨rfl, _⟩ | ⟨g', cap, cur, rfl, _, hh, _⟩
  · cases hg
  · cases hg
    constructor
    · rintro rfl
      have := hh.symm.trans h.map.heap
      cases this
    · rintro rfl
      have := hh.symm.trans h.heap
      cases this

/-- The map's block alone turns. -/
theorem Tab.turn (h : Tab w F t l last U sl M L clock) {L' : List En} {clock' : Nat} {U' : Int → Int → Option Int} {o : Obj} (hm : MapAt (World.putObj w M o) M L' clock') (hU : ∀ c s, look L' c s = U' c s) :
    Tab (World.putObj w M o) F t l last U' sl M L' clock' :=
  ⟨by rw [putObj_other _ _ _ h.ne]; exact h.heap, ownsRow_keep h.row fun g hg => putObj_other _ _ _ (h.row_ne g hg).1, hm, hU, h.inT, h.inM, h.inR, fun k hk => by rw [putObj_size]; exact h.old k hk⟩

theorem TabTo.of_same (h : Tab w F t l last U sl M L clock) {w' : World} (hs : Same w w') : TabTo w F t l last U w' :=
  ⟨F, sl, M, L, clock, h.same hs, hs.same, fun _ hk => .inl hk⟩

def loginU (l : List Se) (U : Int → Int → Option Int) (c s u : Int) : Int → Int → Option Int := if mayOf l U c s u = 0 then putU U c s (some u) else U

def LoginPost (w : World) (F : Nat → Prop) (t : Nat) (l : List Se) (last : Int) (U : Int → Int → Option Int) (c s u : Int) (e : Ending) (w' : World) : Prop :=
  e = .returned (.int .i64 (mayOf l U c s u)) ∧ TabTo w F t l last (loginU l U c s u) w'

theorem may_free {c s u : Int} (hU : ∀ c s v, U c s = some v → 0 ≤ v) (h : mayOf l U c s u = 0) : U c s = none := by
  unfold mayOf at h
  split at h
  · cases h
  · split at h
    · cases h
    · split at h
      · cases h
      · rename_i h3
        have h4 : (U c s).getD (-1) = -1 := by simpa using h3
        cases hx : U c s with
        | none => rfl
        | some v => have := hU c s v hx; rw [hx] at h4; simp at h4; omega

set_option maxHeartbeats 1000000 in
theorem login_calls (h : Tab w F t l last U sl M L clock) (hU : ∀ c s v, U c s = some v → 0 ≤ v) (c s u : Int) :
   Calls Try.prog 16 #[.pointer (some ⟨t, 0, none⟩), .int .i64 c, .int .i64 s, .int .i64 u] w (LoginPost w F t l last U c s u) := by
  have H := hid h
  have HU := hid hU
  clear h hU
  go_enter Try.func16, Try.ntmps16
  go_wp2_with fail
  refine (may_calls H.out c s u).mono ?_
  rintro e w1 ⟨rfl, hs⟩
  have hm : mayOf l U c s u = 0 → U c s = none := may_free HU.out
  have hl : loginU l U c s u = if mayOf l U c s u = 0 then putU U c s (some u) else U := rfl
  generalize hrv : mayOf l U c s u = rv at *
  have HRV := hid hrv
  clear hrv
  have H1 := H.out.same hs
  have h2 := H1.map_cell
  have HL := hid hl
  clear hl
  by_cases hz : rv = 0
  · subst hz
    have hn := hm rfl
    have hlook : look L c s = none := by rw [H1.users]; exact hn
    have hp := run_put H1.map u hlook
    unfold keyV at hp
    have hT := H1.turn (U' := putU U c s (some u)) hp.2 (fun c' s' => by rw [look_put L c s u clock hlook, H1.users]; rfl)
    have hrun := hp.1
    have HT := hid hT
    have HH1 := hid H1
    have HS := hid hs
    clear hp hT hn hlook hm H1 hs
    go_wp2_with fail
    go_ret
    exact ⟨by rw [HRV.out]; rfl, F, sl, M, _, _, by rw [HL.out]; simp only [if_true]; exact HT.out, HS.out.same.trans (putObj_chg _ _ _) (fun k hk => .inl (by rw [hk]; exact HH1.out.inM)), fun k hk => .inl hk⟩
  · have hb : (rv == 0) = false := by simpa using hz
    have HZ := hid hz
    have HH := hid (TabTo.of_same H.out hs)
    clear hz hm H1
    go_wp2_with fail
    go_ret
    exact ⟨by rw [HRV.out]; rfl, by rw [HL.out, if_neg HZ.out]; exact HH.out⟩

def logoutOf (U : Int → Int → Option Int) (c s : Int) : Int := if (U c s).getD (-1) = -1 then 257 else 0
def logoutU (U : Int → Int → Option Int) (c s : Int) : Int → Int → Option Int := if (U c s).getD (-1) = -1 then U else putU U c s none

def LogoutPost (w : World) (F : Nat → Prop) (t : Nat) (l : List Se) (last : Int) (U : Int → Int → Option Int) (c s : Int) (e : Ending) (w' : World) : Prop :=
  e = .returned (.int .i64 (logoutOf U c s)) ∧ TabTo w F t l last (logoutU U c s) w'

set_option maxHeartbeats 1000000 in
theorem logout_calls (h : Tab w F t l last U sl M L clock) (c s : Int) :
   Calls Try.prog 18 #[.pointer (some ⟨t, 0, none⟩), .int .i64 c, .int .i64 s] w (LogoutPost w F t l last U c s) := by
  have HB := hid (heap_alloc_new w (.cells #[.int .i64 c, .int .i64 s] 56))
  have HW : Hid (Same w (w.alloc (.cells #[.int .i64 c, .int .i64 s] 56))) := (Chg.refl _ w).alloc _
  have hcell0 : ∀ W, Same (w.alloc (.cells #[.int .i64 c, .int .i64 s] 56)) W → W.cell? ⟨w.heap.size, 0, none⟩ = some (.int .i64 c) ∧ W.cell? ⟨w.heap.size, 1, none⟩ = some (.int .i64 s) :=
    fun W hW => ⟨cell_new_keep HB.out hW 0, cell_new_keep HB.out hW 1⟩
  have HC := hid hcell0
  have H := hid h
  clear h hcell0
  go_enter Try.func18, Try.ntmps18
  go_wp2_with fail
  refine (user_calls (H.out.same HW.out) c s).mono ?_
  rintro e w2 ⟨rfl, hs2⟩
  have S2 := hid (HW.out.trans hs2)
  have h20 := (HC.out w2 hs2).1
  have h21 := (HC.out w2 hs2).2
  clear hs2
  cases t1 : ((U c s).getD (-1) == -1) with
  | true =>
    have e1 : (U c s).getD (-1) = -1 := by simpa using t1
    have E := hid e1
    clear e1
    go_wp2_with fail
    go_ret
    exact ⟨by unfold logoutOf; rw [if_pos E.out]; rfl, by unfold logoutU; rw [if_pos E.out]; exact TabTo.of_same H.out S2.out⟩
  | false =>
    have e1 : ¬ (U c s).getD (-1) = -1 := by simpa using t1
    have E := hid e1
    clear e1
    have h22 := (H.out.same S2.out).map_cell
    go_wp2_with fail
    go_still_tail 5, (by kernel_rfl)
    have HT := H.out.same S2.out.drew
    have hd := fun ty => run_del HT.map c s ty
    have hTT := HT.turn (U' := putU U c s none) (hd 0).2 (fun c' s' => by rw [look_drop, HT.users]; rfl)
    have hrun := fun ty => (hd ty).1
    have T3 := hid hTT
    have T2 := hid HT
    unfold keyV at hrun
    clear hd hTT HT
    go_wp2_with fail
    go_ret
    exact ⟨by unfold logoutOf; rw [if_neg E.out]; rfl, by unfold logoutU; rw [if_neg E.out]; exact ⟨F, sl, M, _, _, T3.out, S2.out.drew.same.trans (putObj_chg _ _ _) (fun k hk => .inl (by rw [hk]; exact T2.out.inM)), fun k hk => .inl hk⟩⟩

end
end Go.Proofs.Ytlfdcfgpbigjdaa
