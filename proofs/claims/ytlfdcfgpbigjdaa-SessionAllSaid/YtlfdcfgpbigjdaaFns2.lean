/- More functions of the table of sessions. -/
import Derived.Test.YtlfdcfgpbigjdaaFns
namespace Go.Proofs.Ytlfdcfgpbigjdaa
set_option linter.unusedVariables false
set_option linter.unusedSimpArgs false
open Go.RowKit

section
variable {w : World} {F : Nat → Prop} {t : Nat} {l : List Se} {last : Int} {U : Int → Int → Option Int} {sl : Value} {M : Nat} {L : List En} {clock : Nat}

theorem Tab.same (h : Tab w F t l last U sl M L clock) {w' : World} (hs : Same w w') : Tab w' F t l last U sl M L clock := h.keep hs (fun _ _ h => h)

theorem Same.trans {a b c : World} (h : Same a b) (k : Same b c) : Same a c := Chg.trans h k (fun _ h => h.elim)

def findSe (l : List Se) (c hd : Int) : Option Se := l.find? (fun x => x.h == hd && x.c == c)

def stateOf (l : List Se) (U : Int → Int → Option Int) (c hd : Int) : Int :=
  match findSe l c hd with
  | none => -1
  | some x => if (U x.c x.s).getD (-1) = 0 then 4 else if (U x.c x.s).getD (-1) = 1 then (if x.rw then 3 else 1) else if x.rw then 2 else 0

def IntPost (n : Int) (w : World) (e : Ending) (w' : World) : Prop := e = .returned (.int .i64 n) ∧ Same w w'

/-- The cells of session k. -/
theorem Tab.cells_at (h : Tab w F t l last U sl M L clock) {g k cap : Nat} {x : Se} (hsl : sl = .slice (some ⟨g, 0, none⟩) l.length cap) (hx : l[k]? = some x) :
    w.cell? ⟨g, k * 4, none⟩ = some (.int .i64 x.h) ∧ w.cell? ⟨g, k * 4 + 1, none⟩ = some (.int .i64 x.c) ∧ w.cell? ⟨g, k * 4 + 2, none⟩ = some (.int .i64 x.s) ∧ w.cell? ⟨g, k * 4 + 3, none⟩ = some (.bool x.rw) := by
  obtain ⟨a, cap', e, _, _, hr⟩ := h.slice
  obtain ⟨hk, rfl⟩ := List.getElem?_eq_some_iff.1 hx
  rcases hr with ⟨_, rfl⟩ | ⟨g', rfl, _, _, _, hc⟩
  · simp at hk
  · rw [hsl] at e
    cases e
    exact hc k hk

set_option maxHeartbeats 1000000 in
theorem state_calls (h : Tab w F t l last U sl M L clock) (c hd : Int) :
   Calls Try.prog 21 #[.pointer (some ⟨t, 0, none⟩), .int .i64 c, .int .i64 hd] w (IntPost (stateOf l U c hd) w) := by
  have H := hid h
  clear h
  go_enter Try.func21, Try.ntmps21
  go_wp2_with fail
  refine (find_calls H.out c hd).mono ?_
  rintro e w' ⟨hs, hp⟩
  have HS := hid (H.out.same hs)
  rcases hp with ⟨hf, rfl⟩ | ⟨g, k, x, cap, hsl, hk, hx, hf, rfl⟩
  · go_wp2
    go_ret
    exact ⟨by simp only [stateOf, findSe, hf]; rfl, hs⟩
  · have hst : stateOf l U c hd = if (U x.c x.s).getD (-1) = 0 then 4 else if (U x.c x.s).getD (-1) = 1 then (if x.rw then 3 else 1) else if x.rw then 2 else 0 := by
      simp only [stateOf, findSe, hf]
    have HT := hid hst
    obtain ⟨c0, c1, c2, c3⟩ := HS.out.cells_at hsl hx
    clear hst hsl hx hf hk
    go_wp2_with fail
    refine (user_calls HS.out x.c x.s).mono ?_
    rintro e w2 ⟨rfl, hs2⟩
    have d3 : w2.cell? ⟨g, k * 4 + 3, none⟩ = some (.bool x.rw) := by
      have hlt : g < w'.heap.size := by
        unfold World.cell? at c3
        split at c3
        · rename_i hh; exact lt_of_heap hh
        · cases c3
      rw [hs2.cell (by exact hlt) (fun h => h)]; exact c3
    have hend : Same w w2 := hs.trans hs2
    clear c0 c1 c2 c3 hs hs2
    generalize (U x.c x.s).getD (-1) = u at *
    by_cases h4 : u = 0
    · subst h4
      go_wp2
      go_ret
      exact ⟨by rw [HT.out]; rfl, hend⟩
    · have b4 : (u == 0) = false := by simpa using h4
      have HU := hid h4
      clear h4
      by_cases h1 : u = 1
      · subst h1
        cases hrw : x.rw with
        | true =>
          rw [hrw] at d3
          go_wp2
          go_ret
          exact ⟨by rw [HT.out, hrw]; rfl, hend⟩
        | false =>
          rw [hrw] at d3
          go_wp2
          go_ret
          exact ⟨by rw [HT.out, hrw]; rfl, hend⟩
      · have b1 : (u == 1) = false := by simpa using h1
        have HU1 := hid h1
        clear h1
        cases hrw : x.rw with
        | true =>
          rw [hrw] at d3
          go_wp2
          go_ret
          exact ⟨by rw [HT.out, if_neg HU.out, if_neg HU1.out, hrw]; rfl, hend⟩
        | false =>
          rw [hrw] at d3
          go_wp2
          go_ret
          exact ⟨by rw [HT.out, if_neg HU.out, if_neg HU1.out, hrw]; rfl, hend⟩

def SlotPost (l : List Se) (c hd : Int) (w : World) (e : Ending) (w' : World) : Prop :=
  e = .returned (.tuple #[.int .i64 (match findSe l c hd with | some x => x.s | none => 0), .bool (findSe l c hd).isSome]) ∧ Same w w'

set_option maxHeartbeats 1000000 in
theorem slot_calls (h : Tab w F t l last U sl M L clock) (c hd : Int) :
   Calls Try.prog 23 #[.pointer (some ⟨t, 0, none⟩), .int .i64 c, .int .i64 hd] w (SlotPost l c hd w) := by
  have H := hid h
  clear h
  go_enter Try.func23, Try.ntmps23
  go_wp2_with fail
  refine (find_calls H.out c hd).mono ?_
  rintro e w' ⟨hs, hp⟩
  have HS := hid (H.out.same hs)
  rcases hp with ⟨hf, rfl⟩ | ⟨g, k, x, cap, hsl, hk, hx, hf, rfl⟩
  · go_wp2
    go_ret2
    exact ⟨by simp only [findSe, hf]; rfl, hs⟩
  · obtain ⟨c0, c1, c2, c3⟩ := HS.out.cells_at hsl hx
    have HF := hid hf
    clear hsl hx hf hk
    go_wp2
    go_ret2
    exact ⟨by simp only [findSe, HF.out]; rfl, hs⟩

def mayOf (l : List Se) (U : Int → Int → Option Int) (c s u : Int) : Int :=
  if u ≠ 0 ∧ u ≠ 1 then 259 else
  if (U c s).getD (-1) = u then 256 else
  if (U c s).getD (-1) ≠ -1 then 260 else
  if u = 0 ∧ l.any (fun x => hasAt c s x && !x.rw) = true then 183 else
  if l.any (hasAt c s) = false then 179 else 0

theorem cell_new_keep {w W : World} {b : Nat} {cs : Array Value} {e : TypeId} (h : w.heap[b]? = some (.cells cs e (0, 0))) (hs : Same w W) (o : Nat) : W.cell? ⟨b, o, none⟩ = cs[o]? := by
  rw [cell_of_heap (e := e) (f := (0, 0))]
  rw [hs.block b (lt_of_heap h) (fun h => h)]; exact h


theorem ret_int {a b : Int} (h : a = b) : Ending.returned (.int .i64 a) = .returned (.int .i64 b) := by rw [h]

theorem may_0 {l : List Se} {U : Int → Int → Option Int} {c s u : Int} (h : u ≠ 0 ∧ u ≠ 1) : 259 = mayOf l U c s u := by unfold mayOf; rw [if_pos h]
theorem may_1 {l : List Se} {U : Int → Int → Option Int} {c s u : Int} (h : ¬ (u ≠ 0 ∧ u ≠ 1)) (h1 : ((U c s).getD (-1) == u) = true) : 256 = mayOf l U c s u := by unfold mayOf; rw [if_neg h, if_pos (by simpa using h1)]
theorem may_2 {l : List Se} {U : Int → Int → Option Int} {c s u : Int} (h : ¬ (u ≠ 0 ∧ u ≠ 1)) (h1 : ((U c s).getD (-1) == u) = false) (h2 : ((U c s).getD (-1) != -1) = true) : 260 = mayOf l U c s u := by unfold mayOf; rw [if_neg h, if_neg (by simpa using h1), if_pos (by simpa using h2)]
theorem may_3 {l : List Se} {U : Int → Int → Option Int} {c s u : Int} (h : ¬ (u ≠ 0 ∧ u ≠ 1)) (h1 : ((U c s).getD (-1) == u) = false) (h2 : ((U c s).getD (-1) != -1) = false) (h3 : (u == 0) = true) (h4 : l.any (fun x => hasAt c s x && !x.rw) = true) : 183 = mayOf l U c s u := by
  unfold mayOf; rw [if_neg h, if_neg (by simpa using h1), if_neg (by simpa using h2), if_pos ⟨by simpa using h3, h4⟩]
theorem may_4 {l : List Se} {U : Int → Int → Option Int} {c s u : Int} (h : ¬ (u ≠ 0 ∧ u ≠ 1)) (h1 : ((U c s).getD (-1) == u) = false) (h2 : ((U c s).getD (-1) != -1) = false) (h3 : (u == 0) = false ∨ l.any (fun x => hasAt c s x && !x.rw) = false) (b : Bool) (h4 : l.any (hasAt c s) = b) : mayOf l U c s u = if b = false then 179 else 0 := by
  unfold mayOf; rw [if_neg h, if_neg (by simpa using h1), if_neg (by simpa using h2), if_neg, h4]
  rintro ⟨h5, h6⟩
  rcases h3 with h3 | h3
  · subst h5; simp at h3
  · rw [h3] at h6; cases h6

set_option maxHeartbeats 4000000 in
theorem may_calls (h : Tab w F t l last U sl M L clock) (c s u : Int) :
   Calls Try.prog 25 #[.pointer (some ⟨t, 0, none⟩), .int .i64 c, .int .i64 s, .int .i64 u] w (IntPost (mayOf l U c s u) w) := by
  have HB := hid (heap_alloc_new w (.cells #[.int .i64 c, .int .i64 s] 56))
  have HW : Hid (Same w (w.alloc (.cells #[.int .i64 c, .int .i64 s] 56))) := (Chg.refl _ w).alloc _
  have hcell0 : ∀ W, Same (w.alloc (.cells #[.int .i64 c, .int .i64 s] 56)) W → W.cell? ⟨w.heap.size, 0, none⟩ = some (.int .i64 c) ∧ W.cell? ⟨w.heap.size, 1, none⟩ = some (.int .i64 s) :=
    fun W hW => ⟨cell_new_keep HB.out hW 0, cell_new_keep HB.out hW 1⟩
  have HC := hid hcell0
  have H := hid h
  clear h hcell0
  by_cases hu : u ≠ 0 ∧ u ≠ 1
  · have b0 : (u != 0) = true := by simpa using hu.1
    have b1 : (u != 1) = true := by simpa using hu.2
    have HH := hid hu
    clear hu
    go_enter Try.func25, Try.ntmps25
    go_wp2_with fail
    go_ret
    exact ⟨ret_int (may_0 HH.out), HW.out⟩
  · have HH := hid hu
    have hb : ((u != 0) = false ∧ (u == 0) = true) ∨ ((u != 0) = true ∧ (u == 0) = false ∧ (u != 1) = false) := by
      by_cases e : u = 0
      · exact .inl (by simp [e])
      · by_cases e1 : u = 1
        · exact .inr (by simp [e1])
        · exact absurd ⟨e, e1⟩ hu
    clear hu
    rcases hb with ⟨b0, b1⟩ | ⟨b0, b1, b2⟩
    ·
      go_enter Try.func25, Try.ntmps25
      go_wp2_with fail
      refine (user_calls (H.out.same HW.out) c s).mono ?_
      rintro e w2 ⟨rfl, hs2⟩
      have S2 := hid hs2
      have h20 := (HC.out w2 hs2).1
      have h21 := (HC.out w2 hs2).2
      clear hs2
      cases t1 : ((U c s).getD (-1) == u) with
      | true =>
        go_wp2_with fail
        go_ret
        exact ⟨ret_int (may_1 HH.out t1), HW.out.trans S2.out⟩
      | false =>
        go_wp2_with fail
        refine (user_calls (H.out.same (HW.out.trans S2.out)) c s).mono ?_
        rintro e w3 ⟨rfl, hs3⟩
        have S3 := hid (S2.out.trans hs3)
        have h30 := (HC.out w3 S3.out).1
        have h31 := (HC.out w3 S3.out).2
        have h40 := (H.out.same (HW.out.trans S3.out)).sl_cell
        clear h20 h21 hs3 S2
        cases t2 : ((U c s).getD (-1) != -1) with
        | true =>
          go_wp2_with fail
          go_ret
          exact ⟨ret_int (may_2 HH.out t1 t2), HW.out.trans S3.out⟩
        | false =>
          go_wp2_with fail
          refine (contains_calls (H.out.same (HW.out.trans S3.out)) (Chg.refl _ _) (may_answers S3.out.new)).mono ?_
          cases t4 : l.any (fun x => hasAt c s x && !x.rw) with
          | true =>
            rintro e w4 ⟨rfl, hs4⟩
            go_wp2_with fail
            go_ret
            exact ⟨ret_int (may_3 HH.out t1 t2 b1 t4), HW.out.trans (S3.out.trans hs4)⟩
          | false =>
            rintro e w4 ⟨rfl, hs4⟩
            have S4 := hid (S3.out.trans hs4)
            have h50 := (HC.out w4 S4.out).1
            have h51 := (HC.out w4 S4.out).2
            have T3 : Hid ((u == 0) = false ∨ l.any (fun x => hasAt c s x && !x.rw) = false) := .inr t4
            clear h30 h31 h40 hs4 t4
            go_wp2_with fail
            cases ho : l.any (hasAt c s) with
            | true =>
              refine (open_calls (H.out.same (HW.out.trans S4.out)) c s).mono ?_
              rintro e w5 ⟨rfl, hs5⟩
              rw [ho]
              go_wp2_with fail
              go_ret
              exact ⟨ret_int (may_4 HH.out t1 t2 T3.out true ho).symm, HW.out.trans (S4.out.trans hs5)⟩
            | false =>
              refine (open_calls (H.out.same (HW.out.trans S4.out)) c s).mono ?_
              rintro e w5 ⟨rfl, hs5⟩
              rw [ho]
              go_wp2_with fail
              go_ret
              exact ⟨ret_int (may_4 HH.out t1 t2 T3.out false ho).symm, HW.out.trans (S4.out.trans hs5)⟩
    ·
      go_enter Try.func25, Try.ntmps25
      go_wp2_with fail
      refine (user_calls (H.out.same HW.out) c s).mono ?_
      rintro e w2 ⟨rfl, hs2⟩
      have S2 := hid hs2
      have h20 := (HC.out w2 hs2).1
      have h21 := (HC.out w2 hs2).2
      clear hs2
      cases t1 : ((U c s).getD (-1) == u) with
      | true =>
        go_wp2_with fail
        go_ret
        exact ⟨ret_int (may_1 HH.out t1), HW.out.trans S2.out⟩
      | false =>
        go_wp2_with fail
        refine (user_calls (H.out.same (HW.out.trans S2.out)) c s).mono ?_
        rintro e w3 ⟨rfl, hs3⟩
        have S3 := hid (S2.out.trans hs3)
        have h30 := (HC.out w3 S3.out).1
        have h31 := (HC.out w3 S3.out).2
        have h40 := (H.out.same (HW.out.trans S3.out)).sl_cell
        clear h20 h21 hs3 S2
        cases t2 : ((U c s).getD (-1) != -1) with
        | true =>
          go_wp2_with fail
          go_ret
          exact ⟨ret_int (may_2 HH.out t1 t2), HW.out.trans S3.out⟩
        | false =>
          go_wp2_with fail
          have S4 := S3
          have T3 : Hid ((u == 0) = false ∨ l.any (fun x => hasAt c s x && !x.rw) = false) := .inl b1
          cases ho : l.any (hasAt c s) with
          | true =>
            refine (open_calls (H.out.same (HW.out.trans S4.out)) c s).mono ?_
            rintro e w5 ⟨rfl, hs5⟩
            rw [ho]
            go_wp2_with fail
            go_ret
            exact ⟨ret_int (may_4 HH.out t1 t2 T3.out true ho).symm, HW.out.trans (S4.out.trans hs5)⟩
          | false =>
            refine (open_calls (H.out.same (HW.out.trans S4.out)) c s).mono ?_
            rintro e w5 ⟨rfl, hs5⟩
            rw [ho]
            go_wp2_with fail
            go_ret
            exact ⟨ret_int (may_4 HH.out t1 t2 T3.out false ho).symm, HW.out.trans (S4.out.trans hs5)⟩
end
end Go.Proofs.Ytlfdcfgpbigjdaa
