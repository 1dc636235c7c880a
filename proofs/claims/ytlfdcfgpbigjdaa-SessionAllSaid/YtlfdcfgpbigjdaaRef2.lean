/- The document's table of sessions: what is asked of logins. -/
import Derived.Test.YtlfdcfgpbigjdaaRef
namespace Go.Proofs.Ytlfdcfgpbigjdaa
set_option linter.unusedVariables false
set_option linter.unusedSimpArgs false
open Go.RowKit

theorem Try.info69 : (Try.prog.info? 69).map (fun i => (i.zero, i.size, i.bytes)) = some (some (.agg #[.int .i64 0, .int .i64 0, .int .i64 0]), 3, 24) := by kernel_rfl
theorem Try.info61 : (Try.prog.info? 61).map (fun i => (i.zero, i.size, i.bytes)) = some (some (.agg #[.int .i64 0, .int .i64 0, .int .i64 0, .bool false]), 4, 32) := by kernel_rfl

section
variable {w : World} {F : Nat → Prop} {r : Nat} {l : List Se} {next : Int} {ws : List Lo} {lv wv : Value}

def RTabTo (w : World) (F : Nat → Prop) (r : Nat) (l : List Se) (next : Int) (ws : List Lo) (w' : World) : Prop :=
  ∃ F' lv wv, RTab w' F' r l next ws lv wv ∧ Chg F w w' ∧ ∀ k, F' k → F k ∨ w.heap.size ≤ k

theorem RTabTo.of_same (h : RTab w F r l next ws lv wv) {w' : World} (hs : Same w w') : RTabTo w F r l next ws w' :=
  ⟨F, lv, wv, h.same hs, hs.same, fun _ hk => .inl hk⟩

theorem placeOf_spec (l : List Se) (c hd : Int) : (placeOf l c hd = -1 ∧ findSe l c hd = none ∧ l.findIdx? (fun x => x.h == hd && x.c == c) = none) ∨ ∃ (k : Nat) (x : Se), placeOf l c hd = k ∧ k < l.length ∧ l[k]? = some x ∧ findSe l c hd = some x ∧ x.c = c ∧ x.h = hd ∧ l.findIdx? (fun x => x.h == hd && x.c == c) = some k := by
  unfold placeOf findSe
  cases h : l.findIdx? (fun x => x.h == hd && x.c == c) with
  | none =>
    left
    refine ⟨rfl, ?_, rfl⟩
    rw [List.findIdx?_eq_none_iff] at h
    rw [List.find?_eq_none]
    intro x hx; simpa using h x hx
  | some k =>
    right
    obtain ⟨hk, hp, hlt⟩ := List.findIdx?_eq_some_iff_getElem.1 h
    have hp' := hp
    simp only [Bool.and_eq_true, beq_iff_eq] at hp'
    refine ⟨k, l[k], rfl, hk, by simp [hk], ?_, hp'.2, hp'.1, rfl⟩
    rw [List.find?_eq_some_iff_getElem]
    exact ⟨hp, k, hk, rfl, fun j hj => by have := hlt j hj; rw [Bool.not_eq_true] at this; rw [this]; rfl⟩

def rstateOf (l : List Se) (ws : List Lo) (c hd : Int) : Int :=
  match findSe l c hd with
  | none => -1
  | some x => if userOf ws c x.s = 0 then 4 else if x.rw = true ∧ userOf ws c x.s = 1 then 3 else if x.rw = true then 2 else if userOf ws c x.s = 1 then 1 else 0

theorem RTab.cells_at (h : RTab w F r l next ws lv wv) {k : Nat} {x : Se} (hx : l[k]? = some x) : ∃ g cap, lv = .slice (some ⟨g, 0, none⟩) l.length cap ∧ g < w.heap.size ∧ l.length ≤ cap ∧ cap ≤ maxLen ∧
    w.cell? ⟨g, k * 4, none⟩ = some (.int .i64 x.h) ∧ w.cell? ⟨g, k * 4 + 1, none⟩ = some (.int .i64 x.c) ∧ w.cell? ⟨g, k * 4 + 2, none⟩ = some (.int .i64 x.s) ∧ w.cell? ⟨g, k * 4 + 3, none⟩ = some (.bool x.rw) := by
  obtain ⟨a, cap, e, h1, h2, hr⟩ := row_se h.lrow
  obtain ⟨hk, rfl⟩ := List.getElem?_eq_some_iff.1 hx
  rcases hr with ⟨_, rfl⟩ | ⟨g, rfl, hg, hc⟩
  · simp at hk
  · exact ⟨g, cap, e, hg, h1, h2, hc k hk⟩

set_option maxHeartbeats 2000000 in
theorem rstate_calls (h : RTab w F r l next ws lv wv) (c hd : Int) :
   Calls Try.prog 38 #[.pointer (some ⟨r, 0, none⟩), .int .i64 c, .int .i64 hd] w (IntPost (rstateOf l ws c hd) w) := by
  have H := hid h
  clear h
  go_enter Try.func38, Try.ntmps38
  go_wp2_with fail
  refine (rfind_calls H.out c hd).mono ?_
  rintro e w' ⟨rfl, rfl⟩
  rcases placeOf_spec l c hd with ⟨h1, h2, -⟩ | ⟨k, x, h1, hk, hx, h2, -, -, -⟩
  · have E : Hid (rstateOf l ws c hd = -1) := by unfold rstateOf; rw [h2]; exact rfl
    clear h2
    rw [h1]
    clear h1
    go_wp2_with fail
    go_ret
    exact ⟨by rw [E.out]; rfl, Chg.refl _ _⟩
  · obtain ⟨g, cap, hl, hg, hlc, hcm, c0, c1, c2, c3⟩ := H.out.cells_at hx
    have hll : l.length ≤ 9223372036854775807 := by unfold maxLen at hcm; omega
    have E : Hid (rstateOf l ws c hd = if userOf ws c x.s = 0 then 4 else if x.rw = true ∧ userOf ws c x.s = 1 then 3 else if x.rw = true then 2 else if userOf ws c x.s = 1 then 1 else 0) := by
      unfold rstateOf; rw [h2]; exact rfl
    have d0 := H.out.l_cell
    rw [hl] at d0
    have S1 : Hid (Same w (w.alloc (.cells #[.int .i64 x.h, .int .i64 x.c, .int .i64 x.s, .bool x.rw] 61))) := (Chg.refl _ w).alloc _
    have N1 := hid (heap_alloc_new w (.cells #[.int .i64 x.h, .int .i64 x.c, .int .i64 x.s, .bool x.rw] 61))
    rw [h1]
    clear h1 h2 hl hx
    go_wp2_with fail
    refine (ruser_calls (H.out.same S1.out) c x.s).mono ?_
    rintro e w2 ⟨rfl, hw2⟩
    have S2 : Hid (Same w w2) := by rw [← hw2]; exact S1.out
    have d3 : w2.cell? ⟨w.heap.size, 3, none⟩ = some (.bool x.rw) := by rw [← hw2, cell_of_heap N1.out]; rfl
    clear hw2 c0 c1 c2 c3 d0
    generalize userOf ws c x.s = u at *
    generalize x.rw = b at *
    by_cases h0 : u = 0
    · have t0 : (u == 0) = true := by simpa using h0
      have E0 := hid h0
      clear h0
      go_wp2_with fail
      go_ret
      exact ⟨by rw [E.out, if_pos E0.out]; rfl, S2.out⟩
    · have t0 : (u == 0) = false := by simpa using h0
      have E0 := hid h0
      clear h0
      cases b with
      | true =>
        by_cases h1 : u = 1
        · have t1 : (u == 1) = true := by simpa using h1
          have E1 := hid h1
          clear h1
          go_wp2_with fail
          go_ret
          exact ⟨ret_int (a := 3) (by rw [E.out, if_neg E0.out]; simp [E1.out]), S2.out⟩
        · have t1 : (u == 1) = false := by simpa using h1
          have E1 := hid h1
          clear h1
          go_wp2_with fail
          go_ret
          exact ⟨ret_int (a := 2) (by rw [E.out, if_neg E0.out]; simp [E1.out]), S2.out⟩
      | false =>
        by_cases h1 : u = 1
        · have t1 : (u == 1) = true := by simpa using h1
          have E1 := hid h1
          clear h1
          go_wp2_with fail
          go_ret
          exact ⟨ret_int (a := 1) (by rw [E.out, if_neg E0.out]; simp [E1.out]), S2.out⟩
        · have t1 : (u == 1) = false := by simpa using h1
          have E1 := hid h1
          clear h1
          go_wp2_with fail
          go_ret
          exact ⟨ret_int (a := 0) (by rw [E.out, if_neg E0.out]; simp [E1.out]), S2.out⟩

def rmayOf (l : List Se) (ws : List Lo) (c s u : Int) : Int :=
  if u ≠ 0 ∧ u ≠ 1 then 259 else
  if userOf ws c s = u then 256 else
  if 0 ≤ userOf ws c s then 260 else
  if u = 0 ∧ l.any (fun x => hasAt c s x && !x.rw) = true then 183 else
  if l.any (hasAt c s) = false then 179 else 0

theorem rmay_a {c s u : Int} (h : ¬ (u ≠ 0 ∧ u ≠ 1)) (h1 : ¬ userOf ws c s = u) (h2 : ¬ 0 ≤ userOf ws c s) (h3 : u = 0) (h4 : l.any (fun x => hasAt c s x && !x.rw) = true) : 183 = rmayOf l ws c s u := by
  unfold rmayOf; rw [if_neg h, if_neg h1, if_neg h2, if_pos ⟨h3, h4⟩]
theorem rmay_b {c s u : Int} (h : ¬ (u ≠ 0 ∧ u ≠ 1)) (h1 : ¬ userOf ws c s = u) (h2 : ¬ 0 ≤ userOf ws c s) (h3 : ¬ (u = 0 ∧ l.any (fun x => hasAt c s x && !x.rw) = true)) (b : Bool) (h4 : l.any (hasAt c s) = b) : rmayOf l ws c s u = if b = false then 179 else 0 := by
  unfold rmayOf; rw [if_neg h, if_neg h1, if_neg h2, if_neg h3, h4]

set_option maxHeartbeats 4000000 in
theorem rmay_calls (h : RTab w F r l next ws lv wv) (c s u : Int) :
   Calls Try.prog 37 #[.pointer (some ⟨r, 0, none⟩), .int .i64 c, .int .i64 s, .int .i64 u] w (KInt (rmayOf l ws c s u) w) := by
  have H := hid h
  clear h
  by_cases hu : u ≠ 0 ∧ u ≠ 1
  · have b0 : (u != 0) = true := by simpa using hu.1
    have b1 : (u != 1) = true := by simpa using hu.2
    have HH := hid hu
    clear hu
    go_enter Try.func37, Try.ntmps37
    go_wp2_with fail
    go_ret
    exact ⟨by unfold rmayOf; rw [if_pos HH.out]; rfl, rfl⟩
  · have HH := hid hu
    have hb : (u = 0 ∧ (u != 0) = false ∧ (u == 0) = true) ∨ (u = 1 ∧ (u != 0) = true ∧ (u == 0) = false ∧ (u != 1) = false) := by
      by_cases e : u = 0
      · exact .inl (by simp [e])
      · by_cases e1 : u = 1
        · exact .inr (by simp [e1])
        · exact absurd ⟨e, e1⟩ hu
    clear hu
    rcases hb with ⟨hu0, b0, b1⟩ | ⟨hu0, b0, b1, b2⟩
    ·
      have EU := hid hu0
      clear hu0
      go_enter Try.func37, Try.ntmps37
      go_wp2_with fail
      refine (ruser_calls H.out c s).mono ?_
      rintro e w2 ⟨rfl, rfl⟩
      by_cases h1 : userOf ws c s = u
      · have t1 : (userOf ws c s == u) = true := by simpa using h1
        have E1 := hid h1
        clear h1
        go_wp2_with fail
        go_ret
        exact ⟨by unfold rmayOf; rw [if_neg HH.out, if_pos E1.out]; rfl, rfl⟩
      · have t1 : (userOf ws c s == u) = false := by simpa using h1
        have E1 := hid h1
        clear h1
        by_cases h2 : 0 ≤ userOf ws c s
        · have t2 : decide (0 ≤ userOf ws c s) = true := by simpa using h2
          have E2 := hid h2
          clear h2
          go_wp2_with fail
          go_ret
          exact ⟨by unfold rmayOf; rw [if_neg HH.out, if_neg E1.out, if_pos E2.out]; rfl, rfl⟩
        · have t2 : decide (0 ≤ userOf ws c s) = false := by simpa using h2
          have E2 := hid h2
          clear h2
          generalize hus : userOf ws c s = us at *
          have EUS := hid hus
          clear hus
          have h0 := H.out.l_cell
          obtain ⟨a, cap, rfl, hlc, hcm, hrow⟩ := row_se H.out.lrow
          have hll : l.length ≤ 9223372036854775807 := by unfold maxLen at hcm; omega
          have HR := hid hrow
          clear hrow
          go_wp2_with fail
          go_loop [10] (fun i => ∃ k : Nat, k ≤ l.length ∧ i = .int .i64 k ∧ ((u == 0) = true → NoneB (fun x => hasAt c s x && !x.rw) l k)) (fun i => l.length - (intOf i).toNat)
          case atStart => exact ⟨0, Nat.zero_le _, rfl, fun _ => noneB_0 _ _⟩
          case round =>
            obtain ⟨k, hk, rfl, hnb⟩ := hrel
            have HN := hid hnb
            clear hnb
            by_cases hlt : k < l.length
            · rcases HR.out with ⟨_, rfl⟩ | ⟨g, rfl, hg, hcells⟩
              · simp at hlt
              obtain ⟨c0, c1, c2, c3⟩ := hcells k hlt
              clear hcells
              cases hp : (l[k].c == c) with
              | false =>
                go_wp2_with fail
                go_round
                case rel => exact ⟨k + 1, by omega, by go_num, fun h => noneB_next hlt (HN.out h) (by simp [hasAt, hp])⟩
                case measure => simp [intOf]; omega
              | true =>
                cases hp2 : (l[k].s == s) with
                | false =>
                  go_wp2_with fail
                  go_round
                  case rel => exact ⟨k + 1, by omega, by go_num, fun h => noneB_next hlt (HN.out h) (by simp [hasAt, hp2])⟩
                  case measure => simp [intOf]; omega
                | true =>
                  cases hp3 : l[k].rw with
                  | true =>
                    rw [hp3] at c3
                    go_wp2_with fail
                    go_round
                    case rel => exact ⟨k + 1, by omega, by go_num, fun h => noneB_next hlt (HN.out h) (by simp [hp3])⟩
                    case measure => simp [intOf]; omega
                  | false =>
                    rw [hp3] at c3
                    go_wp2_with fail
                    go_ret
                    exact ⟨by rw [← rmay_a HH.out (by rw [EUS.out]; exact E1.out) (by rw [EUS.out]; have := E2.out; omega) EU.out (anyB_hit hlt (by simp [hasAt, hp, hp2, hp3]))]; rfl, rfl⟩
            · have hkl : k = l.length := by omega
              subst hkl
              have NB : Hid (¬ (u = 0 ∧ l.any (fun x => hasAt c s x && !x.rw) = true)) := fun h => by
                rw [anyB_miss (HN.out (by simpa using EU.out))] at h
                cases h.2
              go_wp2_with fail
              refine (rhas_calls H.out c s).mono ?_
              cases ho : l.any (hasAt c s) with
              | true =>
                rintro e w5 ⟨rfl, rfl⟩
                go_wp2_with fail
                go_ret
                exact ⟨by rw [rmay_b HH.out (by rw [EUS.out]; exact E1.out) (by rw [EUS.out]; have := E2.out; omega) NB.out true ho]; rfl, rfl⟩
              | false =>
                rintro e w5 ⟨rfl, rfl⟩
                go_wp2_with fail
                go_ret
                exact ⟨by rw [rmay_b HH.out (by rw [EUS.out]; exact E1.out) (by rw [EUS.out]; have := E2.out; omega) NB.out false ho]; rfl, rfl⟩
    ·
      have EU := hid hu0
      clear hu0
      go_enter Try.func37, Try.ntmps37
      go_wp2_with fail
      refine (ruser_calls H.out c s).mono ?_
      rintro e w2 ⟨rfl, rfl⟩
      by_cases h1 : userOf ws c s = u
      · have t1 : (userOf ws c s == u) = true := by simpa using h1
        have E1 := hid h1
        clear h1
        go_wp2_with fail
        go_ret
        exact ⟨by unfold rmayOf; rw [if_neg HH.out, if_pos E1.out]; rfl, rfl⟩
      · have t1 : (userOf ws c s == u) = false := by simpa using h1
        have E1 := hid h1
        clear h1
        by_cases h2 : 0 ≤ userOf ws c s
        · have t2 : decide (0 ≤ userOf ws c s) = true := by simpa using h2
          have E2 := hid h2
          clear h2
          go_wp2_with fail
          go_ret
          exact ⟨by unfold rmayOf; rw [if_neg HH.out, if_neg E1.out, if_pos E2.out]; rfl, rfl⟩
        · have t2 : decide (0 ≤ userOf ws c s) = false := by simpa using h2
          have E2 := hid h2
          clear h2
          generalize hus : userOf ws c s = us at *
          have EUS := hid hus
          clear hus
          have h0 := H.out.l_cell
          obtain ⟨a, cap, rfl, hlc, hcm, hrow⟩ := row_se H.out.lrow
          have hll : l.length ≤ 9223372036854775807 := by unfold maxLen at hcm; omega
          have HR := hid hrow
          clear hrow
          go_wp2_with fail
          go_loop [10] (fun i => ∃ k : Nat, k ≤ l.length ∧ i = .int .i64 k ∧ ((u == 0) = true → NoneB (fun x => hasAt c s x && !x.rw) l k)) (fun i => l.length - (intOf i).toNat)
          case atStart => exact ⟨0, Nat.zero_le _, rfl, fun _ => noneB_0 _ _⟩
          case round =>
            obtain ⟨k, hk, rfl, hnb⟩ := hrel
            have HN := hid hnb
            clear hnb
            have NB : Hid (¬ (u = 0 ∧ l.any (fun x => hasAt c s x && !x.rw) = true)) := fun h => by
              have := EU.out
              omega
            by_cases hlt : k < l.length
            · have hd : decide ((k : Int) < (l.length : Int)) = true := by simp; omega
              go_wp2_with fail
              refine (rhas_calls H.out c s).mono ?_
              cases ho : l.any (hasAt c s) with
              | true =>
                rintro e w5 ⟨rfl, rfl⟩
                go_wp2_with fail
                go_ret
                exact ⟨by rw [rmay_b HH.out (by rw [EUS.out]; exact E1.out) (by rw [EUS.out]; have := E2.out; omega) NB.out true ho]; rfl, rfl⟩
              | false =>
                rintro e w5 ⟨rfl, rfl⟩
                go_wp2_with fail
                go_ret
                exact ⟨by rw [rmay_b HH.out (by rw [EUS.out]; exact E1.out) (by rw [EUS.out]; have := E2.out; omega) NB.out false ho]; rfl, rfl⟩
            · have hd : decide ((k : Int) < (l.length : Int)) = false := by simp; omega
              go_wp2_with fail
              refine (rhas_calls H.out c s).mono ?_
              cases ho : l.any (hasAt c s) with
              | true =>
                rintro e w5 ⟨rfl, rfl⟩
                go_wp2_with fail
                go_ret
                exact ⟨by rw [rmay_b HH.out (by rw [EUS.out]; exact E1.out) (by rw [EUS.out]; have := E2.out; omega) NB.out true ho]; rfl, rfl⟩
              | false =>
                rintro e w5 ⟨rfl, rfl⟩
                go_wp2_with fail
                go_ret
                exact ⟨by rw [rmay_b HH.out (by rw [EUS.out]; exact E1.out) (by rw [EUS.out]; have := E2.out; omega) NB.out false ho]; rfl, rfl⟩
end
end Go.Proofs.Ytlfdcfgpbigjdaa
