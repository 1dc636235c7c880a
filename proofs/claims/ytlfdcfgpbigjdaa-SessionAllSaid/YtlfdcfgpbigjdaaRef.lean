/- The document's table of sessions. -/
import Derived.Test.YtlfdcfgpbigjdaaFns6
namespace Go.Proofs.Ytlfdcfgpbigjdaa
set_option linter.unusedVariables false
set_option linter.unusedSimpArgs false
open Go.RowKit

/-- A login of the document's table. -/
structure Lo where
  c : Int
  s : Int
  u : Int

def Lo.cells (x : Lo) : List Value := [.int .i64 x.c, .int .i64 x.s, .int .i64 x.u]
def loRow (l : List Lo) : List Value := l.flatMap Lo.cells
def Lo.at (c s : Int) (x : Lo) : Bool := x.c == c && x.s == s
def userOf (ws : List Lo) (c s : Int) : Int := match ws.find? (Lo.at c s) with | some x => x.u | none => -1

theorem loRow_get : ∀ (l : List Lo) (i j : Nat) (hi : i < l.length), j < 3 → (loRow l)[i * 3 + j]? = (l[i].cells)[j]?
  | [], i, j, hi, _ => by simp at hi
  | x :: l, 0, j, _, hj => by
    simp only [loRow, List.flatMap_cons, Nat.zero_mul, Nat.zero_add, List.getElem_cons_zero]
    rw [List.getElem?_append_left (by simp [Lo.cells]; omega)]
  | x :: l, i + 1, j, hi, hj => by
    simp only [loRow, List.flatMap_cons, List.getElem_cons_succ]
    rw [List.getElem?_append_right (by simp [Lo.cells]; omega)]
    have := loRow_get l i j (by simpa using hi) hj
    rw [← this]
    simp only [loRow]
    congr 1
    simp [Lo.cells]; omega

structure RTab (w : World) (F : Nat → Prop) (r : Nat) (l : List Se) (next : Int) (ws : List Lo) (lv wv : Value) : Prop where
  heap : w.heap[r]? = some (.cells #[lv, .int .i64 next, wv] 30 (0, 0))
  lrow : w.ownsRow 0 61 4 lv l.length (seRow l)
  wrow : w.ownsRow 0 69 3 wv ws.length (loRow ws)
  inR : F r
  inL : ∀ g, lv.ownBlock = some g → F g
  inW : ∀ g, wv.ownBlock = some g → F g
  old : ∀ k, F k → k < w.heap.size

/-- What a slice of sessions is. -/
theorem row_se {w : World} {e : TypeId} {v : Value} {l : List Se} (h : w.ownsRow 0 e 4 v l.length (seRow l)) :
    ∃ a cap, v = .slice a l.length cap ∧ l.length ≤ cap ∧ cap ≤ maxLen ∧ ((a = none ∧ l = []) ∨ ∃ g, a = some ⟨g, 0, none⟩ ∧ g < w.heap.size ∧
      ∀ i (hi : i < l.length), w.cell? ⟨g, i * 4, none⟩ = some (.int .i64 l[i].h) ∧ w.cell? ⟨g, i * 4 + 1, none⟩ = some (.int .i64 l[i].c) ∧ w.cell? ⟨g, i * 4 + 2, none⟩ = some (.int .i64 l[i].s) ∧ w.cell? ⟨g, i * 4 + 3, none⟩ = some (.bool l[i].rw)) := by
  rcases h.2 with ⟨rfl, hn⟩ | ⟨g, cap, cur, rfl, _, hh, hnc, hcm, hcs, htake⟩
  · have : l = [] := List.eq_nil_of_length_eq_zero hn
    subst this
    exact ⟨none, 0, rfl, Nat.le_refl _, by simp [maxLen], .inl ⟨rfl, rfl⟩⟩
  · refine ⟨_, cap, rfl, hnc, hcm, .inr ⟨g, rfl, lt_of_heap hh, fun i hi => ?_⟩⟩
    have key : ∀ j, j < 4 → w.cell? ⟨g, i * 4 + j, none⟩ = (l[i].cells)[j]? := by
      intro j hj
      rw [cell_of_heap hh, ← seRow_get l i j hi hj, ← htake, List.getElem?_take, if_pos (by omega)]
      simp
    exact ⟨key 0 (by omega), key 1 (by omega), key 2 (by omega), key 3 (by omega)⟩

theorem row_lo {w : World} {e : TypeId} {v : Value} {l : List Lo} (h : w.ownsRow 0 e 3 v l.length (loRow l)) :
    ∃ a cap, v = .slice a l.length cap ∧ l.length ≤ cap ∧ cap ≤ maxLen ∧ ((a = none ∧ l = []) ∨ ∃ g, a = some ⟨g, 0, none⟩ ∧ g < w.heap.size ∧
      ∀ i (hi : i < l.length), w.cell? ⟨g, i * 3, none⟩ = some (.int .i64 l[i].c) ∧ w.cell? ⟨g, i * 3 + 1, none⟩ = some (.int .i64 l[i].s) ∧ w.cell? ⟨g, i * 3 + 2, none⟩ = some (.int .i64 l[i].u)) := by
  rcases h.2 with ⟨rfl, hn⟩ | ⟨g, cap, cur, rfl, _, hh, hnc, hcm, hcs, htake⟩
  · have : l = [] := List.eq_nil_of_length_eq_zero hn
    subst this
    exact ⟨none, 0, rfl, Nat.le_refl _, by simp [maxLen], .inl ⟨rfl, rfl⟩⟩
  · refine ⟨_, cap, rfl, hnc, hcm, .inr ⟨g, rfl, lt_of_heap hh, fun i hi => ?_⟩⟩
    have key : ∀ j, j < 3 → w.cell? ⟨g, i * 3 + j, none⟩ = (l[i].cells)[j]? := by
      intro j hj
      rw [cell_of_heap hh, ← loRow_get l i j hi hj, ← htake, List.getElem?_take, if_pos (by omega)]
      simp
    exact ⟨key 0 (by omega), key 1 (by omega), key 2 (by omega)⟩

def NoneB {α : Type} (p : α → Bool) (l : List α) (k : Nat) : Prop := ∀ j (hj : j < l.length), j < k → p l[j] = false
theorem noneB_next {α : Type} {p : α → Bool} {l : List α} {k : Nat} (hk : k < l.length) (h : NoneB p l k) (hp : p l[k] = false) : NoneB p l (k + 1) := by
  intro j hj hlt
  by_cases e : j = k
  · subst e; exact hp
  · exact h j hj (by omega)
theorem noneB_0 {α : Type} (p : α → Bool) (l : List α) : NoneB p l 0 := fun _ _ h => by omega
theorem findB_hit {α : Type} {p : α → Bool} {l : List α} {k : Nat} (hk : k < l.length) (h : NoneB p l k) (hp : p l[k] = true) : l.find? p = some l[k] := by
  rw [List.find?_eq_some_iff_getElem]
  exact ⟨hp, k, hk, rfl, fun j hj => by simpa using h j (by omega) hj⟩
theorem findB_miss {α : Type} {p : α → Bool} {l : List α} (h : NoneB p l l.length) : l.find? p = none := by
  rw [List.find?_eq_none]
  intro x hx
  obtain ⟨j, hj, rfl⟩ := List.getElem_of_mem hx
  simp [h j hj hj]
theorem anyB_hit {α : Type} {p : α → Bool} {l : List α} {k : Nat} (hk : k < l.length) (hp : p l[k] = true) : l.any p = true := List.any_eq_true.2 ⟨_, List.getElem_mem hk, hp⟩
theorem anyB_miss {α : Type} {p : α → Bool} {l : List α} (h : NoneB p l l.length) : l.any p = false := by
  rw [List.any_eq_false]
  intro x hx
  obtain ⟨j, hj, rfl⟩ := List.getElem_of_mem hx
  simp [h j hj hj]
theorem idxB_hit {α : Type} {p : α → Bool} {l : List α} {k : Nat} (hk : k < l.length) (h : NoneB p l k) (hp : p l[k] = true) : l.findIdx? p = some k :=
  List.findIdx?_eq_some_iff_getElem.2 ⟨hk, hp, fun j hj => by simpa using h j (by omega) hj⟩
theorem idxB_miss {α : Type} {p : α → Bool} {l : List α} (h : NoneB p l l.length) : l.findIdx? p = none := by
  rw [List.findIdx?_eq_none_iff]
  intro x hx
  obtain ⟨j, hj, rfl⟩ := List.getElem_of_mem hx
  exact h j hj hj

section
variable {w : World} {F : Nat → Prop} {r : Nat} {l : List Se} {next : Int} {ws : List Lo} {lv wv : Value}

theorem RTab.keep (h : RTab w F r l next ws lv wv) {w' : World} {G : Nat → Prop} (hc : Chg G w w') (hd : ∀ k, F k → G k → False) : RTab w' F r l next ws lv wv := by
  have hk : ∀ k, F k → w'.heap[k]? = w.heap[k]? := fun k hf => hc.block k (h.old k hf) (hd k hf)
  exact ⟨by rw [hk r h.inR]; exact h.heap, ownsRow_keep h.lrow fun g hg => hk g (h.inL g hg), ownsRow_keep h.wrow fun g hg => hk g (h.inW g hg), h.inR, h.inL, h.inW, fun k hf => Nat.lt_of_lt_of_le (h.old k hf) hc.size⟩
theorem RTab.same (h : RTab w F r l next ws lv wv) {w' : World} (hs : Same w w') : RTab w' F r l next ws lv wv := h.keep hs (fun _ _ h => h)
theorem RTab.l_cell (h : RTab w F r l next ws lv wv) : w.cell? ⟨r, 0, none⟩ = some lv := by rw [cell_of_heap h.heap]; rfl
theorem RTab.n_cell (h : RTab w F r l next ws lv wv) : w.cell? ⟨r, 1, none⟩ = some (.int .i64 next) := by rw [cell_of_heap h.heap]; rfl
theorem RTab.w_cell (h : RTab w F r l next ws lv wv) : w.cell? ⟨r, 2, none⟩ = some wv := by rw [cell_of_heap h.heap]; rfl
theorem RTab.lt (h : RTab w F r l next ws lv wv) : r < w.heap.size := h.old r h.inR
theorem RTab.row_ne (h : RTab w F r l next ws lv wv) : (∀ g, lv.ownBlock = some g → g ≠ r) ∧ (∀ g, wv.ownBlock = some g → g ≠ r) ∧ (∀ g, lv.ownBlock = some g → wv.ownBlock ≠ some g) := by
  refine ⟨?_, ?_, rows_ne h.lrow h.wrow (by decide)⟩
  · intro g hg
    rcases h.lrow.2 with ⟨rfl, _⟩ | ⟨g', cap, cur, rfl, _, hh, _⟩
    · cases hg
    · cases hg
      rintro rfl
      have := hh.symm.trans h.heap
      cases this
  · intro g hg
    rcases h.wrow.2 with ⟨rfl, _⟩ | ⟨g', cap, cur, rfl, _, hh, _⟩
    · cases hg
    · cases hg
      rintro rfl
      have := hh.symm.trans h.heap
      cases this

def KInt (n : Int) (w : World) (e : Ending) (w' : World) : Prop := e = .returned (.int .i64 n) ∧ w = w'
def KBool (b : Bool) (w : World) (e : Ending) (w' : World) : Prop := e = .returned (.bool b) ∧ w = w'

set_option maxHeartbeats 1000000 in
theorem ruser_calls (h : RTab w F r l next ws lv wv) (c s : Int) :
   Calls Try.prog 28 #[.pointer (some ⟨r, 0, none⟩), .int .i64 c, .int .i64 s] w (KInt (userOf ws c s) w) := by
  have h0 := h.w_cell
  obtain ⟨a, cap, rfl, hlc, hcm, hrow⟩ := row_lo h.wrow
  have hll : ws.length ≤ 9223372036854775807 := by unfold maxLen at hcm; omega
  have hts := h.lt
  have HR := hid hrow
  clear h hrow
  go_enter Try.func28, Try.ntmps28
  go_wp2
  go_loop [7] (fun i => ∃ k : Nat, k ≤ ws.length ∧ i = .int .i64 k ∧ NoneB (Lo.at c s) ws k) (fun i => ws.length - (intOf i).toNat)
  case atStart => exact ⟨0, Nat.zero_le _, rfl, noneB_0 _ _⟩
  case round =>
    obtain ⟨k, hk, rfl, hnb⟩ := hrel
    have HN := hid hnb
    clear hnb
    by_cases hlt : k < ws.length
    · rcases HR.out with ⟨_, rfl⟩ | ⟨g, rfl, hg, hcells⟩
      · simp at hlt
      obtain ⟨c0, c1, c2⟩ := hcells k hlt
      clear hcells
      cases hp : (ws[k].c == c) with
      | false =>
        go_wp2
        go_round
        case rel => exact ⟨k + 1, by omega, by go_num, noneB_next hlt HN.out (by simp [Lo.at, hp])⟩
        case measure => simp [intOf]; omega
      | true =>
        cases hp2 : (ws[k].s == s) with
        | false =>
          go_wp2
          go_round
          case rel => exact ⟨k + 1, by omega, by go_num, noneB_next hlt HN.out (by simp [Lo.at, hp2])⟩
          case measure => simp [intOf]; omega
        | true =>
          go_wp2
          go_ret
          exact ⟨by unfold userOf; rw [findB_hit hlt HN.out (by simp [Lo.at, hp, hp2])]; rfl, rfl⟩
    · go_wp2
      go_ret
      have : k = ws.length := by omega
      subst this
      exact ⟨by unfold userOf; rw [findB_miss HN.out]; rfl, rfl⟩

def placeOf (l : List Se) (c hd : Int) : Int := match l.findIdx? (fun x => x.h == hd && x.c == c) with | some k => k | none => -1

set_option maxHeartbeats 1000000 in
theorem rfind_calls (h : RTab w F r l next ws lv wv) (c hd : Int) :
   Calls Try.prog 32 #[.pointer (some ⟨r, 0, none⟩), .int .i64 c, .int .i64 hd] w (KInt (placeOf l c hd) w) := by
  have h0 := h.l_cell
  obtain ⟨a, cap, rfl, hlc, hcm, hrow⟩ := row_se h.lrow
  have hll : l.length ≤ 9223372036854775807 := by unfold maxLen at hcm; omega
  have hts := h.lt
  have HR := hid hrow
  clear h hrow
  go_enter Try.func32, Try.ntmps32
  go_wp2
  go_loop [7] (fun i => ∃ k : Nat, k ≤ l.length ∧ i = .int .i64 k ∧ NoneB (fun x => x.h == hd && x.c == c) l k) (fun i => l.length - (intOf i).toNat)
  case atStart => exact ⟨0, Nat.zero_le _, rfl, noneB_0 _ _⟩
  case round =>
    obtain ⟨k, hk, rfl, hnb⟩ := hrel
    have HN := hid hnb
    clear hnb
    by_cases hlt : k < l.length
    · rcases HR.out with ⟨_, rfl⟩ | ⟨g, rfl, hg, hcells⟩
      · simp at hlt
      obtain ⟨c0, c1, c2, c3⟩ := hcells k hlt
      clear hcells
      cases hp : (l[k].h == hd) with
      | false =>
        go_wp2
        go_round
        case rel => exact ⟨k + 1, by omega, by go_num, noneB_next hlt HN.out (by simp [hp])⟩
        case measure => simp [intOf]; omega
      | true =>
        cases hp2 : (l[k].c == c) with
        | false =>
          go_wp2
          go_round
          case rel => exact ⟨k + 1, by omega, by go_num, noneB_next hlt HN.out (by simp [hp2])⟩
          case measure => simp [intOf]; omega
        | true =>
          go_wp2
          go_ret
          exact ⟨by unfold placeOf; rw [idxB_hit hlt HN.out (by simp [hp, hp2])]; rfl, rfl⟩
    · go_wp2
      go_ret
      have : k = l.length := by omega
      subst this
      exact ⟨by unfold placeOf; rw [idxB_miss HN.out]; rfl, rfl⟩

set_option maxHeartbeats 1000000 in
theorem rhas_calls (h : RTab w F r l next ws lv wv) (c s : Int) :
   Calls Try.prog 33 #[.pointer (some ⟨r, 0, none⟩), .int .i64 c, .int .i64 s] w (KBool (l.any (hasAt c s)) w) := by
  have h0 := h.l_cell
  obtain ⟨a, cap, rfl, hlc, hcm, hrow⟩ := row_se h.lrow
  have hll : l.length ≤ 9223372036854775807 := by unfold maxLen at hcm; omega
  have hts := h.lt
  have HR := hid hrow
  clear h hrow
  go_enter Try.func33, Try.ntmps33
  go_wp2
  go_loop [7] (fun i => ∃ k : Nat, k ≤ l.length ∧ i = .int .i64 k ∧ NoneB (hasAt c s) l k) (fun i => l.length - (intOf i).toNat)
  case atStart => exact ⟨0, Nat.zero_le _, rfl, noneB_0 _ _⟩
  case round =>
    obtain ⟨k, hk, rfl, hnb⟩ := hrel
    have HN := hid hnb
    clear hnb
    by_cases hlt : k < l.length
    · rcases HR.out with ⟨_, rfl⟩ | ⟨g, rfl, hg, hcells⟩
      · simp at hlt
      obtain ⟨c0, c1, c2, c3⟩ := hcells k hlt
      clear hcells
      cases hp : (l[k].c == c) with
      | false =>
        go_wp2
        go_round
        case rel => exact ⟨k + 1, by omega, by go_num, noneB_next hlt HN.out (by simp [hasAt, hp])⟩
        case measure => simp [intOf]; omega
      | true =>
        cases hp2 : (l[k].s == s) with
        | false =>
          go_wp2
          go_round
          case rel => exact ⟨k + 1, by omega, by go_num, noneB_next hlt HN.out (by simp [hasAt, hp2])⟩
          case measure => simp [intOf]; omega
        | true =>
          go_wp2
          go_ret
          exact ⟨by rw [anyB_hit hlt (by simp [hasAt, hp, hp2])]; rfl, rfl⟩
    · go_wp2
      go_ret
      have : k = l.length := by omega
      subst this
      exact ⟨by rw [anyB_miss HN.out]; rfl, rfl⟩

set_option maxHeartbeats 1000000 in
theorem rused_calls (h : RTab w F r l next ws lv wv) (s : Int) :
   Calls Try.prog 39 #[.pointer (some ⟨r, 0, none⟩), .int .i64 s] w (KBool (l.any (fun x => x.s == s)) w) := by
  have h0 := h.l_cell
  obtain ⟨a, cap, rfl, hlc, hcm, hrow⟩ := row_se h.lrow
  have hll : l.length ≤ 9223372036854775807 := by unfold maxLen at hcm; omega
  have hts := h.lt
  have HR := hid hrow
  clear h hrow
  go_enter Try.func39, Try.ntmps39
  go_wp2
  go_loop [5] (fun i => ∃ k : Nat, k ≤ l.length ∧ i = .int .i64 k ∧ NoneB (fun x => x.s == s) l k) (fun i => l.length - (intOf i).toNat)
  case atStart => exact ⟨0, Nat.zero_le _, rfl, noneB_0 _ _⟩
  case round =>
    obtain ⟨k, hk, rfl, hnb⟩ := hrel
    have HN := hid hnb
    clear hnb
    by_cases hlt : k < l.length
    · rcases HR.out with ⟨_, rfl⟩ | ⟨g, rfl, hg, hcells⟩
      · simp at hlt
      obtain ⟨c0, c1, c2, c3⟩ := hcells k hlt
      clear hcells
      cases hp2 : (l[k].s == s) with
      | false =>
        go_wp2
        go_round
        case rel => exact ⟨k + 1, by omega, by go_num, noneB_next hlt HN.out hp2⟩
        case measure => simp [intOf]; omega
      | true =>
        go_wp2
        go_ret
        exact ⟨by rw [anyB_hit hlt hp2]; rfl, rfl⟩
    · go_wp2
      go_ret
      have : k = l.length := by omega
      subst this
      exact ⟨by rw [anyB_miss HN.out]; rfl, rfl⟩
end
end Go.Proofs.Ytlfdcfgpbigjdaa
