/- The functions of the table of sessions, one after another. -/
import Derived.Test.YtlfdcfgpbigjdaaTab
namespace Go.Proofs.Ytlfdcfgpbigjdaa
set_option linter.unusedVariables false
set_option linter.unusedSimpArgs false
open Go.RowKit

/-- A session. -/
structure Se where
  h : Int
  c : Int
  s : Int
  rw : Bool
  deriving DecidableEq

def Se.cells (x : Se) : List Value := [.int .i64 x.h, .int .i64 x.c, .int .i64 x.s, .bool x.rw]
def seRow (l : List Se) : List Value := l.flatMap Se.cells

theorem seRow_length (l : List Se) : (seRow l).length = l.length * 4 := by
  induction l with
  | nil => rfl
  | cons x l ih => simp only [seRow, List.flatMap_cons, List.length_append] at ih ⊢; rw [ih]; simp [Se.cells]; omega

theorem seRow_get : ∀ (l : List Se) (i j : Nat) (hi : i < l.length), j < 4 → (seRow l)[i * 4 + j]? = (l[i].cells)[j]?
  | [], i, j, hi, _ => by simp at hi
  | x :: l, 0, j, _, hj => by
    simp only [seRow, List.flatMap_cons, Nat.zero_mul, Nat.zero_add, List.getElem_cons_zero]
    rw [List.getElem?_append_left (by simp [Se.cells]; omega)]
  | x :: l, i + 1, j, hi, hj => by
    simp only [seRow, List.flatMap_cons, List.getElem_cons_succ]
    rw [List.getElem?_append_right (by simp [Se.cells]; omega)]
    have := seRow_get l i j (by simpa using hi) hj
    rw [← this]
    simp only [seRow]
    congr 1
    simp [Se.cells]; omega

/-- Table t of the sessions l, the last handle and the logins U; it lies in the blocks of F. -/
structure Tab (w : World) (F : Nat → Prop) (t : Nat) (l : List Se) (last : Int) (U : Int → Int → Option Int) (sl : Value) (M : Nat) (L : List En) (clock : Nat) : Prop where
  heap : w.heap[t]? = some (.cells #[sl, .int .i64 last, .map (some M)] 54 (0, 0))
  row : w.ownsRow 0 59 4 sl l.length (seRow l)
  map : MapAt w M L clock
  users : ∀ c s, look L c s = U c s
  inT : F t
  inM : F M
  inR : ∀ g, sl.ownBlock = some g → F g
  old : ∀ k, F k → k < w.heap.size

theorem row_lt {w : World} {e : TypeId} {size : Nat} {v : Value} {n : Nat} {xs : List Value} (h : w.ownsRow 0 e size v n xs) : ∀ g, v.ownBlock = some g → g < w.heap.size := fun g hg => (h.lt g hg).2

theorem Tab.keep {w w' : World} {F : Nat → Prop} {t : Nat} {l : List Se} {last : Int} {U : Int → Int → Option Int} {sl : Value} {M : Nat} {L : List En} {clock : Nat} (h : Tab w F t l last U sl M L clock)
    {G : Nat → Prop} (hc : Chg G w w') (hd : ∀ k, F k → G k → False) : Tab w' F t l last U sl M L clock := by
  have hk : ∀ k, F k → w'.heap[k]? = w.heap[k]? := fun k hf => hc.block k (h.old k hf) (hd k hf)
  exact ⟨by rw [hk t h.inT]; exact h.heap, ownsRow_keep h.row fun g hg => hk g (h.inR g hg), ⟨by rw [hk M h.inM]; exact h.map.heap, h.map.keys, h.map.borns, h.map.young⟩, h.users, h.inT, h.inM, h.inR, fun k hf => Nat.lt_of_lt_of_le (h.old k hf) hc.size⟩

/-- What the slice of sessions is. -/
theorem Tab.slice {w : World} {F : Nat → Prop} {t : Nat} {l : List Se} {last : Int} {U : Int → Int → Option Int} {sl : Value} {M : Nat} {L : List En} {clock : Nat} (h : Tab w F t l last U sl M L clock) :
    ∃ a cap, sl = .slice a l.length cap ∧ l.length ≤ cap ∧ cap ≤ maxLen ∧ ((a = none ∧ l = []) ∨ ∃ g, a = some ⟨g, 0, none⟩ ∧ g < w.heap.size ∧ g ≠ t ∧ F g ∧
      ∀ i (hi : i < l.length), w.cell? ⟨g, i * 4, none⟩ = some (.int .i64 l[i].h) ∧ w.cell? ⟨g, i * 4 + 1, none⟩ = some (.int .i64 l[i].c) ∧ w.cell? ⟨g, i * 4 + 2, none⟩ = some (.int .i64 l[i].s) ∧ w.cell? ⟨g, i * 4 + 3, none⟩ = some (.bool l[i].rw)) := by
  rcases h.row.2 with ⟨rfl, hn⟩ | ⟨g, cap, cur, rfl, _, hh, hnc, hcm, hcs, htake⟩
  · have : l = [] := List.eq_nil_of_length_eq_zero hn
    subst this
    exact ⟨none, 0, rfl, Nat.le_refl _, by simp [maxLen], .inl ⟨rfl, rfl⟩⟩
  · refine ⟨_, cap, rfl, hnc, hcm, .inr ⟨g, rfl, lt_of_heap hh, ?_, h.inR g rfl, fun i hi => ?_⟩⟩
    · rintro rfl
      have := h.heap.symm.trans hh
      cases this
    · have key : ∀ j, j < 4 → w.cell? ⟨g, i * 4 + j, none⟩ = (l[i].cells)[j]? := by
        intro j hj
        rw [cell_of_heap hh, ← seRow_get l i j hi hj, ← htake, List.getElem?_take, if_pos (by omega)]
        simp
      exact ⟨key 0 (by omega), key 1 (by omega), key 2 (by omega), key 3 (by omega)⟩

section
variable {w : World} {F : Nat → Prop} {t : Nat} {l : List Se} {last : Int} {U : Int → Int → Option Int} {sl : Value} {M : Nat} {L : List En} {clock : Nat}

set_option maxHeartbeats 400000 in
theorem slots_calls (s : Int) (w : World) : Calls Try.prog 26 #[.int .i64 s] w fun e w' => e = .returned (.bool (decide (0 ≤ s ∧ s < 4))) ∧ w = w' := by
  by_cases h : 0 ≤ s
  · go_enter Try.func26, Try.ntmps26
    go_wp2
    go_ret
    exact ⟨by simp [h], rfl⟩
  · go_enter Try.func26, Try.ntmps26
    go_wp2
    go_ret
    exact ⟨by simp; omega, rfl⟩

theorem MapAt.later {w' : World} (h : MapAt w M L clock) (hh : w'.heap[M]? = w.heap[M]?) : MapAt w' M L clock := ⟨hh.trans h.heap, h.keys, h.borns, h.young⟩

def UserPost (U : Int → Int → Option Int) (c s : Int) (w : World) (e : Ending) (w' : World) : Prop := e = .returned (.int .i64 ((U c s).getD (-1))) ∧ Same w w'

set_option maxHeartbeats 400000 in
theorem user_calls (h : Tab w F t l last U sl M L clock) (c s : Int) :
   Calls Try.prog 27 #[.pointer (some ⟨t, 0, none⟩), .agg #[.int .i64 c, .int .i64 s]] w (UserPost U c s w) := by
  have h2 : w.cell? ⟨t, 2, none⟩ = some (.map (some M)) := by rw [cell_of_heap h.heap]; rfl
  have hMs := h.old M h.inM
  have hl : ∀ n X, (Instr.lookup 51 (.map (some M)) (.agg #[.int .i64 c, .int .i64 s]) true).run Try.prog ((w.alloc X).drewN n) = .ok (.tuple #[.int .i64 ((U c s).getD 0), .bool (U c s).isSome]) ((w.alloc X).drewN n) := by
    intro n X
    rw [← h.users c s]
    exact run_look (w := (w.alloc X).drewN n) (h.map.later (Below.heap_alloc _ _ _ hMs)) c s
  have hend : ∀ n X, Same w ((w.alloc X).drewN n) := fun n X => ((Chg.refl _ w).alloc X).drewN n
  have hts := h.old t h.inT
  clear hMs h
  cases hU : U c s with
  | none =>
    simp only [hU] at hl
    go_enter Try.func27, Try.ntmps27
    go_wp2
    go_quiet (fail)
    go_wp2
    go_ret
    exact ⟨by rw [hU]; rfl, hend _ _⟩
  | some u =>
    simp only [hU] at hl
    go_enter Try.func27, Try.ntmps27
    go_wp2
    go_quiet (fail)
    go_wp2
    go_ret
    exact ⟨by rw [hU]; rfl, hend _ _⟩

/-- The place of the first one that is so; -1: none. -/
def idxOf (p : Se → Bool) (l : List Se) : Int := match l.findIdx? p with | some j => j | none => -1

def IdxPost (p : Se → Bool) (l : List Se) (w : World) (e : Ending) (w' : World) : Prop := e = .returned (.int .i64 (idxOf p l)) ∧ Same w w'

def Answers (fid : Nat) (caps : Array Value) (p : Se → Bool) (w : World) : Prop :=
  (∀ (args : Array Value) (W : World), (callFunc fid args).run Try.prog W = .ok (.enter fid args) W) ∧ ∀ (x : Se) (W : World), Same w W → Calls Try.prog fid (#[.agg #[.int .i64 x.h, .int .i64 x.c, .int .i64 x.s, .bool x.rw]] ++ caps) W fun e w' => e = .returned (.bool (p x)) ∧ Same W w'

def NoneBefore (p : Se → Bool) (l : List Se) (k : Nat) : Prop := ∀ j (hj : j < l.length), j < k → p l[j] = false

theorem idx_hit {p : Se → Bool} {l : List Se} {k : Nat} (hk : k < l.length) (h : NoneBefore p l k) (hp : p l[k] = true) : idxOf p l = k := by
  have : l.findIdx? p = some k := List.findIdx?_eq_some_iff_getElem.2 ⟨hk, hp, fun j hj => by simpa using h j (by omega) hj⟩
  simp [idxOf, this]
theorem idx_miss {p : Se → Bool} {l : List Se} (h : NoneBefore p l l.length) : idxOf p l = -1 := by
  have : l.findIdx? p = none := by
    rw [List.findIdx?_eq_none_iff]
    intro x hx
    obtain ⟨j, hj, rfl⟩ := List.getElem_of_mem hx
    exact h j hj hj
  simp [idxOf, this]
theorem none_next {p : Se → Bool} {l : List Se} {k : Nat} (hk : k < l.length) (h : NoneBefore p l k) (hp : p l[k] = false) : NoneBefore p l (k + 1) := by
  intro j hj hlt
  by_cases e : j = k
  · subst e; exact hp
  · exact h j hj (by omega)

set_option maxHeartbeats 1000000 in
theorem index_calls (h : Tab w F t l last U sl M L clock) {fid : Nat} {caps : Array Value} {p : Se → Bool} {w1 : World} (hw : Same w w1) (hf : Answers fid caps p w1) :
   Calls Try.prog 45 #[sl, .func (.func fid) #[] caps] w1 (IdxPost p l w1) := by
  obtain ⟨a, cap, rfl, hlc, hcm, hrow⟩ := h.slice
  have hll : l.length ≤ 9223372036854775807 := by unfold maxLen at hcm; omega
  have hts := h.old t h.inT
  clear h
  obtain ⟨hcf, hf⟩ := hf
  have HF := hid hf
  clear hf
  go_enter Try.func45, Try.ntmps45
  go_wp2
  go_loopw [5, 8] (fun x i wr => ∃ k : Nat, k ≤ l.length ∧ i = .int .i64 k ∧ Same w1 wr ∧ NoneBefore p l k) (fun _ i _ => l.length - (intOf i).toNat)
  case atStart => exact ⟨0, Nat.zero_le _, rfl, Chg.refl _ _, fun j _ h => by omega⟩
  case round =>
    obtain ⟨k, hk, rfl, hs, hnb⟩ := hrel
    by_cases hlt : k < l.length
    · rcases hrow with ⟨_, rfl⟩ | ⟨g, rfl, hg, hgt, _, hcells⟩
      · simp at hlt
      have hww : Same w wr := hw.trans hs (fun _ h => h.elim)
      obtain ⟨c0, c1, c2, c3⟩ := hcells k hlt
      rw [← hww.cell (by exact hg) (fun h => h)] at c0 c1 c2 c3
      clear hcells
      go_wp2_with fail
      refine (HF.out l[k] wr hs).mono ?_
      rintro e w' ⟨rfl, hs'⟩
      have hs1 : Same w1 w' := hs.trans hs' (fun _ h => h.elim)
      cases hp : p l[k] with
      | true =>
        go_wp2
        go_ret
        exact ⟨by rw [idx_hit hlt hnb hp]; rfl, hs1⟩
      | false =>
        go_wp2
        go_roundw
        case rel => exact ⟨k + 1, by omega, by go_num, hs1, none_next hlt hnb hp⟩
        case measure => simp [intOf]; omega
    · go_wp2
      go_ret
      have : k = l.length := by omega
      subst this
      exact ⟨by rw [idx_miss hnb]; rfl, hs⟩

def BoolPost (b : Bool) (w : World) (e : Ending) (w' : World) : Prop := e = .returned (.bool b) ∧ Same w w'

theorem idx_any (p : Se → Bool) (l : List Se) : decide (0 ≤ idxOf p l) = l.any p := by
  unfold idxOf
  cases h : l.findIdx? p with
  | none =>
    rw [List.findIdx?_eq_none_iff] at h
    rw [List.any_eq_false.2 fun x hx => by simp [h x hx]]
    decide
  | some j =>
    obtain ⟨hj, hp, _⟩ := List.findIdx?_eq_some_iff_getElem.1 h
    rw [List.any_eq_true.2 ⟨_, List.getElem_mem hj, hp⟩]
    simp

set_option maxHeartbeats 400000 in
theorem contains_calls (h : Tab w F t l last U sl M L clock) {fid : Nat} {caps : Array Value} {p : Se → Bool} {w1 : World} (hw : Same w w1) (hf : Answers fid caps p w1) :
   Calls Try.prog 41 #[sl, .func (.func fid) #[] caps] w1 (BoolPost (l.any p) w1) := by
  have H := hid (index_calls h hw hf)
  clear hf
  go_enter Try.func41, Try.ntmps41
  go_wp2_with fail
  refine H.out.mono ?_
  rintro e w' ⟨rfl, hs⟩
  go_wp2
  go_ret
  exact ⟨by rw [← idx_any]; rfl, hs⟩

/-- A block of one where lies at b. -/
theorem open1_calls (c s : Int) (b : Nat) (x : Se) (w : World) (h0 : w.cell? ⟨b, 0, none⟩ = some (.int .i64 c)) (h1 : w.cell? ⟨b, 1, none⟩ = some (.int .i64 s)) (hb : b < w.heap.size) :
   Calls Try.prog 46 #[.agg #[.int .i64 x.h, .int .i64 x.c, .int .i64 x.s, .bool x.rw], .pointer (some ⟨b, 0, none⟩)] w (BoolPost (x.c == c && x.s == s) w) := by
  have he : ∀ W, (binOp .eql 56 (.agg #[.int .i64 x.c, .int .i64 x.s]) (.agg #[.int .i64 c, .int .i64 s])).run Try.prog W = .ok (.bool (x.c == c && x.s == s)) W := by
    intro W
    have := equal56 x.c x.s c s W
    simp only [keyV] at this
    simp [binOp, this]
  go_enter Try.func46, Try.ntmps46
  go_wp2
  go_ret
  exact ⟨rfl, (Chg.refl _ w).alloc _⟩

def hasAt (c s : Int) (x : Se) : Bool := x.c == c && x.s == s

theorem callFunc46 (args : Array Value) (W : World) : (callFunc 46 args).run Try.prog W = .ok (.enter 46 args) W := by kernel_rfl
theorem callFunc42 (args : Array Value) (W : World) : (callFunc 42 args).run Try.prog W = .ok (.enter 42 args) W := by kernel_rfl
theorem callFunc43 (args : Array Value) (W : World) : (callFunc 43 args).run Try.prog W = .ok (.enter 43 args) W := by kernel_rfl
theorem callFunc31 (args : Array Value) (W : World) : (callFunc 31 args).run Try.prog W = .ok (.enter 31 args) W := by kernel_rfl
theorem callFunc35 (args : Array Value) (W : World) : (callFunc 35 args).run Try.prog W = .ok (.enter 35 args) W := by kernel_rfl
theorem callFunc36 (args : Array Value) (W : World) : (callFunc 36 args).run Try.prog W = .ok (.enter 36 args) W := by kernel_rfl

theorem at_answers {w1 : World} {b : Nat} {c s : Int} (h : w1.heap[b]? = some (.cells #[.int .i64 c, .int .i64 s] 56 (0, 0))) : Answers 46 #[.pointer (some ⟨b, 0, none⟩)] (hasAt c s) w1 := by
  refine ⟨callFunc46, fun x W hW => ?_⟩
  have hb := lt_of_heap h
  have h' : W.heap[b]? = some (.cells #[.int .i64 c, .int .i64 s] 56 (0, 0)) := by rw [hW.block b hb (fun h => h)]; exact h
  exact open1_calls c s b x W (by rw [cell_of_heap h']; rfl) (by rw [cell_of_heap h']; rfl) (lt_of_heap h')

theorem Tab.sl_cell (h : Tab w F t l last U sl M L clock) : w.cell? ⟨t, 0, none⟩ = some sl := by rw [cell_of_heap h.heap]; rfl
theorem Tab.last_cell (h : Tab w F t l last U sl M L clock) : w.cell? ⟨t, 1, none⟩ = some (.int .i64 last) := by rw [cell_of_heap h.heap]; rfl
theorem Tab.map_cell (h : Tab w F t l last U sl M L clock) : w.cell? ⟨t, 2, none⟩ = some (.map (some M)) := by rw [cell_of_heap h.heap]; rfl
theorem Tab.lt (h : Tab w F t l last U sl M L clock) : t < w.heap.size := h.old t h.inT

set_option maxHeartbeats 400000 in
theorem open_calls (h : Tab w F t l last U sl M L clock) (c s : Int) :
   Calls Try.prog 44 #[.pointer (some ⟨t, 0, none⟩), .agg #[.int .i64 c, .int .i64 s]] w (BoolPost (l.any (hasAt c s)) w) := by
  have h0 := h.sl_cell
  have ht := h.lt
  have H := hid h
  clear h
  go_enter Try.func44, Try.ntmps44
  go_wp2_with fail
  refine (contains_calls H.out ((Chg.refl _ w).alloc _) (at_answers (heap_alloc_new w _))).mono ?_
  rintro e w' ⟨rfl, hs⟩
  go_wp2
  go_ret
  exact ⟨rfl, ((Chg.refl _ w).alloc _).trans hs (fun _ h => h.elim)⟩

theorem used1_calls (s : Int) (b : Nat) (x : Se) (w : World) (h0 : w.cell? ⟨b, 0, none⟩ = some (.int .i64 s)) (hb : b < w.heap.size) :
   Calls Try.prog 42 #[.agg #[.int .i64 x.h, .int .i64 x.c, .int .i64 x.s, .bool x.rw], .pointer (some ⟨b, 0, none⟩)] w (BoolPost (x.s == s) w) := by
  go_enter Try.func42, Try.ntmps42
  go_wp2
  go_ret
  exact ⟨rfl, (Chg.refl _ w).alloc _⟩

theorem used_answers {w1 : World} {b : Nat} {s : Int} (h : w1.heap[b]? = some (.cells #[.int .i64 s] 3 (0, 0))) : Answers 42 #[.pointer (some ⟨b, 0, none⟩)] (fun x => x.s == s) w1 := by
  refine ⟨callFunc42, fun x W hW => ?_⟩
  have hb := lt_of_heap h
  have h' : W.heap[b]? = some (.cells #[.int .i64 s] 3 (0, 0)) := by rw [hW.block b hb (fun h => h)]; exact h
  exact used1_calls s b x W (by rw [cell_of_heap h']; rfl) (lt_of_heap h')

set_option maxHeartbeats 400000 in
theorem used_calls (h : Tab w F t l last U sl M L clock) (s : Int) :
   Calls Try.prog 24 #[.pointer (some ⟨t, 0, none⟩), .int .i64 s] w (BoolPost (l.any (fun x => x.s == s)) w) := by
  have h0 := h.sl_cell
  have ht := h.lt
  have H := hid h
  clear h
  go_enter Try.func24, Try.ntmps24
  go_wp2_with fail
  refine (contains_calls H.out ((Chg.refl _ w).alloc _) (used_answers (heap_alloc_new w _))).mono ?_
  rintro e w' ⟨rfl, hs⟩
  go_wp2
  go_ret
  exact ⟨rfl, ((Chg.refl _ w).alloc _).trans hs (fun _ h => h.elim)⟩

set_option maxHeartbeats 400000 in
theorem may1_calls (c s : Int) (b : Nat) (x : Se) (w : World) (h0 : w.cell? ⟨b, 0, none⟩ = some (.int .i64 c)) (h1 : w.cell? ⟨b, 1, none⟩ = some (.int .i64 s)) (hb : b < w.heap.size) :
   Calls Try.prog 43 #[.agg #[.int .i64 x.h, .int .i64 x.c, .int .i64 x.s, .bool x.rw], .pointer (some ⟨b, 0, none⟩)] w (BoolPost (hasAt c s x && !x.rw) w) := by
  have he : ∀ W, (binOp .eql 56 (.agg #[.int .i64 x.c, .int .i64 x.s]) (.agg #[.int .i64 c, .int .i64 s])).run Try.prog W = .ok (.bool (hasAt c s x)) W := by
    intro W
    have := equal56 x.c x.s c s W
    simp only [keyV] at this
    simp [binOp, this, hasAt]
  cases hx : hasAt c s x with
  | true =>
    rw [hx] at he
    go_enter Try.func43, Try.ntmps43
    go_wp2
    go_ret
    exact ⟨rfl, (Chg.refl _ w).alloc _⟩
  | false =>
    rw [hx] at he
    go_enter Try.func43, Try.ntmps43
    go_wp2
    go_ret
    exact ⟨rfl, (Chg.refl _ w).alloc _⟩

theorem may_answers {w1 : World} {b : Nat} {c s : Int} (h : w1.heap[b]? = some (.cells #[.int .i64 c, .int .i64 s] 56 (0, 0))) : Answers 43 #[.pointer (some ⟨b, 0, none⟩)] (fun x => hasAt c s x && !x.rw) w1 := by
  refine ⟨callFunc43, fun x W hW => ?_⟩
  have hb := lt_of_heap h
  have h' : W.heap[b]? = some (.cells #[.int .i64 c, .int .i64 s] 56 (0, 0)) := by rw [hW.block b hb (fun h => h)]; exact h
  exact may1_calls c s b x W (by rw [cell_of_heap h']; rfl) (by rw [cell_of_heap h']; rfl) (lt_of_heap h')

/-- Where a session of that handle and connection lies. -/
def FindPost (l : List Se) (sl : Value) (c h : Int) (w : World) (e : Ending) (w' : World) : Prop :=
  Same w w' ∧ ((l.find? (fun x => x.h == h && x.c == c) = none ∧ e = .returned (.pointer none)) ∨
    ∃ g k x cap, sl = .slice (some ⟨g, 0, none⟩) l.length cap ∧ k < l.length ∧ l[k]? = some x ∧ l.find? (fun x => x.h == h && x.c == c) = some x ∧ e = .returned (.pointer (some ⟨g, k * 4, none⟩)))

theorem find_hit {p : Se → Bool} {l : List Se} {k : Nat} (hk : k < l.length) (h : NoneBefore p l k) (hp : p l[k] = true) : l.find? p = some l[k] := by
  rw [List.find?_eq_some_iff_getElem]
  exact ⟨hp, k, hk, rfl, fun j hj => by simpa using h j (by omega) hj⟩
theorem find_miss {p : Se → Bool} {l : List Se} (h : NoneBefore p l l.length) : l.find? p = none := by
  rw [List.find?_eq_none]
  intro x hx
  obtain ⟨j, hj, rfl⟩ := List.getElem_of_mem hx
  simp [h j hj hj]

set_option maxHeartbeats 1000000 in
theorem find_calls (h : Tab w F t l last U sl M L clock) (c hd : Int) :
   Calls Try.prog 29 #[.pointer (some ⟨t, 0, none⟩), .int .i64 c, .int .i64 hd] w (FindPost l sl c hd w) := by
  have h0 := h.sl_cell
  obtain ⟨a, cap, rfl, hlc, hcm, hrow⟩ := h.slice
  have hll : l.length ≤ 9223372036854775807 := by unfold maxLen at hcm; omega
  have hts := h.lt
  have HR := hid hrow
  clear h hrow
  go_enter Try.func29, Try.ntmps29
  go_wp2
  go_loop [7, 15] (fun x i => ∃ k : Nat, k ≤ l.length ∧ i = .int .i64 k ∧ NoneBefore (fun x => x.h == hd && x.c == c) l k) (fun _ i => l.length - (intOf i).toNat)
  case atStart => exact ⟨0, Nat.zero_le _, rfl, fun j _ h => by omega⟩
  case round =>
    obtain ⟨k, hk, rfl, hnb⟩ := hrel
    have HN := hid hnb
    clear hnb
    by_cases hlt : k < l.length
    · rcases HR.out with ⟨_, rfl⟩ | ⟨g, rfl, hg, hgt, _, hcells⟩
      · simp at hlt
      obtain ⟨c0, c1, c2, c3⟩ := hcells k hlt
      clear hcells
      cases hp : (l[k].h == hd) with
      | false =>
        go_wp2
        go_round
        case rel => exact ⟨k + 1, by omega, by go_num, none_next hlt HN.out (by simp [hp])⟩
        case measure => simp [intOf]; omega
      | true =>
        cases hp2 : (l[k].c == c) with
        | false =>
          go_wp2
          go_round
          case rel => exact ⟨k + 1, by omega, by go_num, none_next hlt HN.out (by simp [hp2])⟩
          case measure => simp [intOf]; omega
        | true =>
          go_wp2
          go_ret
          refine ⟨Chg.refl _ _, .inr ⟨g, k, l[k], cap, rfl, hlt, by simp [hlt], find_hit hlt HN.out (by simp [hp, hp2]), rfl⟩⟩
    · go_wp2
      go_ret
      have : k = l.length := by omega
      subst this
      exact ⟨Chg.refl _ _, .inl ⟨find_miss HN.out, rfl⟩⟩
end
end Go.Proofs.Ytlfdcfgpbigjdaa
