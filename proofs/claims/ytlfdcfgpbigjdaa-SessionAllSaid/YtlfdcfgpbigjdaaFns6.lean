/- Close, CloseAll, Drop, New. -/
import Derived.Test.YtlfdcfgpbigjdaaFns5
namespace Go.Proofs.Ytlfdcfgpbigjdaa
set_option linter.unusedVariables false
set_option linter.unusedSimpArgs false
open Go.RowKit

section
variable {w : World} {F : Nat → Prop} {t : Nat} {l : List Se} {last : Int} {U : Int → Int → Option Int} {sl : Value} {M : Nat} {L : List En} {clock : Nat}

theorem close1_calls (h : Int) (b : Nat) (x : Se) (w : World) (h0 : w.cell? ⟨b, 0, none⟩ = some (.int .i64 h)) (hb : b < w.heap.size) :
   Calls Try.prog 31 #[.agg #[.int .i64 x.h, .int .i64 x.c, .int .i64 x.s, .bool x.rw], .pointer (some ⟨b, 0, none⟩)] w (BoolPost (x.h == h) w) := by
  go_enter Try.func31, Try.ntmps31
  go_wp2
  go_ret
  exact ⟨rfl, (Chg.refl _ w).alloc _⟩

theorem drop1_calls (c : Int) (b : Nat) (x : Se) (w : World) (h0 : w.cell? ⟨b, 0, none⟩ = some (.int .i64 c)) (hb : b < w.heap.size) :
   Calls Try.prog 36 #[.agg #[.int .i64 x.h, .int .i64 x.c, .int .i64 x.s, .bool x.rw], .pointer (some ⟨b, 0, none⟩)] w (BoolPost (x.c == c) w) := by
  go_enter Try.func36, Try.ntmps36
  go_wp2
  go_ret
  exact ⟨rfl, (Chg.refl _ w).alloc _⟩

theorem closeAll1_calls (c s : Int) (b b2 : Nat) (x : Se) (w : World) (h0 : w.cell? ⟨b, 0, none⟩ = some (.int .i64 c)) (h1 : w.cell? ⟨b2, 0, none⟩ = some (.int .i64 s)) (hb : b < w.heap.size) (hb2 : b2 < w.heap.size) :
   Calls Try.prog 35 #[.agg #[.int .i64 x.h, .int .i64 x.c, .int .i64 x.s, .bool x.rw], .pointer (some ⟨b, 0, none⟩), .pointer (some ⟨b2, 0, none⟩)] w (BoolPost (hasAt c s x) w) := by
  have he : ∀ W, (binOp .eql 56 (.agg #[.int .i64 x.c, .int .i64 x.s]) (.agg #[.int .i64 c, .int .i64 s])).run Try.prog W = .ok (.bool (hasAt c s x)) W := by
    intro W
    have := equal56 x.c x.s c s W
    simp only [keyV] at this
    simp [binOp, this, hasAt]
  go_enter Try.func35, Try.ntmps35
  go_wp2
  go_ret
  exact ⟨rfl, (Chg.refl _ w).alloc _⟩

theorem heap_same {w W : World} {b : Nat} {o : Obj} (h : w.heap[b]? = some o) (hs : Same w W) : W.heap[b]? = some o := by
  rw [hs.block b (lt_of_heap h) (fun h => h)]; exact h

theorem close_answers {w1 : World} {b : Nat} {h : Int} (hh : w1.heap[b]? = some (.cells #[.int .i64 h] 3 (0, 0))) : Answers 31 #[.pointer (some ⟨b, 0, none⟩)] (fun x => x.h == h) w1 :=
  ⟨callFunc31, fun x W hW => close1_calls h b x W (by rw [cell_of_heap (heap_same hh hW)]; rfl) (lt_of_heap (heap_same hh hW))⟩
theorem drop_answers {w1 : World} {b : Nat} {c : Int} (hh : w1.heap[b]? = some (.cells #[.int .i64 c] 3 (0, 0))) : Answers 36 #[.pointer (some ⟨b, 0, none⟩)] (fun x => x.c == c) w1 :=
  ⟨callFunc36, fun x W hW => drop1_calls c b x W (by rw [cell_of_heap (heap_same hh hW)]; rfl) (lt_of_heap (heap_same hh hW))⟩
theorem closeAll_answers {w1 : World} {b b2 : Nat} {c s : Int} (hh : w1.heap[b]? = some (.cells #[.int .i64 c] 3 (0, 0))) (hh2 : w1.heap[b2]? = some (.cells #[.int .i64 s] 3 (0, 0))) : Answers 35 #[.pointer (some ⟨b, 0, none⟩), .pointer (some ⟨b2, 0, none⟩)] (hasAt c s) w1 :=
  ⟨callFunc35, fun x W hW => closeAll1_calls c s b b2 x W (by rw [cell_of_heap (heap_same hh hW)]; rfl) (by rw [cell_of_heap (heap_same hh2 hW)]; rfl) (lt_of_heap (heap_same hh hW)) (lt_of_heap (heap_same hh2 hW))⟩

theorem ClosesPost.later {w0 w w' : World} {p : Se → Bool} {e : Ending} (hs : Same w0 w) (h : ClosesPost w F t l last U p e w') : ClosesPost w0 F t l last U p e w' := by
  obtain ⟨gv, F', sl, M, L, clock, h1, h2, h3, h4, h5, h6⟩ := h
  have := hs.size
  exact ⟨gv, F', sl, M, L, clock, h1, h2, hs.same.trans h3 (fun k hk => .inl hk), fun k hk => by rcases h4 k hk with h | h; exact .inl h; right; omega, ownsRow_base h5 hs.size, h6⟩

theorem ret_val {a b : Value} (h : a = b) : Ending.returned a = .returned b := by rw [h]

set_option maxHeartbeats 1000000 in
theorem closeAll_calls (h : Tab w F t l last U sl M L clock) (hlen : l.length < 100) (c s : Int) :
   Calls Try.prog 12 #[.pointer (some ⟨t, 0, none⟩), .int .i64 c, .int .i64 s] w (ClosesPost w F t l last U (hasAt c s)) := by
  have H := hid h
  have S2 : Hid (Same w ((w.alloc (.cells #[.int .i64 c] 3)).alloc (.cells #[.int .i64 s] 3))) := ((Chg.refl _ w).alloc _).alloc _
  have e1 : Hid (((w.alloc (.cells #[.int .i64 c] 3)).alloc (.cells #[.int .i64 s] 3)).heap[w.heap.size]? = some (.cells #[.int .i64 c] 3 (0, 0))) := by
    show _ = _
    rw [Below.heap_alloc _ _ _ (by simp)]
    exact heap_alloc_new _ _
  have e2 : Hid (((w.alloc (.cells #[.int .i64 c] 3)).alloc (.cells #[.int .i64 s] 3)).heap[w.heap.size + 1]? = some (.cells #[.int .i64 s] 3 (0, 0))) := by
    have := heap_alloc_new (w.alloc (.cells #[.int .i64 c] 3)) (.cells #[.int .i64 s] 3)
    rw [show (w.alloc (.cells #[.int .i64 c] 3)).heap.size = w.heap.size + 1 from by simp] at this
    exact this
  clear h
  go_enter Try.func12, Try.ntmps12
  go_wp2_with fail
  refine (closes_calls (H.out.same S2.out) hlen (closeAll_answers e1.out e2.out)).mono ?_
  rintro e w2 hp
  obtain ⟨gv, F', sl', M', L', clock', rfl, hp'⟩ := hp
  have HP : Hid (ClosesPost w F t l last U (hasAt c s) (.returned gv) w2) := ClosesPost.later S2.out ⟨gv, F', sl', M', L', clock', rfl, hp'⟩
  clear hp'
  go_wp2_with fail
  go_ret
  exact HP.out

set_option maxHeartbeats 1000000 in
theorem drop_calls (h : Tab w F t l last U sl M L clock) (hlen : l.length < 100) (c : Int) :
   Calls Try.prog 15 #[.pointer (some ⟨t, 0, none⟩), .int .i64 c] w (ClosesPost w F t l last U (fun x => x.c == c)) := by
  have H := hid h
  have S2 : Hid (Same w (w.alloc (.cells #[.int .i64 c] 3))) := (Chg.refl _ w).alloc _
  have e1 := hid (heap_alloc_new w (.cells #[.int .i64 c] 3))
  clear h
  go_enter Try.func15, Try.ntmps15
  go_wp2_with fail
  refine (closes_calls (H.out.same S2.out) hlen (drop_answers e1.out)).mono ?_
  rintro e w2 hp
  obtain ⟨gv, F', sl', M', L', clock', rfl, hp'⟩ := hp
  have HP : Hid (ClosesPost w F t l last U (fun x => x.c == c) (.returned gv) w2) := ClosesPost.later S2.out ⟨gv, F', sl', M', L', clock', rfl, hp'⟩
  clear hp'
  go_wp2_with fail
  go_ret
  exact HP.out

def closeL (l : List Se) (c hd : Int) : List Se := if (findSe l c hd).isSome then stay (fun x => x.h == hd) l else l
def closeU (l : List Se) (U : Int → Int → Option Int) (c hd : Int) : Int → Int → Option Int := if (findSe l c hd).isSome then trimU (stay (fun x => x.h == hd) l) U else U
def ClosePost (w : World) (F : Nat → Prop) (t : Nat) (l : List Se) (last : Int) (U : Int → Int → Option Int) (c hd : Int) (e : Ending) (w' : World) : Prop :=
  e = .returned (.int .i64 (if (findSe l c hd).isSome then 0 else 179)) ∧ TabTo w F t (closeL l c hd) last (closeU l U c hd) w'

set_option maxHeartbeats 1000000 in
theorem close_calls (h : Tab w F t l last U sl M L clock) (hlen : l.length < 100) (c hd : Int) :
   Calls Try.prog 10 #[.pointer (some ⟨t, 0, none⟩), .int .i64 c, .int .i64 hd] w (ClosePost w F t l last U c hd) := by
  have H := hid h
  have S2 : Hid (Same w (w.alloc (.cells #[.int .i64 hd] 3))) := (Chg.refl _ w).alloc _
  have e1 := hid (heap_alloc_new w (.cells #[.int .i64 hd] 3))
  clear h
  go_enter Try.func10, Try.ntmps10
  go_wp2_with fail
  refine (find_calls (H.out.same S2.out) c hd).mono ?_
  rintro e w1 ⟨hs, hp⟩
  have S3 := hid (S2.out.trans hs)
  have e3 := hid (heap_same e1.out hs)
  clear hs
  rcases hp with ⟨hf, rfl⟩ | ⟨g, k, x, cap, hsl, hk, hx, hf, rfl⟩
  · have HF := hid hf
    clear hf
    go_wp2_with fail
    go_ret
    have hn : (findSe l c hd).isSome = false := by unfold findSe; rw [HF.out]; rfl
    exact ⟨by rw [hn]; rfl, by unfold closeL closeU; rw [hn]; exact TabTo.of_same H.out S3.out⟩
  · have HF := hid hf
    clear hf hsl hk hx
    go_wp2_with fail
    refine (closes_calls (H.out.same S3.out) hlen (close_answers e3.out)).mono ?_
    rintro e w2 hp
    obtain ⟨gv, F', sl', M', L', clock', rfl, h1, h2, h3, h4⟩ := hp
    have hn : (findSe l c hd).isSome = true := by unfold findSe; rw [HF.out]; rfl
    have HN := hid hn
    have HP : Hid (TabTo w F t (stay (fun x => x.h == hd) l) last (trimU (stay (fun x => x.h == hd) l) U) w2) :=
      ⟨F', sl', M', L', clock', h1, S3.out.same.trans h2 (fun k hk => .inl hk), fun k hk => by rcases h3 k hk with h | h; exact .inl h; right; have := S3.out.size; omega⟩
    clear h1 h2 h3 h4 hn
    go_wp2_with fail
    go_ret
    exact ⟨by rw [HN.out]; rfl, by unfold closeL closeU; rw [HN.out]; exact HP.out⟩

def NewPost (w : World) (e : Ending) (w' : World) : Prop := ∃ t F sl M L clock, e = .returned (.pointer (some ⟨t, 0, none⟩)) ∧ Tab w' F t [] 0 (fun _ _ => none) sl M L clock ∧ Same w w' ∧ ∀ k, F k → w.heap.size ≤ k

set_option maxHeartbeats 1000000 in
theorem new_calls (w : World) : Calls Try.prog 7 #[] w (NewPost w) := by
  have hmm := @run_makeMap Try.prog
  go_enter Try.func7, Try.ntmps7
  go_wp2_with fail
  go_ret
  have e1 : ((w.alloc (.map #[] 0)).alloc (.cells #[.slice none 0 0, .int .i64 0, .map (some w.heap.size)] 54)).heap[w.heap.size + 1]? = some (.cells #[.slice none 0 0, .int .i64 0, .map (some w.heap.size)] 54 (0, 0)) := by
    have := heap_alloc_new (w.alloc (.map #[] 0)) (.cells #[.slice none 0 0, .int .i64 0, .map (some w.heap.size)] 54)
    rw [show (w.alloc (.map #[] 0)).heap.size = w.heap.size + 1 from by simp] at this
    exact this
  have e2 : ((w.alloc (.map #[] 0)).alloc (.cells #[.slice none 0 0, .int .i64 0, .map (some w.heap.size)] 54)).heap[w.heap.size]? = some (.map #[] 0) := by
    rw [Below.heap_alloc _ _ _ (by simp)]
    exact heap_alloc_new _ _
  refine ⟨w.heap.size + 1, fun k => k = w.heap.size ∨ k = w.heap.size + 1, .slice none 0 0, w.heap.size, [], 0, rfl, ⟨e1, World.ownsRow_nil _ _ _ _, ⟨e2, by simp, by simp, by simp⟩, fun _ _ => rfl, .inr rfl, .inl rfl, fun g hg => by simp [Value.ownBlock] at hg, ?_⟩, ((Chg.refl _ w).alloc _).alloc _, ?_⟩
  · intro k hk
    simp only [World.size_alloc]
    omega
  · intro k hk
    omega
end
end Go.Proofs.Ytlfdcfgpbigjdaa
