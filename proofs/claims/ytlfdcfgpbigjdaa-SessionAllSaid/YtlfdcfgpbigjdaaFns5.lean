/- Closing sessions. -/
import Derived.Test.YtlfdcfgpbigjdaaFns4
namespace Go.Proofs.Ytlfdcfgpbigjdaa
set_option linter.unusedVariables false
set_option linter.unusedSimpArgs false
open Go.RowKit

theorem Try.info3 : (Try.prog.info? 3).map (fun i => (i.zero, i.size, i.bytes)) = some (some (.int .i64 0), 1, 8) := by kernel_rfl

section
variable {w : World} {F : Nat → Prop} {t : Nat} {l : List Se} {last : Int} {U : Int → Int → Option Int} {sl : Value} {M : Nat} {L : List En} {clock : Nat}

def goneOf (p : Se → Bool) (l : List Se) : List Int := (l.filter p).map Se.h
def stay (p : Se → Bool) (l : List Se) : List Se := l.filter fun x => !p x
def ints (xs : List Int) : List Value := xs.map (.int .i64)
def trimU (l : List Se) (U : Int → Int → Option Int) : Int → Int → Option Int := fun c s => if l.any (hasAt c s) = true then U c s else none

/-- After k sessions. -/
structure Half (w : World) (p : Se → Bool) (l : List Se) (k : Nat) (gv lv : Value) (wr : World) : Prop where
  same : Same w wr
  gone : wr.ownsRow w.heap.size 3 1 gv (goneOf p (l.take k)).length (ints (goneOf p (l.take k)))
  left : wr.ownsRow w.heap.size 59 4 lv (stay p (l.take k)).length (seRow (stay p (l.take k)))

theorem rows_ne {W : World} {B B' : Nat} {e e' : TypeId} {s s' : Nat} {v v' : Value} {n n' : Nat} {xs xs' : List Value} (h : W.ownsRow B e s v n xs) (h' : W.ownsRow B' e' s' v' n' xs') (he : e ≠ e') : ∀ g, v.ownBlock = some g → v'.ownBlock ≠ some g := by
  intro g hg hg'
  rcases h.2 with ⟨rfl, _⟩ | ⟨g1, cap, cur, rfl, _, hh, _⟩
  · cases hg
  · rcases h'.2 with ⟨rfl, _⟩ | ⟨g2, cap', cur', rfl, _, hh', _⟩
    · cases hg'
    · cases hg; cases hg'
      have := hh.symm.trans hh'
      cases this
      exact he rfl

theorem Half.later {p : Se → Bool} {k : Nat} {gv lv : Value} {wr wr' : World} (h : Half w p l k gv lv wr) (hs : Same wr wr') : Half w p l k gv lv wr' :=
  ⟨h.same.trans hs, ownsRow_keep h.gone fun g hg => hs.block g (h.gone.lt g hg).2 (fun h => h), ownsRow_keep h.left fun g hg => hs.block g (h.left.lt g hg).2 (fun h => h)⟩

theorem take_step {p : Se → Bool} {k : Nat} (hk : k < l.length) : goneOf p (l.take (k + 1)) = (if p l[k] then goneOf p (l.take k) ++ [l[k].h] else goneOf p (l.take k)) ∧ stay p (l.take (k + 1)) = (if p l[k] then stay p (l.take k) else stay p (l.take k) ++ [l[k]]) := by
  have : l.take (k + 1) = l.take k ++ [l[k]] := by rw [List.take_succ_eq_append_getElem hk]
  unfold goneOf stay
  rw [this]
  cases hp : p l[k] <;> simp only [List.filter_append, List.filter_cons, List.filter_nil, List.map_append, hp, Bool.not_true, Bool.not_false, Bool.false_eq_true, if_true, if_false, List.map_cons, List.map_nil, List.append_nil, and_self]

theorem Half.go {p : Se → Bool} {k : Nat} {gv lv : Value} {wr W : World} (h : Half w p l k gv lv wr) (hk : k < l.length) (hp : p l[k] = true) {g cap : Nat}
    (hown : W.ownsRow w.heap.size 3 1 (.slice (some ⟨g, 0, none⟩) ((goneOf p (l.take k)).length + 1) cap) ((goneOf p (l.take k)).length + 1) (ints (goneOf p (l.take k)) ++ [.int .i64 l[k].h]))
    (hc : Chg (fun b => gv.ownBlock = some b) wr W) : Half w p l (k + 1) (.slice (some ⟨g, 0, none⟩) ((goneOf p (l.take k)).length + 1) cap) lv W := by
  obtain ⟨e1, e2⟩ := take_step (p := p) hk
  rw [if_pos hp] at e1 e2
  refine ⟨?_, ?_, ?_⟩
  · exact Chg.trans h.same hc (fun b hb => .inr (h.gone.lt b hb).1)
  · rw [e1]
    simpa [ints] using hown
  · rw [e2]
    exact ownsRow_keep h.left fun b hb => hc.block b (h.left.lt b hb).2 (rows_ne h.left h.gone (by decide) b hb)

theorem Half.st {p : Se → Bool} {k : Nat} {gv lv : Value} {wr W : World} (h : Half w p l k gv lv wr) (hk : k < l.length) (hp : p l[k] = false) {g cap : Nat}
    (hown : W.ownsRow w.heap.size 59 4 (.slice (some ⟨g, 0, none⟩) ((stay p (l.take k)).length + 1) cap) ((stay p (l.take k)).length + 1) (seRow (stay p (l.take k)) ++ l[k].cells))
    (hc : Chg (fun b => lv.ownBlock = some b) wr W) : Half w p l (k + 1) gv (.slice (some ⟨g, 0, none⟩) ((stay p (l.take k)).length + 1) cap) W := by
  obtain ⟨e1, e2⟩ := take_step (p := p) hk
  rw [if_neg (by simp [hp])] at e1 e2
  refine ⟨?_, ?_, ?_⟩
  · exact Chg.trans h.same hc (fun b hb => .inr (h.left.lt b hb).1)
  · rw [e1]
    exact ownsRow_keep h.gone fun b hb => hc.block b (h.gone.lt b hb).2 (rows_ne h.gone h.left (by decide) b hb)
  · rw [e2]
    simpa [seRow] using hown

theorem goneOf_le (p : Se → Bool) (l : List Se) (k : Nat) : (goneOf p (l.take k)).length ≤ l.length := by
  unfold goneOf
  rw [List.length_map]
  exact Nat.le_trans (List.length_filter_le _ _) (List.length_take_le' _ _)
theorem stay_le (p : Se → Bool) (l : List Se) (k : Nat) : (stay p (l.take k)).length ≤ l.length := by
  unfold stay
  exact Nat.le_trans (List.length_filter_le _ _) (List.length_take_le' _ _)

theorem ownsRow_form {W : World} {B : Nat} {e : TypeId} {size : Nat} {v : Value} {n : Nat} {xs : List Value} (h : W.ownsRow B e size v n xs) : ∃ a n c, v = .slice a n c := by
  rcases h.2 with ⟨rfl, _⟩ | ⟨g, cap, cur, rfl, _⟩
  · exact ⟨_, _, _, rfl⟩
  · exact ⟨_, _, _, rfl⟩

theorem ownsRow_base {W : World} {B B' : Nat} {e : TypeId} {size : Nat} {v : Value} {n : Nat} {xs : List Value} (h : W.ownsRow B e size v n xs) (hB : B' ≤ B) : W.ownsRow B' e size v n xs := by
  refine ⟨h.1, ?_⟩
  rcases h.2 with h2 | ⟨g, cap, cur, rfl, hg, r⟩
  · exact .inl h2
  · exact .inr ⟨g, cap, cur, rfl, Nat.le_trans hB hg, r⟩

/-- Behind the first loop the sessions that stay are the table's. -/
theorem Half.table (h : Tab w F t l last U sl M L clock) {p : Se → Bool} {gv lv : Value} {wr : World} (hh : Half w p l l.length gv lv wr) :
    Tab (wr.setCell ⟨t, 0, none⟩ lv) (fun k => F k ∨ lv.ownBlock = some k) t (stay p l) last U lv M L clock := by
  have h1 := h.same hh.same
  have hl := hh.left
  rw [List.take_length] at hl
  have hne : ∀ g, lv.ownBlock = some g → g ≠ t := by
    rintro g hg rfl
    have := (hl.lt g hg).1
    have := h.lt
    omega
  refine ⟨?_, ?_, ?_, h.users, .inl h.inT, .inl h.inM, fun g hg => .inr hg, ?_⟩
  · rw [heap_setCell_at h1.heap]; simp
  · exact ownsRow_keep (ownsRow_base hl (Nat.zero_le _)) fun g hg => Below.heap_setCell _ _ _ _ (hne g hg)
  · exact h1.map.later (Below.heap_setCell _ _ _ _ h.ne.symm)
  · intro k hk
    rw [size_setCell]
    rcases hk with hk | hk
    · exact h1.old k hk
    · exact (hl.lt k hk).2

def sweepL (L0 : List En) (l : List Se) (seen : Array Nat) : List En := L0.filter fun e => !seen.contains e.b || l.any (hasAt e.c e.s)

/-- In the midst of the second loop: W1 is the world at its begin, r the iterator. -/
structure Sweep (W1 : World) (F' : Nat → Prop) (t : Nat) (l : List Se) (last : Int) (sl : Value) (M : Nat) (L0 : List En) (clock r : Nat) (seen : Array Nat) (wr : World) : Prop where
  iter : IterAt wr r M clock seen
  tab : Tab wr F' t l last (look (sweepL L0 l seen)) sl M (sweepL L0 l seen) clock
  chg : Chg (fun k => k = M) W1 wr
  new : ∀ k, F' k → k ≠ r
  late : W1.heap.size ≤ r

def seenOf (w : World) (r : Nat) : Array Nat := match w.heap[r]? with | some (.mapIter _ _ seen _) => seen | _ => #[]

theorem Sweep.seen_eq {W1 : World} {F' : Nat → Prop} {L0 : List En} {r : Nat} {seen : Array Nat} {wr : World} (h : Sweep W1 F' t l last sl M L0 clock r seen wr) : seenOf wr r = seen := by
  have : wr.heap[r]? = _ := h.iter
  simp [seenOf, this]

theorem left_kept (L0 : List En) (q : En → Bool) (seen : Array Nat) : leftOf (L0.filter fun e => !seen.contains e.b || q e) seen = leftOf L0 seen := by
  unfold leftOf
  rw [List.filter_filter]
  congr 1
  funext e
  cases h : seen.contains e.b <;> simp

theorem left_less (L0 : List En) (seen : Array Nat) {e : En} (he : e ∈ leftOf L0 seen) : (leftOf L0 (seen.push e.b)).length < (leftOf L0 seen).length := by
  have h1 : leftOf L0 (seen.push e.b) = (leftOf L0 seen).filter (fun x => !(x.b == e.b)) := by
    unfold leftOf
    rw [List.filter_filter]
    congr 1
    funext x
    rw [Array.contains_push]
    cases h2 : (x.b == e.b) <;> cases h3 : seen.contains x.b <;> simp [BEq.comm (a := e.b), h2]
  rw [h1]
  rcases Nat.lt_or_ge ((leftOf L0 seen).filter (fun x => !(x.b == e.b))).length (leftOf L0 seen).length with h | h
  · exact h
  · exfalso
    have h2 : (leftOf L0 seen).filter (fun x => !(x.b == e.b)) = leftOf L0 seen := List.Sublist.eq_of_length_le List.filter_sublist h
    rw [List.filter_eq_self] at h2
    have := h2 e he
    simp at this

theorem drop_eq {L0 : List En} (q : En → Bool) {seen : Array Nat} (hk : L0.Pairwise fun a b => ¬ (a.c = b.c ∧ a.s = b.s)) (hb : L0.Pairwise fun a b => a.b ≠ b.b) {e : En} (he : e ∈ L0) (hn : seen.contains e.b = false) :
    (q e = false → dropKey (L0.filter fun x => !seen.contains x.b || q x) e.c e.s = L0.filter fun x => !(seen.push e.b).contains x.b || q x) ∧
    (q e = true → (L0.filter fun x => !seen.contains x.b || q x) = L0.filter fun x => !(seen.push e.b).contains x.b || q x) := by
  have key : ∀ x ∈ L0, x.b = e.b → x = e := by
    intro x hx hxe
    obtain ⟨i, hi, rfl⟩ := List.getElem_of_mem hx
    obtain ⟨j, hj, rfl⟩ := List.getElem_of_mem he
    rw [List.pairwise_iff_getElem] at hb
    rcases Nat.lt_trichotomy i j with h | h | h
    · exact absurd hxe (hb i j hi hj h)
    · subst h; rfl
    · exact absurd hxe.symm (hb j i hj hi h)
  have key2 : ∀ x ∈ L0, x.c = e.c → x.s = e.s → x = e := by
    intro x hx hc hs
    obtain ⟨i, hi, rfl⟩ := List.getElem_of_mem hx
    obtain ⟨j, hj, rfl⟩ := List.getElem_of_mem he
    rw [List.pairwise_iff_getElem] at hk
    rcases Nat.lt_trichotomy i j with h | h | h
    · exact absurd ⟨hc, hs⟩ (hk i j hi hj h)
    · subst h; rfl
    · exact absurd ⟨hc.symm, hs.symm⟩ (hk j i hj hi h)
  constructor
  · intro hq
    unfold dropKey
    rw [List.filter_filter]
    apply List.filter_congr
    intro x hx
    rw [Array.contains_push]
    by_cases hxe : x = e
    · subst hxe
      simp [hq, En.at]
    · have h1 : (e.b == x.b) = false := by
        rw [beq_eq_false_iff_ne]; intro h; exact hxe (key x hx h.symm)
      have h2 : En.at e.c e.s x = false := by
        simp only [En.at, Bool.and_eq_false_iff, beq_eq_false_iff_ne]
        by_cases h3 : x.c = e.c
        · exact .inr fun h4 => hxe (key2 x hx h3 h4)
        · exact .inl h3
      simp [h1, h2, BEq.comm (a := x.b)]
  · intro hq
    apply List.filter_congr
    intro x hx
    rw [Array.contains_push]
    by_cases hxe : x = e
    · subst hxe
      simp [hq]
    · have h1 : (e.b == x.b) = false := by
        rw [beq_eq_false_iff_ne]; intro h; exact hxe (key x hx h.symm)
      have h1' : (x.b == e.b) = false := by rw [BEq.comm]; exact h1
      rw [h1', Bool.or_false]

theorem look_filter (L0 : List En) (l : List Se) (c s : Int) : look (L0.filter fun e => l.any (hasAt e.c e.s)) c s = if l.any (hasAt c s) = true then look L0 c s else none := by
  unfold look
  rw [List.find?_filter]
  by_cases h : l.any (hasAt c s) = true
  · rw [if_pos h]
    congr 2
    funext e
    cases he : En.at c s e
    · simp
    · simp only [En.at, Bool.and_eq_true, beq_iff_eq] at he
      simp [he.1, he.2, h]
  · rw [if_neg h, List.find?_eq_none.2]
    · rfl
    · intro e _
      simp only [Bool.and_eq_true, decide_eq_true_eq, not_and]
      intro h1 h2
      simp only [En.at, Bool.and_eq_true, beq_iff_eq] at h2
      rw [h2.1, h2.2] at h1
      exact h h1

theorem next_list {P : Program} {w w' : World} {ops : Array Oper} {rest : List Oper} {o : Oper} {a : Act} {Q : Exit → Act → World → Prop} (hg : o.guard = none) (it : Operand) (hop : o.op = Op.next it false) {x v : Value} (hit : a.eval it = x)
    (hrun : (Instr.next x false o.type).run P w = .ok v w') (hK : wpList P ops Q rest (a.put o.dst v) w') : wpList P ops Q (o :: rest) a w := by
  refine wpList_plain hg fun K' hK' => ?_
  unfold Oper.wp
  simp [execOp, hop, hit, hrun, Result.andThen]
  exact hK' _ _ hK

theorem Sweep.turn {W1 : World} {F' : Nat → Prop} {L0 : List En} {r : Nat} {seen : Array Nat} {wr W W' : World} {e : En} (h : Sweep W1 F' t l last sl M L0 clock r seen wr) (hi : IterAt W r M clock (seen.push e.b))
    (hc : Chg (fun k => k = r) wr W) (hs : Same W W') (hT : Tab W' F' t l last (look (sweepL L0 l (seen.push e.b))) sl M (sweepL L0 l (seen.push e.b)) clock) :
    Sweep W1 F' t l last sl M L0 clock r (seen.push e.b) W' :=
  ⟨(hs.block r (lt_of_heap hi) (fun h => h)).trans hi, hT, (h.chg.trans hc (fun k hk => by subst hk; exact .inr h.late)).trans hs (fun _ h => h.elim), h.new, h.late⟩

theorem Sweep.turn2 {W1 : World} {F' : Nat → Prop} {L0 : List En} {r : Nat} {seen : Array Nat} {wr W W3 W' : World} {e : En} (h : Sweep W1 F' t l last sl M L0 clock r seen wr) (hi : IterAt W r M clock (seen.push e.b))
    (hc : Chg (fun k => k = r) wr W) (hs : Same W W3) (hm : Chg (fun k => k = M) W3 W') (hT : Tab W' F' t l last (look (sweepL L0 l (seen.push e.b))) sl M (sweepL L0 l (seen.push e.b)) clock) :
    Sweep W1 F' t l last sl M L0 clock r (seen.push e.b) W' := by
  have hi3 : W3.heap[r]? = _ := (hs.block r (lt_of_heap hi) (fun h => h)).trans hi
  exact ⟨(hm.block r (lt_of_heap hi3) (fun e => h.new M hT.inM e.symm)).trans hi3, hT, ((h.chg.trans hc (fun k hk => by subst hk; exact .inr h.late)).trans hs (fun _ h => h.elim)).trans hm (fun k hk => .inl hk), h.new, h.late⟩

theorem Sweep.gone {W1 : World} {F' : Nat → Prop} {L0 : List En} {r : Nat} {seen : Array Nat} {wr : World} (h : Sweep W1 F' t l last sl M L0 clock r seen wr) (hl : leftOf L0 seen = []) {U : Int → Int → Option Int} (hU : ∀ c s, look L0 c s = U c s) :
    Tab wr F' t l last (trimU l U) sl M (sweepL L0 l seen) clock := by
  have e1 : (sweepL L0 l seen) = L0.filter fun e => l.any (hasAt e.c e.s) := by
    unfold sweepL
    apply List.filter_congr
    intro x hx
    have : seen.contains x.b = true := by
      cases hc : seen.contains x.b with
      | true => rfl
      | false =>
        exfalso
        have : x ∈ leftOf L0 seen := List.mem_filter.2 ⟨hx, by rw [hc]; rfl⟩
        rw [hl] at this
        cases this
    rw [this]; rfl
  exact { h.tab with users := fun c s => by rw [e1, look_filter]; unfold trimU; rw [hU] }

def ClosesPost (w : World) (F : Nat → Prop) (t : Nat) (l : List Se) (last : Int) (U : Int → Int → Option Int) (p : Se → Bool) (e : Ending) (w' : World) : Prop :=
  ∃ gv F' sl M L clock, e = .returned gv ∧ Tab w' F' t (stay p l) last (trimU (stay p l) U) sl M L clock ∧ Chg F w w' ∧ (∀ k, F' k → F k ∨ w.heap.size ≤ k) ∧
    w'.ownsRow w.heap.size 3 1 gv (goneOf p l).length (ints (goneOf p l)) ∧ ∀ k, gv.ownBlock = some k → ¬ F' k

set_option maxHeartbeats 4000000 in
theorem closes_calls (h : Tab w F t l last U sl M L clock) (hlen : l.length < 100) {fid : Nat} {caps : Array Value} {p : Se → Bool} (hf : Answers fid caps p w) :
   Calls Try.prog 30 #[.pointer (some ⟨t, 0, none⟩), .func (.func fid) #[] caps] w (ClosesPost w F t l last U p) := by
  obtain ⟨hcf, hf⟩ := hf
  have HF := hid hf
  have h0 := h.sl_cell
  obtain ⟨a, cap, rfl, hlc, hcm, hrow⟩ := h.slice
  have hts := h.lt
  have HR := hid hrow
  have H := hid h
  obtain ⟨i3, hi3, hz3, hs3, hb3⟩ := info_parts Try.info3
  obtain ⟨i59, hi59, hz59, hs59, hb59⟩ := info_parts Try.info59
  clear h hrow hf
  go_enter Try.func30, Try.ntmps30
  go_wp2
  go_loopw [5, 6, 8, 17] (fun gv lv pv i wr => ∃ k : Nat, k ≤ l.length ∧ i = .int .i64 k ∧ Half w p l k gv lv wr) (fun _ _ _ i _ => l.length - (intOf i).toNat)
  case atStart => exact ⟨0, Nat.zero_le _, rfl, Chg.refl _ _, by simpa [goneOf, ints] using World.ownsRow_nil w w.heap.size 3 1, by simpa [stay, seRow] using World.ownsRow_nil w w.heap.size 59 4⟩
  case round =>
    obtain ⟨k, hk, rfl, hh⟩ := hrel
    have HH := hid hh
    clear hh
    by_cases hlt : k < l.length
    · rcases HR.out with ⟨_, rfl⟩ | ⟨g, rfl, hg, hgt, _, hcells⟩
      · simp at hlt
      obtain ⟨c0, c1, c2, c3⟩ := hcells k hlt
      rw [← HH.out.same.cell (by exact hg) (fun h => h)] at c0 c1 c2 c3
      clear hcells
      go_wp2_with fail
      refine (HF.out l[k] _ (HH.out.same.alloc _)).mono ?_
      rintro e w' ⟨rfl, hs'⟩
      have HN := hid hs'.new
      have S' := hid hs'
      cases hp : p l[k] with
      | true =>
        have c4 := cell_of_heap HN.out 0
        simp at c4
        have HA := hid (fun X => HH.out.later (((Chg.refl _ wr).alloc _).trans (hs'.alloc X) (fun _ h => h.elim)))
        have hB := hid (fun X : Obj => show w.heap.size ≤ (w'.alloc X).heap.size from Nat.le_trans HH.out.same.size (Nat.le_trans ((Chg.refl (fun _ => False) wr).alloc _).size (hs'.alloc X).size))
        have HG := goneOf_le p l k
        clear hs'
        go_wp2_with (at_builtin; refine push_list _ rfl (.tmp 24) (.tmp 27) 37 rfl 3 i3 _ 1 8 Try.underlying37 hi3 hz3 hs3 hb3 rfl (by decide) w.heap.size (hB.out _) _ _ _ rfl (HA.out _).gone w'.heap.size [.int .i64 l[k].h] rfl (heap_alloc_new _ _) rfl (ints_oneCell .i64 [l[k].h]) ?c1 ?c2 ?_)
        case c1 => unfold maxLen; omega
        case c2 => omega
        intro g2 cap2 W2 hown2 hc2 hat2 hlt2
        have HH2 := hid ((HA.out _).go hlt hp hown2 hc2)
        clear hown2 hc2 hat2 hlt2
        go_wp2_with fail
        go_roundw
        case rel => exact ⟨k + 1, by omega, by go_num, HH2.out⟩
        case measure => simp [intOf]; omega
      | false =>
        have c40 := cell_of_heap HN.out 0
        have c41 := cell_of_heap HN.out 1
        have c42 := cell_of_heap HN.out 2
        have c43 := cell_of_heap HN.out 3
        simp at c40 c41 c42 c43
        have HA := hid (fun X => HH.out.later (((Chg.refl _ wr).alloc _).trans (hs'.alloc X) (fun _ h => h.elim)))
        have hB := hid (fun X : Obj => show w.heap.size ≤ (w'.alloc X).heap.size from Nat.le_trans HH.out.same.size (Nat.le_trans ((Chg.refl (fun _ => False) wr).alloc _).size (hs'.alloc X).size))
        have HG := stay_le p l k
        clear hs'
        go_wp2_with (at_builtin; refine push_list _ rfl (.tmp 29) (.tmp 31) 52 rfl 59 i59 _ 4 32 Try.underlying52 hi59 hz59 hs59 hb59 rfl (by decide) w.heap.size (hB.out _) _ _ _ rfl (HA.out _).left w'.heap.size (Se.cells l[k]) rfl (heap_alloc_new _ _) rfl (by intro u hu; simp [Se.cells] at hu; rcases hu with rfl | rfl | rfl | rfl <;> rfl) ?d1 ?d2 ?_)
        case d1 => unfold maxLen; omega
        case d2 => omega
        intro g2 cap2 W2 hown2 hc2 hat2 hlt2
        have HH2 := hid ((HA.out _).st hlt hp hown2 hc2)
        clear hown2 hc2 hat2 hlt2
        go_wp2_with fail
        go_roundw
        case rel => exact ⟨k + 1, by omega, by go_num, HH2.out⟩
        case measure => simp [intOf]; omega
    · have hkl : k = l.length := by omega
      subst hkl
      obtain ⟨la, ln, lc, hlv⟩ := ownsRow_form HH.out.left
      subst hlv
      have hT := HH.out.table H.out
      have HT := hid hT
      have c0 := (H.out.same HH.out.same).sl_cell
      have f0 := frozen_of_heap (H.out.same HH.out.same).heap 0
      have c2 := hT.map_cell
      have hrg := run_range hT.map
      have ht1 := hT.lt
      clear hT
      go_wp2_with fail
      have hW1 : Hid (Chg F w (wr.setCell ⟨t, 0, none⟩ (.slice la ln lc))) := Chg.setCell HH.out.same.same (.inl H.out.inT) _
      have hgr : Hid ((wr.setCell ⟨t, 0, none⟩ (.slice la ln lc)).ownsRow w.heap.size 3 1 _ _ _) := ownsRow_keep HH.out.gone fun g hg => Below.heap_setCell _ _ _ _ (by rintro rfl; have := (HH.out.gone.lt _ hg).1; have := H.out.lt; omega)
      rw [List.take_length] at hgr
      have hgn : Hid (∀ k, Value.ownBlock _ = some k → ¬ (F k ∨ (Value.slice la ln lc).ownBlock = some k)) := fun k hk hf => by
        rcases hf with hf | hf
        · have := (HH.out.gone.lt k hk).1; have := H.out.old k hf; omega
        · exact rows_ne HH.out.left HH.out.gone (by decide) k hf hk
      have hFg : Hid (∀ k, (F k ∨ (Value.slice la ln lc).ownBlock = some k) → F k ∨ w.heap.size ≤ k) := fun k hk => by
        rcases hk with hk | hk
        · exact .inl hk
        · exact .inr (HH.out.left.lt k hk).1
      have hst : Hid (Sweep (wr.setCell ⟨t, 0, none⟩ (.slice la ln lc)) (fun k => F k ∨ (Value.slice la ln lc).ownBlock = some k) t (stay p l) last (.slice la ln lc) M L clock wr.heap.size #[] ((wr.setCell ⟨t, 0, none⟩ (.slice la ln lc)).alloc (.mapIter (some M) clock #[] clock))) := by
        have e1 : sweepL L (stay p l) #[] = L := by
          unfold sweepL
          rw [List.filter_eq_self]; intro a _; simp
        refine ⟨?_, ?_, (Chg.refl _ _).alloc _, fun k hk => ?_, Nat.le_of_eq (size_setCell _ _ _)⟩
        · have := heap_alloc_new (wr.setCell ⟨t, 0, none⟩ (.slice la ln lc)) (.mapIter (some M) clock #[] clock)
          rw [size_setCell] at this
          exact this
        · rw [e1]
          exact { HT.out.same ((Chg.refl _ _).alloc _) with users := fun _ _ => rfl }
        · have := HT.out.old k hk; rw [size_setCell] at this; omega
      clear hrg ht1 c0 f0 c2
      generalize hrr : wr.heap.size = rr at *
      clear hrr
      generalize hWW : wr.setCell ⟨t, 0, none⟩ (.slice la ln lc) = W1 at *
      clear hWW
      go_loopw [9] (fun x wr => ∃ seen, Sweep W1 (fun k => F k ∨ (Value.slice la ln lc).ownBlock = some k) t (stay p l) last (.slice la ln lc) M L clock rr seen wr) (fun _ wr => (leftOf L (seenOf wr rr)).length)
      case atStart => exact ⟨#[], hst.out⟩
      case round =>
        obtain ⟨seen, hsw⟩ := hrel
        have HSW := hid hsw
        have hseen := hsw.seen_eq
        have SE := hid hseen
        rcases run_next hsw.iter hsw.tab.map 0 with ⟨hl0, hrun⟩ | ⟨e, W, he, hrun, hi2, hc2, hsz⟩
        · have HL := hid hl0
          have HRUN := hid hrun
          clear hl0 hseen hsw hrun
          go_wp2_with (at_next; refine next_list rfl _ rfl rfl HRUN.out ?_)
          go_ret
          have hT' := HSW.out.gone (by have := HL.out; unfold sweepL at this; rw [left_kept] at this; exact this) H.out.users
          exact ⟨_, _, _, _, _, _, rfl, hT', hW1.out.trans HSW.out.chg (fun k hk => .inl (by rw [hk]; exact H.out.inM)), hFg.out, ownsRow_keep hgr.out fun g hg => HSW.out.chg.block g (hgr.out.lt g hg).2 (fun hk => hgn.out g hg (.inl (by rw [hk]; exact H.out.inM))), hgn.out⟩
        · have he0 : e ∈ leftOf L seen := by unfold sweepL at he; rw [left_kept] at he; exact he
          have heL : e ∈ sweepL L (stay p l) seen := (List.mem_filter.1 he).1
          have hTW : Tab W _ t _ last _ _ M _ clock := hsw.tab.keep hc2 (fun k hk hr => hsw.new k hk hr)
          have hen := run_entry hi2 hTW.map heL
          unfold keyV at hrun hen
          have HTW := hid hTW
          have HI2 := hid hi2
          have HC2 := hid hc2
          have HRUN := hid hrun
          clear hseen hsw hi2 hc2 hTW hrun hsz
          go_wp2_with (at_next; refine next_list rfl _ rfl rfl HRUN.out ?_)
          refine (open_calls (HTW.out.same ((Chg.refl _ W).alloc _)) e.c e.s).mono ?_
          rintro e3 W3 ⟨rfl, hs3⟩
          have S3 := hid (((Chg.refl (fun _ => False) W).alloc _).trans hs3 (fun _ h => h.elim))
          have HN3 := hid hs3.new
          clear hs3
          have heL0 : e ∈ L := (List.mem_filter.1 heL).1
          have hns : seen.contains e.b = false := by have := (List.mem_filter.1 he0).2; simpa using this
          have hdrop : ((stay p l).any (hasAt e.c e.s) = false → dropKey (sweepL L (stay p l) seen) e.c e.s = sweepL L (stay p l) (seen.push e.b)) ∧ ((stay p l).any (hasAt e.c e.s) = true → sweepL L (stay p l) seen = sweepL L (stay p l) (seen.push e.b)) := drop_eq (fun x => (stay p l).any (hasAt x.c x.s)) H.out.map.keys H.out.map.borns heL0 hns
          have HD := hid hdrop
          have HE0 := hid he0
          clear hdrop heL0 hns he0 he heL
          cases ho : (stay p l).any (hasAt e.c e.s) with
          | true =>
            have hT3 := HTW.out.same S3.out
            have eq3 := HD.out.2 ho
            rw [eq3] at hT3
            have HT3 := hid hT3
            clear hT3 eq3
            go_wp2_with fail
            go_roundw
            case rel => exact ⟨seen.push e.b, HSW.out.turn HI2.out HC2.out S3.out { HT3.out with users := fun _ _ => rfl }⟩
            case measure =>
              rw [SE.out, (HSW.out.turn HI2.out HC2.out S3.out { HT3.out with users := fun _ _ => rfl }).seen_eq]
              exact left_less L seen HE0.out
          | false =>
            have c0 := cell_of_heap HN3.out 0
            have c1 := cell_of_heap HN3.out 1
            have c2 := (HTW.out.same S3.out).map_cell
            simp at c0 c1
            go_wp2_with fail
            go_still_tail 5, (by kernel_rfl)
            have hT3 := HTW.out.same S3.out.drew
            have hd := run_del hT3.map e.c e.s 0
            have hrun3 := hd.1
            have hTT := hT3.turn (U' := look _) hd.2 (fun _ _ => rfl)
            have eq3 := HD.out.1 ho
            unfold keyV at hrun3
            rw [eq3] at hTT hrun3
            have HTT := hid hTT
            have HC4 := hid (putObj_chg W3.drew M (entsOf (sweepL L (stay p l) (seen.push e.b)) clock))
            clear hTT hd hT3 eq3
            go_wp2_with fail
            go_roundw
            case rel => exact ⟨seen.push e.b, HSW.out.turn2 HI2.out HC2.out S3.out.drew HC4.out HTT.out⟩
            case measure =>
              rw [SE.out, (HSW.out.turn2 HI2.out HC2.out S3.out.drew HC4.out HTT.out).seen_eq]
              exact left_less L seen HE0.out
end
end Go.Proofs.Ytlfdcfgpbigjdaa
