/- The table of sessions in memory, and its map of logins: what is read and written. -/
import Derived.Test.YtlfdcfgpbigjdaaChecked
import Derived.Test.YtlfdcfgpbigjdaaBase
import Derived.Maps.RangeWalk
namespace Go.Proofs.Ytlfdcfgpbigjdaa
set_option linter.unusedVariables false
set_option linter.unusedSimpArgs false
open Go.RowKit

/-- An entry of the map of logins. -/
structure En where
  c : Int
  s : Int
  u : Int
  b : Nat

def keyV (c s : Int) : Value := .agg #[.int .i64 c, .int .i64 s]
def En.me (e : En) : MapEntry := { key := keyV e.c e.s, val := .int .i64 e.u, born := e.b }
def En.at (c s : Int) (e : En) : Bool := e.c == c && e.s == s
def look (L : List En) (c s : Int) : Option Int := (L.find? (En.at c s)).map En.u

theorem fields56 : (Try.prog.fieldsOf 56).toList = [⟨"conn", 3, 0, false, "", "bailey/sessions", 0⟩, ⟨"slot", 3, 1, false, "", "bailey/sessions", 8⟩] := by kernel_rfl
theorem equal56 (a b c d : Int) (w : World) : (Op.equal 56 (keyV a b) (keyV c d)).run Try.prog w = .ok (a == c && b == d) w := by
  unfold Op.equal keyV
  rw [show Op.maxDepth = 9999 + 1 from rfl, run_equalIn_struct w 9999 56 _ _ (by kernel_rfl) (by kernel_rfl), fields56]
  have h1 : ∀ (x y : Int) (w : World), (Op.equalIn 9999 3 (.int .i64 x) (.int .i64 y)).run Try.prog w = .ok (x == y) w := fun x y w => run_equalIn_int (P := Try.prog) w 9998 3 .i64 .i64 x y Try.underlying3
  have p1 : ∀ (x y : Int) (w : World), (part 3 #[.int .i64 x, .int .i64 y] 0).run Try.prog w = .ok (.int .i64 x) w := by intros; kernel_rfl
  have p2 : ∀ (x y : Int) (w : World), (part 3 #[.int .i64 x, .int .i64 y] 1).run Try.prog w = .ok (.int .i64 y) w := by intros; kernel_rfl
  simp only [Op.eqFields, ne_eq, String.reduceEq, not_false_eq_true, if_true, Sem.run_bind, p1, p2, Result.andThen_ok, h1]
  cases h : a == c <;> cases h' : b == d <;> simp [h1, p1, p2, h']


/-- The first entry at a key, and its place. -/
theorem find_at (c s : Int) (w : World) : ∀ (L : List En) (i : Nat), (Instr.findAsking 56 (keyV c s) (L.map En.me) i).run Try.prog w = .ok ((L.findIdx? (En.at c s)).bind fun j => (L[j]?).map fun e => (i + j, .int .i64 e.u)) w
  | [], i => by simp [Instr.findAsking]
  | e :: L, i => by
    have he : (Op.equal 56 (keyV c s) e.me.key).run Try.prog w = .ok (c == e.c && s == e.s) w := equal56 c s e.c e.s w
    have hb : (c == e.c && s == e.s) = En.at c s e := by
      unfold En.at
      rw [Bool.eq_iff_iff]
      simp only [Bool.and_eq_true, beq_iff_eq]
      constructor <;> rintro ⟨rfl, rfl⟩ <;> exact ⟨rfl, rfl⟩
    simp only [List.map_cons, Instr.findAsking, Sem.run_bind, he, Result.andThen_ok, Sem.run_ite, hb]
    by_cases h : En.at c s e = true
    · simp [h, List.findIdx?_cons, En.me]
    · simp only [h, List.findIdx?_cons]
      rw [if_neg (by simp), find_at c s w L (i + 1)]
      congr 1
      cases hf : L.findIdx? (En.at c s) with
      | none => simp [hf]
      | some j => simp [Nat.add_assoc, Nat.add_comm 1 j]

theorem find_key (c s : Int) (w : World) (L : List En) : (Instr.findKey 56 (keyV c s) (L.map En.me)).run Try.prog w = .ok ((L.findIdx? (En.at c s)).bind fun j => (L[j]?).map fun e => (j, .int .i64 e.u)) w := by
  have hn : ∀ (L : List En), (Instr.findNow (.struct (Try.prog.fieldsOf 56)) (keyV c s) (L.map En.me) 0) = none ∨ L = [] := by
    intro L
    cases L with
    | nil => exact .inr rfl
    | cons e L => exact .inl rfl
  unfold Instr.findKey
  have hu : (underlying 56).run Try.prog w = .ok (.struct (Try.prog.fieldsOf 56)) w := run_underlying (by kernel_rfl) w
  simp only [Sem.run_bind, hu, Result.andThen_ok]
  rcases hn L with h | rfl
  · rw [h]
    have := find_at c s w L 0
    simpa using this
  · simp [Instr.findNow]


theorem findIdx_find (p : En → Bool) : ∀ (L : List En), (L.findIdx? p).bind (fun j => (L[j]?).map fun e => (j, Value.int .i64 e.u)) = (L.findIdx? p).bind (fun j => (L.find? p).map fun e => (j, Value.int .i64 e.u)) := by
  intro L
  cases h : L.findIdx? p with
  | none => rfl
  | some j =>
    obtain ⟨hj, hp, hlt⟩ := List.findIdx?_eq_some_iff_getElem.1 h
    have : L.find? p = some L[j] := by
      rw [List.find?_eq_some_iff_getElem]
      exact ⟨hp, j, hj, rfl, fun k hk => by simpa using hlt k hk⟩
    simp [this, hj]

/-- The map's object. -/
def entsOf (L : List En) (clock : Nat) : Obj := .map (L.map En.me).toArray clock

/-- Block M is the map of logins L, no key twice. -/
structure MapAt (w : World) (M : Nat) (L : List En) (clock : Nat) : Prop where
  heap : w.heap[M]? = some (entsOf L clock)
  keys : L.Pairwise fun a b => ¬ (a.c = b.c ∧ a.s = b.s)
  borns : L.Pairwise fun a b => a.b ≠ b.b
  young : ∀ e ∈ L, e.b < clock

theorem checkKey56 (em : Bool) (c s : Int) (w : World) : (Instr.checkKey em 10000 56 (keyV c s)).run Try.prog w = .ok () w := by kernel_rfl
theorem under51 (w : World) : (underlying 51).run Try.prog w = .ok (.map 56 3) w := run_underlying Try.underlying51 w
theorem zero3 (w : World) : (zeroValue 3).run Try.prog w = .ok (.int .i64 0) w := by kernel_rfl

theorem run_look {w : World} {M : Nat} {L : List En} {clock : Nat} (h : MapAt w M L clock) (c s : Int) :
    (Instr.lookup 51 (.map (some M)) (keyV c s) true).run Try.prog w = .ok (.tuple #[.int .i64 ((look L c s).getD 0), .bool (look L c s).isSome]) w := by
  have hg : (getObj M).run Try.prog w = .ok (.map (L.map En.me).toArray clock) w := by simp [getObj, h.heap, Sem.run, entsOf]
  unfold Instr.lookup
  simp only [Sem.run_bind, under51, Result.andThen_ok, hg, Sem.run_pure, checkKey56, find_key, findIdx_find]
  unfold look
  cases hf : L.findIdx? (En.at c s) with
  | none =>
    have : L.find? (En.at c s) = none := by
      rw [List.findIdx?_eq_none_iff] at hf
      rw [List.find?_eq_none]
      intro x hx; simp [hf x hx]
    simp [this, zero3]
  | some j =>
    obtain ⟨hj, hp, hlt⟩ := List.findIdx?_eq_some_iff_getElem.1 hf
    have : L.find? (En.at c s) = some L[j] := by
      rw [List.find?_eq_some_iff_getElem]
      exact ⟨hp, j, hj, rfl, fun k hk => by simpa using hlt k hk⟩
    simp [this]

theorem look_none {L : List En} {c s : Int} (h : look L c s = none) : L.findIdx? (En.at c s) = none := by
  unfold look at h
  simp only [Option.map_eq_none_iff, List.find?_eq_none] at h
  rw [List.findIdx?_eq_none_iff]
  intro x hx; simpa using h x hx

/-- The world whose block M is another object. -/
def World.putObj (w : World) (M : Nat) (o : Obj) : World := { w with heap := w.heap.setIfInBounds M o }

theorem putObj_heap {w : World} {M : Nat} {o' : Obj} (o : Obj) (h : w.heap[M]? = some o') : (World.putObj w M o).heap[M]? = some o := by
  have := lt_of_heap h
  simp [World.putObj, this]
theorem putObj_size (w : World) (M : Nat) (o : Obj) : (World.putObj w M o).heap.size = w.heap.size := by simp [World.putObj]
theorem putObj_other (w : World) (M : Nat) (o : Obj) {k : Nat} (hk : k ≠ M) : (World.putObj w M o).heap[k]? = w.heap[k]? := by
  simp [World.putObj, Array.getElem?_setIfInBounds, Ne.symm hk]
theorem putObj_chg (w : World) (M : Nat) (o : Obj) : Chg (fun k => k = M) w (World.putObj w M o) :=
  ⟨rfl, rfl, rfl, by simp [World.putObj], fun k _ hn => putObj_other w M o hn⟩

theorem run_setObj {w : World} {M : Nat} {es : Array MapEntry} {n : Nat} (o : Obj) (h : w.heap[M]? = some (.map es n)) : (setObj M o).run Try.prog w = .ok () (World.putObj w M o) := by
  simp [setObj, Sem.run, h, World.putObj]

theorem run_put {w : World} {M : Nat} {L : List En} {clock : Nat} (h : MapAt w M L clock) {c s : Int} (u : Int) (hn : look L c s = none) :
    (Instr.mapUpdate 51 (.map (some M)) (keyV c s) (.int .i64 u)).run Try.prog w = .ok () (World.putObj w M (entsOf (L ++ [En.mk c s u clock]) (clock + 1))) ∧
    MapAt (World.putObj w M (entsOf (L ++ [En.mk c s u clock]) (clock + 1))) M (L ++ [En.mk c s u clock]) (clock + 1) := by
  have hg : (getObj M).run Try.prog w = .ok (.map (L.map En.me).toArray clock) w := by simp [getObj, h.heap, Sem.run, entsOf]
  have hf := look_none hn
  refine ⟨?_, putObj_heap _ h.heap, ?_, ?_, ?_⟩
  · unfold Instr.mapUpdate
    simp only [Sem.run_bind, under51, Result.andThen_ok, hg, Sem.run_pure, checkKey56, find_key, hf]
    simp only [Option.bind_none]
    rw [run_setObj _ h.heap]
    simp [En.me, entsOf]
  · rw [List.pairwise_append]
    refine ⟨h.keys, by simp, fun a ha b hb => ?_⟩
    simp only [List.mem_singleton] at hb
    subst hb
    rintro ⟨rfl, rfl⟩
    rw [List.findIdx?_eq_none_iff] at hf
    have := hf a ha
    simp [En.at] at this
  · rw [List.pairwise_append]
    refine ⟨h.borns, by simp, fun a ha b hb => ?_⟩
    simp only [List.mem_singleton] at hb
    subst hb
    have := h.young a ha
    simp only; omega
  · intro e he
    rcases List.mem_append.1 he with he | he
    · have := h.young e he; omega
    · simp only [List.mem_singleton] at he; subst he; simp

theorem look_put (L : List En) (c s u : Int) (b : Nat) (hn : look L c s = none) (c' s' : Int) : look (L ++ [⟨c, s, u, b⟩]) c' s' = if c' = c ∧ s' = s then some u else look L c' s' := by
  unfold look
  rw [List.find?_append]
  by_cases h : c' = c ∧ s' = s
  · obtain ⟨rfl, rfl⟩ := h
    unfold look at hn
    simp only [Option.map_eq_none_iff] at hn
    simp [hn, En.at]
  · rw [if_neg h]
    have : En.at c' s' ⟨c, s, u, b⟩ = false := by
      simp only [En.at, Bool.and_eq_false_iff, beq_eq_false_iff_ne]
      by_cases h1 : c = c'
      · exact .inr fun h2 => h ⟨h1.symm, h2.symm⟩
      · exact .inl h1
    simp [this]

/-- The list without a key. -/
def dropKey (L : List En) (c s : Int) : List En := L.filter fun e => !En.at c s e

theorem look_drop (L : List En) (c s c' s' : Int) : look (dropKey L c s) c' s' = if c' = c ∧ s' = s then none else look L c' s' := by
  unfold look dropKey
  rw [List.find?_filter]
  by_cases h : c' = c ∧ s' = s
  · obtain ⟨rfl, rfl⟩ := h
    rw [if_pos ⟨rfl, rfl⟩, List.find?_eq_none.2]
    · rfl
    · intro x _; simp
  · rw [if_neg h]
    congr 2
    funext e
    cases he : En.at c' s' e
    · simp
    · simp only [En.at, Bool.and_eq_true, beq_iff_eq] at he
      have : En.at c s e = false := by
        simp only [En.at, Bool.and_eq_false_iff, beq_eq_false_iff_ne]
        by_cases h1 : e.c = c
        · exact .inr fun h2 => h ⟨he.1.symm.trans h1, he.2.symm.trans h2⟩
        · exact .inl h1
      simp [this]

theorem eraseIdx_filter (c s : Int) : ∀ (L : List En), L.Pairwise (fun a b => ¬ (a.c = b.c ∧ a.s = b.s)) → ∀ j, L.findIdx? (En.at c s) = some j → L.eraseIdx j = dropKey L c s
  | [], _, j, h => by simp at h
  | e :: L, hp, j, h => by
    obtain ⟨h1, h2⟩ := List.pairwise_cons.1 hp
    rw [List.findIdx?_cons] at h
    by_cases he : En.at c s e = true
    · rw [if_pos he] at h
      cases h
      simp only [List.eraseIdx_cons_zero, dropKey]
      rw [List.filter_cons_of_neg (by simp [he])]
      symm
      rw [List.filter_eq_self]
      intro a ha
      have := h1 a ha
      simp only [En.at, Bool.and_eq_true, beq_iff_eq] at he
      simp only [En.at, Bool.not_eq_true', Bool.and_eq_false_iff, beq_eq_false_iff_ne]
      by_cases h3 : a.c = c
      · exact .inr fun h4 => this ⟨he.1.trans h3.symm, he.2.trans h4.symm⟩
      · exact .inl h3
    · rw [if_neg he] at h
      cases hf : L.findIdx? (En.at c s) with
      | none => simp [hf] at h
      | some i =>
        simp only [hf, Option.map_some, Option.some.injEq] at h
        subst h
        have := eraseIdx_filter c s L h2 i hf
        simp only [dropKey] at this ⊢
        rw [List.filter_cons_of_pos (by simpa using he)]
        simp [this]

theorem eraseIdx_map {α β : Type} (f : α → β) : ∀ (L : List α) (j : Nat), (L.map f).eraseIdx j = (L.eraseIdx j).map f
  | [], _ => rfl
  | _ :: _, 0 => rfl
  | a :: L, j + 1 => by simp [eraseIdx_map f L j]

theorem drop_sub (L : List En) (c s : Int) : (dropKey L c s).Sublist L := List.filter_sublist

theorem MapAt.of_sub {w w' : World} {M : Nat} {L L' : List En} {clock : Nat} (h : MapAt w M L clock) (hs : L'.Sublist L) (hh : w'.heap[M]? = some (entsOf L' clock)) : MapAt w' M L' clock :=
  ⟨hh, h.keys.sublist hs, h.borns.sublist hs, fun e he => h.young e (hs.subset he)⟩

theorem run_del {w : World} {M : Nat} {L : List En} {clock : Nat} (h : MapAt w M L clock) (c s : Int) (ty : TypeId) :
    (Builtin.delete_ #[51, 56] ty #[.map (some M), keyV c s]).run Try.prog w = .ok (.tuple #[]) (World.putObj w M (entsOf (dropKey L c s) clock)) ∧
    MapAt (World.putObj w M (entsOf (dropKey L c s) clock)) M (dropKey L c s) clock := by
  have hg : (getObj M).run Try.prog w = .ok (.map (L.map En.me).toArray clock) w := by simp [getObj, h.heap, Sem.run, entsOf]
  refine ⟨?_, h.of_sub (drop_sub L c s) (putObj_heap _ h.heap)⟩
  unfold Builtin.delete_
  simp only [List.getElem?_toArray, List.getElem?_cons_zero, List.getElem?_cons_succ, Sem.run_bind, under51, Result.andThen_ok, hg, Sem.run_pure, checkKey56, find_key]
  cases hf : L.findIdx? (En.at c s) with
  | none =>
    have hd : dropKey L c s = L := by
      rw [List.findIdx?_eq_none_iff] at hf
      unfold dropKey
      rw [List.filter_eq_self]
      intro a ha; simp [hf a ha]
    simp only [Option.bind_none]
    rw [Sem.run_bind, run_setObj _ h.heap, hd]
    simp [entsOf]
  | some j =>
    obtain ⟨hj, hp, hlt⟩ := List.findIdx?_eq_some_iff_getElem.1 hf
    have he := eraseIdx_filter c s L h.keys j hf
    simp only [Option.bind_some, List.getElem?_eq_getElem hj, Option.map_some]
    rw [Sem.run_bind, run_setObj _ h.heap]
    simp only [Result.andThen_ok, Sem.run_pure]
    rw [← he]
    congr 3
    simp only [List.eraseIdxIfInBounds_toArray, eraseIdx_map]


/-- r is an iterator over the map in block M; 'seen' are the entries that have come. -/
def IterAt (w : World) (r M clock : Nat) (seen : Array Nat) : Prop := w.heap[r]? = some (.mapIter (some M) clock seen clock)

theorem run_range {w : World} {M : Nat} {L : List En} {clock : Nat} (h : MapAt w M L clock) :
    (Instr.range 51 (.map (some M))).run Try.prog w = .ok (.pointer (some ⟨w.heap.size, 0, none⟩)) (w.alloc (.mapIter (some M) clock #[] clock)) := by
  have hg : (getObj M).run Try.prog w = .ok (.map (L.map En.me).toArray clock) w := by simp [getObj, h.heap, Sem.run, entsOf]
  unfold Instr.range
  simp only [Sem.run_bind, under51, Result.andThen_ok, hg, Sem.run_pure]
  rfl

/-- What is left. -/
def leftOf (L : List En) (seen : Array Nat) : List En := L.filter fun e => !seen.contains e.b

theorem run_next {w : World} {r M : Nat} {L : List En} {clock : Nat} {seen : Array Nat} (hi : IterAt w r M clock seen) (h : MapAt w M L clock) (ty : TypeId) :
    (leftOf L seen = [] ∧ (Instr.next (.pointer (some ⟨r, 0, none⟩)) false ty).run Try.prog w = .ok (.tuple #[.bool false]) w) ∨
    ∃ e W, e ∈ leftOf L seen ∧ (Instr.next (.pointer (some ⟨r, 0, none⟩)) false ty).run Try.prog w = .ok (.tuple #[.bool true, keyV e.c e.s, .int .i64 e.u]) W ∧
      IterAt W r M clock (seen.push e.b) ∧ Chg (fun k => k = r) w W ∧ W.heap.size = w.heap.size := by
  have hg : (getObj M).run Try.prog w = .ok (.map (L.map En.me).toArray clock) w := by simp [getObj, h.heap, Sem.run, entsOf]
  have hr : (getObj r).run Try.prog w = .ok (.mapIter (some M) clock seen clock) w := by simp [getObj, show w.heap[r]? = _ from hi, Sem.run]
  have hall : (!seen.isEmpty && !(L.map En.me).toArray.isEmpty && (L.map En.me).toArray.all (fun e => decide (e.born ≥ clock))) = false := by
    cases L with
    | nil => simp
    | cons e L =>
      have := h.young e (by simp)
      have hn : decide (e.me.born ≥ clock) = false := by simp [En.me]; omega
      simp [hn]
  have hleft : (L.map En.me).toArray.filter (fun e => !seen.contains e.born) = ((leftOf L seen).map En.me).toArray := by
    unfold leftOf
    simp only [List.filter_toArray, List.filter_map]
    rfl
  have hold : ((leftOf L seen).map En.me).toArray.filter (fun e => decide (e.born < clock)) = ((leftOf L seen).map En.me).toArray := by
    simp only [List.filter_toArray]
    congr 1
    rw [List.filter_eq_self]
    intro a ha
    obtain ⟨e, he, rfl⟩ := List.mem_map.1 ha
    have := h.young e (List.mem_filter.1 he).1
    exact decide_eq_true this
  have hnew : ((leftOf L seen).map En.me).toArray.filter (fun e => decide (e.born ≥ clock)) = #[] := by
    simp only [List.filter_toArray]
    rw [List.filter_eq_nil_iff.2]
    intro a ha
    obtain ⟨e, he, rfl⟩ := List.mem_map.1 ha
    have := h.young e (List.mem_filter.1 he).1
    simp [En.me]; omega
  have hrun : ∀ C : Array (Option MapEntry), C = (if ((leftOf L seen).map En.me).toArray.isEmpty then #[none] else #[]) ++ (((leftOf L seen).map En.me).toArray ++ #[]).map some →
     (Instr.next (.pointer (some ⟨r, 0, none⟩)) false ty).run Try.prog w = (do
       match C[← choose (.mapNext C.size)]? with
       | some (some e) =>
         setObj r (.mapIter (some M) clock (seen.push e.born) clock)
         pure (Value.tuple #[.bool true, e.key, e.val])
       | some none => pure (Value.tuple #[.bool false])
       | none => stuck "Next: no such candidate" : Sem Value).run Try.prog w := by
    intro C hC
    unfold Instr.next
    simp only [Sem.run_bind, Result.andThen_ok, hr, hg, Sem.run_ite, hall, hleft, hold, hnew, Bool.false_eq_true, if_false, Sem.run_pure]
    subst hC
    rfl
  rw [hrun _ rfl]
  cases hL : leftOf L seen with
  | nil =>
    left
    refine ⟨rfl, ?_⟩
    simp [choose, Sem.run, Question.forced]
  | cons e0 rest =>
    right
    generalize hl : e0 :: rest = l
    have hpos : 0 < l.length := by rw [← hl]; simp
    have hC : ((if (l.map En.me).toArray.isEmpty then #[none] else #[]) ++ ((l.map En.me).toArray ++ #[]).map some : Array (Option MapEntry)) = (l.map fun e => some e.me).toArray := by
      rw [← hl]; simp
    rw [hC]
    have key : ∀ (j : Nat) (w1 : World), j < l.length → (∀ k : Nat, w1.heap[k]? = w.heap[k]?) → w1.os = w.os → w1.tape = w.tape → w1.output = w.output → w1.heap.size = w.heap.size →
       ∃ e W, e ∈ l ∧ (match (l.map fun e => some e.me).toArray[j]? with
       | some (some e) => do
         setObj r (.mapIter (some M) clock (seen.push e.born) clock)
         pure (Value.tuple #[.bool true, e.key, e.val])
       | some none => pure (Value.tuple #[.bool false])
       | none => stuck "Next: no such candidate" : Sem Value).run Try.prog w1 = .ok (.tuple #[.bool true, keyV e.c e.s, .int .i64 e.u]) W ∧
      IterAt W r M clock (seen.push e.b) ∧ Chg (fun k => k = r) w W ∧ W.heap.size = w.heap.size := by
      intro j w1 hj hh ho ht hu hs
      refine ⟨l[j], World.putObj w1 r (.mapIter (some M) clock (seen.push l[j].b) clock), List.getElem_mem _, ?_, ?_, ?_, ?_⟩
      · have : (l.map fun e => some e.me).toArray[j]? = some (some l[j].me) := by simp [hj]
        simp only [this, Sem.run_bind]
        have hw1 : w1.heap[r]? = some (.mapIter (some M) clock seen clock) := (hh r).trans hi
        have : (setObj r (.mapIter (some M) clock (seen.push l[j].me.born) clock)).run Try.prog w1 = .ok () (World.putObj w1 r (.mapIter (some M) clock (seen.push l[j].b) clock)) := by
          simp [setObj, Sem.run, hw1, World.putObj, En.me]
        rw [this]
        rfl
      · exact putObj_heap _ ((hh r).trans hi)
      · exact ⟨ho, ht, hu, by rw [putObj_size, hs]; exact Nat.le_refl _, fun k _ hn => (putObj_other _ _ _ hn).trans (hh k)⟩
      · rw [putObj_size, hs]
    simp only [Sem.run_bind, choose, Sem.run]
    split
    · obtain ⟨e, W, h1, h2, h3⟩ := key 0 w hpos (fun _ => rfl) rfl rfl rfl rfl
      exact ⟨e, W, h1, h2, h3⟩
    · have hj : (Question.mapNext (l.map fun e => some e.me).toArray.size).cut (w.tape w.drawn (.mapNext (l.map fun e => some e.me).toArray.size)) < l.length := by
        simp only [Question.cut, List.size_toArray, List.length_map]
        exact Nat.mod_lt _ hpos
      obtain ⟨e, W, h1, h2, h3⟩ := key _ { w with drawn := w.drawn + 1 } hj (fun _ => rfl) rfl rfl rfl rfl
      exact ⟨e, W, h1, h2, h3⟩

theorem run_entry {w : World} {r M : Nat} {L : List En} {clock : Nat} {seen : Array Nat} {e : En} (hi : IterAt w r M clock (seen.push e.b)) (h : MapAt w M L clock) (he : e ∈ L) :
    (Instr.entry (.pointer (some ⟨r, 0, none⟩))).run Try.prog w = .ok (.tuple #[keyV e.c e.s, .int .i64 e.u]) w := by
  have hg : (getObj M).run Try.prog w = .ok (.map (L.map En.me).toArray clock) w := by simp [getObj, h.heap, Sem.run, entsOf]
  have hr : (getObj r).run Try.prog w = .ok (.mapIter (some M) clock (seen.push e.b) clock) w := by simp [getObj, show w.heap[r]? = _ from hi, Sem.run]
  have hf : L.find? (fun x => x.me.born == e.b) = some e := by
    have hb := h.borns
    clear hg hr h hi
    induction L with
    | nil => cases he
    | cons x L ih =>
      rw [List.find?_cons]
      obtain ⟨h1, h2⟩ := List.pairwise_cons.1 hb
      rcases List.mem_cons.1 he with rfl | he
      · simp [En.me]
      · have := h1 e he
        have hne : (x.me.born == e.b) = false := by simpa [En.me] using this
        rw [hne]
        exact ih he h2
  have hf' : (L.map En.me).toArray.find? (fun x => x.born == e.b) = some e.me := by
    simp only [List.find?_toArray, List.find?_map]
    show Option.map En.me (L.find? (fun x => x.me.born == e.b)) = _
    rw [hf]; rfl
  unfold Instr.entry
  simp only [Sem.run_bind, Result.andThen_ok, hr, hg, Array.back?_push, Sem.run_ite, Sem.run_pure, bne_self_eq_false, Bool.false_eq_true, if_false]
  rw [hf']
  simp [En.me]

end Go.Proofs.Ytlfdcfgpbigjdaa
