/- General words on worlds: what a call may have changed, and what is kept. -/
import Derived.WalkKit
import Derived.WalkSpells
import Derived.WalkLawsBesides
import Derived.Deep.QuietTactic
import Derived.BigQuiet
import Derived.Deep.AppendLies
import Derived.Deep.RegionLaw
namespace Go.Proofs.Ythmhmgmdajjpmaa
set_option linter.unusedVariables false
set_option linter.unusedSimpArgs false
open Go.RowKit

/-- Of what was there only blocks of F have changed. -/
structure Chg (F : Nat → Prop) (w w' : World) : Prop where
  os : w'.os = w.os
  tape : w'.tape = w.tape
  output : w'.output = w.output
  size : w.heap.size ≤ w'.heap.size
  block : ∀ k, k < w.heap.size → ¬ F k → w'.heap[k]? = w.heap[k]?

/-- Nothing that was there has changed. -/
abbrev Same (w w' : World) : Prop := Chg (fun _ => False) w w'

section
variable {F F1 F2 : Nat → Prop} {w w1 w2 : World}

theorem Chg.refl (F : Nat → Prop) (w : World) : Chg F w w := ⟨rfl, rfl, rfl, Nat.le_refl _, fun _ _ _ => rfl⟩
theorem Chg.trans (h : Chg F w w1) (h1 : Chg F1 w1 w2) (hF : ∀ k, F1 k → F k ∨ w.heap.size ≤ k) : Chg F w w2 :=
  ⟨h1.os.trans h.os, h1.tape.trans h.tape, h1.output.trans h.output, Nat.le_trans h.size h1.size, fun k hk hn =>
    (h1.block k (Nat.lt_of_lt_of_le hk h.size) (fun hf => by rcases hF k hf with h | h; exact hn h; omega)).trans (h.block k hk hn)⟩
theorem Chg.mono (h : Chg F w w1) (hF : ∀ k, F k → k < w.heap.size → F1 k) : Chg F1 w w1 :=
  ⟨h.os, h.tape, h.output, h.size, fun k hk hn => h.block k hk fun hf => hn (hF k hf hk)⟩
theorem Chg.same (h : Same w w1) : Chg F w w1 := h.mono fun _ h => h.elim
theorem Chg.drew (h : Chg F w w1) : Chg F w w1.drew := ⟨h.os, h.tape, h.output, h.size, h.block⟩
theorem Chg.drewN (h : Chg F w w1) (n : Nat) : Chg F w (w1.drewN n) := ⟨h.os, h.tape, h.output, h.size, h.block⟩
theorem Chg.alloc (h : Chg F w w1) (o : Obj) : Chg F w (w1.alloc o) :=
  h.trans (F1 := fun _ => False) ⟨rfl, rfl, rfl, by simp, fun k hk _ => Below.heap_alloc _ _ _ hk⟩ (fun _ h => h.elim)
theorem Chg.setCell (h : Chg F w w1) {p : Addr} (hp : F p.block ∨ w.heap.size ≤ p.block) (u : Value) : Chg F w (w1.setCell p u) :=
  h.trans (F1 := fun k => k = p.block) ⟨rfl, rfl, rfl, by simp [World.setCell], fun k _ hn => Below.heap_setCell _ _ _ _ hn⟩ (fun k hk => by subst hk; exact hp)
theorem Chg.grown {row : Option Nat} (h : Chg F w w1) (hg : w1.grownBy w2 row) (hr : ∀ k, row = some k → F k ∨ w.heap.size ≤ k) : Chg F w w2 :=
  h.trans (F1 := fun k => row = some k) ⟨hg.os, hg.tape, hg.output, hg.size, fun k hk hn => hg.block k hk (fun e => hn e.symm)⟩ hr
theorem Chg.below (h : Chg F w w1) {B : Nat} (hB : B ≤ w.heap.size) (hF : ∀ k, F k → B ≤ k) : Below B w w1 :=
  ⟨h.os, h.tape, h.output, h.size, fun k hk => h.block k (by omega) fun hf => by have := hF k hf; omega⟩
theorem Chg.of_below (h : Below w.heap.size w w1) : Same w w1 :=
  ⟨h.os, h.tape, h.output, h.size, fun k hk _ => h.block k hk⟩
theorem Same.below (h : Same w w1) : Below w.heap.size w w1 := ⟨h.os, h.tape, h.output, h.size, fun k hk => h.block k hk (fun h => h)⟩
theorem Chg.cell (h : Chg F w w1) {p : Addr} (hp : p.block < w.heap.size) (hn : ¬ F p.block) : w1.cell? p = w.cell? p := World.cell?_of_block (w := w) (h.block p.block hp hn)
theorem Chg.frozen (h : Chg F w w1) {p : Addr} (hp : p.block < w.heap.size) (hn : ¬ F p.block) : w1.frozen? p = w.frozen? p := World.frozen?_of_block (w := w) (h.block p.block hp hn)
end

theorem hid {p : Prop} (h : p) : Hid p := h
theorem lt_of_heap {w : World} {k : Nat} {o : Obj} (h : w.heap[k]? = some o) : k < w.heap.size := (Array.getElem?_eq_some_iff.1 h).1
theorem cell_of_heap {w : World} {b : Nat} {c : Array Value} {e : TypeId} {f : Nat × Nat} (h : w.heap[b]? = some (.cells c e f)) (o : Nat) : w.cell? ⟨b, o, none⟩ = c[o]? := by simp [World.cell?, h]
theorem frozen_of_heap {w : World} {b : Nat} {c : Array Value} {e : TypeId} (h : w.heap[b]? = some (.cells c e (0, 0))) (o : Nat) : w.frozen? ⟨b, o, none⟩ = false := by simp [World.frozen?, h]
theorem heap_setCell_at {w : World} {b o : Nat} {c : Array Value} {e : TypeId} {f : Nat × Nat} (h : w.heap[b]? = some (.cells c e f)) (u : Value) : (w.setCell ⟨b, o, none⟩ u).heap[b]? = some (.cells (c.setIfInBounds o u) e f) := by
  simp [World.setCell, Array.getElem?_modify, h]

/-- A row whose block did not change. -/
theorem ownsRow_keep {w w' : World} {base : Nat} {e : TypeId} {size : Nat} {v : Value} {n : Nat} {xs : List Value} (h : w.ownsRow base e size v n xs) (hk : ∀ g, v.ownBlock = some g → w'.heap[g]? = w.heap[g]?) : w'.ownsRow base e size v n xs := by
  obtain ⟨h1, h2⟩ := h
  refine ⟨h1, ?_⟩
  rcases h2 with h2 | ⟨g, cap, cur, rfl, hg, hh, r⟩
  · exact .inl h2
  · exact .inr ⟨g, cap, cur, rfl, hg, by rw [hk g rfl]; exact hh, r⟩


/-- A new block stays what it was laid as. -/
theorem Same.new {w W : World} {o : Obj} (h : Same (w.alloc o) W) : W.heap[w.heap.size]? = some o := by
  rw [h.block w.heap.size (by simp) (fun h => h)]
  exact heap_alloc_new w o


theorem size_setCell (w : World) (a : Addr) (u : Value) : (w.setCell a u).heap.size = w.heap.size := by simp [World.setCell]

/-- 'x.f = append(x.f, v)' at its append, the one element lying in the new block nb: whatever world W, in which block t (the struct) and the row are known. -/
theorem push_step {P : Program} (W : World) {ops : Array Oper} {o : Oper} {a : Act} {K : Act → World → Prop} {Q : Exit → Act → World → Prop} {E : Prop} (hgd : o.guard = none) (s x : Operand) (ty : TypeId)
    (ho : o.op = .call { callee := .builtin .append, args := #[s, x], argTypes := #[ty, ty] })
    (e : TypeId) (i : TypeInfo) (z : Value) (size bytes : Nat) (ht : P.underlying ty = some (.slice e)) (hi : P.info? e = some i) (hz : i.zero = some z)
    (hsize : i.size = size) (hby : i.bytes = bytes) (hzs : z.cells.size = size) (hsz : 0 < size)
    (B : Nat) (hB : B ≤ W.heap.size) (v : Value) (n : Nat) (xs : List Value) (hs : a.eval s = v) (hown : W.ownsRow B e size v n xs) (nb : Nat) (news : List Value)
    (hx : a.eval x = .slice (some ⟨nb, 0, none⟩) 1 1) (hnb : W.heap[nb]? = some (.cells news.toArray e (0, 0))) (hl : news.length = size) (h1 : ∀ u ∈ news, u.oneCell' = true)
    (h63 : n + 1 ≤ maxLen) (hbytes : (n + 1) * bytes ≤ 140737488355328)
    (h : ∀ g cap W', W'.ownsRow B e size (.slice (some ⟨g, 0, none⟩) (n + 1) cap) (n + 1) (xs ++ news) → Chg (fun k => v.ownBlock = some k) W W' → (v.ownBlock = some g ∨ g = W.heap.size) → g < W'.heap.size → K (a.put o.dst (.slice (some ⟨g, 0, none⟩) (n + 1) cap)) W') :
    if Region.wanted o (yielded ops a.tmps) = true then Oper.wp P o a W K Q else E := by
  refine step_append_lies W hgd s x ty ho B e i z size bytes ht hi hz hsize hby hzs hsz v n xs hs hown ⟨nb, 0, none⟩ 1 1 news hx (by omega) ?_ h1 (by omega) h63 hbytes hB _ rfl ?_
  · intro j u hu
    have : (⟨nb, 0, none⟩ : Addr).add j = ⟨nb, j, none⟩ := by unfold Addr.add; split <;> simp_all
    rw [this, cell_of_heap hnb]
    simpa using hu
  · intro g cap W' hown' hgrow hat hlt
    exact h _ _ W' hown' ⟨hgrow.os, hgrow.tape, hgrow.output, hgrow.size, fun k hk hn => hgrow.block k hk (fun e => hn e.symm)⟩ hat hlt

/-- The same at a plain list of operations. -/
theorem push_list {P : Program} (W : World) {ops : Array Oper} {rest : List Oper} {o : Oper} {a : Act} {Q : Exit → Act → World → Prop} (hgd : o.guard = none) (s x : Operand) (ty : TypeId)
    (ho : o.op = .call { callee := .builtin .append, args := #[s, x], argTypes := #[ty, ty] })
    (e : TypeId) (i : TypeInfo) (z : Value) (size bytes : Nat) (ht : P.underlying ty = some (.slice e)) (hi : P.info? e = some i) (hz : i.zero = some z)
    (hsize : i.size = size) (hby : i.bytes = bytes) (hzs : z.cells.size = size) (hsz : 0 < size)
    (B : Nat) (hB : B ≤ W.heap.size) (v : Value) (n : Nat) (xs : List Value) (hs : a.eval s = v) (hown : W.ownsRow B e size v n xs) (nb : Nat) (news : List Value)
    (hx : a.eval x = .slice (some ⟨nb, 0, none⟩) 1 1) (hnb : W.heap[nb]? = some (.cells news.toArray e (0, 0))) (hl : news.length = size) (h1 : ∀ u ∈ news, u.oneCell' = true)
    (h63 : n + 1 ≤ maxLen) (hbytes : (n + 1) * bytes ≤ 140737488355328)
    (h : ∀ g cap W', W'.ownsRow B e size (.slice (some ⟨g, 0, none⟩) (n + 1) cap) (n + 1) (xs ++ news) → Chg (fun k => v.ownBlock = some k) W W' → (v.ownBlock = some g ∨ g = W.heap.size) → g < W'.heap.size → wpList P ops Q rest (a.put o.dst (.slice (some ⟨g, 0, none⟩) (n + 1) cap)) W') :
    wpList P ops Q (o :: rest) a W := by
  refine wpList_append_lies W hgd s x ty ho B e i z size bytes ht hi hz hsize hby hzs hsz v n xs hs hown ⟨nb, 0, none⟩ 1 1 news hx (by omega) ?_ h1 (by omega) h63 hbytes hB _ rfl ?_
  · intro j u hu
    have : (⟨nb, 0, none⟩ : Addr).add j = ⟨nb, j, none⟩ := by unfold Addr.add; split <;> simp_all
    rw [this, cell_of_heap hnb]
    simpa using hu
  · intro g cap W' hown' hgrow hat hlt
    exact h _ _ W' hown' ⟨hgrow.os, hgrow.tape, hgrow.output, hgrow.size, fun k hk hn => hgrow.block k hk (fun e => hn e.symm)⟩ hat hlt

end Go.Proofs.Ythmhmgmdajjpmaa
