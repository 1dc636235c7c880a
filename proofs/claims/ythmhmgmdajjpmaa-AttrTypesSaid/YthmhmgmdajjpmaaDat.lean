/- Attributes and bytes in memory: how they read. -/
import Derived.Test.YthmhmgmdajjpmaaChecked
import Derived.Test.YthmhmgmdajjpmaaBase
import Derived.Laws.BytesArg
import Derived.Deep.RegionHeld3
import Derived.StillTailTactics
namespace Go.Proofs.Ythmhmgmdajjpmaa
set_option linter.unusedVariables false
set_option linter.unusedSimpArgs false
open Go.RowKit

theorem Try.info5 : (Try.prog.info? 5).map (fun i => (i.zero, i.size, i.bytes)) = some (some (.int .u8 0), 1, 1) := by kernel_rfl
theorem Try.info24 : (Try.prog.info? 24).map (fun i => (i.zero, i.size, i.bytes)) = some (some (.agg #[.int .i64 0, .slice none 0 0]), 2, 32) := by kernel_rfl

theorem addr_add (b o j : Nat) : (⟨b, o, none⟩ : Addr).add j = ⟨b, o + j, none⟩ := by unfold Addr.add; split <;> simp_all

def bytes (l : List Int) : List Value := l.map (.int .u8)
theorem bytes_length (l : List Int) : (bytes l).length = l.length := by simp [bytes]

/-- Numbers that are bytes. -/
def Byt (l : List Int) : Prop := ∀ x ∈ l, 0 ≤ x ∧ x < 256

/-- The cells of a slice of bytes. -/
def BCells (w : World) (p : Option Addr) (l : List Int) : Prop :=
  0 < l.length → ∃ b o, p = some ⟨b, o, none⟩ ∧ b < w.heap.size ∧ ∀ i (hi : i < l.length), w.cell? ⟨b, o + i, none⟩ = some (.int .u8 l[i])

/-- A slice that reads as these bytes. -/
def Bs (w : World) (u : Value) (l : List Int) : Prop :=
  ∃ p cap, u = .slice p l.length cap ∧ l.length ≤ cap ∧ cap ≤ maxLen ∧ l.length ≤ 140737488351232 ∧ (p = none → cap = 0) ∧ Byt l ∧ BCells w p l

section
variable {w w' : World} {u : Value} {l : List Int}

theorem BCells.same {p : Option Addr} (h : BCells w p l) (hs : Same w w') : BCells w' p l := by
  intro hl
  obtain ⟨b, o, rfl, hb, hc⟩ := h hl
  exact ⟨b, o, rfl, Nat.lt_of_lt_of_le hb hs.size, fun i hi => by rw [hs.cell (by exact hb) (fun h => h)]; exact hc i hi⟩

theorem Bs.same (h : Bs w u l) (hs : Same w w') : Bs w' u l := by
  obtain ⟨p, cap, e, h1, h2, h3, h4, h5, h6⟩ := h
  exact ⟨p, cap, e, h1, h2, h3, h4, h5, h6.same hs⟩

theorem Bs.byt (h : Bs w u l) : Byt l := by
  obtain ⟨p, cap, e, h1, h2, h3, h4, h5, h6⟩ := h
  exact h5

theorem Bs.nil (w : World) : Bs w (.slice none 0 0) [] :=
  ⟨none, 0, rfl, Nat.le_refl _, Nat.zero_le _, Nat.zero_le _, fun _ => rfl, (fun x hx => by cases hx), fun h => absurd h (Nat.lt_irrefl _)⟩

/-- Bytes in memory of one's own. -/
theorem Bs.own {B : Nat} (h : w.ownsRow B 5 1 u l.length (bytes l)) (hb : Byt l) (hl : l.length ≤ 140737488351232) : Bs w u l := by
  rcases h.2 with ⟨rfl, hn⟩ | ⟨g, cap, cur, rfl, _, hh, hnc, hcm, hcs, htake⟩
  · obtain rfl : l = [] := List.eq_nil_of_length_eq_zero hn
    exact Bs.nil w
  · refine ⟨_, cap, rfl, hnc, hcm, hl, (fun h => by cases h), hb, fun _ => ⟨g, 0, rfl, lt_of_heap hh, fun i hi => ?_⟩⟩
    have h1 : cur.toList[i]? = (bytes l)[i]? := by
      rw [← htake, List.getElem?_take, if_pos (by omega)]
    rw [cell_of_heap hh, Nat.zero_add, ← Array.getElem?_toList, h1]
    simp [bytes, hi]
end

/-- An attribute. -/
structure At where
  t : Int
  v : List Int
  deriving DecidableEq

/-- .. and the slice that its value lies in. -/
structure Av where
  t : Int
  v : List Int
  u : Value

def Av.at (x : Av) : At := ⟨x.t, x.v⟩
def Av.cells (x : Av) : List Value := [.int .i64 x.t, x.u]
def avRow (l : List Av) : List Value := l.flatMap Av.cells

theorem avRow_length (l : List Av) : (avRow l).length = l.length * 2 := by
  induction l with
  | nil => rfl
  | cons x l ih => simp only [avRow, List.flatMap_cons, List.length_append] at ih ⊢; rw [ih]; simp [Av.cells]; omega

theorem avRow_append (l m : List Av) : avRow (l ++ m) = avRow l ++ avRow m := by simp [avRow]

theorem avRow_get : ∀ (l : List Av) (i j : Nat) (hi : i < l.length), j < 2 → (avRow l)[i * 2 + j]? = (l[i].cells)[j]?
  | [], i, j, hi, _ => by simp at hi
  | x :: l, 0, j, _, hj => by
    simp only [avRow, List.flatMap_cons, Nat.zero_mul, Nat.zero_add, List.getElem_cons_zero]
    rw [List.getElem?_append_left (by simp [Av.cells]; omega)]
  | x :: l, i + 1, j, hi, hj => by
    simp only [avRow, List.flatMap_cons, List.getElem_cons_succ]
    rw [List.getElem?_append_right (by simp [Av.cells]; omega)]
    have := avRow_get l i j (by simpa using hi) hj
    rw [← this]
    simp only [avRow]
    congr 1
    simp [Av.cells]; omega

/-- A slice that reads as these attributes. -/
def Ats (w : World) (v : Value) (l : List Av) : Prop :=
  ∃ p cap, v = .slice p l.length cap ∧ l.length ≤ cap ∧ cap ≤ maxLen ∧ (p = none → cap = 0) ∧ (∀ x ∈ l, Bs w x.u x.v) ∧
    (0 < l.length → ∃ b o, p = some ⟨b, o, none⟩ ∧ b < w.heap.size ∧ ∀ i (hi : i < l.length), w.cell? ⟨b, o + i * 2, none⟩ = some (.int .i64 l[i].t) ∧ w.cell? ⟨b, o + i * 2 + 1, none⟩ = some l[i].u)

section
variable {w w' : World} {v : Value} {l : List Av}

theorem Ats.same (h : Ats w v l) (hs : Same w w') : Ats w' v l := by
  obtain ⟨p, cap, e, h1, h2, h3, h4, h5⟩ := h
  refine ⟨p, cap, e, h1, h2, h3, fun x hx => (h4 x hx).same hs, fun hl => ?_⟩
  obtain ⟨b, o, rfl, hb, hc⟩ := h5 hl
  refine ⟨b, o, rfl, Nat.lt_of_lt_of_le hb hs.size, fun i hi => ?_⟩
  rw [hs.cell (by exact hb) (fun h => h), hs.cell (by exact hb) (fun h => h)]
  exact hc i hi

theorem Ats.nil (w : World) : Ats w (.slice none 0 0) [] :=
  ⟨none, 0, rfl, Nat.le_refl _, Nat.zero_le _, fun _ => rfl, (fun x hx => by cases hx), fun h => absurd h (Nat.lt_irrefl _)⟩

theorem Ats.own {B : Nat} (h : w.ownsRow B 24 2 v l.length (avRow l)) (hb : ∀ x ∈ l, Bs w x.u x.v) : Ats w v l := by
  rcases h.2 with ⟨rfl, hn⟩ | ⟨g, cap, cur, rfl, _, hh, hnc, hcm, hcs, htake⟩
  · obtain rfl : l = [] := List.eq_nil_of_length_eq_zero hn
    exact Ats.nil w
  · refine ⟨_, cap, rfl, hnc, hcm, (fun h => by cases h), hb, fun _ => ⟨g, 0, rfl, lt_of_heap hh, fun i hi => ?_⟩⟩
    have key : ∀ j, j < 2 → w.cell? ⟨g, 0 + i * 2 + j, none⟩ = (l[i].cells)[j]? := by
      intro j hj
      rw [cell_of_heap hh, ← avRow_get l i j hi hj, ← htake, List.getElem?_take, if_pos (by omega)]
      simp
    exact ⟨key 0 (by omega), key 1 (by omega)⟩
end

theorem rows_ne {W : World} {B B' : Nat} {e e' : TypeId} {s s' : Nat} {v v' : Value} {n n' : Nat} {xs xs' : List Value} (h : W.ownsRow B e s v n xs) (h' : W.ownsRow B' e' s' v' n' xs') (he : e ≠ e') : ∀ g, v.ownBlock = some g → v'.ownBlock ≠ some g := by
  intro g hg hg'
  rcases h.2 with ⟨rfl, _⟩ | ⟨g1, cap, cur, rfl, _, hh, _⟩
  · cases hg
  · rcases h'.2 with ⟨rfl, _⟩ | ⟨g2, cap', cur', rfl, _, hh', _⟩
    · cases hg'
    · cases hg; cases hg'
      have := hh.symm.trans hh'
      cases this
      exact he rfl

theorem ownsRow_same {w w' : World} {B : Nat} {e : TypeId} {s : Nat} {v : Value} {n : Nat} {xs : List Value} (h : w.ownsRow B e s v n xs) (hs : Same w w') : w'.ownsRow B e s v n xs :=
  ownsRow_keep h fun g hg => hs.block g (h.lt g hg).2 (fun h => h)

theorem ownsRow_base {w : World} {B B' : Nat} {e : TypeId} {s : Nat} {v : Value} {n : Nat} {xs : List Value} (h : w.ownsRow B e s v n xs) (hB : B' ≤ B) : w.ownsRow B' e s v n xs := by
  obtain ⟨h1, h2⟩ := h
  refine ⟨h1, ?_⟩
  rcases h2 with h2 | ⟨g, cap, cur, rfl, hg, r⟩
  · exact .inl h2
  · exact .inr ⟨g, cap, cur, rfl, Nat.le_trans hB hg, r⟩

theorem ownsRow_set {w : World} {B B' : Nat} {e : TypeId} {s : Nat} {v : Value} {n : Nat} {xs : List Value} (h : w.ownsRow B e s v n xs) {p : Addr} (hp : p.block < B) (u : Value) : (w.setCell p u).ownsRow B e s v n xs :=
  ownsRow_keep h fun g hg => Below.heap_setCell _ _ _ _ (by rintro rfl; have := (h.lt _ hg).1; omega)

/-- A struct of two cells that is laid, then written. -/
theorem laid2 {w w1 : World} {o : Obj} (hs : Same (w.alloc o) w1) {e : TypeId} {s : Nat} {v : Value} {n : Nat} {xs : List Value} (h : w1.ownsRow (w.alloc o).heap.size e s v n xs) (i j : Nat) (x y : Value) :
    ((w1.setCell ⟨w.heap.size, i, none⟩ x).setCell ⟨w.heap.size, j, none⟩ y).ownsRow w.heap.size e s v n xs ∧ Same w ((w1.setCell ⟨w.heap.size, i, none⟩ x).setCell ⟨w.heap.size, j, none⟩ y) := by
  have hlt : w.heap.size < (w.alloc o).heap.size := by simp
  have h1 : Same w w1 := ((Chg.refl _ w).alloc o).trans hs (fun _ h => h.elim)
  exact ⟨ownsRow_base (ownsRow_set (B' := 0) (ownsRow_set (B' := 0) h (by exact hlt) _) (by exact hlt) _) (Nat.le_of_lt hlt), (h1.setCell (.inr (Nat.le_refl _)) _).setCell (.inr (Nat.le_refl _)) _⟩

/-- A row that is laid as a literal. -/
theorem laid_row (w : World) (o : Obj) (e : TypeId) (s n : Nat) (xs : List Value) (hx : xs.length = n * s) (hn : n ≤ maxLen) :
    ((w.alloc o).alloc (.cells xs.toArray e)).ownsRow w.heap.size e s (.slice (some ⟨w.heap.size + 1, 0, none⟩) n n) n xs ∧ Same w ((w.alloc o).alloc (.cells xs.toArray e)) := by
  refine ⟨⟨hx, .inr ⟨w.heap.size + 1, n, xs.toArray, rfl, by omega, ?_, Nat.le_refl _, hn, by simpa using hx, by rw [List.take_of_length_le (by simp; omega)]⟩⟩, ((Chg.refl _ w).alloc _).alloc _⟩
  have := heap_alloc_new (w.alloc o) (.cells xs.toArray e)
  rw [World.size_alloc] at this
  exact this

theorem ownsRow_form {w : World} {B : Nat} {e : TypeId} {s : Nat} {v : Value} {n : Nat} {xs : List Value} (h : w.ownsRow B e s v n xs) : ∃ a cap, v = .slice a n cap ∧ n ≤ cap ∧ cap ≤ maxLen := by
  rcases h.2 with ⟨rfl, rfl⟩ | ⟨g, cap, cur, rfl, _, _, h1, h2, _⟩
  · exact ⟨none, 0, rfl, Nat.le_refl _, Nat.zero_le _⟩
  · exact ⟨_, _, rfl, h1, h2⟩

/-- What a function says that only computes. -/
def KInt (n : Int) (w : World) (e : Ending) (w' : World) : Prop := e = .returned (.int .i64 n) ∧ w = w'
def KBool (b : Bool) (w : World) (e : Ending) (w' : World) : Prop := e = .returned (.bool b) ∧ w = w'
/-- .. that leaves all that was. -/
def SInt (n : Int) (w : World) (e : Ending) (w' : World) : Prop := e = .returned (.int .i64 n) ∧ Same w w'
def SBool (b : Bool) (w : World) (e : Ending) (w' : World) : Prop := e = .returned (.bool b) ∧ Same w w'
def BoolPost (b : Bool) (w : World) (e : Ending) (w' : World) : Prop := e = .returned (.bool b) ∧ Same w w'
end Go.Proofs.Ythmhmgmdajjpmaa
