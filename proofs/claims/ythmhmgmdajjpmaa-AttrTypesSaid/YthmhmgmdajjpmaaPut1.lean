/- Where an attribute is put: plain laws. -/
import Derived.Test.YthmhmgmdajjpmaaPut0
namespace Go.Proofs.Ythmhmgmdajjpmaa
set_option linter.unusedVariables false
set_option linter.unusedSimpArgs false
open Go.RowKit

def filt (l : List Av) (t : Int) : List Av := l.filter fun x => !(x.t == t)
/-- How many stand ahead of it. -/
def idxOf (l : List At) (t : Int) : Nat := (l.takeWhile fun x => decide (x.t ≤ t)).length
/-- .. or -1 where all do. -/
def atOf (l : List At) (t : Int) : Int := if idxOf l t = l.length then -1 else (idxOf l t : Int)
/-- The list with it. -/
def putOf (l : List Av) (t : Int) (v : List Int) : List At := ((filt l t).map Av.at).take (idxOf ((filt l t).map Av.at) t) ++ ([⟨t, v⟩] ++ ((filt l t).map Av.at).drop (idxOf ((filt l t).map Av.at) t))

theorem filt_step {l : List Av} {t : Int} {k : Nat} (hk : k < l.length) : filt (l.take (k + 1)) t = if (l[k].t == t) = true then filt (l.take k) t else filt (l.take k) t ++ [l[k]] := by
  unfold filt
  rw [List.take_succ_eq_append_getElem hk, List.filter_append]
  cases h : l[k].t == t <;> simp [List.filter_cons, h]

theorem idxOf_le (l : List At) (t : Int) : idxOf l t ≤ l.length := by
  unfold idxOf
  exact (List.takeWhile_sublist _).length_le

theorem idx_all {l : List At} {t : Int} (h : idxOf l t = l.length) : ∀ x ∈ l, x.t ≤ t := by
  induction l with
  | nil => intro x hx; cases hx
  | cons a l ih =>
    unfold idxOf at *
    rw [List.takeWhile_cons] at h
    split at h
    · rename_i ha
      intro x hx
      rcases List.mem_cons.1 hx with rfl | hx
      · simpa using ha
      · exact ih (by simpa using h) x hx
    · simp at h

theorem idx_push_gt {l : List At} {t : Int} {x : At} (h : idxOf l t = l.length) (hx : t < x.t) : idxOf (l ++ [x]) t = l.length := by
  unfold idxOf
  rw [List.takeWhile_append_of_pos (fun a ha => by simpa using idx_all h a ha)]
  have : ¬ x.t ≤ t := by omega
  simp [List.takeWhile_cons, this]

theorem idx_push_le {l : List At} {t : Int} {x : At} (h : idxOf l t = l.length) (hx : ¬ t < x.t) : idxOf (l ++ [x]) t = l.length + 1 := by
  unfold idxOf
  rw [List.takeWhile_append_of_pos (fun a ha => by simpa using idx_all h a ha)]
  have : x.t ≤ t := by omega
  simp [List.takeWhile_cons, this]

theorem idx_push_in {l : List At} {t : Int} {x : At} (h : idxOf l t ≠ l.length) : idxOf (l ++ [x]) t = idxOf l t := by
  induction l with
  | nil => exact absurd rfl h
  | cons a l ih =>
    unfold idxOf at *
    rw [List.cons_append, List.takeWhile_cons, List.takeWhile_cons]
    rw [List.takeWhile_cons] at h
    split
    · rename_i ha
      rw [if_pos ha] at h
      simp only [List.length_cons] at h ⊢
      rw [ih (by omega)]
    · rfl

theorem at_neg {l : List At} {t : Int} (h : idxOf l t = l.length) : atOf l t = -1 := by unfold atOf; rw [if_pos h]
theorem at_pos {l : List At} {t : Int} (h : idxOf l t ≠ l.length) : atOf l t = (idxOf l t : Int) := by unfold atOf; rw [if_neg h]
theorem at_gt {l : List At} {t : Int} {x : At} (h : idxOf l t = l.length) (hx : t < x.t) : atOf (l ++ [x]) t = (l.length : Int) := by
  rw [at_pos (by rw [idx_push_gt h hx]; simp), idx_push_gt h hx]
theorem at_le {l : List At} {t : Int} {x : At} (h : idxOf l t = l.length) (hx : ¬ t < x.t) : atOf (l ++ [x]) t = -1 := by
  rw [at_neg (by rw [idx_push_le h hx]; simp)]
theorem at_in {l : List At} {t : Int} {x : At} (h : idxOf l t ≠ l.length) : atOf (l ++ [x]) t = atOf l t := by
  have := idxOf_le l t
  rw [at_pos (by rw [idx_push_in h, List.length_append, List.length_singleton]; omega), at_pos h, idx_push_in h]

/-- The cells of a list with one more in the midst. -/
theorem avRow_put (L : List Av) (i : Nat) (x : Av) : avRow (L.take i ++ ([x] ++ L.drop i)) = (avRow L).take (i * 2) ++ (x.cells ++ (avRow L).drop (i * 2)) := by
  have h1 : ∀ (L : List Av) (i : Nat), avRow (L.take i) = (avRow L).take (i * 2) ∧ avRow (L.drop i) = (avRow L).drop (i * 2) := by
    intro L
    induction L with
    | nil => intro i; simp [avRow]
    | cons a L ih =>
      intro i
      cases i with
      | zero => simp [avRow]
      | succ i =>
        obtain ⟨h1, h2⟩ := ih i
        have e : (i + 1) * 2 = i * 2 + 2 := by omega
        rw [e]
        simp only [avRow, List.take_succ_cons, List.drop_succ_cons, List.flatMap_cons, Av.cells] at h1 h2 ⊢
        simp only [List.cons_append, List.nil_append, List.take_succ_cons, List.drop_succ_cons]
        exact ⟨by rw [h1], h2⟩
  rw [avRow_append, avRow_append, (h1 L i).1, (h1 L i).2]
  simp [avRow]

section
variable {w w' : World} {v : Value} {B : Nat} {L : List Av}

/-- One more in the midst. -/
theorem Own.put (h : Own w B v L) {t : Int} {l : List Int} {u : Value} (hu : w.ownsRow B 5 1 u l.length (bytes l)) (hb : Byt l) (hl : l.length ≤ 140737488351232) (i : Nat) {p : Option Addr} {cap : Nat}
    (hown : w'.ownsRow B 24 2 (.slice p (L.length + 1) cap) (L.length + 1) ((avRow L).take (i * 2) ++ ([.int .i64 t, u] ++ (avRow L).drop (i * 2)))) (hc : Chg (fun k => v.ownBlock = some k) w w') :
    Own w' B (.slice p (L.length + 1) cap) (L.take i ++ ([(⟨t, l, u⟩ : Av)] ++ L.drop i)) := by
  have hlen : (L.take i ++ ([(⟨t, l, u⟩ : Av)] ++ L.drop i)).length = L.length + 1 := by
    rw [List.length_append, List.length_append, List.length_take, List.length_drop, List.length_singleton]
    omega
  have hm : ∀ x ∈ L.take i ++ ([(⟨t, l, u⟩ : Av)] ++ L.drop i), x ∈ L ∨ x = ⟨t, l, u⟩ := by
    intro x hx
    rcases List.mem_append.1 hx with hx | hx
    · exact .inl (List.mem_of_mem_take hx)
    · rcases List.mem_append.1 hx with hx | hx
      · exact .inr (List.mem_singleton.1 hx)
      · exact .inl (List.mem_of_mem_drop hx)
  refine ⟨?_, ?_, ?_, ?_⟩
  · rw [hlen, avRow_put]
    exact hown
  · intro x hx
    rcases hm x hx with hx | rfl
    · exact ownsRow_chg (h.vals x hx) h.row (by decide) hc
    · exact ownsRow_chg hu h.row (by decide) hc
  · intro x hx
    rcases hm x hx with hx | rfl
    · exact h.byt x hx
    · exact hb
  · intro x hx
    rcases hm x hx with hx | rfl
    · exact h.short x hx
    · exact hl

theorem Own.oneCell (h : Own w B v L) : ∀ u ∈ avRow L, u.oneCell' = true := by
  intro u hu
  unfold avRow at hu
  obtain ⟨x, hx, hux⟩ := List.mem_flatMap.1 hu
  simp only [Av.cells, List.mem_cons, List.not_mem_nil, or_false] at hux
  rcases hux with rfl | rfl
  · rfl
  · obtain ⟨a, cap, e, -, -⟩ := ownsRow_form (h.vals x hx)
    rw [e]
    rfl
end
end Go.Proofs.Ythmhmgmdajjpmaa
