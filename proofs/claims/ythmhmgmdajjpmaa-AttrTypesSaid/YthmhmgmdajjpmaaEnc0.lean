/- Lists go to bytes: plain laws. -/
import Derived.Test.YthmhmgmdajjpmaaClo
namespace Go.Proofs.Ythmhmgmdajjpmaa
set_option linter.unusedVariables false
set_option linter.unusedSimpArgs false
open Go.RowKit

def fineE (x : Av) : Bool := decide (0 ≤ x.t) && decide (x.t ≤ 65535) && decide (x.v.length ≤ 16384)
def encB (x : Av) : List Int := of16 x.t ++ of16 (x.v.length : Int) ++ x.v
def encTo (l : List Av) (k : Nat) : List Int := (l.take k).flatMap encB
def encG (l : List Av) : List Int × Bool := if l.length ≤ 64 ∧ l.all fineE = true then (l.flatMap encB, true) else ([], false)

theorem encTo_step {l : List Av} {k : Nat} (hk : k < l.length) : encTo l (k + 1) = encTo l k ++ encB l[k] := by
  unfold encTo
  rw [List.take_succ_eq_append_getElem hk, List.flatMap_append]
  simp
theorem encB_length (x : Av) : (encB x).length = x.v.length + 4 := by simp [encB, of16]
theorem fineE_of {x : Av} (h0 : 0 ≤ x.t) (h1 : x.t ≤ 65535) (h2 : x.v.length ≤ 16384) : fineE x = true := by simp [fineE, h0, h1, h2]
theorem fineE_not {x : Av} (h : ¬ (0 ≤ x.t ∧ x.t ≤ 65535 ∧ x.v.length ≤ 16384)) : fineE x = false := by
  cases hf : fineE x with
  | false => rfl
  | true =>
    simp [fineE] at hf
    exact absurd ⟨hf.1.1, hf.1.2, hf.2⟩ h
theorem encG_long {l : List Av} (h : ¬ l.length ≤ 64) : encG l = ([], false) := by unfold encG; rw [if_neg (fun x => h x.1)]
theorem encG_bad {l : List Av} {k : Nat} (hk : k < l.length) (h : fineE l[k] = false) : encG l = ([], false) := by
  unfold encG
  rw [if_neg]
  intro x
  rw [allB_not hk h] at x
  cases x.2
theorem encG_ok {l : List Av} (h : l.length ≤ 64) (hf : AllB fineE l l.length) : encG l = (encTo l l.length, true) := by
  unfold encG encTo
  rw [if_pos ⟨h, allB_end hf⟩, List.take_length]

theorem byt_append {a b : List Int} (ha : Byt a) (hb : Byt b) : Byt (a ++ b) := fun x hx => by
  rcases List.mem_append.1 hx with h | h
  · exact ha x h
  · exact hb x h

/-- Behind k of the elements. -/
structure Enc (w : World) (l : List Av) (k : Nat) (q : Option Addr) (n c : Nat) (wr : World) : Prop where
  row : wr.ownsRow w.heap.size 5 1 (.slice q n c) n (bytes (encTo l k))
  len : n = (encTo l k).length
  byt : Byt (encTo l k)
  same : Same w wr
  fine : AllB fineE l k
  most : n ≤ k * 16388

section
variable {w wr W W1 : World} {l : List Av} {k n c : Nat} {q : Option Addr}

theorem Enc.nil (w : World) (l : List Av) : Enc w l 0 none 0 0 w := ⟨by simpa [encTo, bytes] using World.ownsRow_nil w w.heap.size 5 1, by simp [encTo], (by intro x hx; simp [encTo] at hx), Chg.refl _ _, allB_0 _ _, Nat.le_refl _⟩

theorem Enc.gives (h : Enc w l l.length q n c wr) (hl : l.length ≤ 64) : Bs wr (.slice q (encTo l l.length).length c) (encTo l l.length) := by
  have hr := h.row
  rw [h.len] at hr
  exact Bs.own hr h.byt (by have := h.most; rw [h.len] at this; omega)

/-- A literal slice of bytes. -/
theorem Bs.lit {nb : Nat} {b : List Int} (hH : w.heap[nb]? = some (.cells (bytes b).toArray 5 (0, 0))) (hb : Byt b) (hl : b.length ≤ 1000) : Bs w (.slice (some ⟨nb, 0, none⟩) b.length b.length) b := by
  refine ⟨_, b.length, rfl, Nat.le_refl _, by unfold maxLen; omega, by omega, (fun h => by cases h), hb, fun _ => ⟨nb, 0, rfl, lt_of_heap hH, fun i hi => ?_⟩⟩
  rw [cell_of_heap hH]
  simp [bytes, hi]

def OntoN (B : Nat) (v : Value) (n : Nat) (L : List Int) (w : World) (e : Ending) (w' : World) : Prop :=
  ∃ q c, e = .returned (.slice q n c) ∧ w'.ownsRow B 5 1 (.slice q n c) n (bytes L) ∧ Chg (fun k => v.ownBlock = some k) w w'

theorem append16_to {B n : Nat} {v : Value} {L : List Int} (hv : w.ownsRow B 5 1 v n (bytes L)) (hB : B ≤ w.heap.size) (hl : n < 1000000000) (x : Int) (h0 : 0 ≤ x) (h1 : x < 65536) :
    Calls Try.prog 43 #[v, .int .u16 x] w (OntoN B v (n + 2) (L ++ of16 x) w) := by
  have hn : n = L.length := by have := hv.1; simp [bytes] at this; omega
  subst hn
  refine (append16_calls hv hB hl x h0 h1).mono ?_
  rintro e w' ⟨v', rfl, hown, hc⟩
  have e2 : (L ++ of16 x).length = L.length + 2 := by simp [of16]
  rw [e2] at hown
  obtain ⟨q, c, rfl, -, -⟩ := ownsRow_form hown
  exact ⟨q, c, rfl, hown, hc⟩

theorem row_ne_block {B n : Nat} {v : Value} {xs : List Value} {nb : Nat} {cs : Array Value} (h : w.ownsRow B 5 1 v n xs) (hH : w.heap[nb]? = some (.cells cs 24 (0, 0))) : v.ownBlock ≠ some nb := by
  intro e
  rcases h.2 with ⟨rfl, -⟩ | ⟨g, cap, cur, rfl, _, hh, _⟩
  · cases e
  · cases e
    have := hh.symm.trans hH
    cases this
end
end Go.Proofs.Ythmhmgmdajjpmaa
