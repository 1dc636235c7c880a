/- Bytes are read as lists: plain laws, and numbers read in any order. -/
import Derived.Test.YthmhmgmdajjpmaaRenc
namespace Go.Proofs.Ythmhmgmdajjpmaa
set_option linter.unusedVariables false
set_option linter.unusedSimpArgs false
open Go.RowKit

/-- A number of two bytes at a place. -/
def n16 (b : List Int) (i : Nat) : Nat := (b.getD i 0 * 256 + b.getD (i + 1) 0).toNat

theorem n16_lt {b : List Int} (h : Byt b) (i : Nat) : n16 b i < 65536 := by
  have h1 : 0 ≤ b.getD i 0 ∧ b.getD i 0 < 256 := by
    by_cases hi : i < b.length
    · have := h _ (List.getElem_mem hi); simp [List.getD, hi]; exact this
    · simp [List.getD, List.getElem?_eq_none (Nat.le_of_not_lt hi)]
  have h2 : 0 ≤ b.getD (i + 1) 0 ∧ b.getD (i + 1) 0 < 256 := by
    by_cases hi : i + 1 < b.length
    · have := h _ (List.getElem_mem hi); simp [List.getD, hi]; exact this
    · simp [List.getD, List.getElem?_eq_none (Nat.le_of_not_lt hi)]
  unfold n16
  omega

theorem n16_drop (b : List Int) (k i : Nat) : n16 (b.drop k) i = n16 b (k + i) := by
  unfold n16
  simp [List.getD, List.getElem?_drop, Nat.add_assoc]

/-- One element, and what lies behind it. -/
def decStep (b : List Int) : Option (At × List Int) :=
  if 4 ≤ b.length ∧ n16 b 2 ≤ b.length - 4 ∧ n16 b 2 ≤ 16384 then some (⟨(n16 b 0 : Int), (b.drop 4).take (n16 b 2)⟩, (b.drop 4).drop (n16 b 2)) else none

def decF : Nat → List Int → Option (List At)
  | _, [] => some []
  | 0, _ :: _ => none
  | f + 1, a :: b => (decStep (a :: b)).bind fun x => (decF f x.2).map (x.1 :: ·)

def decG (b : List Int) : List At × Bool := match decF 64 b with | some l => (l, true) | none => ([], false)

theorem decF_nil (f : Nat) : decF f [] = some [] := by cases f <;> rfl
theorem decF_full {b : List Int} (h : 0 < b.length) : decF 0 b = none := by cases b with | nil => simp at h | cons a b => rfl
theorem decF_bad {b : List Int} {f : Nat} (h : 0 < b.length) (hs : decStep b = none) : decF f b = none := by
  cases b with
  | nil => simp at h
  | cons a b =>
    cases f with
    | zero => rfl
    | succ f => unfold decF; rw [hs]; rfl
theorem decF_ok {b r : List Int} {f : Nat} {x : At} (h : 0 < b.length) (hs : decStep b = some (x, r)) : decF (f + 1) b = (decF f r).map (x :: ·) := by
  cases b with
  | nil => simp at h
  | cons a b => rw [decF, hs]; rfl

theorem decStep_bad {b : List Int} (h : ¬ (4 ≤ b.length ∧ n16 b 2 ≤ b.length - 4 ∧ n16 b 2 ≤ 16384)) : decStep b = none := by unfold decStep; rw [if_neg h]
theorem decStep_ok {b : List Int} (h : 4 ≤ b.length ∧ n16 b 2 ≤ b.length - 4 ∧ n16 b 2 ≤ 16384) : decStep b = some (⟨(n16 b 0 : Int), (b.drop 4).take (n16 b 2)⟩, (b.drop 4).drop (n16 b 2)) := by unfold decStep; rw [if_pos h]

/-- What is left to be read. -/
def Left (b0 : List Int) (out : List At) (b : List Int) : Prop := decF 64 b0 = (decF (64 - out.length) b).map (out ++ ·)

theorem left_start (b : List Int) : Left b [] b := by unfold Left; simp
theorem left_end {b0 : List Int} {out : List At} (h : Left b0 out []) : decG b0 = (out, true) := by
  unfold Left at h
  unfold decG
  rw [h, decF_nil]
  simp
theorem left_full {b0 b : List Int} {out : List At} (h : Left b0 out b) (hb : 0 < b.length) (ho : out.length = 64) : decG b0 = ([], false) := by
  unfold Left at h
  unfold decG
  rw [h, ho, decF_full hb]
  rfl
theorem left_bad {b0 b : List Int} {out : List At} (h : Left b0 out b) (hb : 0 < b.length) (hs : decStep b = none) : decG b0 = ([], false) := by
  unfold Left at h
  unfold decG
  rw [h, decF_bad hb hs]
  rfl
theorem left_next {b0 b r : List Int} {out : List At} {x : At} (h : Left b0 out b) (hb : 0 < b.length) (hs : decStep b = some (x, r)) (ho : out.length < 64) : Left b0 (out ++ [x]) r := by
  unfold Left at h ⊢
  rw [h, show 64 - out.length = (64 - (out ++ [x]).length) + 1 by simp; omega, decF_ok hb hs, Option.map_map]
  congr 1
  funext l
  simp

section
variable {w : World} {u : Value} {l : List Int}

set_option maxHeartbeats 2000000 in
theorem get16_quiet (h : Bs w u l) (hl : 2 ≤ l.length) (m : Nat) (hm : n16 l 0 = m) : Calls Try.prog 44 #[u] w (fun e w' => e = .returned (.int .u16 (m : Int)) ∧ ∃ n, w' = w.drewN n) := by
  obtain ⟨p, cap, rfl, h1, h2, h3, h4, h5, h6⟩ := h
  obtain ⟨b, o, rfl, hb, hc⟩ := h6 (by omega)
  have c0 := hc 0 (by omega)
  have c1 := hc 1 (by omega)
  simp only [Nat.add_zero] at c0
  obtain ⟨x0, x1⟩ := h5 l[0] (List.getElem_mem _)
  obtain ⟨y0, y1⟩ := h5 l[1] (List.getElem_mem _)
  have i1 : (1 : Int) < (l.length : Int) := by omega
  have i0 : (0 : Int) < (l.length : Int) := by omega
  have E := hid (u16_or_add x0 x1 y0 y1)
  have EM : Hid ((m : Int) = l[0] * (256 : Int) + l[1]) := by
    show (m : Int) = _
    rw [← hm]
    unfold n16
    have e0 : l.getD 0 0 = l[0] := by simp [List.getD, show 0 < l.length by omega]
    have e1 : l.getD (0 + 1) 0 = l[1] := by simp [List.getD, show 1 < l.length by omega]
    rw [e0, e1]
    omega
  clear hc h5 h6 h4 hm
  go_enter Try.func44, Try.ntmps44
  go_wp2_with fail
  go_quiet (fail)
  go_wp2_with fail
  go_ret
  exact ⟨by rw [EM.out, ← E.out]; rfl, _, rfl⟩

/-- What lies behind in a slice of bytes. -/
theorem Bs.drop {p : Option Addr} {n cap : Nat} (h : Bs w (.slice p n cap) l) {k : Nat} (hk : k ≤ n) : Bs w (.slice (if cap = k then p else p.map fun x => x.add k) (n - k) (cap - k)) (l.drop k) := by
  obtain ⟨q, c, e, h1, h2, h3, h4, h5, h6⟩ := h
  cases e
  have hl : (l.drop k).length = l.length - k := List.length_drop
  refine ⟨_, cap - k, by rw [hl], by omega, by omega, by omega, ?_, fun x hx => h5 x (List.mem_of_mem_drop hx), fun h0 => ?_⟩
  · intro hp
    split at hp
    · have := h4 hp; omega
    · have : p = none := by simpa using hp
      have := h4 this
      omega
  · obtain ⟨b, o, rfl, hb, hc⟩ := h6 (by omega)
    rw [if_neg (by omega)]
    refine ⟨b, o + k, by simp [addr_add], hb, fun i hi => ?_⟩
    rw [Nat.add_assoc, hc (k + i) (by omega)]
    simp

theorem add_pos (a : Addr) {k : Nat} (hk : 0 < k) : a.add k = ⟨a.block, a.off + k, none⟩ := by unfold Addr.add; rw [if_neg (by omega)]

theorem Bs.dropc {p : Option Addr} {n cap : Nat} (h : Bs w (.slice p n cap) l) {k : Nat} (hk : k ≤ n) (h0 : 0 < k) : Bs w (.slice (if cap = k then p else Option.map (fun x => (⟨x.block, x.off + k, none⟩ : Addr)) p) (n - k) (cap - k)) (l.drop k) := by
  have := h.drop hk
  have e : (fun x : Addr => x.add k) = fun x => (⟨x.block, x.off + k, none⟩ : Addr) := by funext x; exact add_pos x h0
  rw [e] at this
  exact this

theorem Bs.dropm {p : Option Addr} {n cap : Nat} (h : Bs w (.slice p n cap) l) {k : Nat} (hk : k ≤ n) (h0 : 0 < k) (hne : cap ≠ k) : Bs w (.slice (Option.map (fun x => (⟨x.block, x.off + k, none⟩ : Addr)) p) (n - k) (cap - k)) (l.drop k) := by
  have := h.dropc hk h0
  rw [if_neg hne] at this
  exact this

theorem Bs.take' {p : Option Addr} {n cap : Nat} (h : Bs w (.slice p n cap) l) {k : Nat} (hk : k ≤ n) : Bs w (.slice p k cap) (l.take k) := by
  have := h.take k
  obtain ⟨q, c, e, -⟩ := h
  cases e
  rw [List.length_take, Nat.min_eq_left hk] at this
  exact this
end
end Go.Proofs.Ythmhmgmdajjpmaa
