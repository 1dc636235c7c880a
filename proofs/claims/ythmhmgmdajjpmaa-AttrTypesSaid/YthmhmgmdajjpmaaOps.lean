/- What is handed in: how it reads. -/
import Derived.Test.YthmhmgmdajjpmaaDat
import Derived.Test.YthmhmgmdajjpmaaEnd
import Derived.Deep.Slices
import Derived.Deep.Fields
import Derived.Carry
import Derived.SizedLaws
import Derived.Lib.SmallJoins
namespace Go.Proofs.Ythmhmgmdajjpmaa
set_option linter.unusedVariables false
set_option linter.unusedSimpArgs false
open Go.ChangeShapes Go.WideShapes Go.ChangeAt Go.RowKit Go.Deep

theorem laidOut : laidOutB Try.prog = true := by kernel_rfl
theorem cells24 : Try.prog.cellsOf 24 = 2 := by kernel_rfl
theorem cells5 : Try.prog.cellsOf 5 = 1 := by kernel_rfl
theorem bytes5 : Try.prog.bytesOf 5 = 1 := by kernel_rfl

/-- The reach of what is read. -/
def Reach {H : Type} (t : TypeId) (d : DataW H) : Prop := ∀ n ∈ d.weights Try.prog t, n ≤ reachBytes

theorem weights_in {H : Type} {P : Program} {e : TypeId} : ∀ {l : List (DataW H)} {d : DataW H}, d ∈ l → ∀ n ∈ d.weights P e, n ∈ DataW.weightsAll P e l
  | a :: l, d, h, n, hn => by
    simp only [DataW.weightsAll, List.mem_append]
    rcases List.mem_cons.1 h with rfl | h
    · exact .inl hn
    · exact .inr (weights_in h n hn)

theorem addr_cell {w : World} {a : Addr} {v : Value} (h : w.cell? (a.add 0) = some v) : ∃ b o, a = ⟨b, o, none⟩ := by
  obtain ⟨b, o, s⟩ := a
  have : (⟨b, o, s⟩ : Addr).add 0 = ⟨b, o, s⟩ := by unfold Addr.add; rw [if_pos rfl]
  rw [this] at h
  cases s with
  | none => exact ⟨b, o, rfl⟩
  | some k => simp [World.cell?] at h; split at h <;> simp_all

theorem cell_in {w : World} {a : Addr} {v : Value} (h : w.cell? a = some v) : a.block < w.heap.size := by
  unfold World.cell? at h
  split at h
  · rename_i hh
    exact lt_of_heap hh
  · cases h

section
variable {H : Type} {enc : TypeId × Value → H} {w : World} {n : Nat} {v : Value} {d : DataW H} {p : List MemPlace}

theorem bytes_at (h : DataW.trod enc Try.prog w 0 (fun _ => true) true n 22 [v] = some (d, p)) (hr : Reach 22 d) : ∃ l, Bs w v l := by
  rcases open_slice1 Try.underlying22 cells5 h with ⟨he, -⟩ | ⟨a, len, cap, m, k, V, D, Pl, he, -, hle, hmax, hm, hx, hi⟩
  · have : v = .slice none 0 0 := by simpa using he
    subst this
    exact ⟨[], Bs.nil w⟩
  · have : v = .slice (some a) len cap := by simpa using he
    subst this
    simp only [if_true] at hm
    subst hm
    have hb : ∀ i, i < m → ∃ z : Int, V i = .int .u8 z ∧ 0 ≤ z ∧ z < 256 := by
      intro i hi'
      obtain ⟨z, hz, -, hwf⟩ := DataW.trod_int Try.underlying5 (hi i hi').2
      refine ⟨z, by simpa using hz, ?_⟩
      simp [Lit.wf, IntKind.min, IntKind.max, IntKind.signed, IntKind.bits] at hwf
      omega
    obtain ⟨Z, hZ⟩ := choose_lt (α := Int) (p := fun i z => V i = .int .u8 z ∧ 0 ≤ z ∧ z < 256) hb
    have hw : m ≤ reachBytes := by
      have hd : d = .slice ((List.range len).map D) ((List.range (m - len)).map fun j => D (len + j)) := congrArg Prod.fst hx
      have := hr ((len + (m - len)) * Try.prog.bytesOf 5) (by rw [hd]; simp [DataW.weights, Try.underlying22])
      rw [bytes5] at this
      omega
    refine ⟨(List.range len).map Z, some a, m, by simp, by simpa using hle, hmax, by simp; unfold reachBytes at hw; omega, (fun h => by cases h), ?_, ?_⟩
    · intro x hx
      obtain ⟨i, hi', rfl⟩ := List.mem_map.1 hx
      have := hZ i (by have := List.mem_range.1 hi'; omega)
      exact this.2
    · intro h0
      simp only [List.length_map, List.length_range] at h0
      obtain ⟨b, o, rfl⟩ := addr_cell (hi 0 (by omega)).1
      refine ⟨b, o, rfl, cell_in (hi 0 (by omega)).1, fun i hi' => ?_⟩
      simp only [List.length_map, List.length_range] at hi'
      have h1 := (hi i (by omega)).1
      rw [addr_add, (hZ i (by omega)).1] at h1
      rw [h1]
      simp

/-- One attribute's cells. -/
theorem attr_at {cs : List Value} (h : DataW.trod enc Try.prog w 0 (fun _ => true) true n 24 cs = some (d, p)) (hr : Reach 24 d) : ∃ x : Av, cs = [.int .i64 x.t, x.u] ∧ Bs w x.u x.v := by
  obtain ⟨xs, k, -, hx, hl, hxl, hf⟩ := DataW.trod_struct Try.underlying24 h
  rw [cells24] at hl
  match cs, hl with
  | [c0, c1], _ =>
    match xs, hxl with
    | [y0, y1], _ =>
      have h0 : DataW.trod enc Try.prog w 0 (fun _ => true) true k 3 [c0] = some y0 := hf 0 _ rfl
      have h1 : DataW.trod enc Try.prog w 0 (fun _ => true) true k 22 [c1] = some y1 := hf 1 _ rfl
      obtain ⟨z, hz, -⟩ := DataW.trod_int Try.underlying3 h0
      have hd : d = .agg [y0.1, y1.1] := congrArg Prod.fst hx
      obtain ⟨l, hB⟩ := bytes_at (d := y1.1) (p := y1.2) h1 (fun m hm => hr m (by
        rw [hd]
        simp only [DataW.weights, Try.underlying24, DataW.weightsEach, List.map_cons, List.map_nil, List.append_nil, List.mem_append]
        exact .inr hm))
      have : c0 = .int .i64 z := by simpa using hz
      subst this
      exact ⟨⟨z, l, c1⟩, rfl, hB⟩

instance : Inhabited Av := ⟨⟨0, [], .slice none 0 0⟩⟩

theorem attrs_at (h : DataW.trod enc Try.prog w 0 (fun _ => true) true n 35 [v] = some (d, p)) (hr : Reach 35 d) : ∃ l, Ats w v l := by
  rcases open_slice Try.underlying35 h with ⟨he, -⟩ | ⟨a, len, cap, m, k, D, Pl, he, -, hle, hmax, hm, hx, hi⟩
  · have : v = .slice none 0 0 := by simpa using he
    subst this
    exact ⟨[], Ats.nil w⟩
  · have : v = .slice (some a) len cap := by simpa using he
    subst this
    simp only [if_true] at hm
    subst hm
    have hd : d = .slice ((List.range len).map D) ((List.range (m - len)).map fun j => D (len + j)) := congrArg Prod.fst hx
    have hb : ∀ i, i < len → ∃ x : Av, w.cell? (a.add (i * 2)) = some (.int .i64 x.t) ∧ w.cell? (a.add (i * 2 + 1)) = some x.u ∧ Bs w x.u x.v := by
      intro i hil
      obtain ⟨cs, hc, ht⟩ := hi i (by omega)
      obtain ⟨x, rfl, hB⟩ := attr_at ht (fun q hq => hr q (by
        rw [hd]
        simp only [DataW.weights, Try.underlying35, List.mem_cons, List.mem_append]
        exact .inr (.inl (weights_in (List.mem_map.2 ⟨i, List.mem_range.2 hil, rfl⟩) q hq))))
      rw [cells24] at hc
      obtain ⟨-, -, hat⟩ := World.cells?_some hc
      have h0 := hat 0 (by decide)
      have h1 := hat 1 (by decide)
      rw [add_add] at h0 h1
      exact ⟨x, by simpa using h0, by simpa using h1, hB⟩
    obtain ⟨X, hX⟩ := choose_lt (α := Av) (p := fun i x => w.cell? (a.add (i * 2)) = some (.int .i64 x.t) ∧ w.cell? (a.add (i * 2 + 1)) = some x.u ∧ Bs w x.u x.v) hb
    refine ⟨(List.range len).map X, some a, m, by simp, by simpa using hle, hmax, (fun h => by cases h), ?_, ?_⟩
    · intro x hx
      obtain ⟨i, hi', rfl⟩ := List.mem_map.1 hx
      exact (hX i (List.mem_range.1 hi')).2.2
    · intro h0
      simp only [List.length_map, List.length_range] at h0
      obtain ⟨b, o, rfl⟩ := addr_cell (a := a) (by have := (hX 0 h0).1; simpa using this)
      refine ⟨b, o, rfl, cell_in (hX 0 h0).1, fun i hi' => ?_⟩
      simp only [List.length_map, List.length_range] at hi'
      obtain ⟨h1, h2, -⟩ := hX i hi'
      rw [addr_add] at h1 h2
      simp only [List.getElem_map, List.getElem_range]
      exact ⟨h1, by rw [Nat.add_assoc]; exact h2⟩

/-- What was handed in reads behind the call as it read before. -/
theorem again_at {w' : World} {t : TypeId} (h : DataW.Trod enc Try.prog w 0 (fun _ => true) true t v d p) (h1 : Try.prog.readableRec t = true) (h2 : t < Try.prog.types.size) (hs : Same w w') (hlt : ∀ x ∈ p, x.block < w.heap.size) {sp : Nat → Bool} (hsp : ∀ x ∈ p, sp x.block = true) :
    DataW.Trod enc Try.prog w' 0 sp true t v d p :=
  WideElems.Trod_stays laidOut h1 h2 h (fun x hx => hs.below.same (hlt x hx)) hsp
end
end Go.Proofs.Ythmhmgmdajjpmaa
