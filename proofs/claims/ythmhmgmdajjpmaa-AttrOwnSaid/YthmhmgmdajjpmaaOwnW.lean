/- What Put gives is one's own: the walk. -/
import Derived.Test.YthmhmgmdajjpmaaCode
namespace Go.Proofs.Ythmhmgmdajjpmaa
set_option linter.unusedVariables false
set_option linter.unusedSimpArgs false
open Go.RowKit

/-- A list of one's own whose types and bytes may be anything. -/
structure Wild (W : World) (B : Nat) (p : Option Addr) (L : List Av) : Prop where
  row : 0 < L.length → ∃ g c, p = some ⟨g, 0, none⟩ ∧ B ≤ g ∧ W.heap[g]? = some (.cells c 24 (0, 0)) ∧ ∀ i (h : i < L.length), (∃ z : Int, c[i * 2]? = some (.int .i64 z)) ∧ c[i * 2 + 1]? = some L[i].u
  val : ∀ i (h : i < L.length), ∃ q cap, L[i].u = .slice q L[i].v.length cap ∧ L[i].v.length ≤ 140737488351232 ∧ (0 < L[i].v.length → ∃ g c, q = some ⟨g, 0, none⟩ ∧ B ≤ g ∧ W.heap[g]? = some (.cells c 5 (0, 0)) ∧ ∀ j, j < L[i].v.length → ∃ z : Int, c[j]? = some (.int .u8 z))

section
variable {W W' : World} {B : Nat} {p : Option Addr} {L : List Av}

theorem Wild.of_own {cap : Nat} (h : Own W B (.slice p L.length cap) L) : Wild W B p L := by
  refine ⟨fun h0 => ?_, fun i hi => ?_⟩
  · obtain ⟨hl, hr⟩ := h.row
    rcases hr with ⟨-, hn⟩ | ⟨g, cp, cur, hv, hb, hg, hle, hm, hs, ht⟩
    · omega
    · simp only [Value.slice.injEq] at hv
      obtain ⟨rfl, -, rfl⟩ := hv
      refine ⟨g, cur, rfl, hb, hg, fun i hi => ?_⟩
      have k0 := avRow_get L i 0 hi (by decide)
      have k1 := avRow_get L i 1 hi (by decide)
      rw [← ht, List.getElem?_take] at k0 k1
      rw [if_pos (by omega)] at k0 k1
      simp only [Av.cells, Array.getElem?_toList] at k0 k1
      exact ⟨⟨L[i].t, by simpa using k0⟩, by simpa using k1⟩
  · obtain ⟨hl, hr⟩ := h.vals L[i] (List.getElem_mem hi)
    have hsh := h.short L[i] (List.getElem_mem hi)
    rcases hr with ⟨hv, hn⟩ | ⟨g, cp, cur, hv, hb, hg, hle, hm, hs, ht⟩
    · exact ⟨none, 0, by rw [hv, hn], hsh, fun h0 => by omega⟩
    · refine ⟨some ⟨g, 0, none⟩, cp, hv, hsh, fun _ => ⟨g, cur, rfl, hb, hg, fun j hj => ?_⟩⟩
      have k0 : (bytes L[i].v)[j]? = some (.int .u8 (L[i].v[j])) := by simp [bytes, hj]
      rw [← ht, List.getElem?_take, if_pos (by omega), Array.getElem?_toList] at k0
      exact ⟨_, k0⟩

theorem heap_set {g j : Nat} {e : TypeId} {c : Array Value} {v : Value} (hg : W.heap[g]? = some (.cells c e (0, 0))) (k : Nat) :
    (W.setCell ⟨g, j, none⟩ v).heap[k]? = if k = g then some (.cells (c.setIfInBounds j v) e (0, 0)) else W.heap[k]? := by
  by_cases h : k = g
  · subst h
    rw [if_pos rfl, heap_setCell_at hg]
  · rw [if_neg h]
    by_cases hk : k < W.heap.size
    · exact ((Chg.refl (fun x => x = g) W).setCell (p := ⟨g, j, none⟩) (.inl rfl) v).block k hk h
    · rw [Array.getElem?_eq_none (by rw [size_setCell]; omega), Array.getElem?_eq_none (by omega)]

theorem Wild.set (h : Wild W B p L) {g j : Nat} {e : TypeId} {c : Array Value} {v : Value} (hg : W.heap[g]? = some (.cells c e (0, 0)))
    (ho : (e = 24 ∧ ∃ (i : Nat) (z : Int), j = i * 2 ∧ v = .int .i64 z) ∨ (e = 5 ∧ ∃ z : Int, v = .int .u8 z)) : Wild (W.setCell ⟨g, j, none⟩ v) B p L := by
  refine ⟨fun h0 => ?_, fun i hi => ?_⟩
  · obtain ⟨g1, c1, hp, hb, hh, hc⟩ := h.row h0
    by_cases e1 : g1 = g
    · subst e1
      rw [hh] at hg
      simp only [Option.some.injEq, Obj.cells.injEq] at hg
      obtain ⟨rfl, rfl, -⟩ := hg
      rcases ho with ⟨-, i, z, rfl, rfl⟩ | ⟨h24, -⟩
      · refine ⟨g1, _, hp, hb, by rw [heap_set hh, if_pos rfl], fun i' hi' => ?_⟩
        obtain ⟨⟨z', hz'⟩, hu⟩ := hc i' hi'
        refine ⟨?_, ?_⟩
        · by_cases e2 : i = i'
          · subst e2
            exact ⟨z, by rw [Array.getElem?_setIfInBounds, if_pos rfl, if_pos (Array.getElem?_eq_some_iff.1 hz').1]⟩
          · exact ⟨z', by rw [Array.getElem?_setIfInBounds, if_neg (by omega)]; exact hz'⟩
        · rw [Array.getElem?_setIfInBounds, if_neg (by omega)]; exact hu
      · cases h24
    · exact ⟨g1, c1, hp, hb, by rw [heap_set hg, if_neg e1]; exact hh, hc⟩
  · obtain ⟨q, cap, hu, hl, hv⟩ := h.val i hi
    refine ⟨q, cap, hu, hl, fun h0 => ?_⟩
    obtain ⟨g1, c1, hp, hb, hh, hc⟩ := hv h0
    by_cases e1 : g1 = g
    · subst e1
      rw [hh] at hg
      simp only [Option.some.injEq, Obj.cells.injEq] at hg
      obtain ⟨rfl, rfl, -⟩ := hg
      rcases ho with ⟨h5, -⟩ | ⟨-, z, rfl⟩
      · cases h5
      · refine ⟨g1, _, hp, hb, by rw [heap_set hh, if_pos rfl], fun j' hj' => ?_⟩
        obtain ⟨z', hz'⟩ := hc j' hj'
        by_cases e2 : j = j'
        · subst e2
          exact ⟨z, by rw [Array.getElem?_setIfInBounds, if_pos rfl, if_pos (Array.getElem?_eq_some_iff.1 hz').1]⟩
        · exact ⟨z', by rw [Array.getElem?_setIfInBounds, if_neg e2]; exact hz'⟩
    · exact ⟨g1, c1, hp, hb, by rw [heap_set hg, if_neg e1]; exact hh, hc⟩

theorem Wild.drewN (h : Wild W B p L) (n : Nat) : Wild (W.drewN n) B p L := ⟨h.row, h.val⟩
end

section
variable {w : World} {v u : Value} {l : List Av} {val : List Int}

set_option maxRecDepth 100000 in
set_option maxHeartbeats 16000000 in
theorem own_calls (h : Ats w v l) (hu : Bs w u val) (t : Int) : Calls Try.prog 7 #[v, .agg #[.int .i64 t, u]] w (BoolPost true w) := by
  have H := hid h
  have HU := hid hu
  obtain ⟨p0, cp0, rfl, -⟩ := id h
  obtain ⟨pu, cu, rfl, -⟩ := id hu
  clear h hu
  go_enter Try.func7, Try.ntmps7
  go_wp2_with fail
  obtain ⟨wA, hwA⟩ : ∃ wA, wA = w.alloc (.cells #[.int .i64 t, .slice pu val.length cu] 24) := ⟨_, rfl⟩
  have HA : Hid (wA.heap[w.heap.size]? = some (.cells #[.int .i64 t, .slice pu val.length cu] 24 (0, 0))) := by rw [hwA]; exact heap_alloc_new _ _
  have SA : Hid (Same w wA) := by rw [hwA]; exact (Chg.refl _ w).alloc _
  rw [← hwA]
  clear hwA
  have HBOX : Hid (∀ W, Same wA W → W.cell? ⟨w.heap.size, 0, none⟩ = some (.int .i64 t) ∧ W.cell? ⟨w.heap.size, 1, none⟩ = some (.slice pu val.length cu)) := fun W hW => by
    have hH := (hW.block w.heap.size (lt_of_heap HA.out) (fun h => h)).trans HA.out
    exact ⟨by rw [cell_of_heap hH]; rfl, by rw [cell_of_heap hH]; rfl⟩
  refine (begun_calls wA).mono ?_
  rintro e w1 ⟨rfl, hs1⟩
  have S1 := hid hs1
  clear hs1
  go_wp2_with fail
  refine (cut_calls (H.out.same (SA.out.trans S1.out (fun _ h => h.elim))) 10 20 (by decide) (by decide)).mono ?_
  rintro e w2 ⟨p2, L, c2, rfl, hO2, hM2, hs2⟩
  have HO2 := hid hO2.ats
  have HLN : Hid (L.length ≤ 10) := by
    have := len_of_map hM2
    rw [this]
    unfold cutOf
    rw [List.length_map]
    exact List.length_take_le _ _
  have S2 := hid (S1.out.trans hs2 (fun _ h => h.elim))
  clear hO2 hM2 hs2
  go_wp2_with fail
  refine (rclone_calls HO2.out (by have := HLN.out; omega)).mono ?_
  rintro e w3 ⟨p3, T, c3, rfl, hO3, hM3, hs3⟩
  have HT3 := hid hO3.ats
  have HO3 := hid (HO2.out.same hs3)
  have HEQ := hid (eqAts_self L T hM3.symm)
  have S3 := hid (S2.out.trans hs3 (fun _ h => h.elim))
  obtain ⟨d0, d1⟩ := HBOX.out w3 S3.out
  clear hO3 hM3 hs3
  go_wp2_with fail
  refine (put_calls HO3.out (by have := HLN.out; omega) (HU.out.same (SA.out.trans S3.out (fun _ h => h.elim))) t).mono ?_
  rintro e w8 ⟨p8, P8, c8, rfl, hO8, hM8, hs8⟩
  have HS8 := hid hs8
  have HW8 := hid (Wild.of_own hO8)
  have hn8 : P8.length ≤ 9223372036854775807 := by obtain ⟨_, _, _, h1, h2⟩ := ownsRow_form hO8.row; unfold maxLen at h2; omega
  clear d0 d1 hO8 hM8 hs8
  go_wp2_with fail
  go_loopw [8, 9] (fun s8 s9 wr => ∃ k : Nat, k ≤ P8.length ∧ s8 = .int .i64 k ∧ Same w3 wr ∧ Wild wr w3.heap.size p8 P8) (fun i _ _ => P8.length - (intOf i).toNat)
  case atStart => exact ⟨0, Nat.zero_le _, rfl, HS8.out, HW8.out⟩
  case round =>
    obtain ⟨k, hk, rfl, hs, hw⟩ := hrel
    by_cases hlt : k < P8.length
    · obtain ⟨g, c, rfl, hb, hg, hc⟩ := hw.row (by omega)
      obtain ⟨q, cq, hq, hlq, hv⟩ := hw.val k hlt
      obtain ⟨m, hm⟩ : ∃ m, m = P8[k].v.length := ⟨_, rfl⟩
      rw [← hm] at hq hlq hv
      have HS := hid hs
      have HW := hid hw
      have HQ := hid hq
      have HM := hid hm
      have i3 : (k : Int) < (P8.length : Int) := by omega
      clear hs hw hg hc hv hq hm
      go_wp2_with fail
      go_loopw [9] (fun s9 W => ∃ j : Nat, j ≤ m ∧ s9 = .int .i64 j ∧ Same w3 W ∧ Wild W w3.heap.size (some ⟨g, 0, none⟩) P8) (fun j _ => m - (intOf j).toNat)
      case atStart => exact ⟨0, Nat.zero_le _, rfl, HS.out, HW.out⟩
      case round =>
        obtain ⟨j, hj, rfl, hs, hw⟩ := hrel
        obtain ⟨g', c, heq, -, hg, hc⟩ := hw.row (by omega)
        simp only [Option.some.injEq, Addr.mk.injEq, and_true] at heq
        subst heq
        obtain ⟨⟨z, hz⟩, hu⟩ := hc k hlt
        rw [HQ.out] at hu
        have e0 : wr.cell? ⟨g, k * 2, none⟩ = some (.int .i64 z) := by rw [cell_of_heap hg]; exact hz
        have e1 : wr.cell? ⟨g, k * 2 + 1, none⟩ = some (.slice q m cq) := by rw [cell_of_heap hg]; exact hu
        have f0 : wr.frozen? ⟨g, k * 2, none⟩ = false := frozen_of_heap hg _
        have HV : Hid (j < m → ∃ g2 c2 x, q = some ⟨g2, 0, none⟩ ∧ w3.heap.size ≤ g2 ∧ wr.heap[g2]? = some (.cells c2 5 (0, 0)) ∧ c2[j]? = some (.int .u8 x)) := fun hjm => by
          obtain ⟨q', cq', hq', -, hv⟩ := hw.val k hlt
          rw [HQ.out, ← HM.out, Value.slice.injEq] at hq'
          rw [← HM.out] at hv
          obtain ⟨g2, c2, h1, h2, h3, h4⟩ := hv (by omega)
          obtain ⟨x, hx⟩ := h4 j hjm
          exact ⟨g2, c2, x, hq'.1.trans h1, h2, h3, hx⟩
        have LEAVE : Hid (∀ n, Same w3 ((wr.drewN n).setCell ⟨g, k * 2, none⟩ (.int .i64 (-1))) ∧ Wild ((wr.drewN n).setCell ⟨g, k * 2, none⟩ (.int .i64 (-1))) w3.heap.size (some ⟨g, 0, none⟩) P8) := fun n =>
          ⟨(hs.drewN n).setCell (p := ⟨g, k * 2, none⟩) (.inr hb) _, (hw.drewN n).set (j := k * 2) (by exact hg) (.inl ⟨rfl, k, _, rfl, rfl⟩)⟩
        have HS' := hid hs
        have HW' := hid hw
        obtain ⟨d0, -⟩ := HBOX.out wr (S3.out.trans hs (fun _ h => h.elim))
        clear hs hw hg hc hz hu
        by_cases hjm : j < m
        · obtain ⟨g2, c2, x, rfl, hb2, hg2, hx⟩ := HV.out hjm
          have e2 : wr.cell? ⟨g2, j, none⟩ = some (.int .u8 x) := by rw [cell_of_heap hg2]; exact hx
          have f2 : wr.frozen? ⟨g2, j, none⟩ = false := frozen_of_heap hg2 _
          have i1 : (j : Int) < (m : Int) := by omega
          have NEXT : Hid (∀ n y, Same w3 ((wr.drewN n).setCell ⟨g2, j, none⟩ (.int .u8 y)) ∧ Wild ((wr.drewN n).setCell ⟨g2, j, none⟩ (.int .u8 y)) w3.heap.size (some ⟨g, 0, none⟩) P8) := fun n y =>
            ⟨(HS'.out.drewN n).setCell (p := ⟨g2, j, none⟩) (.inr hb2) _, (HW'.out.drewN n).set (j := j) (by exact hg2) (.inr ⟨rfl, y, rfl⟩)⟩
          clear hg2 hx
          cases hp : (z != t) with
          | true =>
            go_wp2_with fail
            go_quiet (fail)
            go_wp2_with fail
            go_roundw
            case rel => exact ⟨j + 1, by omega, by go_num, (NEXT.out _ _).1, (NEXT.out _ _).2⟩
            case measure => simp [intOf]; omega
          | false =>
            go_wp2_with fail
            go_quiet (fail)
            go_wp2_with fail
            go_roundw
            case rel => exact ⟨k + 1, by omega, by go_num, (LEAVE.out _).1, (LEAVE.out _).2⟩
            case measure => simp [intOf]; omega
        · have i1 : ¬ (j : Int) < (m : Int) := by omega
          go_wp2_with fail
          go_quiet (fail)
          go_wp2_with fail
          go_roundw
          case rel => exact ⟨k + 1, by omega, by go_num, (LEAVE.out _).1, (LEAVE.out _).2⟩
          case measure => simp [intOf]; omega
    · have HS := hid hs
      clear hs hw
      go_wp2_with fail
      refine (eq_calls (HO3.out.same HS.out) (HT3.out.same HS.out)).mono ?_
      rintro e w9 ⟨rfl, hs9⟩
      have HK := hid (SA.out.trans (S3.out.trans (HS.out.trans hs9 (fun _ h => h.elim)) (fun _ h => h.elim)) (fun _ h => h.elim))
      rw [HEQ.out]
      go_wp2_with fail
      go_ret
      exact ⟨rfl, HK.out⟩
end
end Go.Proofs.Ythmhmgmdajjpmaa
