/- The document's Put. -/
import Derived.Test.YthmhmgmdajjpmaaPut
namespace Go.Proofs.Ythmhmgmdajjpmaa
set_option linter.unusedVariables false
set_option linter.unusedSimpArgs false
open Go.RowKit

/-- A list that reads as these, in whatever memory. -/
def GivesList (l : List At) (w : World) (e : Ending) (w' : World) : Prop :=
  ∃ p L cap, e = .returned (.slice p L.length cap) ∧ Ats w' (.slice p L.length cap) L ∧ L.map Av.at = l ∧ Same w w'

def rputOf (A : List At) (t : Int) (v : List Int) : List At := if idxOf A t = A.length then A else A.take (idxOf A t) ++ ([⟨t, v⟩] ++ A.drop (idxOf A t))

theorem rput_free {A : List At} {t : Int} {v : List Int} (h : idxOf A t = A.length) : rputOf A t v = A := by unfold rputOf; rw [if_pos h]
theorem rput_done {A : List At} {t : Int} {v : List Int} (h : idxOf A t ≠ A.length) : rputOf A t v = A.take (idxOf A t) ++ ([⟨t, v⟩] ++ A.drop (idxOf A t)) := by unfold rputOf; rw [if_neg h]
theorem rput_gt {A : List At} {t : Int} {v : List Int} {x : At} (h : idxOf A t = A.length) (hx : t < x.t) : rputOf (A ++ [x]) t v = A ++ [⟨t, v⟩] ++ [x] := by
  rw [rput_done (by rw [idx_push_gt h hx]; simp), idx_push_gt h hx]
  simp
theorem rput_le {A : List At} {t : Int} {v : List Int} {x : At} (h : idxOf A t = A.length) (hx : ¬ t < x.t) : rputOf (A ++ [x]) t v = A ++ [x] := rput_free (by rw [idx_push_le h hx]; simp)
theorem rput_in {A : List At} {t : Int} {v : List Int} {x : At} (h : idxOf A t ≠ A.length) : rputOf (A ++ [x]) t v = rputOf A t v ++ [x] := by
  have := idxOf_le A t
  rw [rput_done h, rput_done (by rw [idx_push_in h, List.length_append, List.length_singleton]; omega), idx_push_in h, List.take_append_of_le_length this, List.drop_append_of_le_length this]
  simp

theorem put_free {l : List Av} {t : Int} {v : List Int} (h : idxOf ((filt l t).map Av.at) t = ((filt l t).map Av.at).length) : putOf l t v = (filt l t).map Av.at ++ [⟨t, v⟩] := by
  unfold putOf
  rw [h, List.take_of_length_le (Nat.le_refl _), List.drop_of_length_le (Nat.le_refl _)]
  rfl
theorem put_done {l : List Av} {t : Int} {v : List Int} (h : idxOf ((filt l t).map Av.at) t ≠ ((filt l t).map Av.at).length) : rputOf ((filt l t).map Av.at) t v = putOf l t v := rput_done h

def doneOf (A : List At) (t : Int) : Bool := !decide (idxOf A t = A.length)
theorem done_false {A : List At} {t : Int} (h : idxOf A t = A.length) : doneOf A t = false := by simp [doneOf, h]
theorem done_true {A : List At} {t : Int} (h : idxOf A t ≠ A.length) : doneOf A t = true := by simp [doneOf, h]
theorem done_gt {A : List At} {t : Int} {x : At} (h : idxOf A t = A.length) (hx : t < x.t) : doneOf (A ++ [x]) t = true := done_true (by rw [idx_push_gt h hx]; simp)
theorem done_le {A : List At} {t : Int} {x : At} (h : idxOf A t = A.length) (hx : ¬ t < x.t) : doneOf (A ++ [x]) t = false := done_false (by rw [idx_push_le h hx]; simp)
theorem done_in {A : List At} {t : Int} {x : At} (h : idxOf A t ≠ A.length) : doneOf (A ++ [x]) t = true := done_true (by have := idxOf_le A t; rw [idx_push_in h, List.length_append, List.length_singleton]; omega)

/-- A list of one's own whose values lie elsewhere. -/
structure Half (wA wr : World) (q : Option Addr) (n c : Nat) (L : List Av) : Prop where
  row : wr.ownsRow wA.heap.size 24 2 (.slice q n c) n (avRow L)
  len : n = L.length
  vals : ∀ x ∈ L, Bs wA x.u x.v
  same : Same wA wr

section
variable {wA wr W1 W : World} {q : Option Addr} {n c : Nat} {L : List Av}

theorem Half.later (h : Half wA wr q n c L) (hs : Same wr W) : Half wA W q n c L := ⟨ownsRow_same h.row hs, h.len, h.vals, h.same.trans hs (fun _ h => h.elim)⟩

theorem Half.push (h : Half wA wr q n c L) (hs : Same wr W1) (x : Av) (hx : Bs wA x.u x.v) {g cap : Nat}
    (hown : W.ownsRow wA.heap.size 24 2 (.slice (some ⟨g, 0, none⟩) (n + 1) cap) (n + 1) (avRow L ++ x.cells))
    (hc : Chg (fun b => (Value.slice q n c).ownBlock = some b) W1 W) : Half wA W (some ⟨g, 0, none⟩) (n + 1) cap (L ++ [x]) := by
  refine ⟨?_, by rw [List.length_append, h.len]; rfl, ?_, ?_⟩
  · rw [avRow_append]
    simpa [avRow] using hown
  · intro y hy
    rcases List.mem_append.1 hy with hy | hy
    · exact h.vals y hy
    · rw [List.mem_singleton.1 hy]; exact hx
  · exact Chg.trans (h.same.trans hs (fun _ h => h.elim)) hc (fun b hb => .inr (h.row.lt b hb).1)
theorem Half.ats (h : Half wA wr q n c L) : Ats wr (.slice q L.length c) L := by
  have hr := h.row
  rw [h.len] at hr
  exact Ats.own hr (fun x hx => (h.vals x hx).same h.same)
end

section
variable {w : World} {v u : Value} {l : List Av} {val : List Int}

theorem filt_len (l : List Av) (t : Int) (k : Nat) : ((filt (l.take k) t).map Av.at).length ≤ k := by
  rw [List.length_map]
  unfold filt
  exact Nat.le_trans (List.length_filter_le _ _) (List.length_take_le _ _)

theorem filt_map_step {l : List Av} {t : Int} {k : Nat} (hk : k < l.length) (hp : (l[k].t == t) = false) : (filt (l.take (k + 1)) t).map Av.at = (filt (l.take k) t).map Av.at ++ [l[k].at] := by
  rw [filt_step hk, if_neg (by simp [hp]), List.map_append]
  rfl

set_option maxRecDepth 100000 in
set_option maxHeartbeats 16000000 in
theorem rput_calls (h : Ats w v l) (hl : l.length ≤ 900) (hu : Bs w u val) (t : Int) : Calls Try.prog 27 #[v, .agg #[.int .i64 t, u]] w (GivesList (putOf l t val) w) := by
  obtain ⟨p, cap, rfl, h1, h2, h3, h4⟩ := h.at
  obtain ⟨i24, hi24, hz24, hs24, hb24⟩ := info_parts Try.info24
  have hll : l.length ≤ 9223372036854775807 := by omega
  have HU := hid hu
  obtain ⟨pu, cu, rfl, -⟩ := id hu
  have HR := hid h4
  clear h h3 h4 hu
  go_enter Try.func27, Try.ntmps27
  go_wp2_with fail
  obtain ⟨wA, hwA⟩ : ∃ wA, wA = w.alloc (.cells #[.int .i64 t, .slice pu val.length cu] 24) := ⟨_, rfl⟩
  have HA : Hid (wA.heap[w.heap.size]? = some (.cells #[.int .i64 t, .slice pu val.length cu] 24 (0, 0))) := by rw [hwA]; exact heap_alloc_new _ _
  have HSA : Hid (Same w wA) := by rw [hwA]; exact (Chg.refl _ w).alloc _
  rw [← hwA]
  clear hwA
  have HUA := hid (HU.out.same HSA.out)
  go_loopw [5, 6, 7] (fun o d i wr => ∃ (k : Nat) (L : List Av) (q : Option Addr) (n c : Nat), k ≤ l.length ∧ i = .int .i64 k ∧ o = .slice q n c ∧ d = .bool (doneOf ((filt (l.take k) t).map Av.at) t) ∧ n ≤ k + 1 ∧ L.map Av.at = rputOf ((filt (l.take k) t).map Av.at) t val ∧ Half wA wr q n c L) (fun _ _ i _ => l.length - (intOf i).toNat)
  case atStart => exact ⟨0, [], none, 0, 0, Nat.zero_le _, rfl, rfl, by simp [filt, doneOf, idxOf], by simp, by simp [filt, rputOf, idxOf], World.ownsRow_nil _ _ _ _, rfl, (by intro x hx; cases hx), Chg.refl _ _⟩
  case round =>
    obtain ⟨k, L, q0, n0, c0, hk, rfl, rfl, rfl, hLk, hM, hP⟩ := hrel
    have HP := hid hP
    have HM := hid hM
    have hLn : n0 ≤ 901 := by omega
    clear hP hM
    have HBOX : Hid (∀ W, Same wr W → W.cell? ⟨w.heap.size, 0, none⟩ = some (.int .i64 t) ∧ W.cell? ⟨w.heap.size, 1, none⟩ = some (.slice pu val.length cu)) := fun W hW => by
      have hH := (HP.out.same.trans hW (fun _ h => h.elim)).block w.heap.size (lt_of_heap HA.out) (fun h => h) |>.trans HA.out
      exact ⟨by rw [cell_of_heap hH]; rfl, by rw [cell_of_heap hH]; rfl⟩
    obtain ⟨d0, d1⟩ := HBOX.out wr (Chg.refl _ _)
    have hzr : w.heap.size < wr.heap.size := Nat.lt_of_lt_of_le (lt_of_heap HA.out) HP.out.same.size
    have hzA : wA.heap.size ≤ wr.heap.size := HP.out.same.size
    by_cases hlt : k < l.length
    · obtain ⟨b, o, q, c, rfl, hb, e0, e1, hB⟩ := HR.out k hlt
      have hS := HSA.out.trans HP.out.same (fun _ h => h.elim)
      rw [← hS.cell (by exact hb) (fun h => h)] at e0 e1
      have hbr : b < wr.heap.size := Nat.lt_of_lt_of_le hb hS.size
      have HB := hid (hB.same HSA.out)
      have i1 : (k : Int) < (l.length : Int) := by omega
      have HBW : Hid (∀ b', wA.heap.size ≤ b' → b' ≠ b) := fun b' hb' => by have := HSA.out.size; omega
      clear hB hS
      cases hp : (l[k].t == t) with
      | true =>
        have HK := hid (filt_step hlt (t := t))
        rw [if_pos hp] at HK
        go_wp2_with fail
        go_quiet (fail)
        go_wp2_with fail
        go_roundw
        case rel => exact ⟨k + 1, L, q0, n0, c0, by omega, by go_num, rfl, by rw [HK.out], by omega, by rw [HK.out]; exact HM.out, HP.out.later ((Chg.refl _ wr).drewN _)⟩
        case measure => simp [intOf]; omega
      | false =>
        have HK := hid (filt_map_step hlt hp)
        by_cases hx : idxOf ((filt (l.take k) t).map Av.at) t = ((filt (l.take k) t).map Av.at).length
        · have HX := hid hx
          rw [done_false hx]
          clear hx
          by_cases hgt : t < l[k].t
          · have hn0 : n0 ≤ k := by
              have h9 := congrArg List.length HM.out
              rw [rput_free HX.out, List.length_map] at h9
              have := filt_len l t k
              rw [HP.out.len]
              omega
            go_wp2_with fail
            go_quiet (fail)
            go_wp2_with fail
            go_quiet (fail)
            go_wp2_with (first
              | (at_builtin; refine push_list _ rfl (.tmp 34) (.tmp 36) 35 rfl 24 i24 _ 2 32 Try.underlying35 hi24 hz24 hs24 hb24 rfl (by decide) wA.heap.size (by simp; omega) (.slice q0 n0 c0) n0 (avRow L) rfl ((HP.out.later ((Chg.refl _ wr).drewN _)).row.alloc _) wr.heap.size [.int .i64 t, .slice pu val.length cu] rfl (heap_alloc_new _ _) rfl (by simp [Value.oneCell']) (by unfold maxLen; omega) (by omega) ?_; intro g3 cap3 w3 hown3 hc3 hat3 hlt3; have HH3 := hid (HP.out.push (((Chg.refl _ wr).drewN _).alloc _) ⟨t, val, .slice pu val.length cu⟩ HUA.out hown3 hc3); have hS3 : Chg (fun j => (Value.slice q0 n0 c0).ownBlock = some j) wr w3 := Chg.trans (((Chg.refl _ wr).drewN _).alloc _) hc3 (fun j hj => .inl hj); have f0 := (hS3.cell (p := ⟨b, o + k * 2, none⟩) (by exact hbr) (fun e => HBW.out b (HP.out.row.lt b e).1 rfl)).trans e0; have f1 := (hS3.cell (p := ⟨b, o + k * 2 + 1, none⟩) (by exact hbr) (fun e => HBW.out b (HP.out.row.lt b e).1 rfl)).trans e1; have hz3 := HH3.out.same.size; clear hown3 hc3 hat3 hlt3 hS3)
              | (at_builtin; refine push_list _ rfl (.tmp 38) (.tmp 43) 35 rfl 24 i24 _ 2 32 Try.underlying35 hi24 hz24 hs24 hb24 rfl (by decide) wA.heap.size (by simp; omega) (.slice (some ⟨g3, 0, none⟩) (n0 + 1) cap3) (n0 + 1) (avRow (L ++ [⟨t, val, .slice pu val.length cu⟩])) rfl (HH3.out.row.alloc _) w3.heap.size [.int .i64 l[k].t, .slice q l[k].v.length c] rfl (heap_alloc_new _ _) rfl (by simp [Value.oneCell']) (by unfold maxLen; omega) (by omega) ?_; intro g4 cap4 w4 hown4 hc4 hat4 hlt4; have HH4 := hid (HH3.out.push ((Chg.refl _ w3).alloc _) ⟨l[k].t, l[k].v, .slice q l[k].v.length c⟩ HB.out hown4 hc4); clear hown4 hc4 hat4 hlt4))
            go_wp2_with fail
            go_roundw
            case rel => exact ⟨k + 1, L ++ [⟨t, val, .slice pu val.length cu⟩] ++ [⟨l[k].t, l[k].v, .slice q l[k].v.length c⟩], some ⟨g4, 0, none⟩, n0 + 2, cap4, by omega, by go_num, rfl, by rw [HK.out, done_gt HX.out (x := l[k].at) (show t < l[k].t by omega)], by omega, by rw [HK.out, rput_gt HX.out (x := l[k].at) (show t < l[k].t by omega), List.map_append, List.map_append, HM.out, rput_free HX.out]; rfl, HH4.out⟩
            case measure => simp [intOf]; omega
          · go_wp2_with fail
            go_quiet (fail)
            go_wp2_with fail
            go_quiet (fail)
            go_wp2_with (at_builtin; refine push_list _ rfl (.tmp 38) (.tmp 43) 35 rfl 24 i24 _ 2 32 Try.underlying35 hi24 hz24 hs24 hb24 rfl (by decide) wA.heap.size (by simp; omega) (.slice q0 n0 c0) n0 (avRow L) rfl ((HP.out.later ((Chg.refl _ wr).drewN _)).row.alloc _) wr.heap.size [.int .i64 l[k].t, .slice q l[k].v.length c] rfl (heap_alloc_new _ _) rfl (by simp [Value.oneCell']) (by unfold maxLen; omega) (by omega) ?_; intro g3 cap3 w3 hown3 hc3 hat3 hlt3; have HH3 := hid (HP.out.push (((Chg.refl _ wr).drewN _).alloc _) ⟨l[k].t, l[k].v, .slice q l[k].v.length c⟩ HB.out hown3 hc3); clear hown3 hc3 hat3 hlt3)
            go_wp2_with fail
            go_roundw
            case rel => exact ⟨k + 1, L ++ [⟨l[k].t, l[k].v, .slice q l[k].v.length c⟩], some ⟨g3, 0, none⟩, n0 + 1, cap3, by omega, by go_num, rfl, by rw [HK.out, done_le HX.out (x := l[k].at) (show ¬ t < l[k].t by omega)], by omega, by rw [HK.out, rput_le HX.out (x := l[k].at) (show ¬ t < l[k].t by omega), List.map_append, HM.out, rput_free HX.out]; rfl, HH3.out⟩
            case measure => simp [intOf]; omega
        · have HX := hid hx
          rw [done_true hx]
          clear hx
          go_wp2_with fail
          go_quiet (fail)
          go_wp2_with fail
          go_quiet (fail)
          go_wp2_with (at_builtin; refine push_list _ rfl (.tmp 38) (.tmp 43) 35 rfl 24 i24 _ 2 32 Try.underlying35 hi24 hz24 hs24 hb24 rfl (by decide) wA.heap.size (by simp; omega) (.slice q0 n0 c0) n0 (avRow L) rfl ((HP.out.later ((Chg.refl _ wr).drewN _)).row.alloc _) wr.heap.size [.int .i64 l[k].t, .slice q l[k].v.length c] rfl (heap_alloc_new _ _) rfl (by simp [Value.oneCell']) (by unfold maxLen; omega) (by omega) ?_; intro g3 cap3 w3 hown3 hc3 hat3 hlt3; have HH3 := hid (HP.out.push (((Chg.refl _ wr).drewN _).alloc _) ⟨l[k].t, l[k].v, .slice q l[k].v.length c⟩ HB.out hown3 hc3); clear hown3 hc3 hat3 hlt3)
          go_wp2_with fail
          go_roundw
          case rel => exact ⟨k + 1, L ++ [⟨l[k].t, l[k].v, .slice q l[k].v.length c⟩], some ⟨g3, 0, none⟩, n0 + 1, cap3, by omega, by go_num, rfl, by rw [HK.out, done_in HX.out (x := l[k].at)], by omega, by rw [HK.out, rput_in HX.out (x := l[k].at), List.map_append, HM.out]; rfl, HH3.out⟩
          case measure => simp [intOf]; omega
    · have hkl : k = l.length := by omega
      subst hkl
      have HT := hid (show filt (l.take l.length) t = filt l t by rw [List.take_length])
      rw [HT.out]
      by_cases hx : idxOf ((filt l t).map Av.at) t = ((filt l t).map Av.at).length
      · have HX := hid hx
        rw [done_false hx]
        clear hx
        go_wp2_with (at_builtin; refine push_list _ rfl (.tmp 47) (.tmp 49) 35 rfl 24 i24 _ 2 32 Try.underlying35 hi24 hz24 hs24 hb24 rfl (by decide) wA.heap.size (by simp; omega) (.slice q0 n0 c0) n0 (avRow L) rfl (HP.out.row.alloc _) wr.heap.size [.int .i64 t, .slice pu val.length cu] rfl (heap_alloc_new _ _) rfl (by simp [Value.oneCell']) (by unfold maxLen; omega) (by omega) ?_; intro g3 cap3 w3 hown3 hc3 hat3 hlt3; have HH3 := hid (HP.out.push ((Chg.refl _ wr).alloc _) ⟨t, val, .slice pu val.length cu⟩ HUA.out hown3 hc3); clear hown3 hc3 hat3 hlt3)
        go_wp2_with fail
        go_ret
        refine ⟨_, _, _, ?_, HH3.out.ats, ?_, HSA.out.trans HH3.out.same (fun _ h => h.elim)⟩
        · rw [← HH3.out.len]; rfl
        · rw [List.map_append, HM.out, HT.out, rput_free HX.out, put_free HX.out]; rfl
      · have HX := hid hx
        rw [done_true hx]
        clear hx
        go_wp2_with fail
        go_ret
        refine ⟨_, _, _, ?_, HP.out.ats, ?_, HSA.out.trans HP.out.same (fun _ h => h.elim)⟩
        · rw [← HP.out.len]; rfl
        · rw [HM.out, HT.out, put_done HX.out]
end
end Go.Proofs.Ythmhmgmdajjpmaa
