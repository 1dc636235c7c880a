/- An attribute is put in. -/
import Derived.Test.YthmhmgmdajjpmaaPut1
namespace Go.Proofs.Ythmhmgmdajjpmaa
set_option linter.unusedVariables false
set_option linter.unusedSimpArgs false
open Go.RowKit

section
variable {w : World} {v u : Value} {l : List Av} {val : List Int}

theorem Own.base' {p : Option Addr} {cap n B B' : Nat} {L : List Av} (h : Own w B (.slice p (n + 1) cap) L) (hB : B' ≤ B) : Own w B' (.slice p L.length cap) L := by
  have hl := h.row.1
  obtain ⟨a, c, e, -, -⟩ := ownsRow_form h.row
  have : n + 1 = L.length := by injection e
  rw [← this]
  exact Own.base h hB

theorem put_length (L : List Av) (i : Nat) (x : Av) : (L.take i ++ ([x] ++ L.drop i)).length = L.length + 1 := by
  rw [List.length_append, List.length_append, List.length_take, List.length_drop, List.length_singleton]
  omega

theorem put_map {L : List Av} {t : Int} {u1 : Value} {i : Nat} (h : L.map Av.at = (filt l t).map Av.at) (hi : i = idxOf (L.map Av.at) t) : (L.take i ++ ([(⟨t, val, u1⟩ : Av)] ++ L.drop i)).map Av.at = putOf l t val := by
  unfold putOf
  rw [← h, ← hi]
  simp [List.map_take, List.map_drop, Av.at]

/-- Behind k of the elements. -/
structure Putting (w : World) (l : List Av) (t : Int) (k : Nat) (q : Option Addr) (c : Nat) (L : List Av) (wA wr : World) : Prop where
  own : Own wr wA.heap.size (.slice q L.length c) L
  same : Same wA wr
  map : L.map Av.at = (filt (l.take k) t).map Av.at
  len : L.length ≤ k

theorem Putting.skip {t : Int} {k : Nat} {q : Option Addr} {c : Nat} {L : List Av} {wA wr W : World} (h : Putting w l t k q c L wA wr) (hk : k < l.length) (hp : (l[k].t == t) = true) (hs : Same wr W) : Putting w l t (k + 1) q c L wA W :=
  ⟨h.own.same hs, h.same.trans hs (fun _ h => h.elim), by rw [filt_step hk, if_pos hp]; exact h.map, by have := h.len; omega⟩

theorem Putting.push {t : Int} {k : Nat} {q : Option Addr} {c : Nat} {L : List Av} {wA wr W1 W : World} {u1 : Value} (h : Putting w l t k q c L wA wr) (hs : Same wr W1) (hk : k < l.length) (hp : (l[k].t == t) = false)
    (hu : W1.ownsRow wA.heap.size 5 1 u1 l[k].v.length (bytes l[k].v)) (hb : Byt l[k].v) (hl : l[k].v.length ≤ 140737488351232) {g cap : Nat}
    (hown : W.ownsRow wA.heap.size 24 2 (.slice (some ⟨g, 0, none⟩) (L.length + 1) cap) (L.length + 1) (avRow L ++ [.int .i64 l[k].t, u1]))
    (hc : Chg (fun b => (Value.slice q L.length c).ownBlock = some b) (W1.alloc (.cells #[.int .i64 l[k].t, u1] 24)) W) :
    Putting w l t (k + 1) (some ⟨g, 0, none⟩) cap (L ++ [⟨l[k].t, l[k].v, u1⟩]) wA W := by
  refine ⟨?_, ?_, ?_, ?_⟩
  · have := ((h.own.same hs).same ((Chg.refl _ W1).alloc _)).push (ownsRow_same hu ((Chg.refl _ W1).alloc _)) hb hl hown hc
    simpa using this
  · exact Chg.trans ((h.same.trans hs (fun _ h => h.elim)).alloc _) hc (fun b hb => .inr (h.own.row.lt b hb).1)
  · rw [filt_step hk, if_neg (by simp [hp]), List.map_append, List.map_append, h.map]
    rfl
  · have := h.len
    simp
    omega

set_option maxRecDepth 100000 in
set_option maxHeartbeats 16000000 in
theorem put_calls (h : Ats w v l) (hl : l.length ≤ 900) (hu : Bs w u val) (t : Int) : Calls Try.prog 23 #[v, .agg #[.int .i64 t, u]] w (NewList (putOf l t val) w) := by
  obtain ⟨p, cap, rfl, h1, h2, h3, h4⟩ := h.at
  obtain ⟨i24, hi24, hz24, hs24, hb24⟩ := info_parts Try.info24
  have hll : l.length ≤ 9223372036854775807 := by omega
  have HU := hid hu
  obtain ⟨pu, cu, rfl, -⟩ := id hu
  have HR := hid h4
  clear h h3 h4 hu
  go_enter Try.func23, Try.ntmps23
  go_wp2_with fail
  obtain ⟨wA, hwA⟩ : ∃ wA, wA = w.alloc (.cells #[.int .i64 t, .slice pu val.length cu] 24) := ⟨_, rfl⟩
  have HA : Hid (wA.heap[w.heap.size]? = some (.cells #[.int .i64 t, .slice pu val.length cu] 24 (0, 0))) := by rw [hwA]; exact heap_alloc_new _ _
  have HSA : Hid (Same w wA) := by rw [hwA]; exact (Chg.refl _ w).alloc _
  have hz : wA.heap.size = w.heap.size + 1 := by rw [hwA]; simp
  have HZ := hid hz
  rw [← hwA]
  clear hwA hz
  go_loopw [5, 6, 11] (fun o a i wr => ∃ (k : Nat) (L : List Av) (q : Option Addr) (c : Nat), k ≤ l.length ∧ i = .int .i64 k ∧ o = .slice q L.length c ∧ a = .int .i64 (atOf (L.map Av.at) t) ∧ Putting w l t k q c L wA wr) (fun _ _ i _ => l.length - (intOf i).toNat)
  case atStart => exact ⟨0, [], none, 0, Nat.zero_le _, rfl, rfl, rfl, Own.nil _ _, Chg.refl _ _, by simp [filt], Nat.le_refl _⟩
  case round =>
    obtain ⟨k, L, q0, c0, hk, rfl, rfl, rfl, hP⟩ := hrel
    have HP := hid hP
    have hLn : L.length ≤ 900 := by have := hP.len; omega
    clear hP
    have HBOX : Hid (∀ W, Same wr W → W.cell? ⟨w.heap.size, 0, none⟩ = some (.int .i64 t) ∧ W.cell? ⟨w.heap.size, 1, none⟩ = some (.slice pu val.length cu)) := fun W hW => by
      have hH := (HP.out.same.trans hW (fun _ h => h.elim)).block w.heap.size (lt_of_heap HA.out) (fun h => h) |>.trans HA.out
      exact ⟨by rw [cell_of_heap hH]; rfl, by rw [cell_of_heap hH]; rfl⟩
    obtain ⟨d0, d1⟩ := HBOX.out wr (Chg.refl _ _)
    have hzr : w.heap.size < wr.heap.size := Nat.lt_of_lt_of_le (lt_of_heap HA.out) HP.out.same.size
    by_cases hlt : k < l.length
    · obtain ⟨b, o, q, c, rfl, hb, e0, e1, hB⟩ := HR.out k hlt
      have hS := HSA.out.trans HP.out.same (fun _ h => h.elim)
      rw [← hS.cell (by exact hb) (fun h => h)] at e0 e1
      have hbr : b < wr.heap.size := Nat.lt_of_lt_of_le hb hS.size
      have HB := hid (hB.same hS)
      clear hB hS
      cases hp : (l[k].t == t) with
      | true =>
        have HK := hid (fun X => HP.out.skip hlt hp ((Chg.refl _ wr).alloc X))
        go_wp2_with fail
        go_roundw
        case rel => exact ⟨k + 1, L, q0, c0, by omega, by go_num, rfl, rfl, HK.out _⟩
        case measure => simp [intOf]; omega
      | false =>
        have HSH : l[k].v.length ≤ 140737488351232 := by obtain ⟨_, _, _, _, _, hz, _⟩ := HB.out; exact hz
        have hml : (L.map Av.at).length = L.length := List.length_map ..
        have HML := hid hml
        clear hml
        by_cases hx : idxOf (L.map Av.at) t = (L.map Av.at).length
        · have HX := hid hx
          rw [at_neg hx]
          clear hx
          by_cases hgt : t < l[k].t
          · go_wp2_with fail
            refine (copied_calls (HB.out.same ((Chg.refl _ wr).alloc _)) _).mono ?_
            rintro e w1 ⟨v1, rfl, hown1, hs1⟩
            obtain ⟨a1, cap1, rfl, -, -⟩ := ownsRow_form hown1
            have hs2 : Same wr w1 := ((Chg.refl _ wr).alloc _).trans hs1 (fun _ h => h.elim)
            have HS2 := hid hs2
            have hz2 : wA.heap.size ≤ w1.heap.size := Nat.le_trans HP.out.same.size hs2.size
            have HO1 := hid (ownsRow_base hown1 (B' := wA.heap.size) (Nat.le_trans HP.out.same.size ((Chg.refl (fun _ => False) wr).alloc _).size))
            clear hown1 hs1 hs2
            go_wp2_with (at_builtin; refine push_list _ rfl (.tmp 31) (.tmp 34) 35 rfl 24 i24 _ 2 32 Try.underlying35 hi24 hz24 hs24 hb24 rfl (by decide) wA.heap.size (by simp; omega) (.slice q0 L.length c0) L.length (avRow L) rfl ((HP.out.own.same HS2.out).row.alloc _) w1.heap.size [.int .i64 l[k].t, .slice a1 l[k].v.length cap1] rfl (heap_alloc_new _ _) rfl (by simp [Value.oneCell']) (by unfold maxLen; omega) (by omega) ?_; intro g3 cap3 w3 hown3 hc3 hat3 hlt3)
            have HP3 := hid (HP.out.push HS2.out hlt hp HO1.out HB.out.byt HSH hown3 hc3)
            clear hown3 hc3 hat3 hlt3 hz2
            go_wp2_with fail
            go_roundw
            case rel => exact ⟨k + 1, L ++ [⟨l[k].t, l[k].v, .slice a1 l[k].v.length cap1⟩], some ⟨g3, 0, none⟩, cap3, by omega, by go_num, by simp, (by rw [List.map_append]; show Value.int .i64 _ = _; rw [show ([⟨l[k].t, l[k].v, .slice a1 l[k].v.length cap1⟩] : List Av).map Av.at = [⟨l[k].t, l[k].v⟩] from rfl, at_gt HX.out (x := ⟨l[k].t, l[k].v⟩) (show t < l[k].t by omega), HML.out]), by simpa using HP3.out⟩
            case measure => simp [intOf]; omega
          · go_wp2_with fail
            refine (copied_calls (HB.out.same ((Chg.refl _ wr).alloc _)) _).mono ?_
            rintro e w1 ⟨v1, rfl, hown1, hs1⟩
            obtain ⟨a1, cap1, rfl, -, -⟩ := ownsRow_form hown1
            have hs2 : Same wr w1 := ((Chg.refl _ wr).alloc _).trans hs1 (fun _ h => h.elim)
            have HS2 := hid hs2
            have hz2 : wA.heap.size ≤ w1.heap.size := Nat.le_trans HP.out.same.size hs2.size
            have HO1 := hid (ownsRow_base hown1 (B' := wA.heap.size) (Nat.le_trans HP.out.same.size ((Chg.refl (fun _ => False) wr).alloc _).size))
            clear hown1 hs1 hs2
            go_wp2_with (at_builtin; refine push_list _ rfl (.tmp 31) (.tmp 34) 35 rfl 24 i24 _ 2 32 Try.underlying35 hi24 hz24 hs24 hb24 rfl (by decide) wA.heap.size (by simp; omega) (.slice q0 L.length c0) L.length (avRow L) rfl ((HP.out.own.same HS2.out).row.alloc _) w1.heap.size [.int .i64 l[k].t, .slice a1 l[k].v.length cap1] rfl (heap_alloc_new _ _) rfl (by simp [Value.oneCell']) (by unfold maxLen; omega) (by omega) ?_; intro g3 cap3 w3 hown3 hc3 hat3 hlt3)
            have HP3 := hid (HP.out.push HS2.out hlt hp HO1.out HB.out.byt HSH hown3 hc3)
            clear hown3 hc3 hat3 hlt3 hz2
            go_wp2_with fail
            go_roundw
            case rel => exact ⟨k + 1, L ++ [⟨l[k].t, l[k].v, .slice a1 l[k].v.length cap1⟩], some ⟨g3, 0, none⟩, cap3, by omega, by go_num, by simp, (by rw [List.map_append]; show Value.int .i64 _ = _; rw [show ([⟨l[k].t, l[k].v, .slice a1 l[k].v.length cap1⟩] : List Av).map Av.at = [⟨l[k].t, l[k].v⟩] from rfl, at_le HX.out (x := ⟨l[k].t, l[k].v⟩) (show ¬ t < l[k].t by omega)]), by simpa using HP3.out⟩
            case measure => simp [intOf]; omega
        · have HX := hid hx
          have hap := at_pos hx
          rw [hap]
          have HAP := hid hap
          clear hx hap
          have HII : Hid (∃ ii, ii = idxOf (L.map Av.at) t) := ⟨_, rfl⟩
          obtain ⟨ii, hii⟩ := HII.out
          rw [← hii]
          have HIJ := hid hii
          clear hii
          have hi0 : ¬ ((ii : Int) < 0) := by omega
          go_wp2_with fail
          refine (copied_calls (HB.out.same ((Chg.refl _ wr).alloc _)) _).mono ?_
          rintro e w1 ⟨v1, rfl, hown1, hs1⟩
          obtain ⟨a1, cap1, rfl, -, -⟩ := ownsRow_form hown1
          have hs2 : Same wr w1 := ((Chg.refl _ wr).alloc _).trans hs1 (fun _ h => h.elim)
          have HS2 := hid hs2
          have hz2 : wA.heap.size ≤ w1.heap.size := Nat.le_trans HP.out.same.size hs2.size
          have HO1 := hid (ownsRow_base hown1 (B' := wA.heap.size) (Nat.le_trans HP.out.same.size ((Chg.refl (fun _ => False) wr).alloc _).size))
          clear hown1 hs1 hs2
          go_wp2_with (at_builtin; refine push_list _ rfl (.tmp 31) (.tmp 34) 35 rfl 24 i24 _ 2 32 Try.underlying35 hi24 hz24 hs24 hb24 rfl (by decide) wA.heap.size (by simp; omega) (.slice q0 L.length c0) L.length (avRow L) rfl ((HP.out.own.same HS2.out).row.alloc _) w1.heap.size [.int .i64 l[k].t, .slice a1 l[k].v.length cap1] rfl (heap_alloc_new _ _) rfl (by simp [Value.oneCell']) (by unfold maxLen; omega) (by omega) ?_; intro g3 cap3 w3 hown3 hc3 hat3 hlt3)
          have HP3 := hid (HP.out.push HS2.out hlt hp HO1.out HB.out.byt HSH hown3 hc3)
          clear hown3 hc3 hat3 hlt3 hz2
          go_wp2_with fail
          go_roundw
          case rel => exact ⟨k + 1, L ++ [⟨l[k].t, l[k].v, .slice a1 l[k].v.length cap1⟩], some ⟨g3, 0, none⟩, cap3, by omega, by go_num, by simp, (by rw [List.map_append]; show Value.int .i64 _ = _; rw [show ([⟨l[k].t, l[k].v, .slice a1 l[k].v.length cap1⟩] : List Av).map Av.at = [⟨l[k].t, l[k].v⟩] from rfl, at_in HX.out, HAP.out, HIJ.out]), by simpa using HP3.out⟩
          case measure => simp [intOf]; omega
    · have hkl : k = l.length := by omega
      subst hkl
      have HW := hid (HSA.out.trans HP.out.same (fun _ h => h.elim))
      have HVL : val.length ≤ 140737488351232 := by obtain ⟨_, _, _, _, _, hz, _⟩ := HU.out; exact hz
      have HMAP := hid (show L.map Av.at = (filt l t).map Av.at by have := HP.out.map; rw [List.take_length] at this; exact this)
      have hml : (L.map Av.at).length = L.length := List.length_map ..
      have HML := hid hml
      clear hml
      by_cases hx : idxOf (L.map Av.at) t = (L.map Av.at).length
      · have HX := hid hx
        rw [at_neg hx]
        clear hx
        go_wp2_with fail
        refine (copied_calls (HU.out.same HW.out) _).mono ?_
        rintro e w1 ⟨v1, rfl, hown1, hs1⟩
        obtain ⟨a1, cap1, rfl, -, -⟩ := ownsRow_form hown1
        have HS2 := hid hs1
        have HO1 := hid (ownsRow_base hown1 (B' := wA.heap.size) HP.out.same.size)
        have hz2 : wA.heap.size ≤ w1.heap.size := Nat.le_trans HP.out.same.size hs1.size
        clear hown1 hs1
        go_wp2_with fail
        refine (insert_calls (B := wA.heap.size) (nb := w1.heap.size) (x := .int .i64 t) (y := .slice a1 val.length cap1) (i := L.length) ((HP.out.own.same HS2.out).row.alloc _) (by simp; omega) HP.out.own.oneCell (heap_alloc_new _ _) (by intro e; have := ((HP.out.own.same HS2.out).row.lt _ e).2; omega) rfl rfl (by omega) (Nat.le_refl _)).mono ?_
        rintro e W2 ⟨p2, cap2, rfl, hown2, hc2⟩
        have HP2 := hid (Own.put ((HP.out.own.same HS2.out).same ((Chg.refl _ w1).alloc _)) (ownsRow_same HO1.out ((Chg.refl _ w1).alloc _)) HU.out.byt HVL _ hown2 hc2)
        have HS3 : Hid (Same w W2) := Chg.trans ((HW.out.trans HS2.out (fun _ h => h.elim)).alloc _) hc2 (fun b hb => .inr (Nat.le_trans HSA.out.size (HP.out.own.row.lt b hb).1))
        clear hown2 hc2 hz2
        go_wp2_with fail
        go_ret
        refine ⟨p2, _, cap2, ?_, HP2.out.base' (Nat.le_of_lt (by rw [HZ.out]; omega)), ?_, HS3.out⟩
        · rw [put_length]
          rfl
        · rw [put_map HMAP.out (by rw [HX.out, HML.out])]
      · have HX := hid hx
        have hap := at_pos hx
        rw [hap]
        have hle := idxOf_le (L.map Av.at) t
        rw [HML.out] at hle
        clear hx hap
        have HII : Hid (∃ ii, ii = idxOf (L.map Av.at) t) := ⟨_, rfl⟩
        obtain ⟨ii, hii⟩ := HII.out
        rw [← hii] at hle ⊢
        have HIJ := hid hii
        clear hii
        have hi0 : ¬ ((ii : Int) < 0) := by omega
        go_wp2_with fail
        refine (copied_calls (HU.out.same HW.out) _).mono ?_
        rintro e w1 ⟨v1, rfl, hown1, hs1⟩
        obtain ⟨a1, cap1, rfl, -, -⟩ := ownsRow_form hown1
        have HS2 := hid hs1
        have HO1 := hid (ownsRow_base hown1 (B' := wA.heap.size) HP.out.same.size)
        have hz2 : wA.heap.size ≤ w1.heap.size := Nat.le_trans HP.out.same.size hs1.size
        clear hown1 hs1
        go_wp2_with fail
        refine (insert_calls (B := wA.heap.size) (nb := w1.heap.size) (x := .int .i64 t) (y := .slice a1 val.length cap1) (i := ii) ((HP.out.own.same HS2.out).row.alloc _) (by simp; omega) HP.out.own.oneCell (heap_alloc_new _ _) (by intro e; have := ((HP.out.own.same HS2.out).row.lt _ e).2; omega) rfl rfl (by omega) hle).mono ?_
        rintro e W2 ⟨p2, cap2, rfl, hown2, hc2⟩
        have HP2 := hid (Own.put ((HP.out.own.same HS2.out).same ((Chg.refl _ w1).alloc _)) (ownsRow_same HO1.out ((Chg.refl _ w1).alloc _)) HU.out.byt HVL _ hown2 hc2)
        have HS3 : Hid (Same w W2) := Chg.trans ((HW.out.trans HS2.out (fun _ h => h.elim)).alloc _) hc2 (fun b hb => .inr (Nat.le_trans HSA.out.size (HP.out.own.row.lt b hb).1))
        clear hown2 hc2 hz2
        go_wp2_with fail
        go_ret
        refine ⟨p2, _, cap2, ?_, HP2.out.base' (Nat.le_of_lt (by rw [HZ.out]; omega)), ?_, HS3.out⟩
        · rw [put_length]
          rfl
        · rw [put_map HMAP.out HIJ.out]
end
end Go.Proofs.Ythmhmgmdajjpmaa
