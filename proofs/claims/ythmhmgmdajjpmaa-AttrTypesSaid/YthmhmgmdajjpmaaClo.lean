/- A list in memory of its own. -/
import Derived.Test.YthmhmgmdajjpmaaRput
namespace Go.Proofs.Ythmhmgmdajjpmaa
set_option linter.unusedVariables false
set_option linter.unusedSimpArgs false
open Go.RowKit

theorem clone_step {l : List Av} {k : Nat} {L : List Av} {u : Value} (hk : k < l.length) (h : L.map Av.at = (l.take k).map Av.at) : (L ++ [(⟨l[k].t, l[k].v, u⟩ : Av)]).map Av.at = (l.take (k + 1)).map Av.at := by
  rw [List.take_succ_eq_append_getElem hk, List.map_append, List.map_append, h]
  rfl

section
variable {w : World} {u v : Value} {l : List Av}

set_option maxRecDepth 100000 in
set_option maxHeartbeats 8000000 in
theorem rclone_calls (h : Ats w v l) (hl : l.length ≤ 1000) : Calls Try.prog 35 #[v] w (NewList (l.map Av.at) w) := by
  obtain ⟨p, cap, rfl, h1, h2, h3, h4⟩ := h.at
  obtain ⟨i24, hi24, hz24, hs24, hb24⟩ := info_parts Try.info24
  have hll : l.length ≤ 9223372036854775807 := by unfold maxLen at h2; omega
  have HR := hid h4
  clear h h3 h4
  go_enter Try.func35, Try.ntmps35
  go_wp2_with fail
  go_loopw [3, 4] (fun o i wr => ∃ (k : Nat) (L : List Av) (q : Option Addr) (c : Nat), k ≤ l.length ∧ i = .int .i64 k ∧ o = .slice q L.length c ∧ L.length = k ∧ Own wr w.heap.size (.slice q L.length c) L ∧ Same w wr ∧ L.map Av.at = (l.take k).map Av.at) (fun _ i _ => l.length - (intOf i).toNat)
  case atStart => exact ⟨0, [], none, 0, Nat.zero_le _, rfl, rfl, rfl, Own.nil _ _, Chg.refl _ _, by simp⟩
  case round =>
    obtain ⟨k, L, q0, c0, hk, rfl, rfl, hL, ho, hs, hm'⟩ := hrel
    have HO := hid ho
    have HS := hid hs
    have HM := hid hm'
    have HL := hid hL
    clear ho hs hm'
    by_cases hlt : k < l.length
    · obtain ⟨b, o, q, c, rfl, hb, e0, e1, hB⟩ := HR.out k hlt
      rw [← HS.out.cell (by exact hb) (fun h => h)] at e0 e1
      have hbr : b < wr.heap.size := Nat.lt_of_lt_of_le hb HS.out.size
      have i1 : (k : Int) < (l.length : Int) := by omega
      have HB := hid (hB.same HS.out)
      have hLn : L.length ≤ 1000 := by omega
      have hsz := HS.out.size
      obtain ⟨lv, hlv⟩ : ∃ lv : List Int, lv = l[k].v := ⟨_, rfl⟩
      have HLV := hid hlv
      have hlv0 : lv.length ≤ 140737488351232 := by obtain ⟨_, _, _, _, _, hz, _⟩ := HB.out; rw [HLV.out]; omega
      have HBY : Hid (Byt lv) := by rw [HLV.out]; exact HB.out.byt
      have HBL := HB
      rw [← hlv] at HBL e1
      clear hB hL hlv
      go_wp2_with fail
      go_region_held3 (fun w' => w'.cell? ⟨b, o + k * 2, none⟩ = some (.int .i64 l[k].t) ∧ w'.cell? ⟨b, o + k * 2 + 1, none⟩ = some (.slice q lv.length c))
        (first | go_keep | (refine ⟨?_, ?_⟩ <;> (rw [hc2.cell (by simpa using hbr) (by simp [Value.ownBlock])]; go_keep)) | (refine ⟨?_, ?_⟩ <;> (rw [hc3.cell (by simp; omega) (by exact hne3)]; go_keep)))
        (first
          | (refine step_bytes (by rfl) _ _ (by rfl) (by rfl) (by rfl) (World.ownsRow_nil _ w.heap.size _ _) (by simp; omega) (HBL.out.same (by exact ((Chg.refl _ _).drewN _))) (by omega) ?_; intro p2 cap2 w2 hown2 hc2; have hs2 : Same wr w2 := Chg.trans ((Chg.refl _ wr).drewN _) hc2 (by intro k hk; simp [Value.ownBlock] at hk); have ho2 := HO.out.same hs2; have hz2 := hs2.size)
          | (refine push_step _ (by rfl) _ _ 35 (by rfl) 24 i24 _ 2 32 Try.underlying35 hi24 hz24 hs24 hb24 rfl (by decide) w.heap.size (by simp; omega) _ _ _ (by rfl) (by first | exact ho2.row.alloc _ | exact (ho2.row.alloc _).drew) w2.heap.size [.int .i64 l[k].t, .slice p2 lv.length cap2] (by rfl) (by first | exact heap_alloc_new _ _) rfl (by simp [Value.oneCell']) (by unfold maxLen; omega) (by omega) ?_; intro g3 cap3 w3 hown3 hc3 hat3 hlt3; have hne3 : ¬ ((Value.slice q0 L.length c0).ownBlock = some b) := by (intro e; have := (HO.out.row.lt b e).1; omega)))
      have hu2 : w2.ownsRow w.heap.size 5 1 (.slice p2 lv.length cap2) lv.length (bytes lv) := by simpa using hown2
      have HO3 := hid ((ho2.same ((Chg.refl _ w2).alloc _)).push (ownsRow_same hu2 ((Chg.refl _ w2).alloc _)) HBY.out hlv0 hown3 hc3)
      have HS3 : Hid (Same w w3) := Chg.trans (HS.out.trans (hs2.alloc _) (fun _ h => h.elim)) hc3 (fun j hj => .inr (HO.out.row.lt j hj).1)
      have HM3 := hid (clone_step (u := .slice p2 lv.length cap2) hlt HM.out)
      clear hown2 hc2 hs2 ho2 hz2 hown3 hc3 hat3 hlt3 hne3 hu2
      go_wp2_with fail
      go_roundw
      case rel =>
        refine ⟨k + 1, L ++ [⟨l[k].t, lv, .slice p2 lv.length cap2⟩], some ⟨g3, 0, none⟩, cap3, by omega, by go_num, by simp, by simp [HL.out], by simpa using HO3.out, HS3.out, ?_⟩
        have := HM3.out
        rw [← HLV.out] at this
        exact this
      case measure => simp [intOf]; omega
    · have hkl : k = l.length := by omega
      subst hkl
      clear hL
      go_wp2_with fail
      go_ret
      exact ⟨_, L, _, rfl, HO.out, by have := HM.out; rw [List.take_length] at this; exact this, HS.out⟩
end
end Go.Proofs.Ythmhmgmdajjpmaa
