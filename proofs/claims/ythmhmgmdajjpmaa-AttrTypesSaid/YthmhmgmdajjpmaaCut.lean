/- Lists that are cut short. -/
import Derived.Test.YthmhmgmdajjpmaaApp
namespace Go.Proofs.Ythmhmgmdajjpmaa
set_option linter.unusedVariables false
set_option linter.unusedSimpArgs false
open Go.RowKit

/-- A list of one's own, with values of one's own. -/
structure Own (w : World) (B : Nat) (v : Value) (L : List Av) : Prop where
  row : w.ownsRow B 24 2 v L.length (avRow L)
  vals : ∀ x ∈ L, w.ownsRow B 5 1 x.u x.v.length (bytes x.v)
  byt : ∀ x ∈ L, Byt x.v
  short : ∀ x ∈ L, x.v.length ≤ 140737488351232

/-- A new list of these attributes. -/
def NewList (l : List At) (w : World) (e : Ending) (w' : World) : Prop :=
  ∃ p L cap, e = .returned (.slice p L.length cap) ∧ Own w' w.heap.size (.slice p L.length cap) L ∧ L.map Av.at = l ∧ Same w w'

section
variable {w w' wr W W' : World} {u v : Value} {B : Nat} {L : List Av}

theorem Own.ats (h : Own w B v L) : Ats w v L := Ats.own h.row (fun x hx => Bs.own (h.vals x hx) (h.byt x hx) (h.short x hx))
theorem Own.same (h : Own w B v L) (hs : Same w w') : Own w' B v L := ⟨ownsRow_same h.row hs, fun x hx => ownsRow_same (h.vals x hx) hs, h.byt, h.short⟩
theorem Own.base {B' : Nat} (h : Own w B v L) (hB : B' ≤ B) : Own w B' v L := ⟨ownsRow_base h.row hB, fun x hx => ownsRow_base (h.vals x hx) hB, h.byt, h.short⟩
theorem Own.nil (w : World) (B : Nat) : Own w B (.slice none 0 0) [] := ⟨World.ownsRow_nil _ _ _ _, (by intro x hx; cases hx), (by intro x hx; cases hx), (by intro x hx; cases hx)⟩

theorem ownsRow_chg {e e' : TypeId} {s s' n n' : Nat} {B B' : Nat} {v v' : Value} {xs xs' : List Value} (h : w.ownsRow B e s v n xs) (h' : w.ownsRow B' e' s' v' n' xs') (he : e ≠ e') (hc : Chg (fun k => v'.ownBlock = some k) w w') : w'.ownsRow B e s v n xs :=
  ownsRow_keep h fun g hg => hc.block g (h.lt g hg).2 (rows_ne h h' he g hg)

/-- One more. -/
theorem Own.push (h : Own w B v L) {t : Int} {l : List Int} (hu : w.ownsRow B 5 1 u l.length (bytes l)) (hb : Byt l) (hl : l.length ≤ 140737488351232) {g cap : Nat}
    (hown : w'.ownsRow B 24 2 (.slice (some ⟨g, 0, none⟩) (L.length + 1) cap) (L.length + 1) (avRow L ++ [.int .i64 t, u])) (hc : Chg (fun k => v.ownBlock = some k) w w') :
    Own w' B (.slice (some ⟨g, 0, none⟩) (L.length + 1) cap) (L ++ [⟨t, l, u⟩]) := by
  refine ⟨?_, ?_, ?_, ?_⟩
  · rw [avRow_append, List.length_append]
    simpa [avRow, Av.cells] using hown
  · intro x hx
    rcases List.mem_append.1 hx with hx | hx
    · exact ownsRow_chg (h.vals x hx) h.row (by decide) hc
    · rw [List.mem_singleton.1 hx]
      exact ownsRow_chg hu h.row (by decide) hc
  · intro x hx
    rcases List.mem_append.1 hx with hx | hx
    · exact h.byt x hx
    · rw [List.mem_singleton.1 hx]; exact hb
  · intro x hx
    rcases List.mem_append.1 hx with hx | hx
    · exact h.short x hx
    · rw [List.mem_singleton.1 hx]; exact hl
end

def cutAt (m : Nat) (x : Av) : At := ⟨x.t, x.v.take m⟩
def cutOf (l : List Av) (n m : Nat) : List At := (l.take n).map (cutAt m)

theorem cut_step {l : List Av} {m k : Nat} {L : List Av} {u : Value} (hk : k < l.length) (h : L.map Av.at = (l.take k).map (cutAt m)) : (L ++ [(⟨l[k].t, l[k].v.take m, u⟩ : Av)]).map Av.at = (l.take (k + 1)).map (cutAt m) := by
  rw [List.take_succ_eq_append_getElem hk, List.map_append, List.map_append, h]
  rfl

section
variable {w : World} {u v : Value} {l : List Av}

set_option maxRecDepth 100000 in
set_option maxHeartbeats 8000000 in
theorem cut_calls (h : Ats w v l) (n m : Nat) (hn : n ≤ 1000) (hm : m ≤ 1000000) : Calls Try.prog 18 #[v, .int .i64 n, .int .i64 m] w (NewList (cutOf l n m) w) := by
  obtain ⟨p, cap, rfl, h1, h2, h3, h4⟩ := h.at
  obtain ⟨i24, hi24, hz24, hs24, hb24⟩ := info_parts Try.info24
  have hll : l.length ≤ 9223372036854775807 := by unfold maxLen at h2; omega
  have HR := hid h4
  clear h h3 h4
  go_enter Try.func18, Try.ntmps18
  go_wp2_with fail
  go_loopw [7, 8] (fun o i wr => ∃ (k : Nat) (L : List Av) (q : Option Addr) (c : Nat), k ≤ l.length ∧ k ≤ n ∧ i = .int .i64 k ∧ o = .slice q L.length c ∧ L.length = k ∧ Own wr w.heap.size (.slice q L.length c) L ∧ Same w wr ∧ L.map Av.at = (l.take k).map (cutAt m)) (fun _ i _ => l.length - (intOf i).toNat)
  case atStart => exact ⟨0, [], none, 0, Nat.zero_le _, Nat.zero_le _, rfl, rfl, rfl, Own.nil _ _, Chg.refl _ _, by simp⟩
  case round =>
    obtain ⟨k, L, q0, c0, hk, hkn, rfl, rfl, hL, ho, hs, hm'⟩ := hrel
    have HO := hid ho
    have HS := hid hs
    have HM := hid hm'
    have HL := hid hL
    clear ho hs hm'
    by_cases hlt : k < l.length
    · by_cases hltn : k < n
      · obtain ⟨b, o, q, c, rfl, hb, e0, e1, hB⟩ := HR.out k hlt
        rw [← HS.out.cell (by exact hb) (fun h => h)] at e0 e1
        have hbr : b < wr.heap.size := Nat.lt_of_lt_of_le hb HS.out.size
        have i1 : (k : Int) < (l.length : Int) := by omega
        have HB := hid (hB.same HS.out)
        have hLn : L.length ≤ 1000 := by omega
        have hsz := HS.out.size
        obtain ⟨lv, hlv⟩ : ∃ lv : List Int, lv = l[k].v.take m := ⟨_, rfl⟩
        have HLV := hid hlv
        have SH : Hid (∀ W, Same wr W → Calls Try.prog 30 #[.slice q l[k].v.length c, .int .i64 m] W (GivesBytes lv W)) := fun W hW => by rw [HLV.out]; exact short_calls (HB.out.same hW) m hm
        have hlv0 : lv.length ≤ 140737488351232 := by obtain ⟨_, _, _, _, _, hz, _⟩ := HB.out; rw [HLV.out]; simp; omega
        have HBY : Hid (Byt lv) := by rw [HLV.out]; exact fun x hx => HB.out.byt x (List.mem_of_mem_take hx)
        clear hB hL hlv
        go_wp2_with fail
        go_region_held3 (fun w' => w'.cell? ⟨b, o + k * 2, none⟩ = some (.int .i64 l[k].t) ∧ w'.cell? ⟨b, o + k * 2 + 1, none⟩ = some (.slice q l[k].v.length c))
          (first | go_keep | (refine ⟨?_, ?_⟩ <;> (rw [hc2.cell (by simpa using hbr) (by simp [Value.ownBlock])]; go_keep)) | (refine ⟨?_, ?_⟩ <;> (rw [hc3.cell (by simp; omega) (by exact hne3)]; go_keep)))
          (first
            | (go_at_call 30; refine (SH.out _ (by exact ((Chg.refl _ _).drewN _))).mono ?_; rintro e w1 ⟨p1, cap1, rfl, hB1, rfl⟩)
            | (refine step_bytes (by rfl) _ _ (by rfl) (by rfl) (by rfl) (World.ownsRow_nil _ w.heap.size _ _) (by simp; omega) hB1 (by omega) ?_; intro p2 cap2 w2 hown2 hc2; have hs2 : Same wr w2 := Chg.trans ((Chg.refl _ wr).drewN _) hc2 (by intro k hk; simp [Value.ownBlock] at hk); have ho2 := HO.out.same hs2; have hz2 := hs2.size)
            | (refine push_step _ (by rfl) _ _ 35 (by rfl) 24 i24 _ 2 32 Try.underlying35 hi24 hz24 hs24 hb24 rfl (by decide) w.heap.size (by simp; omega) _ _ _ (by rfl) (by first | exact ho2.row.alloc _ | exact (ho2.row.alloc _).drew) w2.heap.size [.int .i64 l[k].t, .slice p2 lv.length cap2] (by rfl) (by first | exact heap_alloc_new _ _) rfl (by simp [Value.oneCell']) (by unfold maxLen; omega) (by omega) ?_; intro g3 cap3 w3 hown3 hc3 hat3 hlt3; have hne3 : ¬ ((Value.slice q0 L.length c0).ownBlock = some b) := by (intro e; have := (HO.out.row.lt b e).1; omega)))
        have hu2 : w2.ownsRow w.heap.size 5 1 (.slice p2 lv.length cap2) lv.length (bytes lv) := by simpa using hown2
        have HO3 := hid ((ho2.same ((Chg.refl _ w2).alloc _)).push (ownsRow_same hu2 ((Chg.refl _ w2).alloc _)) HBY.out hlv0 hown3 hc3)
        have HS3 : Hid (Same w w3) := Chg.trans (HS.out.trans (hs2.alloc _) (fun _ h => h.elim)) hc3 (fun j hj => .inr (HO.out.row.lt j hj).1)
        have HM3 := hid (cut_step (u := .slice p2 lv.length cap2) hlt HM.out)
        clear hown2 hc2 hs2 ho2 hz2 hown3 hc3 hat3 hlt3 hne3 hu2 hB1
        go_wp2_with fail
        go_roundw
        case rel =>
          refine ⟨k + 1, L ++ [⟨l[k].t, lv, .slice p2 lv.length cap2⟩], some ⟨g3, 0, none⟩, cap3, by omega, by omega, by go_num, by simp, by simp [HL.out], by simpa using HO3.out, HS3.out, ?_⟩
          have := HM3.out
          rw [← HLV.out] at this
          exact this
        case measure => simp [intOf]; omega
      · have hk2 : l.take n = l.take k := by rw [show n = k by omega]
        have HK := hid hk2
        clear hk2 hL
        go_wp2_with fail
        go_ret
        exact ⟨_, L, _, rfl, HO.out, by unfold cutOf; rw [HK.out]; exact HM.out, HS.out⟩
    · have hk2 : l.take n = l.take k := by rw [List.take_of_length_le (by omega), List.take_of_length_le (by omega)]
      have HK := hid hk2
      clear hk2 hL
      go_wp2_with fail
      go_ret
      exact ⟨_, L, _, rfl, HO.out, by unfold cutOf; rw [HK.out]; exact HM.out, HS.out⟩
end
end Go.Proofs.Ythmhmgmdajjpmaa
