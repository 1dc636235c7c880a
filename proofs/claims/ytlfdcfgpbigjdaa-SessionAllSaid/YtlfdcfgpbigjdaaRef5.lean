/- The document's table of sessions: closing. -/
import Derived.Test.YtlfdcfgpbigjdaaRef4
namespace Go.Proofs.Ytlfdcfgpbigjdaa
set_option linter.unusedVariables false
set_option linter.unusedSimpArgs false
open Go.RowKit

section
variable {w : World} {F : Nat → Prop} {r : Nat} {l : List Se} {next : Int} {ws : List Lo} {lv wv : Value}

def rcloseL (l : List Se) (c hd : Int) : List Se := match l.findIdx? (fun x => x.h == hd && x.c == c) with | some k => l.eraseIdx k | none => l
def rcloseW (l : List Se) (ws : List Lo) (c hd : Int) : List Lo := match findSe l c hd with | some x => (if (rcloseL l c hd).any (hasAt c x.s) = true then ws else outW ws c x.s) | none => ws
def RClosePost (w : World) (F : Nat → Prop) (r : Nat) (l : List Se) (next : Int) (ws : List Lo) (c hd : Int) (e : Ending) (w' : World) : Prop :=
  e = .returned (.int .i64 (if (findSe l c hd).isSome then 0 else 179)) ∧ RTabTo w F r (rcloseL l c hd) next (rcloseW l ws c hd) w'

theorem seRow_take (l : List Se) (k : Nat) : (seRow l).take (k * 4) = seRow (l.take k) := by
  induction l generalizing k with
  | nil => simp [seRow]
  | cons x l ih =>
    cases k with
    | zero => simp [seRow]
    | succ k =>
      have := ih k
      simp only [seRow, List.flatMap_cons, List.take_succ_cons] at this ⊢
      rw [List.take_append, List.take_of_length_le (by simp [Se.cells]; omega), show (k + 1) * 4 - x.cells.length = k * 4 by simp [Se.cells]; omega, this]
theorem seRow_drop (l : List Se) (k : Nat) : (seRow l).drop (k * 4) = seRow (l.drop k) := by
  induction l generalizing k with
  | nil => simp [seRow]
  | cons x l ih =>
    cases k with
    | zero => simp [seRow]
    | succ k =>
      have := ih k
      simp only [seRow, List.flatMap_cons, List.drop_succ_cons] at this ⊢
      rw [List.drop_append, List.drop_of_length_le (by simp [Se.cells]; omega), show (k + 1) * 4 - x.cells.length = k * 4 by simp [Se.cells]; omega, this]
      simp

theorem cells_oneCell (l : List Se) : ∀ u ∈ seRow l, u.oneCell' = true := by
  intro u hu
  obtain ⟨x, _, hx⟩ := List.mem_flatMap.1 hu
  simp [Se.cells] at hx
  rcases hx with rfl | rfl | rfl | rfl <;> rfl

/-- The cells of a part of the row. -/
theorem row_part {W : World} {g cap : Nat} {e : TypeId} {l : List Se} (h : W.ownsRow 0 e 4 (.slice (some ⟨g, 0, none⟩) l.length cap) l.length (seRow l)) :
    (∀ k j u, (seRow (l.take k))[j]? = some u → W.cell? ((⟨g, 0, none⟩ : Addr).add j) = some u) ∧ (∀ k j u, (seRow (l.drop k))[j]? = some u → W.cell? ((⟨g, k * 4, none⟩ : Addr).add j) = some u) := by
  have hc := h.cells (g := g) rfl
  constructor
  · intro k j u hu
    refine hc j u ?_
    rw [← seRow_take, List.getElem?_take] at hu
    split at hu
    · exact hu
    · cases hu
  · intro k j u hu
    rw [← seRow_drop, List.getElem?_drop] at hu
    have := hc _ _ hu
    have e1 : (⟨g, k * 4, none⟩ : Addr).add j = (⟨g, 0, none⟩ : Addr).add (k * 4 + j) := by
      unfold Addr.add
      split <;> split <;> simp_all
    rw [e1]; exact this

theorem RTab.newL (h : RTab w F r l next ws lv wv) {W : World} (hs : Same w W) {l' : List Se} {v : Value} (hown : W.ownsRow w.heap.size 61 4 v l'.length (seRow l')) :
    RTab (W.setCell ⟨r, 0, none⟩ v) (fun k => F k ∨ v.ownBlock = some k) r l' next ws v wv ∧ Chg F w (W.setCell ⟨r, 0, none⟩ v) ∧ ∀ k, (F k ∨ v.ownBlock = some k) → F k ∨ w.heap.size ≤ k := by
  have h1 := h.same hs
  have hne : ∀ g, v.ownBlock = some g → g ≠ r := by
    rintro g hg rfl
    have := (hown.lt g hg).1
    have := h.lt
    omega
  refine ⟨⟨?_, ?_, ?_, .inl h.inR, fun g hg => .inr hg, fun g hg => .inl (h.inW g hg), ?_⟩, Chg.setCell hs.same (.inl h.inR) _, ?_⟩
  · rw [heap_setCell_at h1.heap]; simp
  · exact ownsRow_keep (ownsRow_base hown (Nat.zero_le _)) fun g hg => Below.heap_setCell _ _ _ _ (hne g hg)
  · exact ownsRow_keep h1.wrow fun g hg => Below.heap_setCell _ _ _ _ (h.row_ne.2.1 g hg)
  · intro k hk
    rw [size_setCell]
    rcases hk with hk | hk
    · exact h1.old k hk
    · exact (hown.lt k hk).2
  · intro k hk
    rcases hk with hk | hk
    · exact .inl hk
    · exact .inr (hown.lt k hk).1

theorem erase_eq (l : List Se) (k : Nat) (hk : k < l.length) : l.eraseIdx k = l.take k ++ l.drop (k + 1) := List.eraseIdx_eq_take_drop_succ _ _

set_option maxHeartbeats 4000000 in
theorem rclose_calls (h : RTab w F r l next ws lv wv) (hw : ws.length < 1000) (hl100 : l.length < 100) (c hd : Int) :
   Calls Try.prog 11 #[.pointer (some ⟨r, 0, none⟩), .int .i64 c, .int .i64 hd] w (RClosePost w F r l next ws c hd) := by
  have H := hid h
  clear h
  obtain ⟨i61, hi61, hz61, hs61, hb61⟩ := info_parts Try.info61
  go_enter Try.func11, Try.ntmps11
  go_wp2_with fail
  refine (rfind_calls H.out c hd).mono ?_
  rintro e w' ⟨rfl, rfl⟩
  rcases placeOf_spec l c hd with ⟨h1, h2, h3⟩ | ⟨k, x, h1, hk, hx, h2, hxc, -, h3⟩
  · have E : Hid (RClosePost w F r l next ws c hd (.returned (.int .i64 179)) w) := by
      refine ⟨by rw [h2]; rfl, ?_⟩
      unfold rcloseL rcloseW
      rw [h3, h2]
      exact RTabTo.of_same H.out (Chg.refl _ _)
    clear h2 h3
    rw [h1]
    clear h1
    go_wp2_with fail
    go_ret
    exact E.out
  · obtain ⟨g, cap, hlv, hg, hlc, hcm, c0, c1, c2, c3⟩ := H.out.cells_at hx
    subst hlv
    have hll : l.length ≤ 9223372036854775807 := by unfold maxLen at hcm; omega
    have d0 := H.out.l_cell
    have ht := H.out.lt
    have HX : Hid (l[k]? = some x) := hx
    have HXC := hid hxc
    have H2 := hid h2
    have H3 := hid h3
    rw [h1]
    clear h1 h2 h3 hx hxc
    have hB : Hid (w.heap.size + 1 ≤ (w.alloc (.cells #[.int .i64 x.h, .int .i64 x.c, .int .i64 x.s, .bool x.rw] 61)).heap.size) := by show _ ≤ _; simp
    have P1 := hid (row_part ((H.out.same ((Chg.refl _ w).alloc (.cells #[.int .i64 x.h, .int .i64 x.c, .int .i64 x.s, .bool x.rw] 61))).lrow)).1
    have N1 := hid (heap_alloc_new w (.cells #[.int .i64 x.h, .int .i64 x.c, .int .i64 x.s, .bool x.rw] 61))
    have S1 : Hid (Same w (w.alloc (.cells #[.int .i64 x.h, .int .i64 x.c, .int .i64 x.s, .bool x.rw] 61))) := (Chg.refl _ w).alloc _
    have hkl : (seRow (l.take k)).length = k * 4 := by rw [seRow_length, List.length_take]; congr 1; omega
    have HK := hid hkl
    clear hkl
    go_wp2_with (at_builtin; refine wpList_append_own _ rfl _ _ 27 rfl (w.heap.size + 1) 61 i61 _ 4 32 Try.underlying27 hi61 hz61 hs61 hb61 rfl (by decide) (.slice none 0 0) 0 [] rfl (World.ownsRow_nil _ _ _ _) ⟨g, 0, none⟩ k cap (seRow (l.take k)) rfl HK.out (P1.out k) (cells_oneCell _) ?c1 ?c2 hB.out ?_)
    case c1 => unfold maxLen; omega
    case c2 => omega
    intro v1 W1 hown1 hgr1 hnil1
    have SW : Hid (Same w W1) := S1.out.trans ⟨hgr1.os, hgr1.tape, hgr1.output, hgr1.size, fun b hb _ => hgr1.block b hb (by simp [Value.ownBlock])⟩
    have N2 : Hid (W1.heap[w.heap.size]? = some (.cells #[.int .i64 x.h, .int .i64 x.c, .int .i64 x.s, .bool x.rw] 61 (0, 0))) := by
      show _ = _
      rw [hgr1.block _ (by simp) (by simp [Value.ownBlock])]; exact N1.out
    have d1 := (H.out.same SW.out).l_cell
    have O1 := hid hown1
    clear hown1 hgr1 hnil1 c0 c1 c2 c3 d0
    have P2 := hid (row_part ((H.out.same SW.out).lrow)).2
    have hkl2 : (seRow (l.drop (k + 1))).length = (l.length - (k + 1)) * 4 := by rw [seRow_length, List.length_drop]
    have HK2 := hid hkl2
    have hB1 : Hid (w.heap.size + 1 ≤ W1.heap.size) := Nat.succ_le_of_lt (lt_of_heap N2.out)
    have f1 := frozen_of_heap (H.out.same SW.out).heap 0
    clear hkl2
    have FIN : Hid (∀ (v2 : Value) (W2 : World), W2.ownsRow (w.heap.size + 1) 61 4 v2 (k + (l.length - (k + 1))) (seRow (l.take k) ++ seRow (l.drop (k + 1))) → W1.grownBy W2 v1.ownBlock →
        W2.cell? ⟨r, 0, none⟩ = some (.slice (some ⟨g, 0, none⟩) l.length cap) ∧ W2.frozen? ⟨r, 0, none⟩ = false ∧ Same w W2 ∧ W2.ownsRow w.heap.size 61 4 v2 (rcloseL l c hd).length (seRow (rcloseL l c hd)) ∧ W2.heap[w.heap.size]? = some (.cells #[.int .i64 x.h, .int .i64 x.c, .int .i64 x.s, .bool x.rw] 61 (0, 0))) := by
      intro v2 W2 hown hgr
      have hc : Chg (fun b => v1.ownBlock = some b) W1 W2 := ⟨hgr.os, hgr.tape, hgr.output, hgr.size, fun b hb hn => hgr.block b hb (fun e => hn e.symm)⟩
      have hs2 : Same w W2 := Chg.trans SW.out hc (fun b hb => .inr (by have := (O1.out.lt b hb).1; omega))
      have hL : rcloseL l c hd = l.take k ++ l.drop (k + 1) := by unfold rcloseL; rw [H3.out]; exact erase_eq l k hk
      refine ⟨(H.out.same hs2).l_cell, frozen_of_heap (H.out.same hs2).heap 0, hs2, ?_, ?_⟩
      · rw [hL]
        have e1 : (l.take k ++ l.drop (k + 1)).length = k + (l.length - (k + 1)) := by simp; omega
        have e2 : seRow (l.take k ++ l.drop (k + 1)) = seRow (l.take k) ++ seRow (l.drop (k + 1)) := by simp [seRow]
        rw [e1, e2]
        exact ownsRow_base hown (by omega)
      · rw [hc.block _ (lt_of_heap N2.out) (fun hb => by have := (O1.out.lt _ hb).1; omega)]
        exact N2.out
    have FIN2 : Hid (∀ (v2 : Value) (W2 : World) (b : Bool), (rcloseL l c hd).any (hasAt c x.s) = b → Same w W2 → W2.ownsRow w.heap.size 61 4 v2 (rcloseL l c hd).length (seRow (rcloseL l c hd)) →
        (b = true → RClosePost w F r l next ws c hd (.returned (.int .i64 0)) (W2.setCell ⟨r, 0, none⟩ v2)) ∧
        (b = false → ∀ W3, RTabTo (W2.setCell ⟨r, 0, none⟩ v2) (fun k => F k ∨ v2.ownBlock = some k) r (rcloseL l c hd) next (outW ws c x.s) W3 → RClosePost w F r l next ws c hd (.returned (.int .i64 0)) W3)) := by
      intro v2 W2 b hb hs2 hown
      obtain ⟨t1, t2, t3⟩ := H.out.newL hs2 hown
      have e1 : (findSe l c hd).isSome = true := by rw [H2.out]; rfl
      have e2 : rcloseW l ws c hd = if b = true then ws else outW ws c x.s := by unfold rcloseW; rw [H2.out]; simp only []; rw [hb]
      constructor
      · intro h1
        refine ⟨by rw [e1]; rfl, ?_⟩
        rw [e2, if_pos h1]
        exact ⟨_, _, _, t1, t2, t3⟩
      · intro h1 W3 hto
        obtain ⟨F', lv', wv', q1, q2, q3⟩ := hto
        refine ⟨by rw [e1]; rfl, ?_⟩
        rw [e2, if_neg (by rw [h1]; decide)]
        refine ⟨F', lv', wv', q1, t2.trans q2 t3, fun b hb => ?_⟩
        rcases q3 b hb with q | q
        · exact t3 b q
        · right; have := t2.size; omega
    rcases Nat.lt_or_ge (k + 1) cap with hcap | hcap
    · go_wp2_with (at_builtin; refine wpList_append_own _ rfl _ _ 27 rfl (w.heap.size + 1) 61 i61 _ 4 32 Try.underlying27 hi61 hz61 hs61 hb61 rfl (by decide) v1 _ _ rfl O1.out ⟨g, (k + 1) * 4, none⟩ (l.length - (k + 1)) (cap - (k + 1)) (seRow (l.drop (k + 1))) rfl HK2.out (P2.out (k + 1)) (cells_oneCell _) ?d1 ?d2 hB1.out ?_)
      case d1 => unfold maxLen; omega
      case d2 => omega
      intro v2 W2 hown2 hgr2 hnil2
      obtain ⟨m0, m1, m2, m3, m4⟩ := FIN.out v2 W2 hown2 hgr2
      have M2 := hid m2
      have M3 := hid m3
      have m5 := cell_of_heap m4 2
      simp at m5
      obtain ⟨va, vn, vc, rfl⟩ := ownsRow_form m3
      have HT := hid (H.out.newL m2 m3).1
      clear hown2 hgr2 hnil2 m2 m3 m4 P2 HK2 hB1
      go_wp2_with fail
      refine (rhas_calls HT.out c x.s).mono ?_
      rintro e w3 ⟨rfl, hw3⟩
      cases ho : (rcloseL l c hd).any (hasAt c x.s) with
      | true =>
        have Z := hid ((FIN2.out _ _ true ho M2.out M3.out).1 rfl)
        rw [hw3] at Z
        clear hw3
        go_wp2_with fail
        go_ret
        exact Z.out
      | false =>
        have Z := hid ((FIN2.out _ _ false ho M2.out M3.out).2 rfl)
        subst hw3
        go_wp2_with fail
        refine (rout_calls HT.out hw c x.s).mono ?_
        rintro e w4 ⟨rfl, hto⟩
        have Z2 := hid (Z.out w4 hto)
        clear hto
        go_wp2_with fail
        go_ret
        exact Z2.out
    · have hce : cap = k + 1 := by omega
      have hle : l.length = k + 1 := by omega
      have HLE := hid hle
      clear hle
      subst hce
      go_wp2_with (at_builtin; refine wpList_append_own _ rfl _ _ 27 rfl (w.heap.size + 1) 61 i61 _ 4 32 Try.underlying27 hi61 hz61 hs61 hb61 rfl (by decide) v1 _ _ rfl O1.out ⟨g, 0, none⟩ 0 0 [] rfl rfl (by intro j u hu; simp at hu) (by intro u hu; simp at hu) ?d1 ?d2 hB1.out ?_)
      case d1 => unfold maxLen; omega
      case d2 => omega
      intro v2 W2 hown2 hgr2 hnil2
      have hown2' : W2.ownsRow (w.heap.size + 1) 61 4 v2 (k + (l.length - (k + 1))) (seRow (l.take k) ++ seRow (l.drop (k + 1))) := by
        have e1 : l.drop (k + 1) = [] := List.drop_of_length_le (by have := HLE.out; omega)
        have e2 : k + (l.length - (k + 1)) = k := by have := HLE.out; omega
        rw [e1, e2]
        simpa [seRow] using hown2
      obtain ⟨m0, m1, m2, m3, m4⟩ := FIN.out v2 W2 hown2' hgr2
      have M2 := hid m2
      have M3 := hid m3
      have m5 := cell_of_heap m4 2
      simp at m5
      obtain ⟨va, vn, vc, rfl⟩ := ownsRow_form m3
      have HT := hid (H.out.newL m2 m3).1
      clear hown2 hown2' hgr2 hnil2 m2 m3 m4 P2 HK2 hB1
      go_wp2_with fail
      refine (rhas_calls HT.out c x.s).mono ?_
      rintro e w3 ⟨rfl, hw3⟩
      cases ho : (rcloseL l c hd).any (hasAt c x.s) with
      | true =>
        have Z := hid ((FIN2.out _ _ true ho M2.out M3.out).1 rfl)
        rw [hw3] at Z
        clear hw3
        go_wp2_with fail
        go_ret
        exact Z.out
      | false =>
        have Z := hid ((FIN2.out _ _ false ho M2.out M3.out).2 rfl)
        subst hw3
        go_wp2_with fail
        refine (rout_calls HT.out hw c x.s).mono ?_
        rintro e w4 ⟨rfl, hto⟩
        have Z2 := hid (Z.out w4 hto)
        clear hto
        go_wp2_with fail
        go_ret
        exact Z2.out
end
end Go.Proofs.Ytlfdcfgpbigjdaa
