/- Form, Fine, Bool, Num are the document's: the walk. -/
import Derived.Test.YthmhmgmdajjpmaaCode
import Derived.Deep.DeepCutAuto
namespace Go.Proofs.Ythmhmgmdajjpmaa
set_option linter.unusedVariables false
set_option linter.unusedSimpArgs false
open Go.RowKit

theorem here_new {Y : World} {o : Obj} {n : Nat} (h : n = Y.heap.size) : (Y.alloc o).heap[n]? = some o := by subst h; exact heap_alloc_new _ _
theorem here_alloc {Y : World} {o o' : Obj} {n : Nat} (h : Y.heap[n]? = some o) : (Y.alloc o').heap[n]? = some o := by
  rw [((Chg.refl (fun _ => False) Y).alloc o').block n (lt_of_heap h) (fun h => h)]; exact h
theorem here_drew {Y : World} {o : Obj} {n : Nat} (h : Y.heap[n]? = some o) : Y.drew.heap[n]? = some o := h
theorem here_drewN {Y : World} {o : Obj} {n m : Nat} (h : Y.heap[n]? = some o) : (Y.drewN m).heap[n]? = some o := h
theorem here_set2 {Y : World} {y0 y1 v0 v1 : Value} {n : Nat} (h : Y.heap[n]? = some (.cells #[y0, y1] 24 (0, 0))) : ((Y.setCell ⟨n, 0, none⟩ v0).setCell ⟨n, 1, none⟩ v1).heap[n]? = some (.cells #[v0, v1] 24 (0, 0)) := by
  rw [heap_setCell_at (heap_setCell_at h v0)]; rfl
theorem here_set_ne {Y : World} {o : Obj} {n k i : Nat} {y : Value} (hne : k ≠ n) (h : Y.heap[n]? = some o) : (Y.setCell ⟨k, i, none⟩ y).heap[n]? = some o := by
  rw [((Chg.refl (fun x => x = k) Y).setCell (p := ⟨k, i, none⟩) (.inl rfl) y).block n (lt_of_heap h) (fun e => hne e.symm)]; exact h
theorem here_same {X Y : World} {o : Obj} {n : Nat} (hs : Same X Y) (h : X.heap[n]? = some o) : Y.heap[n]? = some o := by
  rw [hs.block n (lt_of_heap h) (fun h => h)]; exact h
theorem here_chg {X Y : World} {o : Obj} {n m : Nat} (hs : Chg (fun k => k = m) X Y) (hne : n ≠ m) (h : X.heap[n]? = some o) : Y.heap[n]? = some o := by
  rw [hs.block n (lt_of_heap h) hne]; exact h
theorem here_alloc_old {Y : World} {o o' : Obj} {n : Nat} (h : Y.heap[n]? = some o) : (Y.alloc o').heap[n]? = some o := here_alloc h

/-- A zero attribute in a block of its own. -/
theorem zero_here {X : World} {n : Nat} (h : X.heap[n]? = some (.cells #[.int .i64 0, .slice none 0 0] 24 (0, 0))) :
    X.cell? ⟨n, 0, none⟩ = some (.int .i64 0) ∧ X.cell? ⟨n, 1, none⟩ = some (.slice none 0 0) ∧ X.frozen? ⟨n, 0, none⟩ = false ∧ X.frozen? ⟨n, 1, none⟩ = false ∧
    (∀ o, (X.alloc o).cell? ⟨n, 0, none⟩ = some (.int .i64 0)) ∧ (∀ o, (X.alloc o).cell? ⟨n, 1, none⟩ = some (.slice none 0 0)) ∧ (∀ o, (X.alloc o).frozen? ⟨n, 0, none⟩ = false) ∧ (∀ o, (X.alloc o).frozen? ⟨n, 1, none⟩ = false) ∧
    n ≠ X.heap.size ∧ X.heap.size ≠ n :=
  ⟨by rw [cell_of_heap h]; rfl, by rw [cell_of_heap h]; rfl, frozen_of_heap h _, frozen_of_heap h _, fun o => by rw [cell_of_heap (here_alloc h)]; rfl, fun o => by rw [cell_of_heap (here_alloc h)]; rfl,
    fun o => frozen_of_heap (here_alloc h) _, fun o => frozen_of_heap (here_alloc h) _, by have := lt_of_heap h; omega, by have := lt_of_heap h; omega⟩
theorem with_zero {X : World} {n : Nat} {G : Prop} (h : X.heap[n]? = some (.cells #[.int .i64 0, .slice none 0 0] 24 (0, 0)))
    (k : Hid (X.heap[n]? = some (.cells #[.int .i64 0, .slice none 0 0] 24 (0, 0))) → (X.cell? ⟨n, 0, none⟩ = some (.int .i64 0) ∧ X.cell? ⟨n, 1, none⟩ = some (.slice none 0 0) ∧ X.frozen? ⟨n, 0, none⟩ = false ∧ X.frozen? ⟨n, 1, none⟩ = false ∧
    (∀ o, (X.alloc o).cell? ⟨n, 0, none⟩ = some (.int .i64 0)) ∧ (∀ o, (X.alloc o).cell? ⟨n, 1, none⟩ = some (.slice none 0 0)) ∧ (∀ o, (X.alloc o).frozen? ⟨n, 0, none⟩ = false) ∧ (∀ o, (X.alloc o).frozen? ⟨n, 1, none⟩ = false) ∧
    n ≠ X.heap.size ∧ X.heap.size ≠ n) → G) : G := k (hid h) (zero_here h)

theorem new_form {X : World} {B n : Nat} {v : Value} {l : List Int} (h : X.ownsRow B 5 1 v n (bytes l)) (hn : n = l.length) (h0 : 0 < n) (hb : Byt l) (hl : l.length ≤ 140737488351232) :
    ∃ g cap, v = .slice (some ⟨g, 0, none⟩) n cap ∧ B ≤ g ∧ g < X.heap.size ∧ Hid (Bs X (.slice (some ⟨g, 0, none⟩) n cap) l) := by
  subst hn
  obtain ⟨hl1, hr⟩ := id h
  rcases hr with ⟨-, hn⟩ | ⟨g, cap, cur, rfl, hg, hh, -⟩
  · omega
  · exact ⟨g, cap, rfl, hg, lt_of_heap hh, hid (Bs.own h hb hl)⟩

theorem cell_set_ne {X : World} {k i n j : Nat} {y : Value} (hne : k ≠ n) : (X.setCell ⟨k, i, none⟩ y).cell? ⟨n, j, none⟩ = X.cell? ⟨n, j, none⟩ :=
  World.cell?_setCell_other _ _ _ _ (by intro e; simp at e <;> omega)

theorem bs_set {X : World} {g k i n cap : Nat} {l : List Int} {y : Value} (hne : k ≠ g) (h : Hid (Bs X (.slice (some ⟨g, 0, none⟩) n cap) l)) : Hid (Bs (X.setCell ⟨k, i, none⟩ y) (.slice (some ⟨g, 0, none⟩) n cap) l) := by
  obtain ⟨p, c, e, h1, h2, h3, h4, h5, h6⟩ := h.out
  simp only [Value.slice.injEq] at e
  obtain ⟨rfl, e2, rfl⟩ := e
  refine hid ⟨_, _, by rw [e2], h1, h2, h3, h4, h5, fun h0 => ?_⟩
  obtain ⟨b, o, hp, hb, hc⟩ := h6 h0
  simp only [Option.some.injEq, Addr.mk.injEq, and_true] at hp
  obtain ⟨rfl, rfl⟩ := hp
  exact ⟨g, 0, rfl, by rw [size_setCell]; exact hb, fun i hi => by rw [cell_set_ne hne]; exact hc i hi⟩
theorem bs_alloc {X : World} {u : Value} {l : List Int} {o : Obj} (h : Hid (Bs X u l)) : Hid (Bs (X.alloc o) u l) := hid (h.out.same ((Chg.refl _ X).alloc o))
theorem bs_drew {X : World} {u : Value} {l : List Int} (h : Hid (Bs X u l)) : Hid (Bs X.drew u l) := hid (h.out.same (Chg.refl _ X).drew)
theorem chg_set {w X : World} {k i : Nat} {y : Value} (hk : w.heap.size ≤ k) (h : Same w X) : Same w (X.setCell ⟨k, i, none⟩ y) := h.setCell (p := ⟨k, i, none⟩) (.inr hk) y

section
variable {w : World} {u : Value} {val : List Int}

set_option maxRecDepth 100000 in
set_option maxHeartbeats 16000000 in
theorem forms_calls (hu : Bs w u val) (t z : Int) (hz0 : -9223372036854775808 ≤ z) (hz1 : z ≤ 9223372036854775807) : Calls Try.prog 3 #[.agg #[.int .i64 t, u], .int .i64 z] w (BoolPost true w) := by
  have HU := hid hu
  obtain ⟨pu, cu, rfl, h1, h2, h3, -⟩ := id hu
  have hlen : val.length ≤ 9223372036854775807 := by unfold maxLen at h2; omega
  clear hu h2 h3
  go_enter Try.func3, Try.ntmps3
  go_wp2_with fail
  obtain ⟨wA, hwA⟩ : ∃ wA, wA = w.alloc (.cells #[.int .i64 t, .slice pu val.length cu] 24) := ⟨_, rfl⟩
  have HA : Hid (wA.heap[w.heap.size]? = some (.cells #[.int .i64 t, .slice pu val.length cu] 24 (0, 0))) := by rw [hwA]; exact heap_alloc_new _ _
  have SA : Hid (Same w wA) := by rw [hwA]; exact (Chg.refl _ w).alloc _
  rw [← hwA]
  clear hwA
  refine (begun_calls wA).mono ?_
  rintro e w1 ⟨rfl, hs1⟩
  have S1 := hid (SA.out.trans hs1 (fun _ h => h.elim))
  have HU1 := hid (HU.out.same S1.out)
  have H1 := hid ((hs1.block w.heap.size (lt_of_heap HA.out) (fun h => h)).trans HA.out)
  have c0 : w1.cell? ⟨w.heap.size, 0, none⟩ = some (.int .i64 t) := by rw [cell_of_heap H1.out]; rfl
  have c1 : w1.cell? ⟨w.heap.size, 1, none⟩ = some (.slice pu val.length cu) := by rw [cell_of_heap H1.out]; rfl
  have f1 : w1.frozen? ⟨w.heap.size, 1, none⟩ = false := frozen_of_heap H1.out _
  clear hs1
  go_upto_if 14 with fail
  go_cut [] (fun wc => ∃ (q : Option Addr) (V : List Int) (c : Nat), wc.heap[w.heap.size]? = some (.cells #[.int .i64 t, .slice q V.length c] 24 (0, 0)) ∧ Bs wc (.slice q V.length c) V ∧ Same w wc)
  case first =>
    by_cases hl : (20000 : Int) < (val.length : Int)
    · have hV := hid (List.length_take_of_le (show 20000 ≤ val.length by omega))
      have hw : w1.heap.size > w.heap.size := lt_of_heap H1.out
      go_wp2_with fail
      go_meet
      case rel =>
        have hs := S1.out.setCell (p := ⟨w.heap.size, 1, none⟩) (.inr (Nat.le_refl _)) (.slice pu 20000 cu)
        have hb := (HU.out.take 20000).same hs
        have hh := heap_setCell_at H1.out (o := 1) (.slice pu 20000 cu)
        refine ⟨pu, val.take 20000, cu, ?_, hb, hs⟩
        rw [hV.out]
        exact hh
    · go_wp2_with fail
      go_meet
      case rel => exact ⟨pu, val, cu, H1.out, HU1.out, S1.out⟩
  case rest =>
  clear c0 c1 f1
  obtain ⟨q, V, c, h1, h2, h3⟩ := hcut
  have c0 : wc.cell? ⟨w.heap.size, 0, none⟩ = some (.int .i64 t) := by rw [cell_of_heap h1]; rfl
  go_wp2_with fail
  obtain ⟨b, hb⟩ : ∃ b : Bool, (z.tmod 2 == 0) = b := ⟨_, rfl⟩
  rw [hb]
  refine (bool_calls wc t b).mono ?_
  rintro e w2 ⟨v2, rfl, hr2, hs2⟩
  have hB2 := Bs.own hr2 (by intro x hx; cases b <;> simp at hx <;> omega) (by simp)
  obtain ⟨a2, c2, rfl, -, -⟩ := ownsRow_form hr2
  have HB2 : Hid (Bs w2 (.slice a2 1 c2) [if b then 1 else 0]) := hB2
  have HBOX : Hid (wc.heap[w.heap.size]? = some (.cells #[.int .i64 t, .slice q V.length c] 24 (0, 0))) := h1
  have HV := hid h2
  have S2 := hid hs2
  have SC := hid h3
  clear c0 h1 h2 h3 hr2 hB2 hs2
  have BOX : Hid (∀ W, Same wc W → W.cell? ⟨w.heap.size, 0, none⟩ = some (.int .i64 t) ∧ W.cell? ⟨w.heap.size, 1, none⟩ = some (.slice q V.length c)) := fun W hW => by
    have hH := (hW.block w.heap.size (lt_of_heap HBOX.out) (fun h => h)).trans HBOX.out
    exact ⟨by rw [cell_of_heap hH]; rfl, by rw [cell_of_heap hH]; rfl⟩
  have SB := hid (S2.out.alloc (.cells #[.int .i64 t, .slice a2 1 c2] 24))
  have HN6 : Hid ((w2.alloc (.cells #[.int .i64 t, .slice a2 1 c2] 24)).heap[w2.heap.size]? = some (.cells #[.int .i64 t, .slice a2 1 c2] 24 (0, 0))) := heap_alloc_new _ _
  obtain ⟨d0, d1⟩ := BOX.out _ SB.out
  go_wp2_with fail
  refine (num_calls _ t z).mono ?_
  rintro e w3 ⟨v3, rfl, hr3, hs3⟩
  have hB3 := Bs.own hr3 (of32_byt z) (by simp [of32])
  obtain ⟨a3, c3, rfl, -, -⟩ := ownsRow_form hr3
  have HB3 : Hid (Bs w3 (.slice a3 (of32 z).length c3) (of32 z)) := hB3
  have S3 := hid (SB.out.trans hs3 (fun _ h => h.elim))
  have HB23 := hid ((HB2.out.same ((Chg.refl _ w2).alloc _)).same hs3)
  have HN63 : Hid (w3.heap[w2.heap.size]? = some (.cells #[.int .i64 t, .slice a2 1 c2] 24 (0, 0))) := (hs3.block _ (lt_of_heap HN6.out) (fun h => h)).trans HN6.out
  clear d0 d1 hr3 hB3 hs3
  have SC3 := hid (S3.out.alloc (.cells #[.int .i64 t, .slice a3 (of32 z).length c3] 24))
  have HN7 : Hid ((w3.alloc (.cells #[.int .i64 t, .slice a3 (of32 z).length c3] 24)).heap[w3.heap.size]? = some (.cells #[.int .i64 t, .slice a3 (of32 z).length c3] 24 (0, 0))) := heap_alloc_new _ _
  have BX := BOX.out
  go_upto_region 6 with fail
  obtain ⟨wD, hwD⟩ : ∃ wD, wD = w3.alloc (.cells #[.int .i64 t, .slice a3 (of32 z).length c3] 24) := ⟨_, rfl⟩
  rw [← hwD] at SC3 HN7
  rw [← hwD]
  have HBD2 : Hid (Bs wD (.slice a2 1 c2) [if b then 1 else 0]) := by rw [hwD]; exact hid (HB23.out.same ((Chg.refl _ w3).alloc _))
  have HBD3 : Hid (Bs wD (.slice a3 (of32 z).length c3) (of32 z)) := by rw [hwD]; exact hid (HB3.out.same ((Chg.refl _ w3).alloc _))
  have HND6 : Hid (wD.heap[w2.heap.size]? = some (.cells #[.int .i64 t, .slice a2 1 c2] 24 (0, 0))) := by rw [hwD]; exact here_alloc HN63.out
  clear hwD HN63 HN6 HB2 HB3 HB23 SB S3 S2 BX
  have BD := hid (fun W (hW : Same wD W) => (BOX.out W (SC3.out.trans hW (fun _ h => h.elim))).1)
  have d0 := BD.out wD (Chg.refl _ _)
  go_cut [8, 9] (fun s8 s9 wc => ∃ n8 n9 a4 c4 a5 c5, s8 = .pointer (some ⟨n8, 0, none⟩) ∧ s9 = .pointer (some ⟨n9, 0, none⟩) ∧ wc.heap[n8]? = some (.cells #[.int .i64 t, .slice a4 1 c4] 24 (0, 0)) ∧ wc.heap[n9]? = some (.cells #[.int .i64 t, .slice a5 (of32 z).length c5] 24 (0, 0)) ∧
    Hid (Bs wc (.slice a4 1 c4) [if b then 1 else 0]) ∧ Hid (Bs wc (.slice a5 (of32 z).length c5) (of32 z)) ∧ Hid (Same wD wc))
  case first =>
    have hk : Same wD wD := Chg.refl _ _
    go_region_held3 (fun w' => w'.cell? ⟨w.heap.size, 0, none⟩ = some (.int .i64 t))
      (exact BD.out _ (by with_reducible repeat' (first | assumption | exact Chg.refl _ _ | apply Chg.drewN | apply Chg.drew | apply Chg.alloc | apply chg_set | omega)))
      (first
        | (go_at_call 11; refine (rbool_calls _ t b).mono ?_; rintro e wa ⟨va, rfl, hra, hsa⟩; obtain ⟨g4, c4, rfl, q4, q4', hb4⟩ := new_form hra rfl (by simp) (by intro x hx; cases b <;> simp at hx <;> omega) (by simp); have qa := hsa.size; replace hk : Same wD wa := Chg.trans (by with_reducible repeat' (first | assumption | exact Chg.refl _ _ | apply Chg.drewN | apply Chg.drew | apply Chg.alloc)) hsa (fun _ h => h.elim); have hka : Same wa wa := Chg.refl _ _; (try simp at qa); (try simp at q4); (try (refine with_zero (X := wa) (n := wD.heap.size) ?_ ?_; (refine here_same hsa ?_; (try with_reducible refine here_drew ?_); (try with_reducible refine here_drew ?_); first | assumption | (refine here_new ?_; focus (simp; done)) | (refine here_alloc ?_; assumption) | (refine here_alloc ?_; refine here_new ?_; focus (simp; done))); rintro zh ⟨_, _, _, _, _, _, _, _, _, _⟩)); (try (refine with_zero (X := wa) (n := wD.heap.size + 1) ?_ ?_; (refine here_same hsa ?_; (try with_reducible refine here_drew ?_); (try with_reducible refine here_drew ?_); first | assumption | (refine here_new ?_; focus (simp; done)) | (refine here_alloc ?_; assumption) | (refine here_alloc ?_; refine here_new ?_; focus (simp; done))); rintro zh ⟨_, _, _, _, _, _, _, _, _, _⟩)); clear hsa hra)
        | (go_at_call 12; refine (rnum_calls _ t z hz0 hz1).mono ?_; rintro e wb ⟨vb, rfl, hrb, hsb⟩; obtain ⟨g5, c5, rfl, q5, q5', hb5⟩ := new_form hrb rfl (by simp [of32]) (of32_byt z) (by simp [of32]); have qb := hsb.size; replace hka : Same wa wb := Chg.trans (by with_reducible repeat' (first | assumption | exact Chg.refl _ _ | apply Chg.drewN | apply Chg.drew | apply Chg.alloc)) hsb (fun _ h => h.elim); replace hb4 := hid (hb4.out.same hka); replace hk : Same wD wb := Chg.trans hk hka (fun _ h => h.elim); (try simp at qb); (try simp at q5); (try (refine with_zero (X := wb) (n := wD.heap.size) ?_ ?_; (refine here_same hsb ?_; (try with_reducible refine here_drew ?_); (try with_reducible refine here_drew ?_); first | assumption | (refine here_new ?_; focus (simp; done)) | (refine here_alloc ?_; assumption) | (refine here_alloc ?_; refine here_new ?_; focus (simp; done))); rintro zh ⟨_, _, _, _, _, _, _, _, _, _⟩)); (try (refine with_zero (X := wb) (n := wD.heap.size + 1) ?_ ?_; (refine here_same hsb ?_; (try with_reducible refine here_drew ?_); (try with_reducible refine here_drew ?_); first | assumption | (refine here_new ?_; focus (simp; done)) | (refine here_alloc ?_; assumption) | (refine here_alloc ?_; refine here_new ?_; focus (simp; done))); rintro zh ⟨_, _, _, _, _, _, _, _, _, _⟩)); (try (refine with_zero (X := wb) (n := wa.heap.size) ?_ ?_; (refine here_same hsb ?_; (try with_reducible refine here_drew ?_); (try with_reducible refine here_drew ?_); first | assumption | (refine here_new ?_; focus (simp; done)) | (refine here_alloc ?_; assumption) | (refine here_alloc ?_; refine here_new ?_; focus (simp; done))); rintro zh ⟨_, _, _, _, _, _, _, _, _, _⟩)); (try (refine with_zero (X := wb) (n := wa.heap.size + 1) ?_ ?_; (refine here_same hsb ?_; (try with_reducible refine here_drew ?_); (try with_reducible refine here_drew ?_); first | assumption | (refine here_new ?_; focus (simp; done)) | (refine here_alloc ?_; assumption) | (refine here_alloc ?_; refine here_new ?_; focus (simp; done))); rintro zh ⟨_, _, _, _, _, _, _, _, _, _⟩)); clear hsb hrb))
    all_goals (go_wp2_with fail)
    all_goals (have hb4' : Hid (Bs wb (.slice (some ⟨g4, 0, none⟩) 1 c4) [if b then 1 else 0]) := hb4; clear hb4 hka; clear BD BOX HBOX HND6 HBD3 HBD2 HN7 d0 hb SC3 HV)
    all_goals (go_meet; case rel =>
      refine ⟨_, _, some ⟨g4, 0, none⟩, c4, some ⟨g5, 0, none⟩, c5, rfl, rfl, ?_, ?_, ?_, ?_, ?_⟩
      · with_reducible repeat' (first | assumption | (refine Hid.out ?_; assumption) | apply here_set2 | (refine here_new ?_; focus (simp; done)) | apply here_alloc | apply here_drew | apply here_set_ne | omega)
      · with_reducible repeat' (first | assumption | (refine Hid.out ?_; assumption) | apply here_set2 | (refine here_new ?_; focus (simp; done)) | apply here_alloc | apply here_drew | apply here_set_ne | omega)
      · with_reducible repeat' (first | assumption | apply bs_alloc | apply bs_drew | apply bs_set | omega)
      · with_reducible repeat' (first | assumption | apply bs_alloc | apply bs_drew | apply bs_set | omega)
      · refine hid ?_
        with_reducible repeat' (first | assumption | exact Chg.refl _ _ | apply Chg.drewN | apply Chg.drew | apply Chg.alloc | apply chg_set | omega))
  case rest =>
  obtain ⟨n8, n9, a4, c4, a5, c5, rfl, rfl, x1, x2, hb4, hb5, hsw⟩ := hcut
  have X1 := hid x1
  have X2 := hid x2
  clear x1 x2 d0
  have KEEP : Hid (∀ W, Same wc W → W.cell? ⟨w.heap.size, 0, none⟩ = some (.int .i64 t) ∧ W.cell? ⟨w.heap.size, 1, none⟩ = some (.slice q V.length c) ∧ W.cell? ⟨w2.heap.size, 0, none⟩ = some (.int .i64 t) ∧ W.cell? ⟨w2.heap.size, 1, none⟩ = some (.slice a2 1 c2) ∧ W.cell? ⟨w3.heap.size, 0, none⟩ = some (.int .i64 t) ∧ W.cell? ⟨w3.heap.size, 1, none⟩ = some (.slice a3 (of32 z).length c3) ∧ W.cell? ⟨n8, 0, none⟩ = some (.int .i64 t) ∧ W.cell? ⟨n8, 1, none⟩ = some (.slice a4 1 c4) ∧ W.cell? ⟨n9, 0, none⟩ = some (.int .i64 t) ∧ W.cell? ⟨n9, 1, none⟩ = some (.slice a5 (of32 z).length c5) ∧ (convert 22 9 (.slice a2 1 c2)).run Try.prog W = .ok (.string (strOfNums [if b then 1 else 0])) W ∧ (convert 22 9 (.slice a3 (of32 z).length c3)).run Try.prog W = .ok (.string (strOfNums (of32 z))) W ∧ (convert 22 9 (.slice a4 1 c4)).run Try.prog W = .ok (.string (strOfNums [if b then 1 else 0])) W ∧ (convert 22 9 (.slice a5 (of32 z).length c5)).run Try.prog W = .ok (.string (strOfNums (of32 z))) W) := fun W hW => by
    have hS := hsw.out.trans hW (fun _ h => h.elim)
    obtain ⟨d0, d1⟩ := BOX.out W (SC3.out.trans hS (fun _ h => h.elim))
    have g6 := here_same hS HND6.out
    have g7 := here_same hS HN7.out
    have g8 := here_same hW X1.out
    have g9 := here_same hW X2.out
    refine ⟨d0, d1, by rw [cell_of_heap g6]; rfl, by rw [cell_of_heap g6]; rfl, by rw [cell_of_heap g7]; rfl, by rw [cell_of_heap g7]; rfl, by rw [cell_of_heap g8]; rfl, by rw [cell_of_heap g8]; rfl, by rw [cell_of_heap g9]; rfl, by rw [cell_of_heap g9]; rfl, ?_, ?_, ?_, ?_⟩
    · exact (HBD2.out.same hS).str
    · exact (HBD3.out.same hS).str
    · exact (hb4.out.same hW).str
    · exact (hb5.out.same hW).str
  have HVW := hid (HV.out.same (SC3.out.trans hsw.out (fun _ h => h.elim)))
  have HSW := hid (SC.out.trans (SC3.out.trans hsw.out (fun _ h => h.elim)) (fun _ h => h.elim))
  have hk : Same wc wc := Chg.refl _ _
  obtain ⟨e0, e1, e2, e3, e4, e5, e6, e7, e8, e9, e10, e11, e12, e13⟩ := KEEP.out wc (Chg.refl _ _)
  clear HA SA HU HU1 H1 S1 HBOX HV SC BD BOX HND6 HN7 SC3 HBD2 HBD3 hb4 hb5 hsw X1 X2
  go_wp2_with fail
  go_region_held3 (fun w' => w'.cell? ⟨w.heap.size, 0, none⟩ = some (.int .i64 t) ∧ w'.cell? ⟨w.heap.size, 1, none⟩ = some (.slice q V.length c) ∧ w'.cell? ⟨w2.heap.size, 0, none⟩ = some (.int .i64 t) ∧ w'.cell? ⟨w2.heap.size, 1, none⟩ = some (.slice a2 1 c2) ∧ w'.cell? ⟨w3.heap.size, 0, none⟩ = some (.int .i64 t) ∧ w'.cell? ⟨w3.heap.size, 1, none⟩ = some (.slice a3 (of32 z).length c3) ∧ w'.cell? ⟨n8, 0, none⟩ = some (.int .i64 t) ∧ w'.cell? ⟨n8, 1, none⟩ = some (.slice a4 1 c4) ∧ w'.cell? ⟨n9, 0, none⟩ = some (.int .i64 t) ∧ w'.cell? ⟨n9, 1, none⟩ = some (.slice a5 (of32 z).length c5) ∧ (convert 22 9 (.slice a2 1 c2)).run Try.prog w' = .ok (.string (strOfNums [if b then 1 else 0])) w' ∧ (convert 22 9 (.slice a3 (of32 z).length c3)).run Try.prog w' = .ok (.string (strOfNums (of32 z))) w' ∧ (convert 22 9 (.slice a4 1 c4)).run Try.prog w' = .ok (.string (strOfNums [if b then 1 else 0])) w' ∧ (convert 22 9 (.slice a5 (of32 z).length c5)).run Try.prog w' = .ok (.string (strOfNums (of32 z))) w')
    (first | exact KEEP.out _ hk | exact KEEP.out _ (Chg.drew hk))
    (first
      | (go_at_call 13; refine (form_calls _ t).mono ?_; rintro e wf ⟨rfl, rfl⟩)
      | (go_at_call 14; refine (rform_calls _ t).mono ?_; rintro e wf ⟨rfl, rfl⟩)
      | (go_at_call 15; refine (fine_calls (HVW.out.same (by first | exact hk | exact Chg.drew hk)) t).mono ?_; rintro e we ⟨rfl, hse⟩; replace hk : Same wc we := Chg.trans (by first | exact hk | exact Chg.drew hk) hse (fun _ h => h.elim))
      | (go_at_call 16; refine (rfine_calls (HVW.out.same (by first | exact hk | exact Chg.drew hk)) t).mono ?_; rintro e we ⟨rfl, hse⟩; replace hk : Same wc we := Chg.trans (by first | exact hk | exact Chg.drew hk) hse (fun _ h => h.elim)))
  all_goals (have HK := hid (HSW.out.trans hk (fun _ h => h.elim)); clear e0 e1 e2 e3 e4 e5 e6 e7 e8 e9 e10 e11 e12 e13; go_wp2_with fail)
  all_goals (go_ret; exact ⟨rfl, HK.out⟩)
end
end Go.Proofs.Ythmhmgmdajjpmaa
