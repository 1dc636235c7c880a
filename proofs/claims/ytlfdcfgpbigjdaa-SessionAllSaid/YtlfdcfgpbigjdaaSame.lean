/- same: all that both tables tell. -/
import Derived.Test.YtlfdcfgpbigjdaaLists
import Derived.Test.YtlfdcfgpbigjdaaRel
import Derived.Test.YtlfdcfgpbigjdaaSeq
import Derived.RangeFuncBox
import Derived.OwnWalkIn
namespace Go.Proofs.Ytlfdcfgpbigjdaa
set_option linter.unusedVariables false
set_option linter.unusedSimpArgs false
open Go.RowKit
attribute [local go_sem] Oper.semAt_some

section
variable {w : World} {F : Nat → Prop} {t : Nat} {l : List Se} {last : Int} {U : Int → Int → Option Int} {sl : Value} {M : Nat} {L : List En} {clock : Nat}
variable {F' : Nat → Prop} {r : Nat} {next : Int} {ws : List Lo} {lv wv : Value}

set_option maxRecDepth 100000 in
set_option maxHeartbeats 8000000 in
theorem same_calls (h : Tab w F t l last U sl M L clock) (h' : RTab w F' r l next ws lv wv) (hl : l.length < 100) (hr : Rel U ws) (o : Opr) :
   Calls Try.prog 20 #[.pointer (some ⟨t, 0, none⟩), .pointer (some ⟨r, 0, none⟩), o.val] w (BoolPost true w) := by
  have HR := hid hr
  obtain ⟨kind, conn, slot, hd, user, rw⟩ := o
  have S1 : Hid (Same w (w.alloc (.cells #[.int .i64 kind, .int .i64 conn, .int .i64 slot, .int .i64 hd, .int .i64 user, .bool rw] 32))) := (Chg.refl _ w).alloc _
  have N1 := hid (heap_alloc_new w (.cells #[.int .i64 kind, .int .i64 conn, .int .i64 slot, .int .i64 hd, .int .i64 user, .bool rw] 32))
  have HT := hid h
  have HR' := hid h'
  clear h h' hr
  refine calls_of_marks Try.func20 rfl ?_
  simp only [Opr.val, Try.ntmps20, List.size_toArray, List.length_cons, List.length_nil, Nat.reduceAdd, Nat.reduceSub, Array.replicate_succ, Array.replicate_zero, List.push_toArray, List.append_toArray, List.nil_append, List.cons_append]
  go_wp2_with fail
  refine (rfind_calls (HR'.out.same S1.out) conn hd).mono ?_
  rintro e w1 ⟨he1, hw1⟩
  obtain ⟨kv, hkv⟩ : ∃ kv, kv = placeOf l conn hd := ⟨_, rfl⟩
  rw [← hkv] at he1
  subst he1
  have S1' : Hid (Same w w1) := by rw [← hw1]; exact S1.out
  have hcell : ∀ W, Same w1 W → W.cell? ⟨w.heap.size, 1, none⟩ = some (.int .i64 conn) ∧ W.cell? ⟨w.heap.size, 2, none⟩ = some (.int .i64 slot) ∧ W.cell? ⟨w.heap.size, 3, none⟩ = some (.int .i64 hd) ∧ W.cell? ⟨w.heap.size, 4, none⟩ = some (.int .i64 user) := by
    intro W hW
    have hN : w1.heap[w.heap.size]? = some (.cells #[.int .i64 kind, .int .i64 conn, .int .i64 slot, .int .i64 hd, .int .i64 user, .bool rw] 32) := by rw [← hw1]; exact N1.out
    exact ⟨cell_new_keep hN hW 1, cell_new_keep hN hW 2, cell_new_keep hN hW 3, cell_new_keep hN hW 4⟩
  have HC := hid hcell
  have HT1 := hid (HT.out.same S1'.out)
  have HR1 := hid (HR'.out.same S1'.out)
  have HKV := hid hkv
  obtain ⟨a1, a2, a3, a4⟩ := HC.out w1 (Chg.refl _ _)
  clear hw1 hcell hkv
  go_wp2_with fail
  refine (slot_calls HT1.out conn hd).mono ?_
  rintro e w2 hp2
  obtain ⟨sv, bv, rfl, hsn, hss, hs2⟩ := slot_said hp2
  have HSN := hid hsn
  have HSS := hid hss
  have S2 := hid hs2
  have HT2 := hid (HT1.out.same hs2)
  have HR2 := hid (HR1.out.same hs2)
  have Z0 : Hid (Same w2 w2.drew) ∧ w2.drew.cell? ⟨w.heap.size, 1, none⟩ = some (.int .i64 conn) ∧ w2.drew.cell? ⟨w.heap.size, 2, none⟩ = some (.int .i64 slot) ∧ w2.drew.cell? ⟨w.heap.size, 3, none⟩ = some (.int .i64 hd) ∧ w2.drew.cell? ⟨w.heap.size, 4, none⟩ = some (.int .i64 user) := ⟨(Chg.refl _ w2).drew, HC.out w2 hs2⟩
  clear hs2 a1 a2 a3 a4 hsn hss hp2
  have ES : Hid (stateOf l U conn hd = rstateOf l ws conn hd) := rel_state HR.out l conn hd
  have EM : Hid (mayOf l U conn slot user = rmayOf l ws conn slot user) := rel_may HR.out l conn slot user
  have KEEP : Hid (∀ W W', Hid (Same w2 W) ∧ W.cell? ⟨w.heap.size, 1, none⟩ = some (.int .i64 conn) ∧ W.cell? ⟨w.heap.size, 2, none⟩ = some (.int .i64 slot) ∧ W.cell? ⟨w.heap.size, 3, none⟩ = some (.int .i64 hd) ∧ W.cell? ⟨w.heap.size, 4, none⟩ = some (.int .i64 user) → Same W W' → Hid (Same w2 W') ∧ W'.cell? ⟨w.heap.size, 1, none⟩ = some (.int .i64 conn) ∧ W'.cell? ⟨w.heap.size, 2, none⟩ = some (.int .i64 slot) ∧ W'.cell? ⟨w.heap.size, 3, none⟩ = some (.int .i64 hd) ∧ W'.cell? ⟨w.heap.size, 4, none⟩ = some (.int .i64 user)) := by
    rintro W W' ⟨q, -⟩ hs
    exact ⟨q.out.trans hs, HC.out W' (S2.out.trans (q.out.trans hs))⟩
  obtain ⟨i3, hi3, hz3, hs3, hb3⟩ := info_parts Try.info3
  go_wp2_with fail
  simp only [List.append_eq, List.cons_append, List.nil_append]
  refine wp_region_seq (fun W => Hid (Same w2 W) ∧ W.cell? ⟨w.heap.size, 1, none⟩ = some (.int .i64 conn) ∧ W.cell? ⟨w.heap.size, 2, none⟩ = some (.int .i64 slot) ∧ W.cell? ⟨w.heap.size, 3, none⟩ = some (.int .i64 hd) ∧ W.cell? ⟨w.heap.size, 4, none⟩ = some (.int .i64 user)) [33, 39, 46, 50, 61, 69] [0, 1, 2, 3, 4, 5, 6, 7, 8, 9, 10, 11, 12, 13, 14, 15, 16, 17, 18, 19, 20, 21, 22, 23, 24, 25, 26, 27, 28, 29, 30, 31, 32, 34, 35, 36, 37, 38, 33, 39, 40, 41, 42, 43, 44, 45, 47, 48, 49, 46, 50, 51, 52, 53, 54, 55, 56, 57, 58, 59, 60, 62, 63, 64, 65, 66, 67, 68, 61, 69, 70, 71] (by kernel_rfl) (by kernel_rfl) rfl (by kernel_rfl) Z0 ?_
  refine seqH_gen (fun Q' hQ' => ?_)
  have HQ := hid hQ'
  clear hQ'
  rcases placeOf_spec l conn hd with ⟨h1, h2, -⟩ | ⟨k, x, h1, hk, hx, h2, -, -, -⟩
  · obtain rfl : kv = -1 := HKV.out.trans h1
    obtain ⟨rfl, rfl⟩ := HSN.out h2
    clear h1 h2
    refine seqH_pure (by simp only [List.getElem?_toArray, List.getElem?_cons_succ, List.getElem?_cons_zero]; rfl) rfl (by kernel_rfl) (fun W hW => by ((try dsimp only at hW); go_simp; first | done | with_reducible rfl)) ?_
    try simp only [Act.put, List.setIfInBounds_toArray, List.set_cons_zero, List.set_cons_succ]
    refine seqH_pure (by simp only [List.getElem?_toArray, List.getElem?_cons_succ, List.getElem?_cons_zero]; rfl) rfl (by kernel_rfl) (fun W hW => by ((try dsimp only at hW); go_simp; first | done | with_reducible rfl)) ?_
    try simp only [Act.put, List.setIfInBounds_toArray, List.set_cons_zero, List.set_cons_succ]
    refine seqH_pure (by simp only [List.getElem?_toArray, List.getElem?_cons_succ, List.getElem?_cons_zero]; rfl) rfl (by kernel_rfl) (fun W hW => by ((try dsimp only at hW); go_simp; first | done | with_reducible rfl)) ?_
    try simp only [Act.put, List.setIfInBounds_toArray, List.set_cons_zero, List.set_cons_succ]
    refine seqH_pure (by simp only [List.getElem?_toArray, List.getElem?_cons_succ, List.getElem?_cons_zero]; rfl) rfl (by kernel_rfl) (fun W hW => by ((try dsimp only at hW); go_simp; first | done | with_reducible rfl)) ?_
    try simp only [Act.put, List.setIfInBounds_toArray, List.set_cons_zero, List.set_cons_succ]
    refine seqH_pure (by simp only [List.getElem?_toArray, List.getElem?_cons_succ, List.getElem?_cons_zero]; rfl) rfl (by kernel_rfl) (fun W hW => by ((try dsimp only at hW); go_simp; first | done | with_reducible rfl)) ?_
    try simp only [Act.put, List.setIfInBounds_toArray, List.set_cons_zero, List.set_cons_succ]
    refine seqH_pure (by simp only [List.getElem?_toArray, List.getElem?_cons_succ, List.getElem?_cons_zero]; rfl) rfl (by kernel_rfl) (fun W hW => by ((try dsimp only at hW); go_simp; first | done | with_reducible rfl)) ?_
    try simp only [Act.put, List.setIfInBounds_toArray, List.set_cons_zero, List.set_cons_succ]
    refine seqH_pure (by simp only [List.getElem?_toArray, List.getElem?_cons_succ, List.getElem?_cons_zero]; rfl) rfl (by kernel_rfl) (fun W hW => by ((try dsimp only at hW); go_simp; first | done | with_reducible rfl)) ?_
    try simp only [Act.put, List.setIfInBounds_toArray, List.set_cons_zero, List.set_cons_succ]
    refine seqH_off (by simp only [List.getElem?_toArray, List.getElem?_cons_succ, List.getElem?_cons_zero]; rfl) rfl (by kernel_rfl) ?_
    try simp only [Act.put, List.setIfInBounds_toArray, List.set_cons_zero, List.set_cons_succ]
    refine seqH_off (by simp only [List.getElem?_toArray, List.getElem?_cons_succ, List.getElem?_cons_zero]; rfl) rfl (by kernel_rfl) ?_
    try simp only [Act.put, List.setIfInBounds_toArray, List.set_cons_zero, List.set_cons_succ]
    refine seqH_off (by simp only [List.getElem?_toArray, List.getElem?_cons_succ, List.getElem?_cons_zero]; rfl) rfl (by kernel_rfl) ?_
    try simp only [Act.put, List.setIfInBounds_toArray, List.set_cons_zero, List.set_cons_succ]
    refine seqH_off (by simp only [List.getElem?_toArray, List.getElem?_cons_succ, List.getElem?_cons_zero]; rfl) rfl (by kernel_rfl) ?_
    try simp only [Act.put, List.setIfInBounds_toArray, List.set_cons_zero, List.set_cons_succ]
    refine seqH_off (by simp only [List.getElem?_toArray, List.getElem?_cons_succ, List.getElem?_cons_zero]; rfl) rfl (by kernel_rfl) ?_
    try simp only [Act.put, List.setIfInBounds_toArray, List.set_cons_zero, List.set_cons_succ]
    refine seqH_off (by simp only [List.getElem?_toArray, List.getElem?_cons_succ, List.getElem?_cons_zero]; rfl) rfl (by kernel_rfl) ?_
    try simp only [Act.put, List.setIfInBounds_toArray, List.set_cons_zero, List.set_cons_succ]
    refine seqH_off (by simp only [List.getElem?_toArray, List.getElem?_cons_succ, List.getElem?_cons_zero]; rfl) rfl (by kernel_rfl) ?_
    try simp only [Act.put, List.setIfInBounds_toArray, List.set_cons_zero, List.set_cons_succ]
    refine seqH_off (by simp only [List.getElem?_toArray, List.getElem?_cons_succ, List.getElem?_cons_zero]; rfl) rfl (by kernel_rfl) ?_
    try simp only [Act.put, List.setIfInBounds_toArray, List.set_cons_zero, List.set_cons_succ]
    refine seqH_off (by simp only [List.getElem?_toArray, List.getElem?_cons_succ, List.getElem?_cons_zero]; rfl) rfl (by kernel_rfl) ?_
    try simp only [Act.put, List.setIfInBounds_toArray, List.set_cons_zero, List.set_cons_succ]
    refine seqH_off (by simp only [List.getElem?_toArray, List.getElem?_cons_succ, List.getElem?_cons_zero]; rfl) rfl (by kernel_rfl) ?_
    try simp only [Act.put, List.setIfInBounds_toArray, List.set_cons_zero, List.set_cons_succ]
    refine seqH_pure (by simp only [List.getElem?_toArray, List.getElem?_cons_succ, List.getElem?_cons_zero]; rfl) rfl (by kernel_rfl) (fun W hW => by ((try dsimp only at hW); go_simp; first | done | with_reducible rfl)) ?_
    try simp only [Act.put, List.setIfInBounds_toArray, List.set_cons_zero, List.set_cons_succ]
    refine seqH_pure (by simp only [List.getElem?_toArray, List.getElem?_cons_succ, List.getElem?_cons_zero]; rfl) rfl (by kernel_rfl) (fun W hW => by ((try dsimp only at hW); go_simp; first | done | with_reducible rfl)) ?_
    try simp only [Act.put, List.setIfInBounds_toArray, List.set_cons_zero, List.set_cons_succ]
    refine seqH_pure (by simp only [List.getElem?_toArray, List.getElem?_cons_succ, List.getElem?_cons_zero]; rfl) rfl (by kernel_rfl) (fun W hW => by ((try dsimp only at hW); go_simp; first | done | with_reducible rfl)) ?_
    try simp only [Act.put, List.setIfInBounds_toArray, List.set_cons_zero, List.set_cons_succ]
    refine seqH_pure (by simp only [List.getElem?_toArray, List.getElem?_cons_succ, List.getElem?_cons_zero]; rfl) rfl (by kernel_rfl) (fun W hW => by ((try dsimp only at hW); go_simp; first | done | with_reducible rfl)) ?_
    try simp only [Act.put, List.setIfInBounds_toArray, List.set_cons_zero, List.set_cons_succ]
    refine seqH_pure (by simp only [List.getElem?_toArray, List.getElem?_cons_succ, List.getElem?_cons_zero]; rfl) rfl (by kernel_rfl) (fun W hW => by ((try dsimp only at hW); go_simp; first | done | with_reducible rfl)) ?_
    try simp only [Act.put, List.setIfInBounds_toArray, List.set_cons_zero, List.set_cons_succ]
    refine seqH_pure (by simp only [List.getElem?_toArray, List.getElem?_cons_succ, List.getElem?_cons_zero]; rfl) rfl (by kernel_rfl) (fun W hW => by ((try dsimp only at hW); go_simp; first | done | with_reducible rfl)) ?_
    try simp only [Act.put, List.setIfInBounds_toArray, List.set_cons_zero, List.set_cons_succ]
    refine seqH_pure (by simp only [List.getElem?_toArray, List.getElem?_cons_succ, List.getElem?_cons_zero]; rfl) rfl (by kernel_rfl) (fun W hW => by ((try dsimp only at hW); go_simp; first | done | with_reducible rfl)) ?_
    try simp only [Act.put, List.setIfInBounds_toArray, List.set_cons_zero, List.set_cons_succ]
    refine seqH_pure (by simp only [List.getElem?_toArray, List.getElem?_cons_succ, List.getElem?_cons_zero]; rfl) rfl (by kernel_rfl) (fun W hW => by ((try dsimp only at hW); go_simp; first | done | with_reducible rfl)) ?_
    try simp only [Act.put, List.setIfInBounds_toArray, List.set_cons_zero, List.set_cons_succ]
    refine seqH_pure (by simp only [List.getElem?_toArray, List.getElem?_cons_succ, List.getElem?_cons_zero]; rfl) rfl (by kernel_rfl) (fun W hW => by ((try dsimp only at hW); go_simp; first | done | with_reducible rfl)) ?_
    try simp only [Act.put, List.setIfInBounds_toArray, List.set_cons_zero, List.set_cons_succ]
    refine seqH_pure (by simp only [List.getElem?_toArray, List.getElem?_cons_succ, List.getElem?_cons_zero]; rfl) rfl (by kernel_rfl) (fun W hW => by ((try dsimp only at hW); go_simp; first | done | with_reducible rfl)) ?_
    try simp only [Act.put, List.setIfInBounds_toArray, List.set_cons_zero, List.set_cons_succ]
    refine seqH_pure (by simp only [List.getElem?_toArray, List.getElem?_cons_succ, List.getElem?_cons_zero]; rfl) rfl (by kernel_rfl) (fun W hW => by ((try dsimp only at hW); go_simp; first | done | with_reducible rfl)) ?_
    try simp only [Act.put, List.setIfInBounds_toArray, List.set_cons_zero, List.set_cons_succ]
    refine seqH_pure (by simp only [List.getElem?_toArray, List.getElem?_cons_succ, List.getElem?_cons_zero]; rfl) rfl (by kernel_rfl) (fun W hW => by ((try dsimp only at hW); go_simp; first | done | with_reducible rfl)) ?_
    try simp only [Act.put, List.setIfInBounds_toArray, List.set_cons_zero, List.set_cons_succ]
    refine seqH_pure (by simp only [List.getElem?_toArray, List.getElem?_cons_succ, List.getElem?_cons_zero]; rfl) rfl (by kernel_rfl) (fun W hW => by ((try dsimp only at hW); go_simp; first | done | with_reducible rfl)) ?_
    try simp only [Act.put, List.setIfInBounds_toArray, List.set_cons_zero, List.set_cons_succ]
    refine seqH_pure (by simp only [List.getElem?_toArray, List.getElem?_cons_succ, List.getElem?_cons_zero]; rfl) rfl (by kernel_rfl) (fun W hW => by ((try dsimp only at hW); go_simp; first | done | with_reducible rfl)) ?_
    try simp only [Act.put, List.setIfInBounds_toArray, List.set_cons_zero, List.set_cons_succ]
    refine seqH_pure (by simp only [List.getElem?_toArray, List.getElem?_cons_succ, List.getElem?_cons_zero]; rfl) rfl (by kernel_rfl) (fun W hW => by ((try dsimp only at hW); go_simp; first | done | with_reducible rfl)) ?_
    try simp only [Act.put, List.setIfInBounds_toArray, List.set_cons_zero, List.set_cons_succ]
    refine seqH_pure (by simp only [List.getElem?_toArray, List.getElem?_cons_succ, List.getElem?_cons_zero]; rfl) rfl (by kernel_rfl) (fun W hW => by ((try dsimp only at hW); go_simp; first | done | with_reducible rfl)) ?_
    try simp only [Act.put, List.setIfInBounds_toArray, List.set_cons_zero, List.set_cons_succ]
    refine seqH_pure (by simp only [List.getElem?_toArray, List.getElem?_cons_succ, List.getElem?_cons_zero]; rfl) rfl (by kernel_rfl) (fun W hW => by ((try dsimp only at hW); go_simp; first | done | with_reducible rfl)) ?_
    try simp only [Act.put, List.setIfInBounds_toArray, List.set_cons_zero, List.set_cons_succ]
    refine seqH_pure (by simp only [List.getElem?_toArray, List.getElem?_cons_succ, List.getElem?_cons_zero]; rfl) rfl (by kernel_rfl) (fun W hW => by ((try dsimp only at hW); go_simp; first | done | with_reducible rfl)) ?_
    try simp only [Act.put, List.setIfInBounds_toArray, List.set_cons_zero, List.set_cons_succ]
    refine seqH_pure (by simp only [List.getElem?_toArray, List.getElem?_cons_succ, List.getElem?_cons_zero]; rfl) rfl (by kernel_rfl) (fun W hW => by ((try dsimp only at hW); go_simp; first | done | with_reducible rfl)) ?_
    try simp only [Act.put, List.setIfInBounds_toArray, List.set_cons_zero, List.set_cons_succ]
    refine seqH_pure (by simp only [List.getElem?_toArray, List.getElem?_cons_succ, List.getElem?_cons_zero]; rfl) rfl (by kernel_rfl) (fun W hW => by ((try dsimp only at hW); go_simp; first | done | with_reducible rfl)) ?_
    try simp only [Act.put, List.setIfInBounds_toArray, List.set_cons_zero, List.set_cons_succ]
    refine seqH_pure (by simp only [List.getElem?_toArray, List.getElem?_cons_succ, List.getElem?_cons_zero]; rfl) rfl (by kernel_rfl) (fun W hW => by ((try dsimp only at hW); go_simp; first | done | with_reducible rfl)) ?_
    try simp only [Act.put, List.setIfInBounds_toArray, List.set_cons_zero, List.set_cons_succ]
    refine seqH_call (by simp only [List.getElem?_toArray, List.getElem?_cons_succ, List.getElem?_cons_zero]; rfl) rfl (by kernel_rfl) (fun K hK => ?_)
    have HKK := hid hK
    clear hK
    go_simp
    refine (state_calls (HT2.out.same (Hid.out Z0.1)) conn hd).mono ?_
    rintro e W33 ⟨he, hs33⟩
    rw [ES.out] at he
    subst he
    have Z33 := KEEP.out _ _ Z0 hs33
    clear Z0 hs33
    refine HKK.out _ _ Z33 ?_
    clear HKK K
    try simp only [Act.put, List.setIfInBounds_toArray, List.set_cons_zero, List.set_cons_succ]
    refine seqH_call (by simp only [List.getElem?_toArray, List.getElem?_cons_succ, List.getElem?_cons_zero]; rfl) rfl (by kernel_rfl) (fun K hK => ?_)
    have HKK := hid hK
    clear hK
    go_simp
    refine (rstate_calls (HR2.out.same (Hid.out Z33.1)) conn hd).mono ?_
    rintro e W39 ⟨rfl, hs39⟩
    have Z39 := KEEP.out _ _ Z33 hs39
    clear Z33 hs39
    refine HKK.out _ _ Z39 ?_
    clear HKK K
    try simp only [Act.put, List.setIfInBounds_toArray, List.set_cons_zero, List.set_cons_succ]
    refine seqH_pure (by simp only [List.getElem?_toArray, List.getElem?_cons_succ, List.getElem?_cons_zero]; rfl) rfl (by kernel_rfl) (fun W hW => by ((try dsimp only at hW); go_simp; first | done | with_reducible rfl)) ?_
    try simp only [Act.put, List.setIfInBounds_toArray, List.set_cons_zero, List.set_cons_succ]
    refine seqH_pure (by simp only [List.getElem?_toArray, List.getElem?_cons_succ, List.getElem?_cons_zero]; rfl) rfl (by kernel_rfl) (fun W hW => by ((try dsimp only at hW); go_simp; first | done | with_reducible rfl)) ?_
    try simp only [Act.put, List.setIfInBounds_toArray, List.set_cons_zero, List.set_cons_succ]
    refine seqH_pure (by simp only [List.getElem?_toArray, List.getElem?_cons_succ, List.getElem?_cons_zero]; rfl) rfl (by kernel_rfl) (fun W hW => by ((try dsimp only at hW); go_simp; first | done | with_reducible rfl)) ?_
    try simp only [Act.put, List.setIfInBounds_toArray, List.set_cons_zero, List.set_cons_succ]
    refine seqH_pure (by simp only [List.getElem?_toArray, List.getElem?_cons_succ, List.getElem?_cons_zero]; rfl) rfl (by kernel_rfl) (fun W hW => by ((try dsimp only at hW); go_simp; first | done | with_reducible rfl)) ?_
    try simp only [Act.put, List.setIfInBounds_toArray, List.set_cons_zero, List.set_cons_succ]
    refine seqH_pure (by simp only [List.getElem?_toArray, List.getElem?_cons_succ, List.getElem?_cons_zero]; rfl) rfl (by kernel_rfl) (fun W hW => by ((try dsimp only at hW); go_simp; first | done | with_reducible rfl)) ?_
    try simp only [Act.put, List.setIfInBounds_toArray, List.set_cons_zero, List.set_cons_succ]
    refine seqH_pure (by simp only [List.getElem?_toArray, List.getElem?_cons_succ, List.getElem?_cons_zero]; rfl) rfl (by kernel_rfl) (fun W hW => by ((try dsimp only at hW); go_simp; first | done | with_reducible rfl)) ?_
    try simp only [Act.put, List.setIfInBounds_toArray, List.set_cons_zero, List.set_cons_succ]
    refine seqH_pure (by simp only [List.getElem?_toArray, List.getElem?_cons_succ, List.getElem?_cons_zero]; rfl) rfl (by kernel_rfl) (fun W hW => by ((try dsimp only at hW); go_simp; first | done | with_reducible rfl)) ?_
    try simp only [Act.put, List.setIfInBounds_toArray, List.set_cons_zero, List.set_cons_succ]
    refine seqH_pure (by simp only [List.getElem?_toArray, List.getElem?_cons_succ, List.getElem?_cons_zero]; rfl) rfl (by kernel_rfl) (fun W hW => by ((try dsimp only at hW); go_simp; first | done | with_reducible rfl)) ?_
    try simp only [Act.put, List.setIfInBounds_toArray, List.set_cons_zero, List.set_cons_succ]
    refine seqH_pure (by simp only [List.getElem?_toArray, List.getElem?_cons_succ, List.getElem?_cons_zero]; rfl) rfl (by kernel_rfl) (fun W hW => by ((try dsimp only at hW); go_simp; first | done | with_reducible rfl)) ?_
    try simp only [Act.put, List.setIfInBounds_toArray, List.set_cons_zero, List.set_cons_succ]
    refine seqH_call (by simp only [List.getElem?_toArray, List.getElem?_cons_succ, List.getElem?_cons_zero]; rfl) rfl (by kernel_rfl) (fun K hK => ?_)
    have HKK := hid hK
    clear hK
    go_simp
    refine (used_calls (HT2.out.same (Hid.out Z39.1)) slot).mono ?_
    rintro e W46 ⟨rfl, hs46⟩
    have Z46 := KEEP.out _ _ Z39 hs46
    clear Z39 hs46
    refine HKK.out _ _ Z46 ?_
    clear HKK K
    try simp only [Act.put, List.setIfInBounds_toArray, List.set_cons_zero, List.set_cons_succ]
    refine seqH_call (by simp only [List.getElem?_toArray, List.getElem?_cons_succ, List.getElem?_cons_zero]; rfl) rfl (by kernel_rfl) (fun K hK => ?_)
    have HKK := hid hK
    clear hK
    go_simp
    refine (rused_calls (HR2.out.same (Hid.out Z46.1)) slot).mono ?_
    rintro e W50 ⟨rfl, rfl⟩
    have Z50 := Z46
    clear Z46
    refine HKK.out _ _ Z50 ?_
    clear HKK K
    try simp only [Act.put, List.setIfInBounds_toArray, List.set_cons_zero, List.set_cons_succ]
    refine seqH_pure (by simp only [List.getElem?_toArray, List.getElem?_cons_succ, List.getElem?_cons_zero]; rfl) rfl (by kernel_rfl) (fun W hW => by ((try dsimp only at hW); go_simp; first | done | with_reducible rfl)) ?_
    try simp only [Act.put, List.setIfInBounds_toArray, List.set_cons_zero, List.set_cons_succ]
    refine seqH_pure (by simp only [List.getElem?_toArray, List.getElem?_cons_succ, List.getElem?_cons_zero]; rfl) rfl (by kernel_rfl) (fun W hW => by ((try dsimp only at hW); go_simp; first | done | with_reducible rfl)) ?_
    try simp only [Act.put, List.setIfInBounds_toArray, List.set_cons_zero, List.set_cons_succ]
    refine seqH_pure (by simp only [List.getElem?_toArray, List.getElem?_cons_succ, List.getElem?_cons_zero]; rfl) rfl (by kernel_rfl) (fun W hW => by ((try dsimp only at hW); go_simp; first | done | with_reducible rfl)) ?_
    try simp only [Act.put, List.setIfInBounds_toArray, List.set_cons_zero, List.set_cons_succ]
    refine seqH_pure (by simp only [List.getElem?_toArray, List.getElem?_cons_succ, List.getElem?_cons_zero]; rfl) rfl (by kernel_rfl) (fun W hW => by ((try dsimp only at hW); go_simp; first | done | with_reducible rfl)) ?_
    try simp only [Act.put, List.setIfInBounds_toArray, List.set_cons_zero, List.set_cons_succ]
    refine seqH_pure (by simp only [List.getElem?_toArray, List.getElem?_cons_succ, List.getElem?_cons_zero]; rfl) rfl (by kernel_rfl) (fun W hW => by ((try dsimp only at hW); go_simp; first | done | with_reducible rfl)) ?_
    try simp only [Act.put, List.setIfInBounds_toArray, List.set_cons_zero, List.set_cons_succ]
    refine seqH_pure (by simp only [List.getElem?_toArray, List.getElem?_cons_succ, List.getElem?_cons_zero]; rfl) rfl (by kernel_rfl) (fun W hW => by ((try dsimp only at hW); go_simp; first | done | with_reducible rfl)) ?_
    try simp only [Act.put, List.setIfInBounds_toArray, List.set_cons_zero, List.set_cons_succ]
    refine seqH_pure (by simp only [List.getElem?_toArray, List.getElem?_cons_succ, List.getElem?_cons_zero]; rfl) rfl (by kernel_rfl) (fun W hW => by ((try dsimp only at hW); go_simp; first | done | with_reducible rfl)) ?_
    try simp only [Act.put, List.setIfInBounds_toArray, List.set_cons_zero, List.set_cons_succ]
    refine seqH_pure (by simp only [List.getElem?_toArray, List.getElem?_cons_succ, List.getElem?_cons_zero]; rfl) rfl (by kernel_rfl) (fun W hW => by ((try dsimp only at hW); go_simp; first | done | with_reducible rfl)) ?_
    try simp only [Act.put, List.setIfInBounds_toArray, List.set_cons_zero, List.set_cons_succ]
    refine seqH_pure (by simp only [List.getElem?_toArray, List.getElem?_cons_succ, List.getElem?_cons_zero]; rfl) rfl (by kernel_rfl) (fun W hW => by ((try dsimp only at hW); go_simp; first | done | with_reducible rfl)) ?_
    try simp only [Act.put, List.setIfInBounds_toArray, List.set_cons_zero, List.set_cons_succ]
    refine seqH_pure (by simp only [List.getElem?_toArray, List.getElem?_cons_succ, List.getElem?_cons_zero]; rfl) rfl (by kernel_rfl) (fun W hW => by ((try dsimp only at hW); go_simp; first | done | with_reducible rfl)) ?_
    try simp only [Act.put, List.setIfInBounds_toArray, List.set_cons_zero, List.set_cons_succ]
    refine seqH_pure (by simp only [List.getElem?_toArray, List.getElem?_cons_succ, List.getElem?_cons_zero]; rfl) rfl (by kernel_rfl) (fun W hW => by ((try dsimp only at hW); go_simp; first | done | with_reducible rfl)) ?_
    try simp only [Act.put, List.setIfInBounds_toArray, List.set_cons_zero, List.set_cons_succ]
    refine seqH_pure (by simp only [List.getElem?_toArray, List.getElem?_cons_succ, List.getElem?_cons_zero]; rfl) rfl (by kernel_rfl) (fun W hW => by ((try dsimp only at hW); go_simp; first | done | with_reducible rfl)) ?_
    try simp only [Act.put, List.setIfInBounds_toArray, List.set_cons_zero, List.set_cons_succ]
    refine seqH_pure (by simp only [List.getElem?_toArray, List.getElem?_cons_succ, List.getElem?_cons_zero]; rfl) rfl (by kernel_rfl) (fun W hW => by ((try dsimp only at hW); go_simp; first | done | with_reducible rfl)) ?_
    try simp only [Act.put, List.setIfInBounds_toArray, List.set_cons_zero, List.set_cons_succ]
    refine seqH_pure (by simp only [List.getElem?_toArray, List.getElem?_cons_succ, List.getElem?_cons_zero]; rfl) rfl (by kernel_rfl) (fun W hW => by ((try dsimp only at hW); go_simp; first | done | with_reducible rfl)) ?_
    try simp only [Act.put, List.setIfInBounds_toArray, List.set_cons_zero, List.set_cons_succ]
    refine seqH_pure (by simp only [List.getElem?_toArray, List.getElem?_cons_succ, List.getElem?_cons_zero]; rfl) rfl (by kernel_rfl) (fun W hW => by ((try dsimp only at hW); go_simp; first | done | with_reducible rfl)) ?_
    try simp only [Act.put, List.setIfInBounds_toArray, List.set_cons_zero, List.set_cons_succ]
    refine seqH_pure (by simp only [List.getElem?_toArray, List.getElem?_cons_succ, List.getElem?_cons_zero]; rfl) rfl (by kernel_rfl) (fun W hW => by ((try dsimp only at hW); go_simp; first | done | with_reducible rfl)) ?_
    try simp only [Act.put, List.setIfInBounds_toArray, List.set_cons_zero, List.set_cons_succ]
    refine seqH_pure (by simp only [List.getElem?_toArray, List.getElem?_cons_succ, List.getElem?_cons_zero]; rfl) rfl (by kernel_rfl) (fun W hW => by ((try dsimp only at hW); go_simp; first | done | with_reducible rfl)) ?_
    try simp only [Act.put, List.setIfInBounds_toArray, List.set_cons_zero, List.set_cons_succ]
    refine seqH_call (by simp only [List.getElem?_toArray, List.getElem?_cons_succ, List.getElem?_cons_zero]; rfl) rfl (by kernel_rfl) (fun K hK => ?_)
    have HKK := hid hK
    clear hK
    go_simp
    refine (may_calls (HT2.out.same (Hid.out Z50.1)) conn slot user).mono ?_
    rintro e W61 ⟨he, hs61⟩
    rw [EM.out] at he
    subst he
    have Z61 := KEEP.out _ _ Z50 hs61
    clear Z50 hs61
    refine HKK.out _ _ Z61 ?_
    clear HKK K
    try simp only [Act.put, List.setIfInBounds_toArray, List.set_cons_zero, List.set_cons_succ]
    refine seqH_call (by simp only [List.getElem?_toArray, List.getElem?_cons_succ, List.getElem?_cons_zero]; rfl) rfl (by kernel_rfl) (fun K hK => ?_)
    have HKK := hid hK
    clear hK
    go_simp
    refine (rmay_calls (HR2.out.same (Hid.out Z61.1)) conn slot user).mono ?_
    rintro e W69 ⟨rfl, rfl⟩
    have Z69 := Z61
    clear Z61
    refine HKK.out _ _ Z69 ?_
    clear HKK K
    try simp only [Act.put, List.setIfInBounds_toArray, List.set_cons_zero, List.set_cons_succ]
    refine seqH_pure (by simp only [List.getElem?_toArray, List.getElem?_cons_succ, List.getElem?_cons_zero]; rfl) rfl (by kernel_rfl) (fun W hW => by ((try dsimp only at hW); go_simp; first | done | with_reducible rfl)) ?_
    try simp only [Act.put, List.setIfInBounds_toArray, List.set_cons_zero, List.set_cons_succ]
    refine seqH_pure (by simp only [List.getElem?_toArray, List.getElem?_cons_succ, List.getElem?_cons_zero]; rfl) rfl (by kernel_rfl) (fun W hW => by ((try dsimp only at hW); go_simp; first | done | with_reducible rfl)) ?_
    try simp only [Act.put, List.setIfInBounds_toArray, List.set_cons_zero, List.set_cons_succ]
    refine seqH_nil ?_
    refine HQ.out _ _ Z69 ?_
    clear HQ
    go_wp2_with fail
    refine (all_calls (some ⟨t, 0, none⟩) conn slot W61).mono ?_
    rintro e W7 ⟨rfl, hs7, b0, b1, b2⟩
    have HT7 := hid (HT2.out.same (Same.trans (Hid.out Z69.1) hs7))
    have HR7 := hid (HR2.out.same (Same.trans (Hid.out Z69.1) hs7))
    have Z7 := hid (KEEP.out _ _ Z69 hs7)
    have B0 := hid b0
    have B1 := hid b1
    have B2 := hid b2
    clear hs7 b0 b1 b2 Z69
    have hfn : ∀ (cs : Array Value) (W : World), (binOp .eql 46 (.func (.func 40) #[] cs) .nilFunc).run Try.prog W = .ok (.bool false) W := by intro cs W; kernel_rfl
    go_wp2_with fail
    clear hfn
    refine wp_range rfl callFunc40 (all_stops 8 (by omega) HT7.out B0.out B1.out B2.out) (by simp) ((Below.refl _ W7).alloc (Nat.le_refl _) _) (fun _ => rfl) (fun pre W => (∃ v, Boxed W W7.heap.size 37 v ∧ W.ownsRow W7.heap.size 3 1 v pre.length (ints pre) ∧ True) ∧ Below W7.heap.size W7 W) (OwnFrom.and (Own.from (holdsRow_own W7.heap.size W7.heap.size 37 3 1 (fun pre : List Int => pre.length) (fun pre => ints pre) (fun _ _ => True)) _) (own_below (Nat.le_refl _) (by simp))) ⟨⟨_, Boxed.new W7 37 _, World.ownsRow_nil _ _ _ _, trivial⟩, (Below.refl _ W7).alloc (Nat.le_refl _) _⟩ ?_ ?_
    · apply Exists.intro
      apply And.intro
      · intro lp x W K hK
        gi_wp2
        exact hK
      · rintro lp pre x W ⟨⟨v, hv, hrow, -⟩, hB⟩ hlt
        have hlt' : pre.length < 200 := by omega
        have HB := hid hB
        have HV := hid hv
        have HROW := hid hrow
        have hc := hv.cell
        clear hB hlt hv hrow
        gi_wp2_with (gi_at_builtin; refine wpListIn_append_own _ rfl _ _ 37 rfl W7.heap.size 3 i3 (.int .i64 0) 1 8 Try.underlying37 hi3 hz3 hs3 hb3 rfl (by decide) _ _ _ rfl (HROW.out.alloc _) ⟨W.heap.size, 0, none⟩ 1 1 [.int .i64 x] rfl rfl (cell_one_new _ _ _) (by simp [Value.oneCell']) (by unfold maxLen; omega) (by omega) (by have := HB.out.size; simp; omega) ?_; intro v' w1 hown' hgrow _; obtain ⟨g', cap', rfl⟩ := ownsRow_succ hown'; obtain ⟨hv1, hv2, hr2, hk2, hb2⟩ := HV.out.appended (by decide) HROW.out HB.out.size (Nat.le_refl _) hown' hgrow; have hc1 := hv1.cell; have hf1 := hv1.frozen)
        exact ⟨hk2.from _, hb2, ⟨⟨_, hv2, by simpa [ints] using hr2, trivial⟩, HB.out.trans hb2⟩⟩
    · rintro D xs W hD rfl ⟨⟨v, hv, hrow, -⟩, hB⟩ hK
      have hS : Same W7 W := Chg.of_below hB
      have HR8 := hid (HR7.out.same hS)
      have Z8 := hid (KEEP.out _ _ Z7.out hS)
      have HK := hid hK
      have HD := hid hD
      have HV := hid hv
      have HROW := hid hrow
      clear hS hB hK hD hv hrow
      go_wp2_with fail
      obtain ⟨ra, rcap, hlv8, hrc, hrm, hrow8⟩ := row_se HR8.out.lrow
      have hll : l.length ≤ 9223372036854775807 := by omega
      have HLV : Hid (∀ W', Same W W' → W'.cell? ⟨r, 0, none⟩ = some (.slice ra l.length rcap)) := fun W' hs => by rw [← hlv8]; exact (HR8.out.same hs).l_cell
      have HROW8 := hid hrow8
      clear hlv8 hrc hrm hrow8
      go_loopw [12, 14] (fun mv i wr => ∃ k : Nat, k ≤ l.length ∧ i = .int .i64 k ∧ GoneAt W (hasAt conn slot) l k mv wr) (fun _ i _ => l.length - (intOf i).toNat)
      case atStart => exact ⟨0, Nat.zero_le _, rfl, Chg.refl _ _, by simpa [goneOf, ints] using World.ownsRow_nil W W.heap.size 3 1⟩
      case round =>
        obtain ⟨k, hk, rfl, hh⟩ := hrel
        have HH := hid hh
        clear hh
        have d0 := HLV.out wr HH.out.same
        obtain ⟨-, z1, z2, -, -⟩ := KEEP.out _ _ Z8.out HH.out.same
        by_cases hlt : k < l.length
        · rcases HROW8.out with ⟨_, rfl⟩ | ⟨g, rfl, hg, hcells⟩
          · simp at hlt
          obtain ⟨c0, c1, c2, -⟩ := hcells k hlt
          rw [← HH.out.same.cell (by exact hg) (fun h => h)] at c0 c1 c2
          clear hcells
          have hb := hid (fun X : Obj => show W.heap.size ≤ (wr.drew.alloc X).heap.size from Nat.le_trans HH.out.same.size (((Chg.refl (fun _ => False) wr).drew.alloc _).size))
          have HA := hid (fun X => HH.out.later ((Chg.refl _ wr).drew.alloc X))
          have HG := goneOf_le (hasAt conn slot) l k
          cases hp : (l[k].c == conn) with
          | false =>
            have HH2 := hid (HH.out.skip hlt (by simp [hasAt, hp]))
            go_wp2_with fail
            go_quiet (fail)
            go_wp2_with fail
            go_roundw
            case rel => exact ⟨k + 1, by omega, by go_num, HH2.out.later ((Chg.refl _ wr).drewN _)⟩
            case measure => simp [intOf]; omega
          | true =>
            cases hp2 : (l[k].s == slot) with
            | true =>
              have QT : Hid (hasAt conn slot l[k] = true) := by show _ = _; simp [hasAt, hp, hp2]
              go_wp2_with fail
              go_quiet (fail)
              go_wp2_with (at_builtin; refine push_list _ rfl (.tmp 149) (.tmp 158) 37 rfl 3 i3 _ 1 8 Try.underlying37 hi3 hz3 hs3 hb3 rfl (by decide) W.heap.size (hb.out _) _ _ _ rfl (HA.out _).gone wr.heap.size [.int .i64 l[k].h] rfl (heap_alloc_new _ _) rfl (ints_oneCell .i64 [l[k].h]) ?c1 ?c2 ?_)
              case c1 => unfold maxLen; omega
              case c2 => omega
              intro g2 cap2 W2 hown2 hc2 hat2 hlt2
              have HH2 := hid (HH.out.push (((Chg.refl _ wr).drewN _).alloc _) hlt QT.out hown2 hc2)
              clear hown2 hc2 hat2 hlt2
              go_wp2_with fail
              go_roundw
              case rel => exact ⟨k + 1, by omega, by go_num, HH2.out⟩
              case measure => simp [intOf]; omega
            | false =>
              have HH2 := hid (HH.out.skip hlt (by simp [hasAt, hp2]))
              go_wp2_with fail
              go_quiet (fail)
              go_wp2_with fail
              go_roundw
              case rel => exact ⟨k + 1, by omega, by go_num, HH2.out.later ((Chg.refl _ wr).drewN _)⟩
              case measure => simp [intOf]; omega
        · have hkl : k = l.length := by omega
          subst hkl
          have hg := HH.out.gone
          rw [List.take_length] at hg
          have hv2 : wr.ownsRow W7.heap.size 3 1 v (goneOf (hasAt conn slot) l).length (ints (goneOf (hasAt conn slot) l)) := ownsRow_keep HROW.out fun g hg => HH.out.same.block g (HROW.out.lt g hg).2 (fun h => h)
          have d1 : wr.cell? ⟨W7.heap.size, 0, none⟩ = some v := by rw [HH.out.same.cell (by exact HV.out.lt) (fun h => h)]; exact HV.out.cell
          obtain ⟨la, ln, lc, hlv⟩ := ownsRow_form hg
          subst hlv
          obtain ⟨va, vn, vc, hvv⟩ := ownsRow_form hv2
          subst hvv
          have HGR := hid hg
          have HV2 := hid hv2
          clear hg hv2
          go_wp2_with fail
          refine (lists_calls HV2.out HGR.out).mono ?_
          rintro e W9 ⟨he9, hs9⟩
          obtain rfl : e = .returned (.bool true) := by rw [he9, decide_eq_true rfl]
          have HS9 := hid (HH.out.same.trans hs9)
          have HK9 := hid (heap_same HK.out HS9.out)
          clear hs9 d0 d1 z1 z2
          go_wp2_with fail
          refine ⟨by simp, .inl ⟨_, _, rfl, run_takeDeferred HK9.out, ?_⟩⟩
          refine ⟨_, results_tmp rfl _ _ _, rfl, ?_⟩
          have hw9 : Same w W9 := Same.trans (Same.trans S1'.out S2.out) (Same.trans (Hid.out Z8.out.1) HS9.out)
          exact hw9.grown (grownBy_putObj' W9 D (.deferred none)) (fun k hk => by cases hk; right; have := HD.out; have h7 : Same w W7 := Same.trans (Same.trans S1'.out S2.out) (Hid.out Z7.out.1); have := h7.size; simp at *; omega)

  · obtain rfl : kv = k := HKV.out.trans h1
    obtain ⟨rfl, rfl⟩ := HSS.out x h2
    obtain ⟨g, cap, hlv, hg, hcap, hmax, -, -, hgc, -⟩ := HR2.out.cells_at hx
    have HRD : Hid (∀ W, Same w2 W → W.cell? ⟨r, 0, none⟩ = some (.slice (some ⟨g, 0, none⟩) l.length cap)) := fun W hs => by rw [← hlv]; exact (HR2.out.same hs).l_cell
    have HGD : Hid (∀ W, Same w2 W → W.cell? ⟨g, k * 4 + 2, none⟩ = some (.int .i64 x.s)) := fun W hs => by rw [hs.cell (by exact hg) (fun h => h)]; exact hgc
    have HK0 : Hid (decide ((k : Int) ≥ 0) = true) := by show _ = _; simp
    have HLT := hid hk
    clear h1 h2 hk hx hlv hg hcap hmax hgc
    refine seqH_pure (by simp only [List.getElem?_toArray, List.getElem?_cons_succ, List.getElem?_cons_zero]; rfl) rfl (by kernel_rfl) (fun W hW => by ((try dsimp only at hW); go_simp; first | done | with_reducible rfl)) ?_
    try simp only [Act.put, List.setIfInBounds_toArray, List.set_cons_zero, List.set_cons_succ]
    refine seqH_pure (by simp only [List.getElem?_toArray, List.getElem?_cons_succ, List.getElem?_cons_zero]; rfl) rfl (by kernel_rfl) (fun W hW => by ((try dsimp only at hW); go_simp; first | done | with_reducible rfl)) ?_
    try simp only [Act.put, List.setIfInBounds_toArray, List.set_cons_zero, List.set_cons_succ]
    refine seqH_pure (by simp only [List.getElem?_toArray, List.getElem?_cons_succ, List.getElem?_cons_zero]; rfl) rfl (by kernel_rfl) (fun W hW => by (have hz := HK0.out; (try dsimp only at hW); go_simp; first | done | with_reducible rfl)) ?_
    try simp only [Act.put, List.setIfInBounds_toArray, List.set_cons_zero, List.set_cons_succ]
    refine seqH_pure (by simp only [List.getElem?_toArray, List.getElem?_cons_succ, List.getElem?_cons_zero]; rfl) rfl (by kernel_rfl) (fun W hW => by ((try dsimp only at hW); go_simp; first | done | with_reducible rfl)) ?_
    try simp only [Act.put, List.setIfInBounds_toArray, List.set_cons_zero, List.set_cons_succ]
    refine seqH_pure (by simp only [List.getElem?_toArray, List.getElem?_cons_succ, List.getElem?_cons_zero]; rfl) rfl (by kernel_rfl) (fun W hW => by ((try dsimp only at hW); go_simp; first | done | with_reducible rfl)) ?_
    try simp only [Act.put, List.setIfInBounds_toArray, List.set_cons_zero, List.set_cons_succ]
    refine seqH_pure (by simp only [List.getElem?_toArray, List.getElem?_cons_succ, List.getElem?_cons_zero]; rfl) rfl (by kernel_rfl) (fun W hW => by ((try dsimp only at hW); go_simp; first | done | with_reducible rfl)) ?_
    try simp only [Act.put, List.setIfInBounds_toArray, List.set_cons_zero, List.set_cons_succ]
    refine seqH_pure (by simp only [List.getElem?_toArray, List.getElem?_cons_succ, List.getElem?_cons_zero]; rfl) rfl (by kernel_rfl) (fun W hW => by ((try dsimp only at hW); go_simp; first | done | with_reducible rfl)) ?_
    try simp only [Act.put, List.setIfInBounds_toArray, List.set_cons_zero, List.set_cons_succ]
    refine seqH_pure (by simp only [List.getElem?_toArray, List.getElem?_cons_succ, List.getElem?_cons_zero]; rfl) rfl (by kernel_rfl) (fun W hW => by ((try dsimp only at hW); go_simp; first | done | with_reducible rfl)) ?_
    try simp only [Act.put, List.setIfInBounds_toArray, List.set_cons_zero, List.set_cons_succ]
    refine seqH_pure (by simp only [List.getElem?_toArray, List.getElem?_cons_succ, List.getElem?_cons_zero]; rfl) rfl (by kernel_rfl) (fun W hW => by ((try dsimp only at hW); go_simp; first | done | with_reducible rfl)) ?_
    try simp only [Act.put, List.setIfInBounds_toArray, List.set_cons_zero, List.set_cons_succ]
    refine seqH_pure (by simp only [List.getElem?_toArray, List.getElem?_cons_succ, List.getElem?_cons_zero]; rfl) rfl (by kernel_rfl) (fun W hW => by ((try dsimp only at hW); go_simp; first | done | with_reducible rfl)) ?_
    try simp only [Act.put, List.setIfInBounds_toArray, List.set_cons_zero, List.set_cons_succ]
    refine seqH_pure (by simp only [List.getElem?_toArray, List.getElem?_cons_succ, List.getElem?_cons_zero]; rfl) rfl (by kernel_rfl) (fun W hW => by ((try dsimp only at hW); go_simp; first | done | with_reducible rfl)) ?_
    try simp only [Act.put, List.setIfInBounds_toArray, List.set_cons_zero, List.set_cons_succ]
    refine seqH_pure (by simp only [List.getElem?_toArray, List.getElem?_cons_succ, List.getElem?_cons_zero]; rfl) rfl (by kernel_rfl) (fun W hW => by (have hz := HRD.out W hW.1.out; (try dsimp only at hW); go_simp; first | done | with_reducible rfl)) ?_
    try simp only [Act.put, List.setIfInBounds_toArray, List.set_cons_zero, List.set_cons_succ]
    refine seqH_pure (by simp only [List.getElem?_toArray, List.getElem?_cons_succ, List.getElem?_cons_zero]; rfl) rfl (by kernel_rfl) (fun W hW => by ((try dsimp only at hW); go_simp; first | done | with_reducible rfl)) ?_
    try simp only [Act.put, List.setIfInBounds_toArray, List.set_cons_zero, List.set_cons_succ]
    refine seqH_pure (by simp only [List.getElem?_toArray, List.getElem?_cons_succ, List.getElem?_cons_zero]; rfl) rfl (by kernel_rfl) (fun W hW => by (have hz := HLT.out; (try dsimp only at hW); go_simp; first | done | with_reducible rfl)) ?_
    try simp only [Act.put, List.setIfInBounds_toArray, List.set_cons_zero, List.set_cons_succ]
    refine seqH_pure (by simp only [List.getElem?_toArray, List.getElem?_cons_succ, List.getElem?_cons_zero]; rfl) rfl (by kernel_rfl) (fun W hW => by ((try dsimp only at hW); go_simp; first | done | with_reducible rfl)) ?_
    try simp only [Act.put, List.setIfInBounds_toArray, List.set_cons_zero, List.set_cons_succ]
    refine seqH_pure (by simp only [List.getElem?_toArray, List.getElem?_cons_succ, List.getElem?_cons_zero]; rfl) rfl (by kernel_rfl) (fun W hW => by (have hz := HGD.out W hW.1.out; (try dsimp only at hW); go_simp; first | done | with_reducible rfl)) ?_
    try simp only [Act.put, List.setIfInBounds_toArray, List.set_cons_zero, List.set_cons_succ]
    refine seqH_pure (by simp only [List.getElem?_toArray, List.getElem?_cons_succ, List.getElem?_cons_zero]; rfl) rfl (by kernel_rfl) (fun W hW => by ((try dsimp only at hW); go_simp; first | done | with_reducible rfl)) ?_
    try simp only [Act.put, List.setIfInBounds_toArray, List.set_cons_zero, List.set_cons_succ]
    refine seqH_pure (by simp only [List.getElem?_toArray, List.getElem?_cons_succ, List.getElem?_cons_zero]; rfl) rfl (by kernel_rfl) (fun W hW => by ((try dsimp only at hW); go_simp; first | done | with_reducible rfl)) ?_
    try simp only [Act.put, List.setIfInBounds_toArray, List.set_cons_zero, List.set_cons_succ]
    refine seqH_pure (by simp only [List.getElem?_toArray, List.getElem?_cons_succ, List.getElem?_cons_zero]; rfl) rfl (by kernel_rfl) (fun W hW => by ((try dsimp only at hW); go_simp; first | done | with_reducible rfl)) ?_
    try simp only [Act.put, List.setIfInBounds_toArray, List.set_cons_zero, List.set_cons_succ]
    refine seqH_pure (by simp only [List.getElem?_toArray, List.getElem?_cons_succ, List.getElem?_cons_zero]; rfl) rfl (by kernel_rfl) (fun W hW => by ((try dsimp only at hW); go_simp; first | done | with_reducible rfl)) ?_
    try simp only [Act.put, List.setIfInBounds_toArray, List.set_cons_zero, List.set_cons_succ]
    refine seqH_pure (by simp only [List.getElem?_toArray, List.getElem?_cons_succ, List.getElem?_cons_zero]; rfl) rfl (by kernel_rfl) (fun W hW => by ((try dsimp only at hW); go_simp; first | done | with_reducible rfl)) ?_
    try simp only [Act.put, List.setIfInBounds_toArray, List.set_cons_zero, List.set_cons_succ]
    refine seqH_pure (by simp only [List.getElem?_toArray, List.getElem?_cons_succ, List.getElem?_cons_zero]; rfl) rfl (by kernel_rfl) (fun W hW => by ((try dsimp only at hW); go_simp; first | done | with_reducible rfl)) ?_
    try simp only [Act.put, List.setIfInBounds_toArray, List.set_cons_zero, List.set_cons_succ]
    refine seqH_pure (by simp only [List.getElem?_toArray, List.getElem?_cons_succ, List.getElem?_cons_zero]; rfl) rfl (by kernel_rfl) (fun W hW => by ((try dsimp only at hW); go_simp; first | done | with_reducible rfl)) ?_
    try simp only [Act.put, List.setIfInBounds_toArray, List.set_cons_zero, List.set_cons_succ]
    refine seqH_off (by simp only [List.getElem?_toArray, List.getElem?_cons_succ, List.getElem?_cons_zero]; rfl) rfl (by kernel_rfl) ?_
    try simp only [Act.put, List.setIfInBounds_toArray, List.set_cons_zero, List.set_cons_succ]
    refine seqH_off (by simp only [List.getElem?_toArray, List.getElem?_cons_succ, List.getElem?_cons_zero]; rfl) rfl (by kernel_rfl) ?_
    try simp only [Act.put, List.setIfInBounds_toArray, List.set_cons_zero, List.set_cons_succ]
    refine seqH_pure (by simp only [List.getElem?_toArray, List.getElem?_cons_succ, List.getElem?_cons_zero]; rfl) rfl (by kernel_rfl) (fun W hW => by ((try dsimp only at hW); go_simp; first | done | with_reducible rfl)) ?_
    try simp only [Act.put, List.setIfInBounds_toArray, List.set_cons_zero, List.set_cons_succ]
    refine seqH_pure (by simp only [List.getElem?_toArray, List.getElem?_cons_succ, List.getElem?_cons_zero]; rfl) rfl (by kernel_rfl) (fun W hW => by ((try dsimp only at hW); go_simp; first | done | with_reducible rfl)) ?_
    try simp only [Act.put, List.setIfInBounds_toArray, List.set_cons_zero, List.set_cons_succ]
    refine seqH_pure (by simp only [List.getElem?_toArray, List.getElem?_cons_succ, List.getElem?_cons_zero]; rfl) rfl (by kernel_rfl) (fun W hW => by ((try dsimp only at hW); go_simp; first | done | with_reducible rfl)) ?_
    try simp only [Act.put, List.setIfInBounds_toArray, List.set_cons_zero, List.set_cons_succ]
    refine seqH_pure (by simp only [List.getElem?_toArray, List.getElem?_cons_succ, List.getElem?_cons_zero]; rfl) rfl (by kernel_rfl) (fun W hW => by ((try dsimp only at hW); go_simp; first | done | with_reducible rfl)) ?_
    try simp only [Act.put, List.setIfInBounds_toArray, List.set_cons_zero, List.set_cons_succ]
    refine seqH_pure (by simp only [List.getElem?_toArray, List.getElem?_cons_succ, List.getElem?_cons_zero]; rfl) rfl (by kernel_rfl) (fun W hW => by ((try dsimp only at hW); go_simp; first | done | with_reducible rfl)) ?_
    try simp only [Act.put, List.setIfInBounds_toArray, List.set_cons_zero, List.set_cons_succ]
    refine seqH_pure (by simp only [List.getElem?_toArray, List.getElem?_cons_succ, List.getElem?_cons_zero]; rfl) rfl (by kernel_rfl) (fun W hW => by ((try dsimp only at hW); go_simp; first | done | with_reducible rfl)) ?_
    try simp only [Act.put, List.setIfInBounds_toArray, List.set_cons_zero, List.set_cons_succ]
    refine seqH_pure (by simp only [List.getElem?_toArray, List.getElem?_cons_succ, List.getElem?_cons_zero]; rfl) rfl (by kernel_rfl) (fun W hW => by ((try dsimp only at hW); go_simp; first | done | with_reducible rfl)) ?_
    try simp only [Act.put, List.setIfInBounds_toArray, List.set_cons_zero, List.set_cons_succ]
    refine seqH_pure (by simp only [List.getElem?_toArray, List.getElem?_cons_succ, List.getElem?_cons_zero]; rfl) rfl (by kernel_rfl) (fun W hW => by ((try dsimp only at hW); go_simp; first | done | with_reducible rfl)) ?_
    try simp only [Act.put, List.setIfInBounds_toArray, List.set_cons_zero, List.set_cons_succ]
    refine seqH_pure (by simp only [List.getElem?_toArray, List.getElem?_cons_succ, List.getElem?_cons_zero]; rfl) rfl (by kernel_rfl) (fun W hW => by ((try dsimp only at hW); go_simp; first | done | with_reducible rfl)) ?_
    try simp only [Act.put, List.setIfInBounds_toArray, List.set_cons_zero, List.set_cons_succ]
    refine seqH_pure (by simp only [List.getElem?_toArray, List.getElem?_cons_succ, List.getElem?_cons_zero]; rfl) rfl (by kernel_rfl) (fun W hW => by ((try dsimp only at hW); go_simp; first | done | with_reducible rfl)) ?_
    try simp only [Act.put, List.setIfInBounds_toArray, List.set_cons_zero, List.set_cons_succ]
    refine seqH_pure (by simp only [List.getElem?_toArray, List.getElem?_cons_succ, List.getElem?_cons_zero]; rfl) rfl (by kernel_rfl) (fun W hW => by ((try dsimp only at hW); go_simp; first | done | with_reducible rfl)) ?_
    try simp only [Act.put, List.setIfInBounds_toArray, List.set_cons_zero, List.set_cons_succ]
    refine seqH_pure (by simp only [List.getElem?_toArray, List.getElem?_cons_succ, List.getElem?_cons_zero]; rfl) rfl (by kernel_rfl) (fun W hW => by ((try dsimp only at hW); go_simp; first | done | with_reducible rfl)) ?_
    try simp only [Act.put, List.setIfInBounds_toArray, List.set_cons_zero, List.set_cons_succ]
    refine seqH_pure (by simp only [List.getElem?_toArray, List.getElem?_cons_succ, List.getElem?_cons_zero]; rfl) rfl (by kernel_rfl) (fun W hW => by ((try dsimp only at hW); go_simp; first | done | with_reducible rfl)) ?_
    try simp only [Act.put, List.setIfInBounds_toArray, List.set_cons_zero, List.set_cons_succ]
    refine seqH_call (by simp only [List.getElem?_toArray, List.getElem?_cons_succ, List.getElem?_cons_zero]; rfl) rfl (by kernel_rfl) (fun K hK => ?_)
    have HKK := hid hK
    clear hK
    go_simp
    refine (state_calls (HT2.out.same (Hid.out Z0.1)) conn hd).mono ?_
    rintro e W33 ⟨he, hs33⟩
    rw [ES.out] at he
    subst he
    have Z33 := KEEP.out _ _ Z0 hs33
    clear Z0 hs33
    refine HKK.out _ _ Z33 ?_
    clear HKK K
    try simp only [Act.put, List.setIfInBounds_toArray, List.set_cons_zero, List.set_cons_succ]
    refine seqH_call (by simp only [List.getElem?_toArray, List.getElem?_cons_succ, List.getElem?_cons_zero]; rfl) rfl (by kernel_rfl) (fun K hK => ?_)
    have HKK := hid hK
    clear hK
    go_simp
    refine (rstate_calls (HR2.out.same (Hid.out Z33.1)) conn hd).mono ?_
    rintro e W39 ⟨rfl, hs39⟩
    have Z39 := KEEP.out _ _ Z33 hs39
    clear Z33 hs39
    refine HKK.out _ _ Z39 ?_
    clear HKK K
    try simp only [Act.put, List.setIfInBounds_toArray, List.set_cons_zero, List.set_cons_succ]
    refine seqH_pure (by simp only [List.getElem?_toArray, List.getElem?_cons_succ, List.getElem?_cons_zero]; rfl) rfl (by kernel_rfl) (fun W hW => by ((try dsimp only at hW); go_simp; first | done | with_reducible rfl)) ?_
    try simp only [Act.put, List.setIfInBounds_toArray, List.set_cons_zero, List.set_cons_succ]
    refine seqH_pure (by simp only [List.getElem?_toArray, List.getElem?_cons_succ, List.getElem?_cons_zero]; rfl) rfl (by kernel_rfl) (fun W hW => by ((try dsimp only at hW); go_simp; first | done | with_reducible rfl)) ?_
    try simp only [Act.put, List.setIfInBounds_toArray, List.set_cons_zero, List.set_cons_succ]
    refine seqH_pure (by simp only [List.getElem?_toArray, List.getElem?_cons_succ, List.getElem?_cons_zero]; rfl) rfl (by kernel_rfl) (fun W hW => by ((try dsimp only at hW); go_simp; first | done | with_reducible rfl)) ?_
    try simp only [Act.put, List.setIfInBounds_toArray, List.set_cons_zero, List.set_cons_succ]
    refine seqH_pure (by simp only [List.getElem?_toArray, List.getElem?_cons_succ, List.getElem?_cons_zero]; rfl) rfl (by kernel_rfl) (fun W hW => by ((try dsimp only at hW); go_simp; first | done | with_reducible rfl)) ?_
    try simp only [Act.put, List.setIfInBounds_toArray, List.set_cons_zero, List.set_cons_succ]
    refine seqH_pure (by simp only [List.getElem?_toArray, List.getElem?_cons_succ, List.getElem?_cons_zero]; rfl) rfl (by kernel_rfl) (fun W hW => by ((try dsimp only at hW); go_simp; first | done | with_reducible rfl)) ?_
    try simp only [Act.put, List.setIfInBounds_toArray, List.set_cons_zero, List.set_cons_succ]
    refine seqH_pure (by simp only [List.getElem?_toArray, List.getElem?_cons_succ, List.getElem?_cons_zero]; rfl) rfl (by kernel_rfl) (fun W hW => by ((try dsimp only at hW); go_simp; first | done | with_reducible rfl)) ?_
    try simp only [Act.put, List.setIfInBounds_toArray, List.set_cons_zero, List.set_cons_succ]
    refine seqH_pure (by simp only [List.getElem?_toArray, List.getElem?_cons_succ, List.getElem?_cons_zero]; rfl) rfl (by kernel_rfl) (fun W hW => by ((try dsimp only at hW); go_simp; first | done | with_reducible rfl)) ?_
    try simp only [Act.put, List.setIfInBounds_toArray, List.set_cons_zero, List.set_cons_succ]
    refine seqH_pure (by simp only [List.getElem?_toArray, List.getElem?_cons_succ, List.getElem?_cons_zero]; rfl) rfl (by kernel_rfl) (fun W hW => by ((try dsimp only at hW); go_simp; first | done | with_reducible rfl)) ?_
    try simp only [Act.put, List.setIfInBounds_toArray, List.set_cons_zero, List.set_cons_succ]
    refine seqH_pure (by simp only [List.getElem?_toArray, List.getElem?_cons_succ, List.getElem?_cons_zero]; rfl) rfl (by kernel_rfl) (fun W hW => by ((try dsimp only at hW); go_simp; first | done | with_reducible rfl)) ?_
    try simp only [Act.put, List.setIfInBounds_toArray, List.set_cons_zero, List.set_cons_succ]
    refine seqH_call (by simp only [List.getElem?_toArray, List.getElem?_cons_succ, List.getElem?_cons_zero]; rfl) rfl (by kernel_rfl) (fun K hK => ?_)
    have HKK := hid hK
    clear hK
    go_simp
    refine (used_calls (HT2.out.same (Hid.out Z39.1)) slot).mono ?_
    rintro e W46 ⟨rfl, hs46⟩
    have Z46 := KEEP.out _ _ Z39 hs46
    clear Z39 hs46
    refine HKK.out _ _ Z46 ?_
    clear HKK K
    try simp only [Act.put, List.setIfInBounds_toArray, List.set_cons_zero, List.set_cons_succ]
    refine seqH_call (by simp only [List.getElem?_toArray, List.getElem?_cons_succ, List.getElem?_cons_zero]; rfl) rfl (by kernel_rfl) (fun K hK => ?_)
    have HKK := hid hK
    clear hK
    go_simp
    refine (rused_calls (HR2.out.same (Hid.out Z46.1)) slot).mono ?_
    rintro e W50 ⟨rfl, rfl⟩
    have Z50 := Z46
    clear Z46
    refine HKK.out _ _ Z50 ?_
    clear HKK K
    try simp only [Act.put, List.setIfInBounds_toArray, List.set_cons_zero, List.set_cons_succ]
    refine seqH_pure (by simp only [List.getElem?_toArray, List.getElem?_cons_succ, List.getElem?_cons_zero]; rfl) rfl (by kernel_rfl) (fun W hW => by ((try dsimp only at hW); go_simp; first | done | with_reducible rfl)) ?_
    try simp only [Act.put, List.setIfInBounds_toArray, List.set_cons_zero, List.set_cons_succ]
    refine seqH_pure (by simp only [List.getElem?_toArray, List.getElem?_cons_succ, List.getElem?_cons_zero]; rfl) rfl (by kernel_rfl) (fun W hW => by ((try dsimp only at hW); go_simp; first | done | with_reducible rfl)) ?_
    try simp only [Act.put, List.setIfInBounds_toArray, List.set_cons_zero, List.set_cons_succ]
    refine seqH_pure (by simp only [List.getElem?_toArray, List.getElem?_cons_succ, List.getElem?_cons_zero]; rfl) rfl (by kernel_rfl) (fun W hW => by ((try dsimp only at hW); go_simp; first | done | with_reducible rfl)) ?_
    try simp only [Act.put, List.setIfInBounds_toArray, List.set_cons_zero, List.set_cons_succ]
    refine seqH_pure (by simp only [List.getElem?_toArray, List.getElem?_cons_succ, List.getElem?_cons_zero]; rfl) rfl (by kernel_rfl) (fun W hW => by ((try dsimp only at hW); go_simp; first | done | with_reducible rfl)) ?_
    try simp only [Act.put, List.setIfInBounds_toArray, List.set_cons_zero, List.set_cons_succ]
    refine seqH_pure (by simp only [List.getElem?_toArray, List.getElem?_cons_succ, List.getElem?_cons_zero]; rfl) rfl (by kernel_rfl) (fun W hW => by ((try dsimp only at hW); go_simp; first | done | with_reducible rfl)) ?_
    try simp only [Act.put, List.setIfInBounds_toArray, List.set_cons_zero, List.set_cons_succ]
    refine seqH_pure (by simp only [List.getElem?_toArray, List.getElem?_cons_succ, List.getElem?_cons_zero]; rfl) rfl (by kernel_rfl) (fun W hW => by ((try dsimp only at hW); go_simp; first | done | with_reducible rfl)) ?_
    try simp only [Act.put, List.setIfInBounds_toArray, List.set_cons_zero, List.set_cons_succ]
    refine seqH_pure (by simp only [List.getElem?_toArray, List.getElem?_cons_succ, List.getElem?_cons_zero]; rfl) rfl (by kernel_rfl) (fun W hW => by ((try dsimp only at hW); go_simp; first | done | with_reducible rfl)) ?_
    try simp only [Act.put, List.setIfInBounds_toArray, List.set_cons_zero, List.set_cons_succ]
    refine seqH_pure (by simp only [List.getElem?_toArray, List.getElem?_cons_succ, List.getElem?_cons_zero]; rfl) rfl (by kernel_rfl) (fun W hW => by ((try dsimp only at hW); go_simp; first | done | with_reducible rfl)) ?_
    try simp only [Act.put, List.setIfInBounds_toArray, List.set_cons_zero, List.set_cons_succ]
    refine seqH_pure (by simp only [List.getElem?_toArray, List.getElem?_cons_succ, List.getElem?_cons_zero]; rfl) rfl (by kernel_rfl) (fun W hW => by ((try dsimp only at hW); go_simp; first | done | with_reducible rfl)) ?_
    try simp only [Act.put, List.setIfInBounds_toArray, List.set_cons_zero, List.set_cons_succ]
    refine seqH_pure (by simp only [List.getElem?_toArray, List.getElem?_cons_succ, List.getElem?_cons_zero]; rfl) rfl (by kernel_rfl) (fun W hW => by ((try dsimp only at hW); go_simp; first | done | with_reducible rfl)) ?_
    try simp only [Act.put, List.setIfInBounds_toArray, List.set_cons_zero, List.set_cons_succ]
    refine seqH_pure (by simp only [List.getElem?_toArray, List.getElem?_cons_succ, List.getElem?_cons_zero]; rfl) rfl (by kernel_rfl) (fun W hW => by ((try dsimp only at hW); go_simp; first | done | with_reducible rfl)) ?_
    try simp only [Act.put, List.setIfInBounds_toArray, List.set_cons_zero, List.set_cons_succ]
    refine seqH_pure (by simp only [List.getElem?_toArray, List.getElem?_cons_succ, List.getElem?_cons_zero]; rfl) rfl (by kernel_rfl) (fun W hW => by ((try dsimp only at hW); go_simp; first | done | with_reducible rfl)) ?_
    try simp only [Act.put, List.setIfInBounds_toArray, List.set_cons_zero, List.set_cons_succ]
    refine seqH_pure (by simp only [List.getElem?_toArray, List.getElem?_cons_succ, List.getElem?_cons_zero]; rfl) rfl (by kernel_rfl) (fun W hW => by ((try dsimp only at hW); go_simp; first | done | with_reducible rfl)) ?_
    try simp only [Act.put, List.setIfInBounds_toArray, List.set_cons_zero, List.set_cons_succ]
    refine seqH_pure (by simp only [List.getElem?_toArray, List.getElem?_cons_succ, List.getElem?_cons_zero]; rfl) rfl (by kernel_rfl) (fun W hW => by ((try dsimp only at hW); go_simp; first | done | with_reducible rfl)) ?_
    try simp only [Act.put, List.setIfInBounds_toArray, List.set_cons_zero, List.set_cons_succ]
    refine seqH_pure (by simp only [List.getElem?_toArray, List.getElem?_cons_succ, List.getElem?_cons_zero]; rfl) rfl (by kernel_rfl) (fun W hW => by ((try dsimp only at hW); go_simp; first | done | with_reducible rfl)) ?_
    try simp only [Act.put, List.setIfInBounds_toArray, List.set_cons_zero, List.set_cons_succ]
    refine seqH_pure (by simp only [List.getElem?_toArray, List.getElem?_cons_succ, List.getElem?_cons_zero]; rfl) rfl (by kernel_rfl) (fun W hW => by ((try dsimp only at hW); go_simp; first | done | with_reducible rfl)) ?_
    try simp only [Act.put, List.setIfInBounds_toArray, List.set_cons_zero, List.set_cons_succ]
    refine seqH_pure (by simp only [List.getElem?_toArray, List.getElem?_cons_succ, List.getElem?_cons_zero]; rfl) rfl (by kernel_rfl) (fun W hW => by ((try dsimp only at hW); go_simp; first | done | with_reducible rfl)) ?_
    try simp only [Act.put, List.setIfInBounds_toArray, List.set_cons_zero, List.set_cons_succ]
    refine seqH_call (by simp only [List.getElem?_toArray, List.getElem?_cons_succ, List.getElem?_cons_zero]; rfl) rfl (by kernel_rfl) (fun K hK => ?_)
    have HKK := hid hK
    clear hK
    go_simp
    refine (may_calls (HT2.out.same (Hid.out Z50.1)) conn slot user).mono ?_
    rintro e W61 ⟨he, hs61⟩
    rw [EM.out] at he
    subst he
    have Z61 := KEEP.out _ _ Z50 hs61
    clear Z50 hs61
    refine HKK.out _ _ Z61 ?_
    clear HKK K
    try simp only [Act.put, List.setIfInBounds_toArray, List.set_cons_zero, List.set_cons_succ]
    refine seqH_call (by simp only [List.getElem?_toArray, List.getElem?_cons_succ, List.getElem?_cons_zero]; rfl) rfl (by kernel_rfl) (fun K hK => ?_)
    have HKK := hid hK
    clear hK
    go_simp
    refine (rmay_calls (HR2.out.same (Hid.out Z61.1)) conn slot user).mono ?_
    rintro e W69 ⟨rfl, rfl⟩
    have Z69 := Z61
    clear Z61
    refine HKK.out _ _ Z69 ?_
    clear HKK K
    try simp only [Act.put, List.setIfInBounds_toArray, List.set_cons_zero, List.set_cons_succ]
    refine seqH_pure (by simp only [List.getElem?_toArray, List.getElem?_cons_succ, List.getElem?_cons_zero]; rfl) rfl (by kernel_rfl) (fun W hW => by ((try dsimp only at hW); go_simp; first | done | with_reducible rfl)) ?_
    try simp only [Act.put, List.setIfInBounds_toArray, List.set_cons_zero, List.set_cons_succ]
    refine seqH_pure (by simp only [List.getElem?_toArray, List.getElem?_cons_succ, List.getElem?_cons_zero]; rfl) rfl (by kernel_rfl) (fun W hW => by ((try dsimp only at hW); go_simp; first | done | with_reducible rfl)) ?_
    try simp only [Act.put, List.setIfInBounds_toArray, List.set_cons_zero, List.set_cons_succ]
    refine seqH_nil ?_
    refine HQ.out _ _ Z69 ?_
    clear HQ
    go_wp2_with fail
    refine (all_calls (some ⟨t, 0, none⟩) conn slot W61).mono ?_
    rintro e W7 ⟨rfl, hs7, b0, b1, b2⟩
    have HT7 := hid (HT2.out.same (Same.trans (Hid.out Z69.1) hs7))
    have HR7 := hid (HR2.out.same (Same.trans (Hid.out Z69.1) hs7))
    have Z7 := hid (KEEP.out _ _ Z69 hs7)
    have B0 := hid b0
    have B1 := hid b1
    have B2 := hid b2
    clear hs7 b0 b1 b2 Z69
    have hfn : ∀ (cs : Array Value) (W : World), (binOp .eql 46 (.func (.func 40) #[] cs) .nilFunc).run Try.prog W = .ok (.bool false) W := by intro cs W; kernel_rfl
    go_wp2_with fail
    clear hfn
    refine wp_range rfl callFunc40 (all_stops 8 (by omega) HT7.out B0.out B1.out B2.out) (by simp) ((Below.refl _ W7).alloc (Nat.le_refl _) _) (fun _ => rfl) (fun pre W => (∃ v, Boxed W W7.heap.size 37 v ∧ W.ownsRow W7.heap.size 3 1 v pre.length (ints pre) ∧ True) ∧ Below W7.heap.size W7 W) (OwnFrom.and (Own.from (holdsRow_own W7.heap.size W7.heap.size 37 3 1 (fun pre : List Int => pre.length) (fun pre => ints pre) (fun _ _ => True)) _) (own_below (Nat.le_refl _) (by simp))) ⟨⟨_, Boxed.new W7 37 _, World.ownsRow_nil _ _ _ _, trivial⟩, (Below.refl _ W7).alloc (Nat.le_refl _) _⟩ ?_ ?_
    · apply Exists.intro
      apply And.intro
      · intro lp x W K hK
        gi_wp2
        exact hK
      · rintro lp pre x W ⟨⟨v, hv, hrow, -⟩, hB⟩ hlt
        have hlt' : pre.length < 200 := by omega
        have HB := hid hB
        have HV := hid hv
        have HROW := hid hrow
        have hc := hv.cell
        clear hB hlt hv hrow
        gi_wp2_with (gi_at_builtin; refine wpListIn_append_own _ rfl _ _ 37 rfl W7.heap.size 3 i3 (.int .i64 0) 1 8 Try.underlying37 hi3 hz3 hs3 hb3 rfl (by decide) _ _ _ rfl (HROW.out.alloc _) ⟨W.heap.size, 0, none⟩ 1 1 [.int .i64 x] rfl rfl (cell_one_new _ _ _) (by simp [Value.oneCell']) (by unfold maxLen; omega) (by omega) (by have := HB.out.size; simp; omega) ?_; intro v' w1 hown' hgrow _; obtain ⟨g', cap', rfl⟩ := ownsRow_succ hown'; obtain ⟨hv1, hv2, hr2, hk2, hb2⟩ := HV.out.appended (by decide) HROW.out HB.out.size (Nat.le_refl _) hown' hgrow; have hc1 := hv1.cell; have hf1 := hv1.frozen)
        exact ⟨hk2.from _, hb2, ⟨⟨_, hv2, by simpa [ints] using hr2, trivial⟩, HB.out.trans hb2⟩⟩
    · rintro D xs W hD rfl ⟨⟨v, hv, hrow, -⟩, hB⟩ hK
      have hS : Same W7 W := Chg.of_below hB
      have HR8 := hid (HR7.out.same hS)
      have Z8 := hid (KEEP.out _ _ Z7.out hS)
      have HK := hid hK
      have HD := hid hD
      have HV := hid hv
      have HROW := hid hrow
      clear hS hB hK hD hv hrow
      go_wp2_with fail
      obtain ⟨ra, rcap, hlv8, hrc, hrm, hrow8⟩ := row_se HR8.out.lrow
      have hll : l.length ≤ 9223372036854775807 := by omega
      have HLV : Hid (∀ W', Same W W' → W'.cell? ⟨r, 0, none⟩ = some (.slice ra l.length rcap)) := fun W' hs => by rw [← hlv8]; exact (HR8.out.same hs).l_cell
      have HROW8 := hid hrow8
      clear hlv8 hrc hrm hrow8
      go_loopw [12, 14] (fun mv i wr => ∃ k : Nat, k ≤ l.length ∧ i = .int .i64 k ∧ GoneAt W (hasAt conn slot) l k mv wr) (fun _ i _ => l.length - (intOf i).toNat)
      case atStart => exact ⟨0, Nat.zero_le _, rfl, Chg.refl _ _, by simpa [goneOf, ints] using World.ownsRow_nil W W.heap.size 3 1⟩
      case round =>
        obtain ⟨k, hk, rfl, hh⟩ := hrel
        have HH := hid hh
        clear hh
        have d0 := HLV.out wr HH.out.same
        obtain ⟨-, z1, z2, -, -⟩ := KEEP.out _ _ Z8.out HH.out.same
        by_cases hlt : k < l.length
        · rcases HROW8.out with ⟨_, rfl⟩ | ⟨g, rfl, hg, hcells⟩
          · simp at hlt
          obtain ⟨c0, c1, c2, -⟩ := hcells k hlt
          rw [← HH.out.same.cell (by exact hg) (fun h => h)] at c0 c1 c2
          clear hcells
          have hb := hid (fun X : Obj => show W.heap.size ≤ (wr.drew.alloc X).heap.size from Nat.le_trans HH.out.same.size (((Chg.refl (fun _ => False) wr).drew.alloc _).size))
          have HA := hid (fun X => HH.out.later ((Chg.refl _ wr).drew.alloc X))
          have HG := goneOf_le (hasAt conn slot) l k
          cases hp : (l[k].c == conn) with
          | false =>
            have HH2 := hid (HH.out.skip hlt (by simp [hasAt, hp]))
            go_wp2_with fail
            go_quiet (fail)
            go_wp2_with fail
            go_roundw
            case rel => exact ⟨k + 1, by omega, by go_num, HH2.out.later ((Chg.refl _ wr).drewN _)⟩
            case measure => simp [intOf]; omega
          | true =>
            cases hp2 : (l[k].s == slot) with
            | true =>
              have QT : Hid (hasAt conn slot l[k] = true) := by show _ = _; simp [hasAt, hp, hp2]
              go_wp2_with fail
              go_quiet (fail)
              go_wp2_with (at_builtin; refine push_list _ rfl (.tmp 149) (.tmp 158) 37 rfl 3 i3 _ 1 8 Try.underlying37 hi3 hz3 hs3 hb3 rfl (by decide) W.heap.size (hb.out _) _ _ _ rfl (HA.out _).gone wr.heap.size [.int .i64 l[k].h] rfl (heap_alloc_new _ _) rfl (ints_oneCell .i64 [l[k].h]) ?c1 ?c2 ?_)
              case c1 => unfold maxLen; omega
              case c2 => omega
              intro g2 cap2 W2 hown2 hc2 hat2 hlt2
              have HH2 := hid (HH.out.push (((Chg.refl _ wr).drewN _).alloc _) hlt QT.out hown2 hc2)
              clear hown2 hc2 hat2 hlt2
              go_wp2_with fail
              go_roundw
              case rel => exact ⟨k + 1, by omega, by go_num, HH2.out⟩
              case measure => simp [intOf]; omega
            | false =>
              have HH2 := hid (HH.out.skip hlt (by simp [hasAt, hp2]))
              go_wp2_with fail
              go_quiet (fail)
              go_wp2_with fail
              go_roundw
              case rel => exact ⟨k + 1, by omega, by go_num, HH2.out.later ((Chg.refl _ wr).drewN _)⟩
              case measure => simp [intOf]; omega
        · have hkl : k = l.length := by omega
          subst hkl
          have hg := HH.out.gone
          rw [List.take_length] at hg
          have hv2 : wr.ownsRow W7.heap.size 3 1 v (goneOf (hasAt conn slot) l).length (ints (goneOf (hasAt conn slot) l)) := ownsRow_keep HROW.out fun g hg => HH.out.same.block g (HROW.out.lt g hg).2 (fun h => h)
          have d1 : wr.cell? ⟨W7.heap.size, 0, none⟩ = some v := by rw [HH.out.same.cell (by exact HV.out.lt) (fun h => h)]; exact HV.out.cell
          obtain ⟨la, ln, lc, hlv⟩ := ownsRow_form hg
          subst hlv
          obtain ⟨va, vn, vc, hvv⟩ := ownsRow_form hv2
          subst hvv
          have HGR := hid hg
          have HV2 := hid hv2
          clear hg hv2
          go_wp2_with fail
          refine (lists_calls HV2.out HGR.out).mono ?_
          rintro e W9 ⟨he9, hs9⟩
          obtain rfl : e = .returned (.bool true) := by rw [he9, decide_eq_true rfl]
          have HS9 := hid (HH.out.same.trans hs9)
          have HK9 := hid (heap_same HK.out HS9.out)
          clear hs9 d0 d1 z1 z2
          go_wp2_with fail
          refine ⟨by simp, .inl ⟨_, _, rfl, run_takeDeferred HK9.out, ?_⟩⟩
          refine ⟨_, results_tmp rfl _ _ _, rfl, ?_⟩
          have hw9 : Same w W9 := Same.trans (Same.trans S1'.out S2.out) (Same.trans (Hid.out Z8.out.1) HS9.out)
          exact hw9.grown (grownBy_putObj' W9 D (.deferred none)) (fun k hk => by cases hk; right; have := HD.out; have h7 : Same w W7 := Same.trans (Same.trans S1'.out S2.out) (Hid.out Z7.out.1); have := h7.size; simp at *; omega)

end
end Go.Proofs.Ytlfdcfgpbigjdaa
