/- The document's table of sessions: what changes it. -/
import Derived.Test.YtlfdcfgpbigjdaaRef2
namespace Go.Proofs.Ytlfdcfgpbigjdaa
set_option linter.unusedVariables false
set_option linter.unusedSimpArgs false
open Go.RowKit

section
variable {w : World} {F : Nat → Prop} {r : Nat} {l : List Se} {next : Int} {ws : List Lo} {lv wv : Value}

def outW (ws : List Lo) (c s : Int) : List Lo := ws.filter fun x => !Lo.at c s x

theorem out_step {c s : Int} {k : Nat} (hk : k < ws.length) : outW (ws.take (k + 1)) c s = if Lo.at c s ws[k] then outW (ws.take k) c s else outW (ws.take k) c s ++ [ws[k]] := by
  have : ws.take (k + 1) = ws.take k ++ [ws[k]] := by rw [List.take_succ_eq_append_getElem hk]
  unfold outW
  rw [this]
  cases hp : Lo.at c s ws[k] <;> simp only [List.filter_append, List.filter_cons, List.filter_nil, hp, Bool.not_true, Bool.not_false, Bool.false_eq_true, if_true, if_false, List.append_nil]

theorem out_le (ws : List Lo) (c s : Int) (k : Nat) : (outW (ws.take k) c s).length ≤ ws.length := by
  unfold outW
  exact Nat.le_trans (List.length_filter_le _ _) (List.length_take_le' _ _)

structure OutAt (w : World) (ws : List Lo) (c s : Int) (k : Nat) (v : Value) (wr : World) : Prop where
  same : Same w wr
  row : wr.ownsRow w.heap.size 69 3 v (outW (ws.take k) c s).length (loRow (outW (ws.take k) c s))

theorem OutAt.drop {c s : Int} {k : Nat} {v : Value} {wr : World} (h : OutAt w ws c s k v wr) (hk : k < ws.length) (hp : Lo.at c s ws[k] = true) : OutAt w ws c s (k + 1) v wr := by
  refine ⟨h.same, ?_⟩
  rw [out_step hk, if_pos hp]
  exact h.row

theorem OutAt.push {c s : Int} {k : Nat} {v : Value} {wr W W' : World} (h : OutAt w ws c s k v wr) (hs : Same wr W) (hk : k < ws.length) (hp : Lo.at c s ws[k] = false) {g cap : Nat}
    (hown : W'.ownsRow w.heap.size 69 3 (.slice (some ⟨g, 0, none⟩) ((outW (ws.take k) c s).length + 1) cap) ((outW (ws.take k) c s).length + 1) (loRow (outW (ws.take k) c s) ++ ws[k].cells))
    (hc : Chg (fun b => v.ownBlock = some b) W W') : OutAt w ws c s (k + 1) (.slice (some ⟨g, 0, none⟩) ((outW (ws.take k) c s).length + 1) cap) W' := by
  refine ⟨Chg.trans (h.same.trans hs) hc (fun b hb => .inr (h.row.lt b hb).1), ?_⟩
  rw [out_step hk, if_neg (by simp [hp])]
  simpa [loRow] using hown

theorem OutAt.later {c s : Int} {k : Nat} {v : Value} {wr W : World} (h : OutAt w ws c s k v wr) (hs : Same wr W) : OutAt w ws c s k v W :=
  ⟨h.same.trans hs, ownsRow_keep h.row fun g hg => hs.block g (h.row.lt g hg).2 (fun h => h)⟩

def Nothing (P : World → Prop) (e : Ending) (w' : World) : Prop := e = .returned (.tuple #[]) ∧ P w'

theorem OutAt.table (h : RTab w F r l next ws lv wv) {c s : Int} {v : Value} {wr : World} (hh : OutAt w ws c s ws.length v wr) : RTabTo w F r l next (outW ws c s) (wr.setCell ⟨r, 2, none⟩ v) := by
  have h1 := h.same hh.same
  have hl := hh.row
  rw [List.take_length] at hl
  have hne : ∀ g, v.ownBlock = some g → g ≠ r := by
    rintro g hg rfl
    have := (hl.lt g hg).1
    have := h.lt
    omega
  refine ⟨fun k => F k ∨ v.ownBlock = some k, lv, v, ⟨?_, ?_, ?_, .inl h.inR, fun g hg => .inl (h.inL g hg), fun g hg => .inr hg, ?_⟩, Chg.setCell hh.same.same (.inl h.inR) _, ?_⟩
  · rw [heap_setCell_at h1.heap]; simp
  · exact ownsRow_keep h1.lrow fun g hg => Below.heap_setCell _ _ _ _ (h.row_ne.1 g hg)
  · exact ownsRow_keep (ownsRow_base hl (Nat.zero_le _)) fun g hg => Below.heap_setCell _ _ _ _ (hne g hg)
  · intro k hk
    rw [size_setCell]
    rcases hk with hk | hk
    · exact h1.old k hk
    · exact (hl.lt k hk).2
  · intro k hk
    rcases hk with hk | hk
    · exact .inl hk
    · exact .inr (hl.lt k hk).1

set_option maxHeartbeats 2000000 in
theorem rout_calls (h : RTab w F r l next ws lv wv) (hw : ws.length < 1000) (c s : Int) :
   Calls Try.prog 34 #[.pointer (some ⟨r, 0, none⟩), .int .i64 c, .int .i64 s] w (Nothing (RTabTo w F r l next (outW ws c s))) := by
  obtain ⟨a, cap, rfl, hlc, hcm, hrow⟩ := row_lo h.wrow
  obtain ⟨i69, hi69, hz69, hs69, hb69⟩ := info_parts Try.info69
  have hts := h.lt
  have H := hid h
  have HR := hid hrow
  have h0 := h.w_cell
  clear h hrow
  go_enter Try.func34, Try.ntmps34
  go_wp2_with fail
  go_loopw [6, 7] (fun v i wr => ∃ k : Nat, k ≤ ws.length ∧ i = .int .i64 k ∧ OutAt w ws c s k v wr) (fun _ i _ => ws.length - (intOf i).toNat)
  case atStart => exact ⟨0, Nat.zero_le _, rfl, Chg.refl _ _, by simpa [outW, loRow] using World.ownsRow_nil w w.heap.size 69 3⟩
  case round =>
    obtain ⟨k, hk, rfl, hh⟩ := hrel
    have HH := hid hh
    clear hh
    have d0 := (H.out.same HH.out.same).w_cell
    by_cases hlt : k < ws.length
    · rcases HR.out with ⟨_, rfl⟩ | ⟨g, rfl, hg, hcells⟩
      · simp at hlt
      obtain ⟨c0, c1, c2⟩ := hcells k hlt
      rw [← HH.out.same.cell (by exact hg) (fun h => h)] at c0 c1 c2
      clear hcells
      have PUSH : Hid (Lo.at c s ws[k] = false → ∀ {g cap : Nat} {W' : World} {v : Value}, OutAt w ws c s k v wr →
        W'.ownsRow w.heap.size 69 3 (.slice (some ⟨g, 0, none⟩) ((outW (ws.take k) c s).length + 1) cap) ((outW (ws.take k) c s).length + 1) (loRow (outW (ws.take k) c s) ++ ws[k].cells) →
        Chg (fun b => v.ownBlock = some b) (wr.alloc (.cells #[.int .i64 ws[k].c, .int .i64 ws[k].s, .int .i64 ws[k].u] 69)) W' → OutAt w ws c s (k + 1) (.slice (some ⟨g, 0, none⟩) ((outW (ws.take k) c s).length + 1) cap) W') :=
        fun hp _ _ _ _ hO hown hc => hO.push ((Chg.refl _ _).alloc _) hlt hp hown hc
      have hb := hid (fun X : Obj => show w.heap.size ≤ (wr.alloc X).heap.size from Nat.le_trans HH.out.same.size (((Chg.refl (fun _ => False) wr).alloc _).size))
      have HA := hid (fun X => HH.out.later ((Chg.refl _ wr).alloc X))
      have HG := out_le ws c s k
      cases hp : (ws[k].c == c) with
      | false =>
        have q1 : (ws[k].c != c) = true := by simp [bne, hp]
        have QF : Hid (Lo.at c s ws[k] = false) := by show _ = _; simp [Lo.at, hp]
        go_wp2_with (at_builtin; refine push_list _ rfl (.tmp 39) (.tmp 47) 28 rfl 69 i69 _ 3 24 Try.underlying28 hi69 hz69 hs69 hb69 rfl (by decide) w.heap.size (hb.out _) _ _ _ rfl (HA.out _).row wr.heap.size (Lo.cells ws[k]) rfl (heap_alloc_new _ _) rfl (by intro u hu; simp [Lo.cells] at hu; rcases hu with rfl | rfl | rfl <;> rfl) ?c1 ?c2 ?_)
        case c1 => unfold maxLen; omega
        case c2 => omega
        intro g2 cap2 W2 hown2 hc2 hat2 hlt2
        have HH2 := hid (PUSH.out QF.out HH.out hown2 hc2)
        clear hown2 hc2 hat2 hlt2
        go_wp2_with fail
        go_roundw
        case rel => exact ⟨k + 1, by omega, by go_num, HH2.out⟩
        case measure => simp [intOf]; omega
      | true =>
        have q1 : (ws[k].c != c) = false := by simp [bne, hp]
        cases hp2 : (ws[k].s == s) with
        | false =>
          have q2 : (ws[k].s != s) = true := by simp [bne, hp2]
          have QF : Hid (Lo.at c s ws[k] = false) := by show _ = _; simp [Lo.at, hp2]
          go_wp2_with (at_builtin; refine push_list _ rfl (.tmp 39) (.tmp 47) 28 rfl 69 i69 _ 3 24 Try.underlying28 hi69 hz69 hs69 hb69 rfl (by decide) w.heap.size (hb.out _) _ _ _ rfl (HA.out _).row wr.heap.size (Lo.cells ws[k]) rfl (heap_alloc_new _ _) rfl (by intro u hu; simp [Lo.cells] at hu; rcases hu with rfl | rfl | rfl <;> rfl) ?d1 ?d2 ?_)
          case d1 => unfold maxLen; omega
          case d2 => omega
          intro g2 cap2 W2 hown2 hc2 hat2 hlt2
          have HH2 := hid (PUSH.out QF.out HH.out hown2 hc2)
          clear hown2 hc2 hat2 hlt2
          go_wp2_with fail
          go_roundw
          case rel => exact ⟨k + 1, by omega, by go_num, HH2.out⟩
          case measure => simp [intOf]; omega
        | true =>
          have q2 : (ws[k].s != s) = false := by simp [bne, hp2]
          have HH2 := hid (HH.out.drop hlt (by simp [Lo.at, hp, hp2]))
          go_wp2_with fail
          go_roundw
          case rel => exact ⟨k + 1, by omega, by go_num, HH2.out⟩
          case measure => simp [intOf]; omega
    · have hkl : k = ws.length := by omega
      subst hkl
      obtain ⟨la, ln, lc, hlv⟩ := ownsRow_form HH.out.row
      subst hlv
      have f0 := frozen_of_heap (H.out.same HH.out.same).heap 2
      go_wp2_with fail
      go_end0
      exact ⟨rfl, HH.out.table H.out⟩
end
end Go.Proofs.Ytlfdcfgpbigjdaa
