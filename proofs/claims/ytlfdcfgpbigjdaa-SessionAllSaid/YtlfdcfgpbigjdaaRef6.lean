/- The document's table of sessions: closing many. -/
import Derived.Test.YtlfdcfgpbigjdaaRef5
namespace Go.Proofs.Ytlfdcfgpbigjdaa
set_option linter.unusedVariables false
set_option linter.unusedSimpArgs false
open Go.RowKit

section
variable {w : World} {F : Nat → Prop} {r : Nat} {l : List Se} {next : Int} {ws : List Lo} {lv wv : Value}

def pall (c s : Int) (x : Se) : Bool := x.c == c && (s == -1 || x.s == s)

def rstep (c : Int) (st : List Se × List Lo) (h : Int) : List Se × List Lo := (rcloseL st.1 c h, rcloseW st.1 st.2 c h)
def rfold (c : Int) (hs : List Int) (st : List Se × List Lo) : List Se × List Lo := hs.foldl (rstep c) st

theorem rcloseL_le (l : List Se) (c h : Int) : (rcloseL l c h).length ≤ l.length := by
  unfold rcloseL
  split
  · exact List.length_eraseIdx_le _ _
  · exact Nat.le_refl _
theorem rcloseW_le (l : List Se) (ws : List Lo) (c h : Int) : (rcloseW l ws c h).length ≤ ws.length := by
  unfold rcloseW
  split
  · split
    · exact Nat.le_refl _
    · exact List.length_filter_le _ _
  · exact Nat.le_refl _
theorem rfold_le (c : Int) : ∀ (hs : List Int) (st : List Se × List Lo), (rfold c hs st).1.length ≤ st.1.length ∧ (rfold c hs st).2.length ≤ st.2.length
  | [], st => ⟨Nat.le_refl _, Nat.le_refl _⟩
  | h :: hs, st => by
    have := rfold_le c hs (rstep c st h)
    have h1 := rcloseL_le st.1 c h
    have h2 := rcloseW_le st.1 st.2 c h
    exact ⟨Nat.le_trans this.1 h1, Nat.le_trans this.2 h2⟩
theorem rfold_next (c : Int) (hs : List Int) (st : List Se × List Lo) {k : Nat} (hk : k < hs.length) : rfold c (hs.take (k + 1)) st = rstep c (rfold c (hs.take k) st) hs[k] := by
  have : hs.take (k + 1) = hs.take k ++ [hs[k]] := by rw [List.take_succ_eq_append_getElem hk]
  unfold rfold
  rw [this, List.foldl_append]
  rfl

structure GoneAt (w : World) (p : Se → Bool) (l : List Se) (k : Nat) (gv : Value) (wr : World) : Prop where
  same : Same w wr
  gone : wr.ownsRow w.heap.size 3 1 gv (goneOf p (l.take k)).length (ints (goneOf p (l.take k)))

theorem GoneAt.push {p : Se → Bool} {k : Nat} {gv : Value} {wr W W' : World} (h : GoneAt w p l k gv wr) (hs : Same wr W) (hk : k < l.length) (hp : p l[k] = true) {g cap : Nat}
    (hown : W'.ownsRow w.heap.size 3 1 (.slice (some ⟨g, 0, none⟩) ((goneOf p (l.take k)).length + 1) cap) ((goneOf p (l.take k)).length + 1) (ints (goneOf p (l.take k)) ++ [.int .i64 l[k].h]))
    (hc : Chg (fun b => gv.ownBlock = some b) W W') : GoneAt w p l (k + 1) (.slice (some ⟨g, 0, none⟩) ((goneOf p (l.take k)).length + 1) cap) W' := by
  obtain ⟨e1, _⟩ := take_step (p := p) hk
  rw [if_pos hp] at e1
  refine ⟨Chg.trans (h.same.trans hs) hc (fun b hb => .inr (h.gone.lt b hb).1), ?_⟩
  rw [e1]
  simpa [ints] using hown
theorem GoneAt.skip {p : Se → Bool} {k : Nat} {gv : Value} {wr : World} (h : GoneAt w p l k gv wr) (hk : k < l.length) (hp : p l[k] = false) : GoneAt w p l (k + 1) gv wr := by
  obtain ⟨e1, _⟩ := take_step (p := p) hk
  rw [if_neg (by simp [hp])] at e1
  refine ⟨h.same, ?_⟩
  rw [e1]
  exact h.gone
theorem GoneAt.later {p : Se → Bool} {k : Nat} {gv : Value} {wr W : World} (h : GoneAt w p l k gv wr) (hs : Same wr W) : GoneAt w p l k gv W :=
  ⟨h.same.trans hs, ownsRow_keep h.gone fun g hg => hs.block g (h.gone.lt g hg).2 (fun h => h)⟩

/-- What a slice of ints is. -/
theorem row_int {w : World} {B : Nat} {v : Value} {hs : List Int} (h : w.ownsRow B 3 1 v hs.length (ints hs)) :
    ∃ a cap, v = .slice a hs.length cap ∧ hs.length ≤ cap ∧ cap ≤ maxLen ∧ ((a = none ∧ hs = []) ∨ ∃ g, a = some ⟨g, 0, none⟩ ∧ g < w.heap.size ∧ B ≤ g ∧ ∀ i (hi : i < hs.length), w.cell? ⟨g, i, none⟩ = some (.int .i64 hs[i])) := by
  rcases h.2 with ⟨rfl, hn⟩ | ⟨g, cap, cur, rfl, hB, hh, hnc, hcm, hcs, htake⟩
  · have : hs = [] := List.eq_nil_of_length_eq_zero hn
    subst this
    exact ⟨none, 0, rfl, Nat.le_refl _, by simp [maxLen], .inl ⟨rfl, rfl⟩⟩
  · refine ⟨_, cap, rfl, hnc, hcm, .inr ⟨g, rfl, lt_of_heap hh, hB, fun i hi => ?_⟩⟩
    rw [cell_of_heap hh]
    have e1 : (ints hs)[i]? = some (.int .i64 hs[i]) := by simp [ints, hi]
    rw [← e1, ← htake, List.getElem?_take, if_pos (by omega)]
    simp

structure Many (w1 : World) (F : Nat → Prop) (r : Nat) (next : Int) (B : Nat) (gv : Value) (hs : List Int) (st : List Se × List Lo) (wr : World) (F' : Nat → Prop) (lv wv : Value) : Prop where
  tab : RTab wr F' r st.1 next st.2 lv wv
  chg : Chg F w1 wr
  grow : ∀ k, F' k → F k ∨ w1.heap.size ≤ k
  row : wr.ownsRow B 3 1 gv hs.length (ints hs)
  off : ∀ k, gv.ownBlock = some k → ¬ F' k

theorem Many.on {w1 : World} {B : Nat} {gv : Value} {hs : List Int} {st : List Se × List Lo} {wr : World} {F' : Nat → Prop} (h : Many w1 F r next B gv hs st wr F' lv wv) {c hd : Int} {W : World}
    (hp : RTabTo wr F' r (rcloseL st.1 c hd) next (rcloseW st.1 st.2 c hd) W) : ∃ F2 lv2 wv2, Many w1 F r next B gv hs (rstep c st hd) W F2 lv2 wv2 := by
  obtain ⟨F2, lv2, wv2, h1, h2, h3⟩ := hp
  refine ⟨F2, lv2, wv2, h1, h.chg.trans h2 h.grow, fun k hk => ?_, ownsRow_keep h.row fun g hg => h2.block g (h.row.lt g hg).2 (h.off g hg), fun k hk hf => ?_⟩
  · rcases h3 k hk with q | q
    · exact h.grow k q
    · right; have := h.chg.size; omega
  · rcases h3 k hf with q | q
    · exact h.off k hk q
    · have := (h.row.lt k hk).2; omega

def RCloseAllPost (w : World) (F : Nat → Prop) (r : Nat) (l : List Se) (next : Int) (ws : List Lo) (c s : Int) (e : Ending) (w' : World) : Prop :=
  ∃ gv F' lv wv, e = .returned gv ∧ RTab w' F' r (rfold c (goneOf (pall c s) l) (l, ws)).1 next (rfold c (goneOf (pall c s) l) (l, ws)).2 lv wv ∧ Chg F w w' ∧ (∀ k, F' k → F k ∨ w.heap.size ≤ k) ∧
    w'.ownsRow w.heap.size 3 1 gv (goneOf (pall c s) l).length (ints (goneOf (pall c s) l)) ∧ ∀ k, gv.ownBlock = some k → ¬ F' k

set_option maxHeartbeats 4000000 in
theorem rcloseAll_calls (h : RTab w F r l next ws lv wv) (hw : ws.length < 1000) (hl100 : l.length < 100) (c s : Int) :
   Calls Try.prog 13 #[.pointer (some ⟨r, 0, none⟩), .int .i64 c, .int .i64 s] w (RCloseAllPost w F r l next ws c s) := by
  obtain ⟨a, cap, rfl, hlc, hcm, hrow⟩ := row_se h.lrow
  obtain ⟨i3, hi3, hz3, hs3, hb3⟩ := info_parts Try.info3
  have hts := h.lt
  have H := hid h
  have HR := hid hrow
  clear h hrow
  go_enter Try.func13, Try.ntmps13
  go_wp2_with fail
  go_loopw [7, 8] (fun v i wr => ∃ k : Nat, k ≤ l.length ∧ i = .int .i64 k ∧ GoneAt w (pall c s) l k v wr) (fun _ i _ => l.length - (intOf i).toNat)
  case atStart => exact ⟨0, Nat.zero_le _, rfl, Chg.refl _ _, by simpa [goneOf, ints] using World.ownsRow_nil w w.heap.size 3 1⟩
  case round =>
    obtain ⟨k, hk, rfl, hh⟩ := hrel
    have HH := hid hh
    clear hh
    have d0 := (H.out.same HH.out.same).l_cell
    by_cases hlt : k < l.length
    · rcases HR.out with ⟨_, rfl⟩ | ⟨g, rfl, hg, hcells⟩
      · simp at hlt
      obtain ⟨c0, c1, c2, c3⟩ := hcells k hlt
      rw [← HH.out.same.cell (by exact hg) (fun h => h)] at c0 c1 c2 c3
      clear hcells
      have PUSH : Hid (pall c s l[k] = true → ∀ {g cap : Nat} {W' : World} {v : Value}, GoneAt w (pall c s) l k v wr →
        W'.ownsRow w.heap.size 3 1 (.slice (some ⟨g, 0, none⟩) ((goneOf (pall c s) (l.take k)).length + 1) cap) ((goneOf (pall c s) (l.take k)).length + 1) (ints (goneOf (pall c s) (l.take k)) ++ [.int .i64 l[k].h]) →
        Chg (fun b => v.ownBlock = some b) (wr.alloc (.cells #[.int .i64 l[k].h] 3)) W' → GoneAt w (pall c s) l (k + 1) (.slice (some ⟨g, 0, none⟩) ((goneOf (pall c s) (l.take k)).length + 1) cap) W') :=
        fun hp _ _ _ _ hO hown hc => hO.push ((Chg.refl _ _).alloc _) hlt hp hown hc
      have hb := hid (fun X : Obj => show w.heap.size ≤ (wr.alloc X).heap.size from Nat.le_trans HH.out.same.size (((Chg.refl (fun _ => False) wr).alloc _).size))
      have HA := hid (fun X => HH.out.later ((Chg.refl _ wr).alloc X))
      have HG := goneOf_le (pall c s) l k
      cases hp : (l[k].c == c) with
      | false =>
        have HH2 := hid (HH.out.skip hlt (by simp [pall, hp]))
        go_wp2_with fail
        go_roundw
        case rel => exact ⟨k + 1, by omega, by go_num, HH2.out⟩
        case measure => simp [intOf]; omega
      | true =>
        cases hs1 : (s == -1) with
        | true =>
          have QT : Hid (pall c s l[k] = true) := by show _ = _; simp [pall, hp, hs1]
          go_wp2_with (at_builtin; refine push_list _ rfl (.tmp 45) (.tmp 54) 37 rfl 3 i3 _ 1 8 Try.underlying37 hi3 hz3 hs3 hb3 rfl (by decide) w.heap.size (hb.out _) _ _ _ rfl (HA.out _).gone wr.heap.size [.int .i64 l[k].h] rfl (heap_alloc_new _ _) rfl (ints_oneCell .i64 [l[k].h]) ?c1 ?c2 ?_)
          case c1 => unfold maxLen; omega
          case c2 => omega
          intro g2 cap2 W2 hown2 hc2 hat2 hlt2
          have HH2 := hid (PUSH.out QT.out HH.out hown2 hc2)
          clear hown2 hc2 hat2 hlt2
          go_wp2_with fail
          go_roundw
          case rel => exact ⟨k + 1, by omega, by go_num, HH2.out⟩
          case measure => simp [intOf]; omega
        | false =>
          cases hp2 : (l[k].s == s) with
          | true =>
            have QT : Hid (pall c s l[k] = true) := by show _ = _; simp [pall, hp, hp2]
            go_wp2_with (at_builtin; refine push_list _ rfl (.tmp 45) (.tmp 54) 37 rfl 3 i3 _ 1 8 Try.underlying37 hi3 hz3 hs3 hb3 rfl (by decide) w.heap.size (hb.out _) _ _ _ rfl (HA.out _).gone wr.heap.size [.int .i64 l[k].h] rfl (heap_alloc_new _ _) rfl (ints_oneCell .i64 [l[k].h]) ?d1 ?d2 ?_)
            case d1 => unfold maxLen; omega
            case d2 => omega
            intro g2 cap2 W2 hown2 hc2 hat2 hlt2
            have HH2 := hid (PUSH.out QT.out HH.out hown2 hc2)
            clear hown2 hc2 hat2 hlt2
            go_wp2_with fail
            go_roundw
            case rel => exact ⟨k + 1, by omega, by go_num, HH2.out⟩
            case measure => simp [intOf]; omega
          | false =>
            have HH2 := hid (HH.out.skip hlt (by simp [pall, hs1, hp2]))
            go_wp2_with fail
            go_roundw
            case rel => exact ⟨k + 1, by omega, by go_num, HH2.out⟩
            case measure => simp [intOf]; omega
    · have hkl : k = l.length := by omega
      subst hkl
      obtain ⟨la, ln, lc, hlv⟩ := ownsRow_form HH.out.gone
      subst hlv
      go_wp2_with fail
      have hg := HH.out.gone
      rw [List.take_length] at hg
      obtain ⟨ga, gcap, hgv, hgc, hgm, hgr⟩ := row_int hg
      have hM0 : Many wr F r next w.heap.size (.slice la ln lc) (goneOf (pall c s) l) (l, ws) wr F (.slice a l.length cap) wv :=
        ⟨H.out.same HH.out.same, Chg.refl _ _, fun _ h => .inl h, hg, fun k hk hf => by have := (hg.lt k hk).1; have := H.out.old k hf; omega⟩
      have HM0 := hid hM0
      have HSW := hid HH.out.same
      have hsl : (goneOf (pall c s) l).length ≤ l.length := by have := goneOf_le (pall c s) l l.length; rw [List.take_length] at this; exact this
      cases hgv
      clear hg hM0 hgr d0 hcm hgm
      generalize hHS : goneOf (pall c s) l = hs at *
      have HHS := hid hHS
      clear hHS
      have hll : hs.length ≤ 9223372036854775807 := by omega
      have hSz : Hid (w.heap.size ≤ wr.heap.size) := HSW.out.size
      obtain ⟨w1, hw1⟩ : ∃ w1, w1 = wr := ⟨_, rfl⟩
      rw [← hw1] at HM0 HSW hSz
      rw [← hw1]
      clear hw1
      go_loopw [9] (fun i wr => ∃ k : Nat, k ≤ hs.length ∧ i = .int .i64 k ∧ ∃ F' lv wv, Many w1 F r next w.heap.size (.slice la hs.length lc) hs (rfold c (hs.take k) (l, ws)) wr F' lv wv) (fun i _ => hs.length - (intOf i).toNat)
      case atStart => exact ⟨0, Nat.zero_le _, rfl, _, _, _, HM0.out⟩
      case round =>
        obtain ⟨k, hk2, rfl, F', lv2, wv2, hm⟩ := hrel
        have HM := hid hm
        clear hm
        by_cases hlt2 : k < hs.length
        · obtain ⟨a2, cap2, e2, _, _, hrow2⟩ := row_int HM.out.row
          cases e2
          rcases hrow2 with ⟨_, rfl⟩ | ⟨g, rfl, hg, _, hcells⟩
          · simp at hlt2
          have c0 := hcells k hlt2
          clear hcells
          have hle := rfold_le c (hs.take k) (l, ws)
          have hle1 : (rfold c (hs.take k) (l, ws)).1.length < 100 := by have := hle.1; simp only at this; omega
          have hle2 : (rfold c (hs.take k) (l, ws)).2.length < 1000 := by have := hle.2; simp only at this; omega
          have HNX := hid (rfold_next c hs (l, ws) hlt2)
          have L1 := hid hle1
          have L2 := hid hle2
          clear hle hle1 hle2
          go_wp2_with fail
          refine (rclose_calls HM.out.tab L2.out L1.out c hs[k]).mono ?_
          rintro e W ⟨rfl, hto⟩
          have HM2 := hid (HM.out.on hto)
          rw [← HNX.out] at HM2
          clear hto
          go_wp2_with fail
          go_roundw
          case rel => exact ⟨k + 1, by omega, by go_num, HM2.out⟩
          case measure => simp [intOf]; omega
        · have hkl2 : k = hs.length := by omega
          subst hkl2
          rw [List.take_length] at HM
          go_wp2_with fail
          go_ret
          rw [← HHS.out] at HM
          refine ⟨_, F', lv2, wv2, rfl, HM.out.tab, HSW.out.same.trans HM.out.chg (fun k hk => .inl hk), fun k hk => ?_, ?_, ?_⟩
          · rcases HM.out.grow k hk with q | q
            · exact .inl q
            · right; have := hSz.out; omega
          · have := HM.out.row; rw [HHS.out] at this ⊢; exact this
          · have := HM.out.off; rw [HHS.out] at this; exact this
end
end Go.Proofs.Ytlfdcfgpbigjdaa
