/- The types that have a form come rising: the walk. -/
import Derived.Test.YthmhmgmdajjpmaaTypes0
import Derived.RangeFuncCalls
namespace Go.Proofs.Ythmhmgmdajjpmaa
set_option linter.unusedVariables false
set_option linter.unusedSimpArgs false
open Go.RowKit
attribute [local go_sem] Oper.semAt_some

theorem calls_of_marks {P : Program} {f : FuncId} {fn : Func} {c : Code} {args : Array Value} {w : World} {R : Ending → World → Prop} (hf : P.funcs[f]? = some fn) (hb : fn.body = some c)
    (h : c.wp P (bodyPostM Fence.wide 9 P fn R) { tmps := args ++ Array.replicate (fn.ntmps - args.size) undef, defers := [] } w) : Calls P f args w R :=
  (callsIn_wide (n := 9)).1 (callsIn_of_wp_marks hf hb trivial (wpIn_wide.2 h))

/-- What lay below B lies as it lay. -/
theorem own_below {β : Type} {B B' : Nat} {w0 : World} (hB : B ≤ w0.heap.size) (hB' : B ≤ B') : OwnFrom (β := β) B' (fun _ W => Below B w0 W) := fun s W W' row hs hg hr =>
  ⟨hg.os.trans hs.os, hg.tape.trans hs.tape, hg.output.trans hs.output, Nat.le_trans hs.size hg.size, fun k hk => by
    rw [hg.block k (by have := hs.size; omega) (fun e => by have := (hr k e.symm).1; omega)]
    exact hs.block k hk⟩

/-- A cell holds what it held. -/
theorem own_cell {β : Type} {B : Nat} (p : Addr) (v : β → Value) : OwnFrom (β := β) B (fun s W => W.cell? p = some (v s) ∧ W.frozen? p = false) := fun s W W' row hs hg hr =>
  ⟨cell_kept hs.1 hg (fun r e => (hr r e).2), (frozen_kept hs.1 hg (fun r e => (hr r e).2)).trans hs.2⟩

/-- The five boxes. -/
structure Cs (W : World) (r m i k a : Nat) (res : Bool) (most kk at_ : Int) : Prop where
  cr : W.cell? ⟨r, 0, none⟩ = some (.bool res)
  fr : W.frozen? ⟨r, 0, none⟩ = false
  cm : W.cell? ⟨m, 0, none⟩ = some (.int .i64 most)
  fm : W.frozen? ⟨m, 0, none⟩ = false
  ci : W.cell? ⟨i, 0, none⟩ = some (.bool true)
  fi : W.frozen? ⟨i, 0, none⟩ = false
  ck : W.cell? ⟨k, 0, none⟩ = some (.int .i64 kk)
  fk : W.frozen? ⟨k, 0, none⟩ = false
  ca : W.cell? ⟨a, 0, none⟩ = some (.int .i64 at_)
  fa : W.frozen? ⟨a, 0, none⟩ = false

theorem own_cs {B r m i k a : Nat} {res : Bool} {most : Int} {kk at_ : List Int → Int} : OwnFrom (β := List Int) B (fun s W => Cs W r m i k a res most (kk s) (at_ s)) := fun s W W' row hs hg hr => by
  have c := fun {p : Addr} {v : Value} (h : W.cell? p = some v) => cell_kept h hg (fun r e => (hr r e).2)
  have f := fun {p : Addr} {v : Value} (h : W.cell? p = some v) => frozen_kept h hg (fun r e => (hr r e).2)
  exact ⟨c hs.cr, (f hs.cr).trans hs.fr, c hs.cm, (f hs.cm).trans hs.fm, c hs.ci, (f hs.ci).trans hs.fi, c hs.ck, (f hs.ck).trans hs.fk, c hs.ca, (f hs.ca).trans hs.fa⟩

theorem other {W : World} {g k : Nat} {v : Value} (h : g ≠ k) : (W.setCell ⟨g, 0, none⟩ v).cell? ⟨k, 0, none⟩ = W.cell? ⟨k, 0, none⟩ :=
  World.cell?_setCell_other _ _ _ _ (by intro e; simp at e <;> omega)

/-- They lie apart. -/
structure Apart5 (r m i k a : Nat) : Prop where
  rm : r ≠ m
  ri : r ≠ i
  rk : r ≠ k
  ra : r ≠ a
  km : m ≠ k
  ma : m ≠ a
  ik : i ≠ k
  ia : i ≠ a
  ka : k ≠ a

section
variable {W : World} {r m i k a : Nat} {res : Bool} {most kk at_ : Int}
theorem Cs.setA (h : Cs W r m i k a res most kk at_) (d : Apart5 r m i k a) (z : Int) : Cs (W.setCell ⟨a, 0, none⟩ (.int .i64 z)) r m i k a res most kk z :=
  ⟨by rw [other d.ra.symm]; exact h.cr, by rw [World.frozen?_setCell]; exact h.fr, by rw [other d.ma.symm]; exact h.cm, by rw [World.frozen?_setCell]; exact h.fm, by rw [other d.ia.symm]; exact h.ci, by rw [World.frozen?_setCell]; exact h.fi,
    by rw [other d.ka.symm]; exact h.ck, by rw [World.frozen?_setCell]; exact h.fk, by rw [World.cell?_setCell_same' _ _ _ (by rw [h.ca]; rfl)], by rw [World.frozen?_setCell]; exact h.fa⟩
theorem Cs.setK (h : Cs W r m i k a res most kk at_) (d : Apart5 r m i k a) (z : Int) : Cs (W.setCell ⟨k, 0, none⟩ (.int .i64 z)) r m i k a res most z at_ :=
  ⟨by rw [other d.rk.symm]; exact h.cr, by rw [World.frozen?_setCell]; exact h.fr, by rw [other d.km.symm]; exact h.cm, by rw [World.frozen?_setCell]; exact h.fm, by rw [other d.ik.symm]; exact h.ci, by rw [World.frozen?_setCell]; exact h.fi,
    by rw [World.cell?_setCell_same' _ _ _ (by rw [h.ck]; rfl)], by rw [World.frozen?_setCell]; exact h.fk, by rw [other d.ka]; exact h.ca, by rw [World.frozen?_setCell]; exact h.fa⟩
theorem Cs.setR (h : Cs W r m i k a res most kk at_) (d : Apart5 r m i k a) (z : Bool) : Cs (W.setCell ⟨r, 0, none⟩ (.bool z)) r m i k a z most kk at_ :=
  ⟨by rw [World.cell?_setCell_same' _ _ _ (by rw [h.cr]; rfl)], by rw [World.frozen?_setCell]; exact h.fr, by rw [other d.rm]; exact h.cm, by rw [World.frozen?_setCell]; exact h.fm, by rw [other d.ri]; exact h.ci, by rw [World.frozen?_setCell]; exact h.fi,
    by rw [other d.rk]; exact h.ck, by rw [World.frozen?_setCell]; exact h.fk, by rw [other d.ra]; exact h.ca, by rw [World.frozen?_setCell]; exact h.fa⟩
end

theorem own_pure {β : Type} {B : Nat} (p : β → Prop) : OwnFrom (β := β) B (fun s _ => p s) := fun s W W' row hs hg hr => hs

/-- 'for .. range it { .. }' whose body may be left by a return. -/
theorem wp_rangeL {P : Program} {α : Type} {g : Operand} {ps : Array Tmp} {assign body : Code} {Q : Exit → Act → World → Prop} {a : Act} {w : World} {gf : Nat} {lb : Array Value} (hg : a.eval g = .func (.func gf) #[] lb) (eg : ∀ args w, (callFunc gf args).run P w = .ok (.enter gf args) w)
    {encs : α → Array Value} {S Sp : List α → Prop} {N n0 : Nat} {w0 : World} (hseq : SeqStopsK Fence.wide 8 P gf lb encs (Below n0) S Sp N w0) (hn0 : n0 ≤ w.heap.size) (hb0 : Below w0.heap.size w0 w) (hps : ∀ x, (encs x).size = ps.size)
    (I : List α → World → Prop) (Ix : Code → List α → World → Prop) (hI : OwnFrom w.heap.size I) (hIx : ∀ c, OwnFrom w.heap.size (Ix c)) (h0 : I [] w)
    (h : ∃ a₁ : α → Act, (∀ (l : Nat) (x : α) (W : World) (K : Act → World → Prop), K (a₁ x) W → assign.wpIn (Fence.wide.inRound l) 7 P (Exit.then K (fun _ _ _ => False)) { tmps := (ps.zip (encs x)).foldl (fun t (p, v) => t.setIfInBounds p v) a.tmps, defers := [] } W) ∧
      ∀ (l : Nat) (pre : List α) (x : α) (W : World), I pre W → pre.length < N → body.wpIn (Fence.wide.inRound l) 7 P (ownPostG w.heap.size (Below n0) I Ix (pre ++ [x]) W) (a₁ x) W)
    (hdone : ∀ (D : Nat) (xs : List α) (W : World), w.heap.size ≤ D → S xs → I xs W → W.heap[D]? = some (.deferred (some [])) → Q .normal { a with defers := { target := .collected D, args := #[] } :: a.defers } W)
    (hstop : ∀ (D : Nat) (c : Code) (pre : List α) (W : World), w.heap.size ≤ D → Sp pre → Ix c pre W → W.heap[D]? = some (.deferred (some [])) → c.wpIn Fence.wide 9 P Q { a with defers := { target := .collected D, args := #[] } :: a.defers } W) :
    (Code.rangeFunc g ps assign body).wp P Q a w := by
  obtain ⟨a₁, hassign, hbody⟩ := h
  exact (wpIn_wide (n := 9)).1 (wpIn_rangeFunc_ownG (F := Fence.wide) (n := 9) rfl (by omega) hg trivial eg hseq (fun h k => belowK_t h k) (belowK_b hn0) hb0 hps I Ix hI hIx h0 a₁ hassign hbody hdone hstop)

theorem in_new {Y : World} {o : Obj} {n : Nat} (h : n = Y.heap.size) : (Y.alloc o).heap[n]? = some o := by subst h; exact heap_alloc_new _ _
theorem in_old {Y : World} {o o' : Obj} {n : Nat} (h : Y.heap[n]? = some o) : (Y.alloc o').heap[n]? = some o := by
  rw [((Chg.refl (fun _ => False) Y).alloc o').block n (lt_of_heap h) (fun h => h)]; exact h
theorem in_same {X Y : World} {o : Obj} {n : Nat} (hs : Same X Y) (h : X.heap[n]? = some o) : Y.heap[n]? = some o := by
  rw [hs.block n (lt_of_heap h) (fun h => h)]; exact h

theorem formOf_in {t : Int} (h : formOf t ≠ 0) : 0 ≤ t ∧ t ≤ 385 := by
  by_cases q : t < 0 ∨ 385 < t
  · exact absurd (formOf_big q) h
  · omega
theorem last_bounds : ∀ {a : Int} {l : List Int}, Chain a l → -1 ≤ a → a ≤ 385 → -1 ≤ lastOf a l ∧ lastOf a l ≤ 385
  | _, [], _, h1, h2 => ⟨h1, h2⟩
  | _, x :: r, hc, _, _ => last_bounds (l := r) hc.2 (by have := formOf_in hc.1.2.2; omega) (by have := formOf_in hc.1.2.2; omega)

theorem lt_of_cell {W : World} {a : Addr} {v : Value} (h : W.cell? a = some v) : a.block < W.heap.size := by
  unfold World.cell? at h
  split at h
  · rename_i hh
    exact lt_of_heap hh
  · cases h
theorem put_cell {W : World} {D r : Nat} {o : Obj} {v : Value} (hne : r ≠ D) (h : W.cell? ⟨r, 0, none⟩ = some v) : (W.putObj D o).cell? ⟨r, 0, none⟩ = some v := by
  rw [World.cell?_of_block (w := W) ((grownBy_putObj' W D o).block r (lt_of_cell h) (fun e => hne (by simp at e; omega)))]
  exact h
theorem results_f4 (tmps : Array Value) (W : World) {r : Nat} {b : Bool} (hp : tmps.getD 2 undef = .pointer (some ⟨r, 0, none⟩)) (hc : W.cell? ⟨r, 0, none⟩ = some (.bool b)) : (results Try.f4 tmps).run Try.prog W = .ok (.bool b) W := by
  simp only [results, show Try.f4.results = #[.cell 2 4] from rfl]
  have hp' : tmps[2]?.getD undef = .pointer (some ⟨r, 0, none⟩) := by simpa using hp
  simp [go_sem, hp', hc, Try.underlying4]

theorem set_keep {W : World} {D a : Nat} {o : Obj} {v : Value} (h : W.heap[D]? = some o) (hne : a ≠ D) : (W.setCell ⟨a, 0, none⟩ v).heap[D]? = some o := by
  rw [((Chg.refl (fun x => x = a) W).setCell (p := ⟨a, 0, none⟩) (.inl rfl) v).block D (lt_of_heap h) (fun e => hne e.symm)]; exact h

/-- How far a box may still count. -/
def toGo (a : Nat) (W : World) : Nat := match W.cell? ⟨a, 0, none⟩ with | some (.int _ z) => (70000 - z).toNat | _ => 0
theorem toGo_eq {a : Nat} {W : World} {z : Int} (h : W.cell? ⟨a, 0, none⟩ = some (.int .i64 z)) : toGo a W = (70000 - z).toNat := by unfold toGo; rw [h]

set_option maxRecDepth 100000 in
set_option maxHeartbeats 8000000 in
theorem typesW_calls (w : World) (most : Int) : Calls Try.prog 4 #[.int .i64 most] w (BoolPost true w) := by
  refine calls_of_marks Try.func4 rfl ?_
  simp only [Try.ntmps4, List.size_toArray, List.length_cons, List.length_nil, Nat.reduceAdd, Nat.reduceSub, Array.replicate_succ, Array.replicate_zero, List.push_toArray, List.append_toArray, List.nil_append, List.cons_append]
  go_wp2_with fail
  refine (begun_calls _).mono ?_
  rintro e w1 ⟨rfl, hs1⟩
  have S1 := hid hs1
  clear hs1
  go_wp2_with fail
  refine (types_calls _).mono ?_
  rintro e w2 ⟨rfl, rfl⟩
  have hfn : ∀ (cs : Array Value) (W : World), (binOp .eql 32 (.func (.func 37) #[] cs) .nilFunc).run Try.prog W = .ok (.bool false) W := by intro cs W; kernel_rfl
  go_wp2_with fail
  clear hfn
  have hz : w.heap.size + 2 ≤ w1.heap.size := by have := S1.out.size; simpa using this
  obtain ⟨wD, hwD⟩ : ∃ wD, wD = ((w1.alloc (.cells #[.bool true] 4)).alloc (.cells #[.int .i64 0] 3)).alloc (.cells #[.int .i64 (-1)] 3) := ⟨_, rfl⟩
  have kD : Same w wD := by rw [hwD]; exact (((((((Chg.refl _ w).alloc _).alloc _).trans S1.out (fun _ h => h.elim)).alloc _).alloc _).alloc _)
  have zD : wD.heap.size = w1.heap.size + 3 := by rw [hwD]; simp
  have bm : wD.heap[w.heap.size]? = some (.cells #[.int .i64 most] 3 (0, 0)) := by rw [hwD]; exact in_old (in_old (in_old (in_same S1.out (in_old (in_new rfl)))))
  have br : wD.heap[w.heap.size + 1]? = some (.cells #[.bool false] 4 (0, 0)) := by rw [hwD]; exact in_old (in_old (in_old (in_same S1.out (in_new (by simp)))))
  have bi : wD.heap[w1.heap.size]? = some (.cells #[.bool true] 4 (0, 0)) := by rw [hwD]; exact in_old (in_old (in_new rfl))
  have bk : wD.heap[w1.heap.size + 1]? = some (.cells #[.int .i64 0] 3 (0, 0)) := by rw [hwD]; exact in_old (in_new (by simp))
  have ba : wD.heap[w1.heap.size + 1 + 1]? = some (.cells #[.int .i64 (-1)] 3 (0, 0)) := by rw [hwD]; exact in_new (by simp)
  rw [← hwD]
  clear hwD
  have CS : Cs wD (w.heap.size + 1) w.heap.size w1.heap.size (w1.heap.size + 1) (w1.heap.size + 1 + 1) false most 0 (-1) :=
    ⟨by rw [cell_of_heap br]; rfl, frozen_of_heap br _, by rw [cell_of_heap bm]; rfl, frozen_of_heap bm _, by rw [cell_of_heap bi]; rfl, frozen_of_heap bi _, by rw [cell_of_heap bk]; rfl, frozen_of_heap bk _, by rw [cell_of_heap ba]; rfl, frozen_of_heap ba _⟩
  have AP : Apart5 (w.heap.size + 1) w.heap.size w1.heap.size (w1.heap.size + 1) (w1.heap.size + 1 + 1) := by constructor <;> omega
  have B1 : w.heap.size ≤ w.heap.size + 1 := by omega
  have B2 : w.heap.size ≤ w1.heap.size + 1 := by omega
  have B3 : w.heap.size ≤ w1.heap.size + 1 + 1 := by omega
  have BZ : w.heap.size ≤ wD.heap.size := by omega
  have LT : w.heap.size + 1 < wD.heap.size ∧ w1.heap.size + 1 < wD.heap.size ∧ w1.heap.size + 1 + 1 < wD.heap.size := by omega
  clear bm br bi bk ba zD hz S1
  generalize w1.heap.size + 1 + 1 = a at *
  generalize w1.heap.size + 1 = k at *
  generalize w1.heap.size = i at *
  generalize hr : w.heap.size + 1 = r at *
  clear hr
  obtain ⟨m, hm⟩ : ∃ m, w.heap.size = m := ⟨_, rfl⟩
  rw [hm] at CS AP
  have HCS := hid CS
  have HAP := hid AP
  have KD := hid kD
  have HB := hid (And.intro B1 (And.intro B2 (And.intro B3 (And.intro BZ LT))))
  rw [hm]
  have HM := hid hm
  clear hm CS AP kD B1 B2 B3 BZ LT
  refine wp_rangeL rfl callFunc37 (types_stops 8 (by omega) wD w.heap.size) HB.out.2.2.2.1 (Below.refl _ _) (fun _ => rfl)
    (fun pre W => Chain (-1) pre ∧ Below w.heap.size w W ∧ Cs W r m i k a false most (pre.length : Int) (lastOf (-1) pre))
    (fun c pre W => c = .ret ∧ Below w.heap.size w W ∧ ∃ (res : Bool) (kk at_ : Int), Cs W r m i k a res most kk at_ ∧ (res = false → ¬ Chain (-1) pre))
    ((own_pure _).and ((own_below (Nat.le_refl _) HB.out.2.2.2.1).and own_cs)) ?_ ⟨trivial, KD.out.below, HCS.out⟩ ?_ ?_ ?_
  · intro c s W W' row hs hg hr
    obtain ⟨h1, h2, res, kk, at_, h3, h4⟩ := hs
    exact ⟨h1, own_below (β := Unit) (Nat.le_refl _) HB.out.2.2.2.1 () W W' row h2 hg hr, res, kk, at_, own_cs (kk := fun _ => kk) (at_ := fun _ => at_) s W W' row h3 hg hr, h4⟩
  · apply Exists.intro
    apply And.intro
    · intro lp x W K hK
      gi_wp2
      exact hK
    · rintro lp pre x W ⟨hc, hb, hcs⟩ hlt
      obtain ⟨L, hL⟩ : ∃ L, lastOf (-1) pre = L := ⟨_, rfl⟩
      have hbd := last_bounds hc (by decide) (by decide)
      rw [hL] at hcs hbd
      have HL := hid hL
      have HCH := hid hc
      have HC := hid hcs
      have HBW := hid hb
      have c6 := HC.out.ca
      have f6 := HC.out.fa
      have hwr : IntKind.i64.wrap (L + 1) = L + 1 := by simp [IntKind.wrap, IntKind.bits, IntKind.signed]; omega
      have hlt' : pre.length < 386 := hlt
      clear hcs hc hb hL hlt
      gi_wp2
      gi_loopw [] (fun wr => ∃ z : Int, L + 1 ≤ z ∧ z ≤ 70000 ∧ (z = L + 1 ∨ z ≤ x) ∧ Hid (∀ y, L < y → y < z → formOf y = 0) ∧ KeepsFrom wD.heap.size W wr ∧ Below w.heap.size W wr ∧ Cs wr r m i k a false most (pre.length : Int) z) (fun wr => toGo a wr)
      case atStart => exact ⟨L + 1, by omega, by omega, .inl rfl, hid (fun y h1 h2 => by omega), (KeepsOthers.setCell _ _ _).from _, (Below.refl w.heap.size W).setCell (p := ⟨a, 0, none⟩) HB.out.2.2.1 _, HC.out.setA HAP.out _⟩
      case round =>
        obtain ⟨z, hz1, hz2, hz3, hz4, hkf, hb2, hc2⟩ := hrel
        have HC2 := hid hc2
        have HB2 := hid hb2
        have HKF := hid hkf
        have g6 := HC2.out.ca
        have q6 := HC2.out.fa
        have g3 := HC2.out.ci
        have g2 := HC2.out.cr
        have q2 := HC2.out.fr
        have g5 := HC2.out.ck
        have q5 := HC2.out.fk
        have g1 := HC2.out.cm
        clear hb2 hc2 hkf c6 f6
        have NEXT : Hid (Chain (-1) (pre ++ [x]) → OkNext L x) := fun h => by
          have := ((chain_push (-1) pre x).1 h).2
          rwa [HL.out] at this
        have BAD : Hid (¬ OkNext L x → KeepsFrom wD.heap.size W (wr.setCell ⟨r, 0, none⟩ (.bool false)) ∧ Code.ret = Code.ret ∧ Below w.heap.size w (wr.setCell ⟨r, 0, none⟩ (.bool false)) ∧ ∃ (res : Bool) (kk at_ : Int), Cs (wr.setCell ⟨r, 0, none⟩ (.bool false)) r m i k a res most kk at_ ∧ (res = false → ¬ Chain (-1) (pre ++ [x]))) := fun hn =>
          ⟨HKF.out.trans ((KeepsOthers.setCell _ _ _).from _), rfl, (HBW.out.trans HB2.out).setCell (p := ⟨r, 0, none⟩) HB.out.1 _, false, _, _, HC2.out.setR HAP.out false, fun _ h => hn (NEXT.out h)⟩
        have HZ4 := hid hz4
        by_cases hzx : z < x
        · by_cases hz7 : z < 70000
          · have hwz : IntKind.i64.wrap (z + 1) = z + 1 := by simp [IntKind.wrap, IntKind.bits, IntKind.signed]; omega
            gi_wp2
            refine ⟨trivial, (CallsIn.inRound lp ((callsIn_wide (n := _)).2 (rform_calls wr z))).mono ?_⟩
            rintro e w9 ⟨rfl, rfl⟩
            by_cases hfz : formOf z = 0
            · have HFZ := hid hfz
              rw [hfz]
              clear hfz
              gi_wp2
              go_roundw
              case rel => exact ⟨z + 1, by omega, by omega, .inr (by omega), hid (fun y h1 h2 => by
                by_cases e : y = z
                · rw [e]; exact HFZ.out
                · exact HZ4.out.out y h1 (by omega)), HKF.out.trans ((KeepsOthers.setCell _ _ _).from _), HB2.out.setCell (p := ⟨a, 0, none⟩) HB.out.2.2.1 _, HC2.out.setA HAP.out _⟩
              case measure => rw [toGo_eq (HC2.out.setA HAP.out (z + 1)).ca, toGo_eq HC2.out.ca]; omega
            · have hb : (formOf z != 0) = true := by simpa using hfz
              have HN := BAD.out (fun o => hfz (o.2.1 z (by omega) hzx))
              have HN := hid HN
              clear hfz
              gi_wp2
              exact ⟨HN.out.1, rfl, HN.out.2.2⟩
          · have hne : (z != x) = true := by simp; omega
            have HN := hid (BAD.out (fun o => by have := formOf_in o.2.2; omega))
            gi_wp2
            refine ⟨trivial, ?_⟩
            gi_wp2
            exact ⟨HN.out.1, rfl, HN.out.2.2⟩
        · by_cases hzx' : z = x
          · subst hzx'
            have hne : (z != z) = false := by simp
            gi_wp2
            refine ⟨trivial, (CallsIn.inRound lp ((callsIn_wide (n := _)).2 (rform_calls wr z))).mono ?_⟩
            rintro e w9 ⟨rfl, rfl⟩
            by_cases hfz : formOf z = 0
            · have HN := hid (BAD.out (fun o => o.2.2 hfz))
              rw [hfz]
              gi_wp2
              exact ⟨HN.out.1, rfl, HN.out.2.2⟩
            · have hb : (formOf z == 0) = false := by simpa using hfz
              have HGOOD := hid ((chain_push (-1) pre z).2 ⟨HCH.out, by rw [HL.out]; exact ⟨by omega, HZ4.out.out, hfz⟩⟩)
              have hwk : IntKind.i64.wrap ((pre.length : Int) + 1) = (pre.length : Int) + 1 := by simp [IntKind.wrap, IntKind.bits, IntKind.signed]; omega
              have HKK := hid (HC2.out.setK HAP.out ((pre.length : Int) + 1))
              have HK1 := hid (HKF.out.trans ((KeepsOthers.setCell wr ⟨k, 0, none⟩ (.int .i64 ((pre.length : Int) + 1))).from wD.heap.size))
              have HK2 := hid (HB2.out.setCell (p := ⟨k, 0, none⟩) HB.out.2.1 (.int .i64 ((pre.length : Int) + 1)))
              have s1 := HKK.out.cm
              have s2 := HKK.out.ck
              have s3 := HKK.out.ci
              have s4 := HKK.out.cr
              have s5 := HKK.out.fr
              clear hfz
              by_cases hmost : ((pre.length : Int) + 1) = most
              · have hm1 : (((pre.length : Int) + 1) == most) = true := by simpa using hmost
                clear hmost
                gi_wp2
                exact ⟨HK1.out.trans ((KeepsOthers.setCell _ _ _).from _), rfl, (HBW.out.trans HK2.out).setCell (p := ⟨r, 0, none⟩) HB.out.1 _, true, _, _, HKK.out.setR HAP.out true, fun h => by cases h⟩
              · have hm1 : (((pre.length : Int) + 1) == most) = false := by simpa using hmost
                clear hmost
                gi_wp2
                refine ⟨HK1.out, HK2.out, HGOOD.out, HBW.out.trans HK2.out, ?_⟩
                rw [lastOf_push]
                simpa using HKK.out
          · have hne : (z != x) = true := by simpa using hzx'
            have HN := hid (BAD.out (fun o => by have := o.1; omega))
            gi_wp2
            refine ⟨trivial, ?_⟩
            gi_wp2
            exact ⟨HN.out.1, rfl, HN.out.2.2⟩
  · rintro D xs W hD rfl ⟨hc, hb, hcs⟩ hK
    have HC := hid hcs
    have HBW := hid hb
    have HK := hid hK
    have HD := hid hD
    obtain ⟨L, hL⟩ : ∃ L, lastOf (-1) (typesTo 386) = L := ⟨_, rfl⟩
    have hb := last_bounds hc (by decide) (by decide)
    have HF := hid (types_chain 386).2.2
    rw [hL] at HC hb HF
    have c6 := HC.out.ca
    have f6 := HC.out.fa
    have i1 : -9223372036854775808 ≤ L + 1 ∧ L + 1 < 9223372036854775808 := by omega
    have hwr : IntKind.i64.wrap (L + 1) = L + 1 := by simp [IntKind.wrap, IntKind.bits, IntKind.signed]; omega
    clear hcs hc hK hD
    go_wp2_with fail
    go_loopw [] (fun wr => ∃ z : Int, L < z ∧ z ≤ 70000 ∧ Below w.heap.size w wr ∧ Cs wr r m i k a false most ((typesTo 386).length : Int) z ∧ wr.heap[D]? = some (.deferred (some []))) (fun wr => toGo a wr)
    case atStart => exact ⟨L + 1, by omega, by omega, HBW.out.setCell (p := ⟨a, 0, none⟩) HB.out.2.2.1 _, HC.out.setA HAP.out _, set_keep HK.out (by have := HB.out.2.2.2.2.2.2; have := HD.out; omega)⟩
    case round =>
      obtain ⟨z, hz1, hz2, hb2, hc2, hd2⟩ := hrel
      have HC2 := hid hc2
      have HB2 := hid hb2
      have HD2 := hid hd2
      have g6 := HC2.out.ca
      have q6 := HC2.out.fa
      have g3 := HC2.out.ci
      have g2 := HC2.out.cr
      have q2 := HC2.out.fr
      clear hb2 hc2 hd2 c6 f6
      by_cases hlt : z < 70000
      · have hz0 : formOf z = 0 := by
          by_cases q : z < 386
          · exact HF.out z hz1 q
          · exact formOf_big (.inr (by omega))
        have HZ := hid hz0
        clear hz0
        have hwr : IntKind.i64.wrap (z + 1) = z + 1 := by simp [IntKind.wrap, IntKind.bits, IntKind.signed]; omega
        go_wp2_with fail
        refine (rform_calls wr z).mono ?_
        rintro e w9 ⟨rfl, rfl⟩
        rw [HZ.out]
        go_wp2_with fail
        go_roundw
        case rel => exact ⟨z + 1, by omega, by omega, HB2.out.setCell (p := ⟨a, 0, none⟩) HB.out.2.2.1 _, HC2.out.setA HAP.out _, set_keep HD2.out (by have := HB.out.2.2.2.2.2.2; have := HD.out; omega)⟩
        case measure => rw [toGo_eq (HC2.out.setA HAP.out (z + 1)).ca, toGo_eq HC2.out.ca]; omega
      · go_wp2_with fail
        have HC3 := hid (HC2.out.setR HAP.out true)
        have HB3 := hid (HB2.out.setCell (p := ⟨r, 0, none⟩) HB.out.1 (.bool true))
        have HD3 := hid (set_keep (v := .bool true) HD2.out (show r ≠ D by have := HB.out.2.2.2.2.1; have := HD.out; omega))
        refine ⟨by simp, .inl ⟨_, _, rfl, run_takeDeferred HD3.out, ?_⟩⟩
        have hne : r ≠ D := by have := HB.out.2.2.2.2.1; have := HD.out; omega
        refine ⟨_, results_f4 _ _ rfl (put_cell hne HC3.out.cr), rfl, ?_⟩
        exact (Chg.of_below HB3.out).grown (grownBy_putObj' _ D (.deferred none)) (fun k hk => by cases hk; right; have := HB.out.2.2.2.1; have := HD.out; omega)
  · rintro D c pre W hD hp ⟨rfl, hb, res, kk, at_, hcs, hres⟩ hK
    have hrt : res = true := by
      cases res with
      | true => rfl
      | false => exact absurd (chain_prefix hp (types_chain 386).1) (hres rfl)
    subst hrt
    have HC := hid hcs
    have HBW := hid hb
    have HK := hid hK
    have HD := hid hD
    clear hcs hb hK hD hres hp
    gi_wp2
    refine ⟨by simp, .inl ⟨_, _, rfl, run_takeDeferred HK.out, ?_⟩⟩
    have hne : r ≠ D := by have := HB.out.2.2.2.2.1; have := HD.out; omega
    refine ⟨_, results_f4 _ _ rfl (put_cell hne HC.out.cr), rfl, ?_⟩
    exact (Chg.of_below HBW.out).grown (grownBy_putObj' W D (.deferred none)) (fun k hk => by cases hk; right; have := HB.out.2.2.2.1; have := HD.out; omega)
end Go.Proofs.Ythmhmgmdajjpmaa
