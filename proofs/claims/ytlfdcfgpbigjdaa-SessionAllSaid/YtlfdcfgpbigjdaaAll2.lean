/- Both tables go alike: each call, on one table and then on the other, as a step. -/
import Derived.Test.YtlfdcfgpbigjdaaAll1
import Derived.Test.YtlfdcfgpbigjdaaSame
namespace Go.Proofs.Ytlfdcfgpbigjdaa
set_option linter.unusedVariables false
set_option linter.unusedSimpArgs false
open Go.RowKit

/-- Behind n rounds; F and G: the tables' own blocks. -/
structure BothF (w0 : World) (t r n : Nat) (F G : Nat → Prop) (l : List Se) (last next : Int) (U : Int → Int → Option Int) (ws : List Lo) (w : World) : Prop where
  tab : ∃ sl M L clock, Tab w F t l last U sl M L clock
  rtab : ∃ lv wv, RTab w G r l next ws lv wv
  alike : Alike l last next U ws n
  same : Same w0 w
  newF : ∀ k, F k → w0.heap.size ≤ k
  newG : ∀ k, G k → w0.heap.size ≤ k
  apart : ∀ k, F k → G k → False

def Both (w0 : World) (t r n : Nat) (w : World) : Prop := ∃ F G l last next U ws, BothF w0 t r n F G l last next U ws w

/-- Behind the second call. -/
def BothPost (w0 : World) (t r n : Nat) (w : World) (v : Value) (e : Ending) (w' : World) : Prop := e = .returned v ∧ Both w0 t r n w' ∧ Below w.heap.size w w'

section
variable {w0 w : World} {t r n : Nat} {F G : Nat → Prop} {l : List Se} {last next : Int} {U : Int → Int → Option Int} {ws : List Lo}

theorem BothF.later (h : BothF w0 t r n F G l last next U ws w) {w' : World} (hs : Same w w') : BothF w0 t r n F G l last next U ws w' := by
  obtain ⟨sl, M, L, clock, hT⟩ := h.tab
  obtain ⟨lv, wv, hR⟩ := h.rtab
  exact ⟨⟨sl, M, L, clock, hT.same hs⟩, ⟨lv, wv, hR.same hs⟩, h.alike, Same.trans h.same hs, h.newF, h.newG, h.apart⟩

theorem BothF.oldF (h : BothF w0 t r n F G l last next U ws w) : ∀ k, F k → k < w.heap.size := by
  obtain ⟨sl, M, L, clock, hT⟩ := h.tab
  exact hT.old

theorem BothF.oldG (h : BothF w0 t r n F G l last next U ws w) : ∀ k, G k → k < w.heap.size := by
  obtain ⟨lv, wv, hR⟩ := h.rtab
  exact hR.old

/-- Of what was there only blocks of both tables have changed. -/
def FG (F G : Nat → Prop) (k : Nat) : Prop := F k ∨ G k

/-- Both steps are made. -/
theorem BothF.both (h : BothF w0 t r n F G l last next U ws w) {w1 w2 : World} {l' : List Se} {last' next' : Int} {U' : Int → Int → Option Int} {ws' : List Lo} {n' : Nat}
    (h1 : TabTo w F t l' last' U' w1) (h2 : RTabTo w1 G r l' next' ws' w2) (ha : Alike l' last' next' U' ws' n') : Both w0 t r n' w2 ∧ Chg (FG F G) w w2 := by
  obtain ⟨F1, sl, M, L, clock, hT, hc1, hF1⟩ := h1
  obtain ⟨G2, lv, wv, hR, hc2, hG2⟩ := h2
  have hap : ∀ k, F1 k → G k → False := fun k hf hg => by
    rcases hF1 k hf with q | q
    · exact h.apart k q hg
    · have := h.oldG k hg
      omega
  have hc : Chg (FG F G) w w2 := Chg.trans (hc1.mono fun k hk _ => .inl hk) hc2 (fun k hk => .inl (.inr hk))
  have hw : w.heap.size ≤ w1.heap.size := hc1.size
  refine ⟨⟨F1, G2, l', last', next', U', ws', ⟨sl, M, L, clock, hT.keep hc2 hap⟩, ⟨lv, wv, hR⟩, ha, Chg.trans h.same hc ?_, ?_, ?_, ?_⟩, hc⟩
  · rintro k (hk | hk)
    · exact .inr (h.newF k hk)
    · exact .inr (h.newG k hk)
  · intro k hk
    rcases hF1 k hk with q | q
    · exact h.newF k q
    · exact Nat.le_trans h.same.size q
  · intro k hk
    rcases hG2 k hk with q | q
    · exact h.newG k q
    · exact Nat.le_trans h.same.size (Nat.le_trans hw q)
  · intro k hf hg
    rcases hG2 k hg with q | q
    · exact hap k hf q
    · have := hT.old k hf
      omega

/-- The reference's table behind the first call. -/
theorem BothF.mid (h : BothF w0 t r n F G l last next U ws w) {w1 : World} (hc : Chg F w w1) : ∃ lv wv, RTab w1 G r l next ws lv wv := by
  obtain ⟨lv, wv, hR⟩ := h.rtab
  exact ⟨lv, wv, hR.keep hc (fun k hg hf => h.apart k hf hg)⟩

theorem to_chg2 {w' : World} (hto : TabTo w F t l last U w') : Chg F w w' := by
  obtain ⟨F', sl, M, L, clock, hT, hc, hF⟩ := hto
  exact hc

/-- What a step says: the first call, and the second one behind it, with the same answer. -/
def Two (w0 : World) (t r n : Nat) (F G : Nat → Prop) (w : World) (g : Nat) (args : Array Value) (e : Ending) (w1 : World) : Prop :=
  ∃ v, e = .returned v ∧ Chg (FG F G) w w1 ∧ Calls Try.prog g args w1 (fun e' w2 => e' = .returned v ∧ Both w0 t r (n + 1) w2 ∧ Chg (FG F G) w w2)

theorem BothF.opens (h : BothF w0 t r n F G l last next U ws w) (hn : n < 1000) (c s : Int) (rw : Bool) :
    Calls Try.prog 8 #[.pointer (some ⟨t, 0, none⟩), .int .i64 c, .int .i64 s, .bool rw] w (fun e w1 => ∃ a x : Int, e = .returned (.tuple #[.int .i64 a, .int .i64 x]) ∧ Chg (FG F G) w w1 ∧
      Calls Try.prog 9 #[.pointer (some ⟨r, 0, none⟩), .int .i64 c, .int .i64 s, .bool rw] w1 (fun e' w2 => e' = .returned (.tuple #[.int .i64 a, .int .i64 x]) ∧ Both w0 t r (n + 1) w2 ∧ Chg (FG F G) w w2)) := by
  have hA := h.alike
  obtain ⟨sl, M, L, clock, hT⟩ := h.tab
  have hrv := hA.openRV c s rw
  refine (open2_calls hT ⟨hA.low, by have := hA.high; omega⟩ c s rw).mono ?_
  rintro e w1 (⟨hne, he, hto⟩ | ⟨heq, he, hto⟩)
  · have hc1 := to_chg2 hto
    obtain ⟨lv, wv, hR⟩ := h.mid hc1
    refine ⟨_, _, he, hc1.mono (fun k hk _ => .inl hk), ?_⟩
    refine (ropen_calls hR ⟨by rw [hA.nx]; exact hA.low, by rw [hA.nx]; have := hA.high; omega⟩ c s rw).mono ?_
    rintro e' w2 (⟨-, he', hto'⟩ | ⟨h0, -, -⟩)
    · rw [← hrv] at he'
      have := h.both hto hto' hA.up
      exact ⟨he', this.1, this.2⟩
    · exact absurd (hrv.trans h0) hne
  · have hc1 := to_chg2 hto
    obtain ⟨lv, wv, hR⟩ := h.mid hc1
    refine ⟨_, _, he, hc1.mono (fun k hk _ => .inl hk), ?_⟩
    refine (ropen_calls hR ⟨by rw [hA.nx]; exact hA.low, by rw [hA.nx]; have := hA.high; omega⟩ c s rw).mono ?_
    rintro e' w2 (⟨h0, -, -⟩ | ⟨-, he', hto'⟩)
    · exact absurd (hrv.symm.trans heq) h0
    · have hto2 : RTabTo w1 G r (l ++ [⟨last + 1, c, s, rw⟩]) (next + 1) ws w2 := by rw [hA.nx] at hto' ⊢; exact hto'
      have := h.both hto hto2 (hA.opens c s rw)
      rw [hA.nx] at he'
      exact ⟨he', this.1, this.2⟩

theorem BothF.closes (h : BothF w0 t r n F G l last next U ws w) (hn : n < 90) (c hd : Int) :
    Calls Try.prog 10 #[.pointer (some ⟨t, 0, none⟩), .int .i64 c, .int .i64 hd] w (fun e w1 => ∃ x : Int, e = .returned (.int .i64 x) ∧ Chg (FG F G) w w1 ∧
      Calls Try.prog 11 #[.pointer (some ⟨r, 0, none⟩), .int .i64 c, .int .i64 hd] w1 (fun e' w2 => e' = .returned (.int .i64 x) ∧ Both w0 t r (n + 1) w2 ∧ Chg (FG F G) w w2)) := by
  have hA := h.alike
  obtain ⟨sl, M, L, clock, hT⟩ := h.tab
  refine (close_calls hT (by have := hA.len; omega) c hd).mono ?_
  rintro e w1 ⟨he, hto⟩
  have hc1 := to_chg2 hto
  obtain ⟨lv, wv, hR⟩ := h.mid hc1
  refine ⟨_, he, hc1.mono (fun k hk _ => .inl hk), ?_⟩
  refine (rclose_calls hR (by have := hA.wlen; omega) (by have := hA.len; omega) c hd).mono ?_
  rintro e' w2 ⟨he', hto'⟩
  obtain ⟨hl, ha⟩ := hA.closes c hd
  rw [hl] at hto'
  have := h.both hto hto' ha
  exact ⟨he', this.1, this.2⟩

theorem BothF.logins (h : BothF w0 t r n F G l last next U ws w) (hn : n < 90) (c s u : Int) :
    Calls Try.prog 16 #[.pointer (some ⟨t, 0, none⟩), .int .i64 c, .int .i64 s, .int .i64 u] w (fun e w1 => ∃ x : Int, e = .returned (.int .i64 x) ∧ Chg (FG F G) w w1 ∧
      Calls Try.prog 17 #[.pointer (some ⟨r, 0, none⟩), .int .i64 c, .int .i64 s, .int .i64 u] w1 (fun e' w2 => e' = .returned (.int .i64 x) ∧ Both w0 t r (n + 1) w2 ∧ Chg (FG F G) w w2)) := by
  have hA := h.alike
  obtain ⟨sl, M, L, clock, hT⟩ := h.tab
  refine (login_calls hT hA.pair.vals c s u).mono ?_
  rintro e w1 ⟨he, hto⟩
  have hc1 := to_chg2 hto
  obtain ⟨lv, wv, hR⟩ := h.mid hc1
  refine ⟨_, he, hc1.mono (fun k hk _ => .inl hk), ?_⟩
  refine (rlogin_calls hR (by have := hA.wlen; omega) c s u).mono ?_
  rintro e' w2 ⟨he', hto'⟩
  obtain ⟨hm, ha⟩ := hA.login c s u
  rw [← hm] at he'
  have := h.both hto hto' ha
  exact ⟨he', this.1, this.2⟩

theorem BothF.logouts (h : BothF w0 t r n F G l last next U ws w) (hn : n < 90) (c s : Int) :
    Calls Try.prog 18 #[.pointer (some ⟨t, 0, none⟩), .int .i64 c, .int .i64 s] w (fun e w1 => ∃ x : Int, e = .returned (.int .i64 x) ∧ Chg (FG F G) w w1 ∧
      Calls Try.prog 19 #[.pointer (some ⟨r, 0, none⟩), .int .i64 c, .int .i64 s] w1 (fun e' w2 => e' = .returned (.int .i64 x) ∧ Both w0 t r (n + 1) w2 ∧ Chg (FG F G) w w2)) := by
  have hA := h.alike
  obtain ⟨sl, M, L, clock, hT⟩ := h.tab
  refine (logout_calls hT c s).mono ?_
  rintro e w1 ⟨he, hto⟩
  have hc1 := to_chg2 hto
  obtain ⟨lv, wv, hR⟩ := h.mid hc1
  refine ⟨_, he, hc1.mono (fun k hk _ => .inl hk), ?_⟩
  refine (rlogout_calls hR (by have := hA.wlen; omega) c s).mono ?_
  rintro e' w2 ⟨he', hto'⟩
  obtain ⟨hm, ha⟩ := hA.logout c s
  rw [← hm] at he'
  have := h.both hto hto' ha
  exact ⟨he', this.1, this.2⟩

/-- Closing many: the two lists of handles are the same. -/
theorem BothF.many (h : BothF w0 t r n F G l last next U ws w) (hn : n < 90) {p : Se → Bool} {c s : Int} (hp : pall c s = p) (hpc : ∀ x ∈ l, p x = true → x.c = c) {e : Ending} {w1 : World} (h1 : ClosesPost w F t l last U p e w1) :
    ∃ v, e = .returned v ∧ Chg (FG F G) w w1 ∧ Calls Try.prog 13 #[.pointer (some ⟨r, 0, none⟩), .int .i64 c, .int .i64 s] w1 (fun e' w2 => ∃ v', e' = .returned v' ∧ Both w0 t r (n + 1) w2 ∧ Chg (FG F G) w w2 ∧ Calls Try.prog 14 #[v, v'] w2 (BoolPost true w2)) := by
  have hA := h.alike
  obtain ⟨gv, F1, sl, M, L, clock, he, hT, hc1, hF1, hrow, hoff⟩ := h1
  obtain ⟨lv, wv, hR⟩ := h.mid hc1
  refine ⟨gv, he, hc1.mono (fun k hk _ => .inl hk), ?_⟩
  refine (rcloseAll_calls hR (by have := hA.wlen; omega) (by have := hA.len; omega) c s).mono ?_
  rintro e' w2 ⟨gv', G2, lv2, wv2, he', hR2, hc2, hG2, hrow', hoff'⟩
  rw [hp] at hR2 hrow'
  obtain ⟨hl, ha⟩ := hA.gone hpc
  rw [hl] at hR2
  have hb := h.both ⟨F1, sl, M, L, clock, hT, hc1, hF1⟩ ⟨G2, lv2, wv2, hR2, hc2, hG2⟩ ha
  refine ⟨gv', he', hb.1, hb.2, ?_⟩
  have hkeep : w2.ownsRow w.heap.size 3 1 gv (goneOf p l).length (ints (goneOf p l)) := ownsRow_keep hrow fun g hg => hc2.block g (hrow.lt g hg).2 (fun hk => by
    have := h.oldG g hk
    have := (hrow.lt g hg).1
    omega)
  refine (lists_calls hkeep hrow').mono ?_
  rintro e3 w3 ⟨he3, hs3⟩
  exact ⟨by rw [he3, decide_eq_true rfl], hs3⟩

theorem BothF.closesAll (h : BothF w0 t r n F G l last next U ws w) (hn : n < 90) (c s : Int) (hs : 0 ≤ s) :
    Calls Try.prog 12 #[.pointer (some ⟨t, 0, none⟩), .int .i64 c, .int .i64 s] w (fun e w1 => ∃ v, e = .returned v ∧ Chg (FG F G) w w1 ∧ Calls Try.prog 13 #[.pointer (some ⟨r, 0, none⟩), .int .i64 c, .int .i64 s] w1 (fun e' w2 => ∃ v', e' = .returned v' ∧ Both w0 t r (n + 1) w2 ∧ Chg (FG F G) w w2 ∧ Calls Try.prog 14 #[v, v'] w2 (BoolPost true w2))) := by
  have hA := h.alike
  obtain ⟨sl, M, L, clock, hT⟩ := h.tab
  refine (closeAll_calls hT (by have := hA.len; omega) c s).mono ?_
  intro e w1 hp
  exact h.many hn (pall_at hs) (fun x _ hx => (hasAt_iff.1 hx).1) hp

theorem BothF.drops (h : BothF w0 t r n F G l last next U ws w) (hn : n < 90) (c : Int) :
    Calls Try.prog 15 #[.pointer (some ⟨t, 0, none⟩), .int .i64 c] w (fun e w1 => ∃ v, e = .returned v ∧ Chg (FG F G) w w1 ∧ Calls Try.prog 13 #[.pointer (some ⟨r, 0, none⟩), .int .i64 c, .int .i64 (-1)] w1 (fun e' w2 => ∃ v', e' = .returned v' ∧ Both w0 t r (n + 1) w2 ∧ Chg (FG F G) w w2 ∧ Calls Try.prog 14 #[v, v'] w2 (BoolPost true w2))) := by
  have hA := h.alike
  obtain ⟨sl, M, L, clock, hT⟩ := h.tab
  refine (drop_calls hT (by have := hA.len; omega) c).mono ?_
  intro e w1 hp
  exact h.many hn pall_all (fun x _ hx => by simpa using hx) hp

/-- All that both tell is the same. -/
theorem Both.tells (h : Both w0 t r n w) (hn : n < 90) (o : Opr) : Calls Try.prog 20 #[.pointer (some ⟨t, 0, none⟩), .pointer (some ⟨r, 0, none⟩), o.val] w (BoolPost true w) := by
  obtain ⟨F, G, l, last, next, U, ws, h⟩ := h
  obtain ⟨sl, M, L, clock, hT⟩ := h.tab
  obtain ⟨lv, wv, hR⟩ := h.rtab
  exact same_calls hT hR (by have := h.alike.len; omega) h.alike.pair.rel o

theorem Both.later (h : Both w0 t r n w) {w' : World} (hs : Same w w') : Both w0 t r n w' := by
  obtain ⟨F, G, l, last, next, U, ws, h⟩ := h
  exact ⟨F, G, l, last, next, U, ws, h.later hs⟩

theorem Both.same (h : Both w0 t r n w) : Same w0 w := by
  obtain ⟨F, G, l, last, next, U, ws, h⟩ := h
  exact h.same

theorem Both.up (h : Both w0 t r n w) : Both w0 t r (n + 1) w := by
  obtain ⟨F, G, l, last, next, U, ws, h⟩ := h
  exact ⟨F, G, l, last, next, U, ws, h.tab, h.rtab, h.alike.up, h.same, h.newF, h.newG, h.apart⟩
end
end Go.Proofs.Ytlfdcfgpbigjdaa
