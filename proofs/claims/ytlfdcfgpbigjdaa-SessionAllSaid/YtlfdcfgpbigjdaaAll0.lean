/- Both tables go alike: the plain law, with no program in sight. -/
import Derived.Test.YtlfdcfgpbigjdaaRel
namespace Go.Proofs.Ytlfdcfgpbigjdaa
set_option linter.unusedVariables false
set_option linter.unusedSimpArgs false
open Go.RowKit

/-- What holds of the sessions and logins of both. -/
structure Pair (l : List Se) (U : Int → Int → Option Int) (ws : List Lo) : Prop where
  rel : Rel U ws
  vals : ∀ c s v, U c s = some v → 0 ≤ v
  pos : ∀ x ∈ ws, 0 ≤ x.u
  once : (l.map Se.h).Nodup
  opened : ∀ c s, U c s ≠ none → l.any (hasAt c s) = true

structure Alike (l : List Se) (last next : Int) (U : Int → Int → Option Int) (ws : List Lo) (n : Nat) : Prop where
  pair : Pair l U ws
  nx : next = last
  low : 0 ≤ last
  high : last ≤ n
  top : ∀ x ∈ l, x.h ≤ last
  len : l.length ≤ n
  wlen : ws.length ≤ n

section
variable {l : List Se} {last next : Int} {U : Int → Int → Option Int} {ws : List Lo} {n : Nat}

theorem user_none (h : Rel U ws) (hv : ∀ c s v, U c s = some v → 0 ≤ v) (c s : Int) : U c s = none ↔ userOf ws c s = -1 := by
  have := (h c s).1
  cases hu : U c s with
  | none => rw [hu] at this; simp only [Option.getD_none] at this; simp [← this]
  | some v => rw [hu] at this; simp only [Option.getD_some] at this; have := hv c s v hu; simp; omega

theorem hasAt_iff {c s : Int} {x : Se} : hasAt c s x = true ↔ x.c = c ∧ x.s = s := by simp [hasAt]

theorem any_hasAt {c s : Int} {l : List Se} : l.any (hasAt c s) = true ↔ ∃ x ∈ l, x.c = c ∧ x.s = s := by
  simp only [List.any_eq_true, hasAt_iff]

/-- Two elements with one handle are one. -/
theorem same_handle (h : (l.map Se.h).Nodup) : ∀ {x y : Se}, x ∈ l → y ∈ l → x.h = y.h → x = y := by
  induction l with
  | nil => intro x y hx; cases hx
  | cons a l ih =>
    rw [List.map_cons, List.nodup_cons] at h
    intro x y hx hy he
    rcases List.mem_cons.1 hx with rfl | hx' <;> rcases List.mem_cons.1 hy with rfl | hy'
    · rfl
    · exact absurd (List.mem_map.2 ⟨y, hy', he.symm⟩) h.1
    · exact absurd (List.mem_map.2 ⟨x, hx', he⟩) h.1
    · exact ih h.2 hx' hy' he

theorem stay_nodup (h : (l.map Se.h).Nodup) (p : Se → Bool) : ((stay p l).map Se.h).Nodup :=
  h.sublist (List.Sublist.map _ List.filter_sublist)

/-- Where one handle goes, one element goes. -/
theorem erase_stay (h : (l.map Se.h).Nodup) {c hd : Int} : ∀ {k : Nat}, l.findIdx? (fun x => x.h == hd && x.c == c) = some k → l.eraseIdx k = stay (fun x => x.h == hd) l := by
  induction l with
  | nil => intro k hk; simp at hk
  | cons a l ih =>
    rw [List.map_cons, List.nodup_cons] at h
    intro k hk
    rw [List.findIdx?_cons] at hk
    by_cases ha : (a.h == hd && a.c == c) = true
    · rw [if_pos ha] at hk
      cases hk
      have hah : a.h = hd := by simpa using (Bool.and_eq_true_iff.1 ha).1
      have hr : stay (fun x => x.h == hd) l = l := by
        unfold stay
        rw [List.filter_eq_self]
        intro x hx
        have : x.h ≠ hd := fun e => h.1 (List.mem_map.2 ⟨x, hx, e.trans hah.symm⟩)
        simpa using this
      show l = stay _ (a :: l)
      unfold stay at hr ⊢
      rw [List.filter_cons, if_neg (by simp [hah]), hr]
    · rw [if_neg ha] at hk
      cases hf : l.findIdx? (fun x => x.h == hd && x.c == c) with
      | none => rw [hf] at hk; simp at hk
      | some j =>
        rw [hf] at hk
        simp at hk
        subst hk
        have hx : ∃ x ∈ l, x.h = hd := by
          have h1 := List.findIdx?_isSome (xs := l) (p := fun x => x.h == hd && x.c == c)
          rw [hf] at h1
          have h2 : l.any (fun x => x.h == hd && x.c == c) = true := by rw [← h1]; rfl
          obtain ⟨x, hx, hp⟩ := List.any_eq_true.1 h2
          exact ⟨x, hx, by simpa using (Bool.and_eq_true_iff.1 hp).1⟩
        obtain ⟨x, hx, hxh⟩ := hx
        have hah : a.h ≠ hd := fun e => h.1 (List.mem_map.2 ⟨x, hx, hxh.trans e.symm⟩)
        have := ih h.2 hf
        show a :: l.eraseIdx j = stay _ (a :: l)
        rw [this]
        unfold stay
        rw [List.filter_cons, if_pos (by simpa using hah)]

theorem out_user {c s c' s' : Int} : userOf (outW ws c s) c' s' = if c' = c ∧ s' = s then -1 else userOf ws c' s' := by
  unfold userOf outW
  by_cases he : c' = c ∧ s' = s
  · obtain ⟨rfl, rfl⟩ := he
    rw [if_pos ⟨rfl, rfl⟩]
    have : (ws.filter fun x => !Lo.at c' s' x).find? (Lo.at c' s') = none := by
      rw [List.find?_eq_none]
      intro x hx
      have := (List.mem_filter.1 hx).2
      simpa using this
    rw [this]
  · rw [if_neg he]
    have : (ws.filter fun x => !Lo.at c s x).find? (Lo.at c' s') = ws.find? (Lo.at c' s') := by
      rw [List.find?_filter]
      congr 1
      funext x
      cases hx : Lo.at c' s' x with
      | false => simp
      | true =>
        have : Lo.at c s x = false := by
          simp only [Lo.at, Bool.and_eq_true, beq_iff_eq] at hx
          obtain ⟨h1, h2⟩ := hx
          cases hz : Lo.at c s x with
          | false => rfl
          | true =>
            simp only [Lo.at, Bool.and_eq_true, beq_iff_eq] at hz
            exact absurd ⟨h1.symm.trans hz.1, h2.symm.trans hz.2⟩ he
        simp [this]
    rw [this]

/-- Sessions go, and the logins of places where none is left; said of the reference's logins. -/
theorem Pair.of_trim (h : Pair l U ws) {l' : List Se} {ws' : List Lo} (hn : (l'.map Se.h).Nodup) (hp : ∀ x ∈ ws', 0 ≤ x.u)
    (hu : ∀ c s, userOf ws' c s = if l'.any (hasAt c s) = true then userOf ws c s else -1) : Pair l' (trimU l' U) ws' := by
  refine ⟨?_, ?_, hp, hn, ?_⟩
  · intro c s
    rw [hu c s]
    unfold trimU
    split
    · exact h.rel c s
    · exact ⟨rfl, .inl rfl⟩
  · intro c s v hv
    unfold trimU at hv
    split at hv
    · exact h.vals c s v hv
    · cases hv
  · intro c s hc
    unfold trimU at hc
    split at hc
    · assumption
    · exact absurd rfl hc

theorem trim_trim {l1 l2 : List Se} (hs : ∀ x ∈ l2, x ∈ l1) : trimU l2 (trimU l1 U) = trimU l2 U := by
  funext c s
  unfold trimU
  split
  · rename_i h2
    obtain ⟨x, hx, hp⟩ := List.any_eq_true.1 h2
    rw [if_pos (List.any_eq_true.2 ⟨x, hs x hx, hp⟩)]
  · rfl

theorem trim_self (h : Pair l U ws) : trimU l U = U := by
  funext c s
  unfold trimU
  split
  · rfl
  · rename_i hn
    cases hu : U c s with
    | none => rfl
    | some v => exact absurd (h.opened c s (by rw [hu]; simp)) hn

theorem out_pos (h : ∀ x ∈ ws, 0 ≤ x.u) (c s : Int) : ∀ x ∈ outW ws c s, 0 ≤ x.u := fun x hx => h x (List.mem_filter.1 hx).1

/-- ONE STEP of closing. -/
theorem Pair.close (h : Pair l U ws) {c hd : Int} (hc : ∀ x ∈ l, x.h = hd → x.c = c) :
    rcloseL l c hd = stay (fun x => x.h == hd) l ∧ Pair (stay (fun x => x.h == hd) l) (trimU (stay (fun x => x.h == hd) l) U) (rcloseW l ws c hd) := by
  rcases placeOf_spec l c hd with ⟨-, hf, hi⟩ | ⟨k, x, -, hk, hx, hf, hxc, hxh, hi⟩
  · have hs : stay (fun x => x.h == hd) l = l := by
      unfold stay
      rw [List.filter_eq_self]
      intro x hx
      have : x.h ≠ hd := fun e => by
        have h1 := List.find?_eq_none.1 hf x hx
        simp [e, hc x hx e] at h1
      simpa using this
    rw [hs, trim_self h]
    unfold rcloseL rcloseW
    rw [hf, hi]
    exact ⟨rfl, h⟩
  · have hL : rcloseL l c hd = stay (fun x => x.h == hd) l := by
      unfold rcloseL
      rw [hi]
      exact erase_stay h.once hi
    refine ⟨hL, ?_⟩
    have hxl : x ∈ l := List.mem_of_getElem? hx
    have hkeep : ∀ c' s', ¬ (c' = c ∧ s' = x.s) → (stay (fun x => x.h == hd) l).any (hasAt c' s') = l.any (hasAt c' s') := by
      intro c' s' hne
      rw [Bool.eq_iff_iff, any_hasAt, any_hasAt]
      constructor
      · rintro ⟨y, hy, hp⟩
        exact ⟨y, (List.mem_filter.1 hy).1, hp⟩
      · rintro ⟨y, hy, hp⟩
        refine ⟨y, List.mem_filter.2 ⟨hy, ?_⟩, hp⟩
        have : y.h ≠ hd := by
          intro e
          have hyx := same_handle h.once hy hxl (e.trans hxh.symm)
          subst hyx
          exact hne ⟨hp.1.symm.trans hxc, hp.2.symm⟩
        simpa using this
    unfold rcloseW
    rw [hf]
    simp only
    rw [hL]
    split
    · rename_i hany
      refine h.of_trim (stay_nodup h.once _) h.pos fun c' s' => ?_
      by_cases hq : c' = c ∧ s' = x.s
      · obtain ⟨rfl, rfl⟩ := hq
        rw [if_pos hany]
      · rw [hkeep c' s' hq]
        split
        · rfl
        · rename_i hno
          rw [← user_none h.rel h.vals]
          cases hu : U c' s' with
          | none => rfl
          | some v => exact absurd (h.opened c' s' (by rw [hu]; simp)) hno
    · rename_i hany
      refine h.of_trim (stay_nodup h.once _) (out_pos h.pos _ _) fun c' s' => ?_
      rw [out_user]
      by_cases hq : c' = c ∧ s' = x.s
      · obtain ⟨rfl, rfl⟩ := hq
        rw [if_pos ⟨rfl, rfl⟩, if_neg hany]
      · rw [if_neg hq, hkeep c' s' hq]
        split
        · rfl
        · rename_i hno
          rw [← user_none h.rel h.vals]
          cases hu : U c' s' with
          | none => rfl
          | some v => exact absurd (h.opened c' s' (by rw [hu]; simp)) hno

theorem stay_stay (p q : Se → Bool) (l : List Se) : stay q (stay p l) = stay (fun x => p x || q x) l := by
  unfold stay
  rw [List.filter_filter]
  congr 1
  funext x
  show (!q x && !p x) = !(p x || q x)
  cases p x <;> cases q x <;> rfl

/-- MANY. -/
theorem Pair.many : ∀ (hs : List Int) {l : List Se} {U : Int → Int → Option Int} {ws : List Lo} {c : Int}, Pair l U ws → (∀ x ∈ l, x.h ∈ hs → x.c = c) →
    (rfold c hs (l, ws)).1 = stay (fun x => hs.contains x.h) l ∧ Pair (stay (fun x => hs.contains x.h) l) (trimU (stay (fun x => hs.contains x.h) l) U) (rfold c hs (l, ws)).2 ∧ (rfold c hs (l, ws)).2.length ≤ ws.length
  | [], l, U, ws, c, h, _ => by
    have e : stay (fun x => ([] : List Int).contains x.h) l = l := by
      unfold stay
      rw [List.filter_eq_self]
      intro x _
      rfl
    rw [e, trim_self h]
    exact ⟨rfl, h, Nat.le_refl _⟩
  | a :: hs, l, U, ws, c, h, hc => by
    obtain ⟨h1, h2⟩ := h.close (c := c) (hd := a) (fun x hx e => hc x hx (by rw [e]; exact List.mem_cons_self))
    have h3 := Pair.many hs (c := c) h2 (fun x hx hm => hc x (List.mem_filter.1 hx).1 (List.mem_cons_of_mem _ hm))
    have e0 : rfold c (a :: hs) (l, ws) = rfold c hs (stay (fun x => x.h == a) l, rcloseW l ws c a) := by
      show rfold c hs (rcloseL l c a, rcloseW l ws c a) = _
      rw [h1]
    have e1 : stay (fun x => hs.contains x.h) (stay (fun x => x.h == a) l) = stay (fun x => (a :: hs).contains x.h) l := by
      rw [stay_stay]
      congr 1
    rw [e0]
    rw [e1, trim_trim (fun x hx => by
      rw [← e1] at hx
      exact (List.mem_filter.1 hx).1)] at h3
    exact ⟨h3.1, h3.2.1, Nat.le_trans h3.2.2 (rcloseW_le _ _ _ _)⟩

/-- Those that are so. -/
theorem gone_stay (h : (l.map Se.h).Nodup) (p : Se → Bool) : stay (fun x => (goneOf p l).contains x.h) l = stay p l := by
  unfold stay
  apply List.filter_congr
  intro x hx
  congr 1
  rw [Bool.eq_iff_iff]
  unfold goneOf
  rw [List.contains_iff_mem, List.mem_map]
  constructor
  · rintro ⟨y, hy, e⟩
    have hym := List.mem_filter.1 hy
    rw [same_handle h hx hym.1 e.symm]
    exact hym.2
  · intro hp
    exact ⟨x, List.mem_filter.2 ⟨hx, hp⟩, rfl⟩

theorem Pair.gone (h : Pair l U ws) {p : Se → Bool} {c : Int} (hp : ∀ x ∈ l, p x = true → x.c = c) :
    (rfold c (goneOf p l) (l, ws)).1 = stay p l ∧ Pair (stay p l) (trimU (stay p l) U) (rfold c (goneOf p l) (l, ws)).2 ∧ (rfold c (goneOf p l) (l, ws)).2.length ≤ ws.length := by
  have := Pair.many (goneOf p l) (c := c) h (fun x hx hm => by
    unfold goneOf at hm
    obtain ⟨y, hy, e⟩ := List.mem_map.1 hm
    have hym := List.mem_filter.1 hy
    rw [same_handle h.once hx hym.1 e.symm]
    exact hp y hym.1 hym.2)
  rw [gone_stay h.once] at this
  exact this

end
end Go.Proofs.Ytlfdcfgpbigjdaa
