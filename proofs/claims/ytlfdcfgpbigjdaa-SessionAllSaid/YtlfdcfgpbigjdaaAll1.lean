/- Both tables go alike: each call's plain law. -/
import Derived.Test.YtlfdcfgpbigjdaaAll0
namespace Go.Proofs.Ytlfdcfgpbigjdaa
set_option linter.unusedVariables false
set_option linter.unusedSimpArgs false
open Go.RowKit

section
variable {l : List Se} {last next : Int} {U : Int → Int → Option Int} {ws : List Lo} {n : Nat}

theorem alike_new : Alike [] 0 0 (fun _ _ => none) [] 0 :=
  ⟨⟨fun _ _ => ⟨rfl, .inl rfl⟩, (by intro c s v h; cases h), (by intro x hx; cases hx), List.nodup_nil, fun c s h => absurd rfl h⟩, rfl, Int.le_refl _, Int.le_refl _, (by intro x hx; cases hx), Nat.le_refl _, Nat.le_refl _⟩

theorem Alike.up (h : Alike l last next U ws n) : Alike l last next U ws (n + 1) :=
  ⟨h.pair, h.nx, h.low, by have := h.high; omega, h.top, by have := h.len; omega, by have := h.wlen; omega⟩

theorem Alike.openRV (h : Alike l last next U ws n) (c s : Int) (rw : Bool) : openRV l U c s rw = ropenRV l ws c s rw := by
  unfold Go.Proofs.Ytlfdcfgpbigjdaa.openRV ropenRV
  rw [(h.pair.rel c s).1]
  by_cases hs : 0 ≤ s ∧ s < 4
  · have h1 : ¬ ¬ (0 ≤ s ∧ s < 4) := fun h => h hs
    have h2 : ¬ (s < 0 ∨ 4 ≤ s) := by omega
    rw [if_neg h1, if_neg h2]
  · have h2 : s < 0 ∨ 4 ≤ s := by omega
    rw [if_pos hs, if_pos h2]

theorem Alike.opens (h : Alike l last next U ws n) (c s : Int) (rw : Bool) : Alike (l ++ [⟨last + 1, c, s, rw⟩]) (last + 1) (next + 1) U ws (n + 1) := by
  refine ⟨⟨h.pair.rel, h.pair.vals, h.pair.pos, ?_, ?_⟩, by rw [h.nx], by have := h.low; omega, by have := h.high; omega, ?_, by have := h.len; simp; omega, by have := h.wlen; omega⟩
  · rw [List.map_append, List.nodup_append]
    refine ⟨h.pair.once, by simp, ?_⟩
    intro a ha b hb
    obtain ⟨x, hx, rfl⟩ := List.mem_map.1 ha
    have hb' : b = last + 1 := by simpa using hb
    have := h.top x hx
    omega
  · intro c' s' hu
    rw [List.any_append, h.pair.opened c' s' hu]
    rfl
  · intro x hx
    rcases List.mem_append.1 hx with hx | hx
    · have := h.top x hx
      omega
    · rw [List.mem_singleton.1 hx]
      exact Int.le_refl _

theorem stay_len (p : Se → Bool) (l : List Se) : (stay p l).length ≤ l.length := List.length_filter_le _ _

theorem Alike.of_pair (h : Alike l last next U ws n) {p : Se → Bool} {U' : Int → Int → Option Int} {ws' : List Lo} (hp : Pair (stay p l) U' ws') (hw : ws'.length ≤ ws.length) : Alike (stay p l) last next U' ws' (n + 1) :=
  ⟨hp, h.nx, h.low, by have := h.high; omega, fun x hx => h.top x (List.mem_filter.1 hx).1, by have := h.len; have := stay_len p l; omega, by have := h.wlen; omega⟩

theorem Alike.closes (h : Alike l last next U ws n) (c hd : Int) : rcloseL l c hd = closeL l c hd ∧ Alike (closeL l c hd) last next (closeU l U c hd) (rcloseW l ws c hd) (n + 1) := by
  unfold closeL closeU
  cases hf : findSe l c hd with
  | none =>
    have hw : rcloseW l ws c hd = ws := by unfold rcloseW; rw [hf]
    have hl : rcloseL l c hd = l := by
      rcases placeOf_spec l c hd with ⟨-, -, hi⟩ | ⟨k, x, -, -, -, hf', -, -, -⟩
      · unfold rcloseL; rw [hi]
      · rw [hf] at hf'; cases hf'
    rw [hw, hl]
    exact ⟨rfl, h.up⟩
  | some x =>
    have hm := List.mem_of_find?_eq_some hf
    have hp := List.find?_some hf
    simp only [Bool.and_eq_true, beq_iff_eq] at hp
    obtain ⟨h1, h2⟩ := h.pair.close (c := c) (hd := hd) (fun y hy e => by rw [same_handle h.pair.once hy hm (e.trans hp.1.symm)]; exact hp.2)
    exact ⟨h1, h.of_pair h2 (rcloseW_le _ _ _ _)⟩

theorem Alike.gone (h : Alike l last next U ws n) {p : Se → Bool} {c : Int} (hp : ∀ x ∈ l, p x = true → x.c = c) :
    (rfold c (goneOf p l) (l, ws)).1 = stay p l ∧ Alike (stay p l) last next (trimU (stay p l) U) (rfold c (goneOf p l) (l, ws)).2 (n + 1) := by
  obtain ⟨h1, h2, h3⟩ := h.pair.gone hp
  exact ⟨h1, h.of_pair h2 h3⟩

theorem pall_at {c s : Int} (hs : 0 ≤ s) : pall c s = hasAt c s := by
  funext x
  have : (s == -1) = false := by simp; omega
  unfold pall hasAt
  rw [this, Bool.false_or]

theorem pall_all {c : Int} : pall c (-1) = fun x => x.c == c := by
  funext x
  unfold pall
  simp

theorem putU_user {U : Int → Int → Option Int} {c s : Int} {v : Option Int} (c' s' : Int) : putU U c s v c' s' = if c' = c ∧ s' = s then v else U c' s' := rfl

theorem may_zero {c s u : Int} (h : mayOf l U c s u = 0) : (u = 0 ∨ u = 1) ∧ (U c s).getD (-1) = -1 ∧ l.any (hasAt c s) = true := by
  unfold mayOf at h
  split at h
  · cases h
  · split at h
    · cases h
    · split at h
      · cases h
      · split at h
        · cases h
        · split at h
          · cases h
          · rename_i h1 h2 h3 h4 h5
            refine ⟨by omega, by omega, by simpa using h5⟩

theorem user_free (hp : ∀ x ∈ ws, 0 ≤ x.u) {c s : Int} (h : userOf ws c s = -1) : ws.find? (Lo.at c s) = none := by
  unfold userOf at h
  cases hf : ws.find? (Lo.at c s) with
  | none => rfl
  | some x =>
    rw [hf] at h
    have := hp x (List.mem_of_find?_eq_some hf)
    simp only at h
    omega

theorem user_put (hp : ∀ x ∈ ws, 0 ≤ x.u) {c s u : Int} (h : userOf ws c s = -1) (c' s' : Int) : userOf (ws ++ [⟨c, s, u⟩]) c' s' = if c' = c ∧ s' = s then u else userOf ws c' s' := by
  by_cases he : c' = c ∧ s' = s
  · obtain ⟨rfl, rfl⟩ := he
    rw [if_pos ⟨rfl, rfl⟩]
    unfold userOf
    rw [List.find?_append, user_free hp h]
    simp [Lo.at]
  · rw [if_neg he]
    unfold userOf
    rw [List.find?_append]
    have : [(⟨c, s, u⟩ : Lo)].find? (Lo.at c' s') = none := by
      rw [List.find?_eq_none]
      intro x hx
      rw [List.mem_singleton.1 hx]
      simp only [Lo.at, Bool.and_eq_true, beq_iff_eq]
      rintro ⟨h1, h2⟩
      exact he ⟨h1.symm, h2.symm⟩
    rw [this]
    simp

theorem Alike.login (h : Alike l last next U ws n) (c s u : Int) : mayOf l U c s u = rmayOf l ws c s u ∧ Alike l last next (loginU l U c s u) (rloginW l ws c s u) (n + 1) := by
  have hm := rel_may h.pair.rel l c s u
  refine ⟨hm, ?_⟩
  unfold loginU rloginW
  rw [← hm]
  split
  · rename_i h0
    obtain ⟨hu, hfree, hany⟩ := may_zero h0
    have hf : userOf ws c s = -1 := by rw [← (h.pair.rel c s).1]; exact hfree
    refine ⟨⟨?_, ?_, ?_, h.pair.once, ?_⟩, h.nx, h.low, by have := h.high; omega, h.top, by have := h.len; omega, by have := h.wlen; simp; omega⟩
    · intro c' s'
      rw [user_put h.pair.pos hf, putU_user]
      split
      · refine ⟨rfl, .inr ?_⟩
        omega
      · exact h.pair.rel c' s'
    · intro c' s' v hv
      rw [putU_user] at hv
      split at hv
      · cases hv
        omega
      · exact h.pair.vals c' s' v hv
    · intro x hx
      rcases List.mem_append.1 hx with hx | hx
      · exact h.pair.pos x hx
      · rw [List.mem_singleton.1 hx]
        show 0 ≤ u
        omega
    · intro c' s' hn
      rw [putU_user] at hn
      split at hn
      · rename_i he
        obtain ⟨rfl, rfl⟩ := he
        exact hany
      · exact h.pair.opened c' s' hn
  · exact h.up

theorem Alike.logout (h : Alike l last next U ws n) (c s : Int) :
    logoutOf U c s = (if userOf ws c s < 0 then 257 else 0) ∧ Alike l last next (logoutU U c s) (if userOf ws c s < 0 then ws else outW ws c s) (n + 1) := by
  have h1 := (h.pair.rel c s).1
  have h2 := (h.pair.rel c s).2
  unfold logoutOf logoutU
  rw [h1]
  by_cases hn : userOf ws c s = -1
  · rw [if_pos hn, if_pos hn, if_pos (by omega), if_pos (by omega)]
    exact ⟨rfl, h.up⟩
  · rw [if_neg hn, if_neg hn, if_neg (by omega), if_neg (by omega)]
    refine ⟨rfl, ⟨⟨?_, ?_, out_pos h.pair.pos c s, h.pair.once, ?_⟩, h.nx, h.low, by have := h.high; omega, h.top, by have := h.len; omega, ?_⟩⟩
    · intro c' s'
      rw [out_user, putU_user]
      split
      · exact ⟨rfl, .inl rfl⟩
      · exact h.pair.rel c' s'
    · intro c' s' v hv
      rw [putU_user] at hv
      split at hv
      · cases hv
      · exact h.pair.vals c' s' v hv
    · intro c' s' hq
      rw [putU_user] at hq
      split at hq
      · exact absurd rfl hq
      · exact h.pair.opened c' s' hq
    · have := h.wlen
      have : (outW ws c s).length ≤ ws.length := List.length_filter_le _ _
      omega
end
end Go.Proofs.Ytlfdcfgpbigjdaa
