/- slices.Insert of one attribute. -/
import Derived.Test.YthmhmgmdajjpmaaIns0
namespace Go.Proofs.Ythmhmgmdajjpmaa
set_option linter.unusedVariables false
set_option linter.unusedSimpArgs false
open Go.RowKit

def Inserted (B : Nat) (v : Value) (n : Nat) (xs : List Value) (w : World) (e : Ending) (w' : World) : Prop :=
  ∃ p cap, e = .returned (.slice p (n + 1) cap) ∧ w'.ownsRow B 24 2 (.slice p (n + 1) cap) (n + 1) xs ∧ Chg (fun k => v.ownBlock = some k) w w'

theorem lay_ins {L : List Value} {i n : Nat} {x y : Value} (hi : i < n) (hL : (n + 1) * 2 ≤ L.length) :
    (lay (lay L ((i + 1) * 2) ((L.take (n * 2)).drop (i * 2))) (i * 2) [x, y]).take ((n + 1) * 2) = L.take (i * 2) ++ ([x, y] ++ (L.take (n * 2)).drop (i * 2)) := by
  have hc : ((L.take (n * 2)).drop (i * 2)).length = (n - i) * 2 := by rw [List.length_drop, List.length_take]; omega
  generalize (L.take (n * 2)).drop (i * 2) = cs at *
  have h1 : (lay L ((i + 1) * 2) cs).take (i * 2) = L.take (i * 2) := by
    unfold lay
    rw [List.append_assoc, List.take_append_of_le_length (by rw [List.length_take]; omega), List.take_take]
    congr 1
    omega
  have h2 : (lay L ((i + 1) * 2) cs).drop (i * 2 + 2) = cs ++ L.drop ((i + 1) * 2 + cs.length) := by
    unfold lay
    rw [List.append_assoc, List.drop_append_of_le_length (by rw [List.length_take]; omega), List.drop_of_length_le (by rw [List.length_take]; omega), List.nil_append]
  have h3 : lay (lay L ((i + 1) * 2) cs) (i * 2) [x, y] = L.take (i * 2) ++ ([x, y] ++ cs) ++ L.drop ((i + 1) * 2 + cs.length) := by
    show (lay L ((i + 1) * 2) cs).take (i * 2) ++ [x, y] ++ (lay L ((i + 1) * 2) cs).drop (i * 2 + 2) = _
    rw [h1, h2]
    simp
  rw [h3, List.take_append_of_le_length (by simp only [List.length_append, List.length_take, List.length_cons, List.length_nil]; omega), List.take_of_length_le (by simp only [List.length_append, List.length_take, List.length_cons, List.length_nil]; omega)]

section
variable {w : World} {B nb n i cap g : Nat} {v x y : Value} {xs : List Value} {cur : Array Value}

set_option maxRecDepth 100000 in
set_option maxHeartbeats 8000000 in
theorem insert_end (hv : w.ownsRow B 24 2 v n xs) (hB : B ≤ w.heap.size) (hnb : w.heap[nb]? = some (.cells #[x, y] 24 (0, 0))) (hx : x.oneCell' = true) (hy : y.oneCell' = true) (hn : n ≤ 1000) :
    Calls Try.prog 41 #[v, .int .i64 n, .slice (some ⟨nb, 0, none⟩) 1 1] w (Inserted B v n (xs ++ [x, y]) w) := by
  obtain ⟨i24, hi24, hz24, hs24, hb24⟩ := info_parts Try.info24
  have HV := hid hv
  obtain ⟨a, cap, rfl, hc1, hc2⟩ := ownsRow_form hv
  have HN := hid hnb
  have hcc : cap ≤ 9223372036854775807 := by unfold maxLen at hc2; omega
  clear hv hnb
  by_cases hcn : cap = n
  · subst hcn
    go_enter Try.func41, Try.ntmps41
    go_wp2_with (at_builtin; refine push_list _ rfl (.tmp 23) (.tmp 24) 35 rfl 24 i24 _ 2 32 Try.underlying35 hi24 hz24 hs24 hb24 rfl (by decide) B hB (.slice a cap cap) cap xs rfl HV.out nb [x, y] rfl HN.out rfl (by intro u hu; simp at hu; rcases hu with rfl | rfl <;> assumption) (by unfold maxLen; omega) (by omega) ?_; intro g2 cap2 W2 hown2 hc2' hat2 hlt2)
    go_wp2_with fail
    go_ret
    exact ⟨_, _, rfl, hown2, hc2'⟩
  · go_enter Try.func41, Try.ntmps41
    go_wp2_with (at_builtin; refine push_list _ rfl (.tmp 23) (.tmp 24) 35 rfl 24 i24 _ 2 32 Try.underlying35 hi24 hz24 hs24 hb24 rfl (by decide) B hB (.slice a n cap) n xs rfl HV.out nb [x, y] rfl HN.out rfl (by intro u hu; simp at hu; rcases hu with rfl | rfl <;> assumption) (by unfold maxLen; omega) (by omega) ?_; intro g2 cap2 W2 hown2 hc2' hat2 hlt2)
    go_wp2_with fail
    go_ret
    exact ⟨_, _, rfl, hown2, hc2'⟩

set_option maxRecDepth 100000 in
set_option maxHeartbeats 8000000 in
theorem insert_shift (hg : w.heap[g]? = some (.cells cur 24 (0, 0))) (hcs : cur.size = cap * 2) (hcap : cap ≤ maxLen) (h1 : ∀ u ∈ cur.toList.take (n * 2), u.oneCell' = true) (hnb : w.heap[nb]? = some (.cells #[x, y] 24 (0, 0))) (hne : nb ≠ g) (hx : x.oneCell' = true) (hy : y.oneCell' = true) (hn : n ≤ 1000)
    (hi : i < n) (hroom : n + 1 ≤ cap) (hBg : B ≤ g) :
    Calls Try.prog 41 #[.slice (some ⟨g, 0, none⟩) n cap, .int .i64 i, .slice (some ⟨nb, 0, none⟩) 1 1] w (Inserted B (.slice (some ⟨g, 0, none⟩) n cap) n (cur.toList.take (i * 2) ++ ([x, y] ++ (cur.toList.take (n * 2)).drop (i * 2))) w) := by
  have hcc : cap ≤ 9223372036854775807 := by unfold maxLen at hcap; omega
  have hov : ∀ o lb cb, (callFunc 45 #[.slice (some ⟨nb, 0, none⟩) 1 1, .slice (some ⟨g, o, none⟩) lb cb]).run Try.prog w = .ok (.value (.bool false)) w := fun o lb cb => run_overlaps w nb g o lb cb 1 1 hne hnb hg (by omega)
  have HG := hid (show w.heap[g]? = some (.cells cur.toList.toArray 24 (0, 0)) by simpa using hg)
  have HN := hid hnb
  have H1 := hid h1
  have HCS := hid hcs
  have b1 : ((i : Int) == (n : Int)) = false := by simp; omega
  have b2 : ¬ ((cap : Int) < (n : Int) + 1) := by omega
  have b3 : ¬ cap = i + 1 := by omega
  have b4 : ¬ cap = i := by omega
  have hb1 : (0 : Int) ≤ (i : Int) + 1 := by omega
  have hw1 : IntKind.i64.wrap ((i : Int) + 1) = (i : Int) + 1 := by rw [IntKind.wrap_i64]; omega
  have hb5 : (i : Int) + 1 ≤ (n : Int) + 1 := by omega
  have hb6 : (i : Int) + 1 ≤ (cap : Int) := by omega
  have hin : i ≤ n := by omega
  have htn : ((i : Int) + 1).toNat = i + 1 := by omega
  have hb3 : (i : Int) ≤ (n : Int) + 1 := by omega
  have HB3 := hid b3
  have HB4 := hid b4
  obtain ⟨cs, hcs'⟩ : ∃ cs, cs = (cur.toList.take (n * 2)).drop (i * 2) := ⟨_, rfl⟩
  have HC := hid (show cs.length = (n - i) * 2 by rw [hcs', List.length_drop, List.length_take, Array.length_toList]; omega)
  have HO : Hid (∀ u ∈ cs, u.oneCell' = true) := fun u hu => by rw [hcs'] at hu; exact h1 u (List.mem_of_mem_drop hu)
  have HS : Hid (∀ W : World, (∀ a, W.cell? a = w.cell? a) → ∀ j u, cs[j]? = some u → W.cell? ((⟨g, i * 2, none⟩ : Addr).add j) = some u) := by
    intro W hW j u hj
    rw [hW, addr_add, cell_of_heap hg, ← Array.getElem?_toList]
    rw [hcs', List.getElem?_drop, List.getElem?_take] at hj
    split at hj
    · exact hj
    · cases hj
  have HCS' := hid hcs'
  clear hg hnb h1 hcs hcs'
  go_enter Try.func41, Try.ntmps41
  go_wp2_with (simp only [hov])
  go_region_held3 (fun w' => True) (exact trivial)
    ((refine step_copy2 (g := g) (o := (i + 1) * 2) (cur := cur.toList) (cs := cs) (by rfl) _ _ (by rfl) (by rfl) (by rfl) (by exact HG.out) (by rw [HC.out]; simp only [Nat.min_def]; split <;> omega) (by exact HS.out _ (fun _ => rfl)) (by rw [HC.out]; have := HCS.out; simp; omega) HO.out ?_; intro W2 hg2 hc2))
  have hN2 : W2.heap[nb]? = some (.cells #[x, y] 24 (0, 0)) := by rw [hc2.block nb (by exact lt_of_heap HN.out) (by exact hne)]; exact HN.out
  have HN2 := hid hN2
  have HC2 : Hid (Chg (fun k => k = g) w W2) := ((Chg.refl _ w).drew).trans hc2 (fun k hk => .inl hk)
  have HG2 := hid hg2
  clear hN2 hc2
  go_wp2_with (refine list_copy2 (op := ⟨some 82, _, _, _, _, _⟩) (g := g) (o := i * 2) (cur := lay cur.toList ((i + 1) * 2) cs) (cs := [x, y]) rfl (.tmp 80) (.tmp 81) rfl rfl rfl HG2.out.out (by simp only [Nat.min_def]; split <;> simp <;> omega) (World.news_of_block HN2.out) (by rw [lay_length (by rw [HC.out]; have := HCS.out; simp; omega)]; have := HCS.out; simp; omega) (by intro u hu; simp at hu; rcases hu with rfl | rfl <;> assumption) ?_; intro W3 hg3 hc3)
  have HG3 := hid hg3
  have HC3 := hid hc3
  clear hg3 hc3
  go_ret
  have hcs0 := HCS.out
  have hlen1 : ((i + 1) * 2) + cs.length ≤ cur.toList.length := by rw [HC.out]; simp; omega
  have hlen2 : (lay (lay cur.toList ((i + 1) * 2) cs) (i * 2) [x, y]).length = cap * 2 := by rw [lay_length (by rw [lay_length hlen1]; simp; omega), lay_length hlen1]; simpa using hcs0
  refine ⟨_, _, rfl, ⟨?_, .inr ⟨g, cap, _, rfl, hBg, HG3.out.out, hroom, hcap, ?_, ?_⟩⟩, Chg.trans HC2.out (HC3.out) (fun k hk => .inl hk) |>.mono (fun k hk _ => by subst hk; rfl)⟩
  · simp only [List.length_append, List.length_cons, List.length_nil, List.length_take, List.length_drop, Array.length_toList]
    omega
  · simpa using hlen2
  · rw [List.toList_toArray, HCS'.out, lay_ins hi (by simp; omega)]
    simp
end
end Go.Proofs.Ythmhmgmdajjpmaa
