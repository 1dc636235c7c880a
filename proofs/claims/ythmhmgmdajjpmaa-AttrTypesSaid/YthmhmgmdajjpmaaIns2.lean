/- slices.Insert of one attribute where there is no room. -/
import Derived.Test.YthmhmgmdajjpmaaIns
namespace Go.Proofs.Ythmhmgmdajjpmaa
set_option linter.unusedVariables false
set_option linter.unusedSimpArgs false
open Go.RowKit

theorem lay_ins2 {L cs : List Value} {i n : Nat} {x y : Value} (hi : i < n) (hc : cs.length = (n - i) * 2) (hL : (n + 1) * 2 ≤ L.length) :
    (lay (lay L (i * 2) [x, y]) ((i + 1) * 2) cs).take ((n + 1) * 2) = L.take (i * 2) ++ ([x, y] ++ cs) := by
  have h1 : (lay L (i * 2) [x, y]).take ((i + 1) * 2) = L.take (i * 2) ++ [x, y] := by
    unfold lay
    rw [List.take_append_of_le_length (by simp only [List.length_append, List.length_take, List.length_cons, List.length_nil]; omega), List.take_of_length_le (by simp only [List.length_append, List.length_take, List.length_cons, List.length_nil]; omega)]
  have h3 : lay (lay L (i * 2) [x, y]) ((i + 1) * 2) cs = L.take (i * 2) ++ ([x, y] ++ cs) ++ (lay L (i * 2) [x, y]).drop ((i + 1) * 2 + cs.length) := by
    show (lay L (i * 2) [x, y]).take ((i + 1) * 2) ++ cs ++ _ = _
    rw [h1]
    simp
  rw [h3, List.take_append_of_le_length (by simp only [List.length_append, List.length_take, List.length_cons, List.length_nil]; omega), List.take_of_length_le (by simp only [List.length_append, List.length_take, List.length_cons, List.length_nil]; omega)]

section
variable {w : World} {B nb n i cap g : Nat} {v x y : Value} {xs : List Value} {cur : List Value}

theorem run_zeros (hg : w.heap[g]? = some (.cells cur.toArray 24 (0, 0))) (hcs : cur.length = n * 2) (hi : i < n) (hn : n ≤ 1000) (ty : TypeId) :
    ∃ G ROW W1, (Builtin.append_ #[35, 3] ty #[.slice (some ⟨g, 0, none⟩) i n, .int .i64 ((n : Int) + 1 - (i : Int))]).run Try.prog w = .ok (.slice (some ⟨w.heap.size, 0, none⟩) (n + 1) G) W1 ∧
      W1.heap[w.heap.size]? = some (.cells (ROW : List Value).toArray 24 (0, 0)) ∧ ROW.length = G * 2 ∧ ROW.take (i * 2) = cur.take (i * 2) ∧ n + 1 ≤ G ∧ G ≤ maxLen ∧ Same w W1 := by
  obtain ⟨i0, hi0, hz0, hzs, hzb⟩ := info_parts Try.info24
  have hold : (Builtin.firstCells i0.size i (.slice (some ⟨g, 0, none⟩) i n)).run Try.prog w.drew = .ok (cur.take (i * 2)).toArray w.drew := by
    rw [hzs]
    exact run_firstCells_some w.drew 2 i ⟨g, 0, none⟩ i n (cur.take (i * 2)) (by rw [List.length_take]; omega) (fun j v hj => by
      rw [addr_add]
      show w.cell? _ = _
      rw [cell_of_heap hg]
      rw [List.getElem?_take] at hj
      split at hj
      · simpa using hj
      · cases hj)
  have h := Lib.run_append_grow_zeros w 35 3 ty 24 i0 _ .i64 .i64 Try.underlying35 Try.underlying3 hi0 hz0 (some ⟨g, 0, none⟩) i n (cur.take (i * 2)) hold (n + 1 - i) (by omega) (by omega) (by omega) (by omega) (by rw [hzb]; omega) (by rw [hzb]; exact growslice_fits (by omega) (by omega))
  rw [show i + (n + 1 - i) = n + 1 by omega, show ((n + 1 - i : Nat) : Int) = (n : Int) + 1 - (i : Int) by omega] at h
  refine ⟨grownCap w (n + 1) n 24, cur.take (i * 2) ++ ((Builtin.zeroCells #[.int .i64 0, .slice none 0 0] (n + 1 - i)).toList ++ (Builtin.zeroCells #[.int .i64 0, .slice none 0 0] (grownCap w (n + 1) n 24 - (n + 1))).toList), _, h, ?_, ?_, ?_, grownCap_ge w _ _ _, grownCap_le_maxLen w _ _ _ (by unfold maxLen; omega), ((Chg.refl _ w).drew).alloc _⟩
  · have := heap_alloc_new w.drew (.cells ((cur.take (i * 2)).toArray ++ Builtin.zeroCells #[.int .i64 0, .slice none 0 0] (n + 1 - i) ++ Builtin.zeroCells #[.int .i64 0, .slice none 0 0] (grownCap w (n + 1) n 24 - (n + 1))) 24)
    have e : (Value.agg #[.int .i64 0, .slice none 0 0]).cells = #[.int .i64 0, .slice none 0 0] := rfl
    rw [e]
    refine this.trans ?_
    congr 2
    apply Array.ext'
    simp
  · have := grownCap_ge w (n + 1) n 24
    simp only [List.length_append, List.length_take, Array.length_toList, size_zeroCells, List.size_toArray, List.length_cons, List.length_nil]
    omega
  · rw [List.take_append_of_le_length (by rw [List.length_take]; omega), List.take_of_length_le (by rw [List.length_take]; omega)]

theorem list_zeros {ops : Array Oper} {rest : List Oper} {op : Oper} {a : Act} {Q : Exit → Act → World → Prop} (hgd : op.guard = none) (s u : Operand)
    (ho : op.op = .call { callee := .builtin .append, args := #[s, u], argTypes := #[35, 3] }) (hs : a.eval s = .slice (some ⟨g, 0, none⟩) i n) (hu : a.eval u = .int .i64 ((n : Int) + 1 - (i : Int)))
    (hg : w.heap[g]? = some (.cells cur.toArray 24 (0, 0))) (hcs : cur.length = n * 2) (hi : i < n) (hn : n ≤ 1000)
    (h : ∀ G ROW W1, Hid (W1.heap[w.heap.size]? = some (.cells (ROW : List Value).toArray 24 (0, 0))) → Hid (ROW.length = G * 2) → Hid (ROW.take (i * 2) = cur.take (i * 2)) → n + 1 ≤ G → G ≤ 9223372036854775807 → Same w W1 →
      wpList Try.prog ops Q rest (a.put op.dst (.slice (some ⟨w.heap.size, 0, none⟩) (n + 1) G)) W1) : wpList Try.prog ops Q (op :: rest) a w := by
  obtain ⟨G, ROW, W1, hr, h1, h2, h3, h4, h5, h6⟩ := run_zeros hg hcs hi hn op.type
  exact Lib.wpList_append_run w hgd s u 35 3 ho _ _ hs hu _ _ hr (h G ROW W1 h1 h2 h3 h4 (by unfold maxLen at h5; omega) h6)

set_option maxRecDepth 100000 in
set_option maxHeartbeats 8000000 in
theorem insert_grow (hg : w.heap[g]? = some (.cells cur.toArray 24 (0, 0))) (hcs : cur.length = n * 2) (h1 : ∀ u ∈ cur, u.oneCell' = true) (hnb : w.heap[nb]? = some (.cells #[x, y] 24 (0, 0))) (hx : x.oneCell' = true) (hy : y.oneCell' = true) (hn : n ≤ 1000)
    (hi : i < n) (hBw : B ≤ w.heap.size) :
    Calls Try.prog 41 #[.slice (some ⟨g, 0, none⟩) n n, .int .i64 i, .slice (some ⟨nb, 0, none⟩) 1 1] w (Inserted B (.slice (some ⟨g, 0, none⟩) n n) n (cur.take (i * 2) ++ ([x, y] ++ cur.drop (i * 2))) w) := by
  have HG := hid hg
  have HN := hid hnb
  have H1 := hid h1
  have HCS := hid hcs
  have b1 : ((i : Int) == (n : Int)) = false := by simp; omega
  have b2 : (n : Int) < (n : Int) + 1 := by omega
  have b4 : ¬ n = i := by omega
  have hb1 : (0 : Int) ≤ (i : Int) + 1 := by omega
  have hw1 : IntKind.i64.wrap ((i : Int) + 1) = (i : Int) + 1 := by rw [IntKind.wrap_i64]; omega
  have hb5 : (i : Int) + 1 ≤ (n : Int) + 1 := by omega
  have hin : i ≤ n := by omega
  have htn : ((i : Int) + 1).toNat = i + 1 := by omega
  have hb3 : (i : Int) ≤ (n : Int) + 1 := by omega
  have hb7 : (i : Int) ≤ (n : Int) := by omega
  have hgs : g < w.heap.size := lt_of_heap hg
  obtain ⟨cs, hcs'⟩ : ∃ cs, cs = cur.drop (i * 2) := ⟨_, rfl⟩
  have HC := hid (show cs.length = (n - i) * 2 by rw [hcs', List.length_drop]; omega)
  have HO : Hid (∀ u ∈ cs, u.oneCell' = true) := fun u hu => by rw [hcs'] at hu; exact h1 u (List.mem_of_mem_drop hu)
  have HCS' := hid hcs'
  clear hg hnb h1 hcs hcs'
  go_enter Try.func41, Try.ntmps41
  have hF1 := hid (show ([x, y] : List Value).length = Nat.min 1 (n + 1 - i) * 2 by simp only [Nat.min_def, List.length_cons, List.length_nil]; split <;> omega)
  have hF3 : Hid (∀ u ∈ ([x, y] : List Value), u.oneCell' = true) := by intro u hu; simp at hu; rcases hu with rfl | rfl <;> assumption
  go_wp2_with (first
    | (refine list_zeros (op := ⟨some 40, _, _, _, _, _⟩) (g := g) (i := i) (n := n) (cur := cur) rfl (.tmp 34) (.tmp 39) rfl rfl rfl HG.out HCS.out hi hn ?_; intro G ROW W1 hr1 hr2 hr3 hG1 hG2 hs1; have hGi : ¬ (G = i + 1) := (by omega); have hGj : ¬ (G = i) := (by omega); have HN1 : Hid (W1.heap[nb]? = some (.cells #[x, y] 24 (0, 0))) := (hs1.block nb (lt_of_heap HN.out) (fun h => h)).trans HN.out; have HS1 := hid hs1; have hF2 := hid (show i * 2 + ([x, y] : List Value).length ≤ ROW.length by rw [hr2.out, List.length_cons, List.length_cons, List.length_nil]; omega); clear hs1)
    | (refine list_copy2 (op := ⟨some 45, _, _, _, _, _⟩) (g := w.heap.size) (o := i * 2) (cur := ROW) (cs := [x, y]) rfl (.tmp 43) (.tmp 44) rfl rfl rfl hr1.out hF1.out (World.news_of_block HN1.out) hF2.out hF3.out ?_; intro W2 hg2 hc2))
  have HR2 := hid hg2.out
  have HC2 : Hid (Chg (fun k => k = w.heap.size) w W2) := HS1.out.same.trans hc2 (fun k hk => .inl hk)
  have HS : Hid (∀ W : World, (∀ a, W.cell? a = W2.cell? a) → ∀ j u, cs[j]? = some u → W.cell? ((⟨g, i * 2, none⟩ : Addr).add j) = some u) := by
    intro W hW j u hj
    rw [hW, addr_add, HC2.out.cell (by exact hgs) (by exact Nat.ne_of_lt hgs), cell_of_heap HG.out]
    rw [HCS'.out, List.getElem?_drop] at hj
    simpa using hj
  clear hg2 hc2
  go_region_held3 (fun w' => True) (exact trivial)
    ((refine step_copy2 (g := w.heap.size) (o := (i + 1) * 2) (cur := lay ROW (i * 2) [x, y]) (cs := cs) (by rfl) _ _ (by rfl) (by rfl) (by rfl) (by exact HR2.out) (by rw [HC.out]; show _ = min _ _ * 2; omega) (by exact HS.out _ (fun _ => rfl)) (by rw [HC.out, lay_length hF2.out, hr2.out]; omega) HO.out ?_; intro W3 hg3 hc3))
  have HR3 := hid hg3.out
  have HC3 : Hid (Chg (fun k => k = w.heap.size) w W3) := HC2.out.trans (((Chg.refl _ W2).drew).trans hc3 (fun k hk => .inl hk)) (fun k hk => .inl hk)
  clear hg3 hc3
  go_wp2_with fail
  go_ret
  have hl0 := hr2.out
  have hl1 := hF2.out
  have hl2 : (i + 1) * 2 + cs.length ≤ (lay ROW (i * 2) [x, y]).length := by rw [HC.out, lay_length hl1, hl0]; omega
  refine ⟨_, _, rfl, ⟨?_, .inr ⟨w.heap.size, G, _, rfl, hBw, HR3.out, hG1, by unfold maxLen; omega, ?_, ?_⟩⟩, HC3.out.mono (fun k hk hlt => by omega)⟩
  · have := HCS.out
    simp only [List.length_append, List.length_cons, List.length_nil, List.length_take, List.length_drop]
    omega
  · rw [List.size_toArray, lay_length hl2, lay_length hl1, hl0]
  · rw [List.toList_toArray, lay_ins2 hi HC.out (by rw [hl0]; omega), hr3.out, HCS'.out]
    simp
end
end Go.Proofs.Ythmhmgmdajjpmaa
