/- slices.Insert of one attribute, whatever the room. -/
import Derived.Test.YthmhmgmdajjpmaaIns2
namespace Go.Proofs.Ythmhmgmdajjpmaa
set_option linter.unusedVariables false
set_option linter.unusedSimpArgs false
open Go.RowKit

section
variable {w : World} {B nb n i : Nat} {v x y : Value} {xs : List Value}

theorem insert_calls (hv : w.ownsRow B 24 2 v n xs) (hB : B ≤ w.heap.size) (h1 : ∀ u ∈ xs, u.oneCell' = true) (hnb : w.heap[nb]? = some (.cells #[x, y] 24 (0, 0))) (hne : v.ownBlock ≠ some nb) (hx : x.oneCell' = true) (hy : y.oneCell' = true) (hn : n ≤ 1000) (hi : i ≤ n) :
    Calls Try.prog 41 #[v, .int .i64 i, .slice (some ⟨nb, 0, none⟩) 1 1] w (Inserted B v n (xs.take (i * 2) ++ ([x, y] ++ xs.drop (i * 2))) w) := by
  have hlen := hv.1
  by_cases hin : i = n
  · subst hin
    rw [List.take_of_length_le (by omega), List.drop_of_length_le (by omega), List.append_nil]
    exact insert_end hv hB hnb hx hy hn
  · rcases hv.2 with ⟨-, h0⟩ | ⟨g, cap, cur, rfl, hBg, hh, hnc, hcm, hcs, htake⟩
    · omega
    · by_cases hroom : n = cap
      · subst hroom
        have e : xs = cur.toList := by rw [← htake, List.take_of_length_le (by simp; omega)]
        subst e
        exact insert_grow (by simpa using hh) (by simpa using hcs) h1 hnb hx hy hn (by omega) hB
      · have h2 := insert_shift (B := B) (n := n) (i := i) hh hcs hcm (by rw [htake]; exact h1) hnb (by rintro rfl; exact hne rfl) hx hy hn (by omega) (by omega) hBg
        rw [htake] at h2
        have e : cur.toList.take (i * 2) = xs.take (i * 2) := by
          rw [← htake, List.take_take]
          congr 1
          omega
        rw [e] at h2
        exact h2
end
end Go.Proofs.Ythmhmgmdajjpmaa
