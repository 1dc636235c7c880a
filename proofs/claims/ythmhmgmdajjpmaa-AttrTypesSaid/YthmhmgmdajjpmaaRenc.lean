/- Lists go to bytes, as the document says. -/
import Derived.Test.YthmhmgmdajjpmaaEnc
namespace Go.Proofs.Ythmhmgmdajjpmaa
set_option linter.unusedVariables false
set_option linter.unusedSimpArgs false
open Go.RowKit

section
variable {w : World} {v : Value} {l : List Av}

set_option maxRecDepth 100000 in
set_option maxHeartbeats 16000000 in
theorem rencode_calls (h : Ats w v l) : Calls Try.prog 32 #[v] w (GotPost (encG l) w) := by
  obtain ⟨p, cap, rfl, h1, h2, h3, h4⟩ := h.at
  have hll : l.length ≤ 9223372036854775807 := by unfold maxLen at h2; omega
  have HR := hid h4
  clear h h3 h4
  by_cases hlong : l.length ≤ 64
  · have b0 : ¬ (64 : Int) < (l.length : Int) := by omega
    go_enter Try.func32, Try.ntmps32
    go_wp2_with fail
    go_loopw [4, 5] (fun o i wr => ∃ (k : Nat) (q : Option Addr) (n c : Nat), k ≤ l.length ∧ i = .int .i64 k ∧ o = .slice q n c ∧ Enc w l k q n c wr) (fun _ i _ => l.length - (intOf i).toNat)
    case atStart => exact ⟨0, none, 0, 0, Nat.zero_le _, rfl, rfl, Enc.nil _ _⟩
    case round =>
      obtain ⟨k, q0, n0, c0, hk, rfl, rfl, hE⟩ := hrel
      have HE := hid hE
      have hn0 : n0 ≤ 2000000 := by have := hE.most; omega
      clear hE
      by_cases hlt : k < l.length
      · obtain ⟨b, o, q, c, rfl, hb, e0, e1, hB⟩ := HR.out k hlt
        rw [← HE.out.same.cell (by exact hb) (fun h => h)] at e0 e1
        have HB := hid hB
        have hvl : l[k].v.length ≤ 9223372036854775807 := by obtain ⟨_, _, _, _, _, hz, _⟩ := hB; omega
        have HS := hid (fun X => HE.out.same.alloc X)
        clear hB
        by_cases ht0 : l[k].t < 0
        · have HV := hid (encG_bad hlt (fineE_not (by omega)))
          go_wp2_with fail
          go_ret2
          rw [HV.out]
          exact ⟨_, _, rfl, Bs.nil _, HE.out.same⟩
        · by_cases ht1 : 65535 < l[k].t
          · have HV := hid (encG_bad hlt (fineE_not (by omega)))
            go_wp2_with fail
            go_ret2
            rw [HV.out]
            exact ⟨_, _, rfl, Bs.nil _, HE.out.same⟩
          · by_cases hv1 : (16384 : Int) < (l[k].v.length : Int)
            · have HV := hid (encG_bad hlt (fineE_not (by omega)))
              go_wp2_with fail
              go_ret2
              rw [HV.out]
              exact ⟨_, _, rfl, Bs.nil _, HE.out.same⟩
            · have HF := hid (allB_next hlt HE.out.fine (fineE_of (by omega) (by omega) (by omega)))
              go_wp2_with fail
              have hzw := HE.out.same.size
              have hbr : b < wr.heap.size := Nat.lt_of_lt_of_le hb hzw
              have i1 : (k : Int) < (l.length : Int) := by omega
              have g1 : l[k].t / 256 < 256 := by omega
              have g2 : 0 ≤ l[k].t / 256 := by omega
              have g3 : (l[k].v.length : Int) / 256 < 256 := by omega
              have v1 : IntKind.u8.wrap (l[k].t / 256) = l[k].t / 256 := by rw [IntKind.wrap_u8']; omega
              have v2 : IntKind.u8.wrap l[k].t = l[k].t % 256 := by rw [IntKind.wrap_u8']
              have v3 : IntKind.u8.wrap ((l[k].v.length : Int) / 256) = (l[k].v.length : Int) / 256 := by rw [IntKind.wrap_u8']; omega
              have v4 : IntKind.u8.wrap (l[k].v.length : Int) = (l[k].v.length : Int) % 256 := by rw [IntKind.wrap_u8']
              have hbyt : Byt [l[k].t / 256, l[k].t % 256, (l[k].v.length : Int) / 256, (l[k].v.length : Int) % 256] := by intro x hx; simp at hx; omega
              have HBYT := hid hbyt
              have HNE : Hid (¬ ((Value.slice q0 n0 c0).ownBlock = some b)) := fun e => by have := (HE.out.row.lt b e).1; omega
              have E1 := hid (show of16 l[k].t ++ of16 (l[k].v.length : Int) = [l[k].t / 256, l[k].t % 256, (l[k].v.length : Int) / 256, (l[k].v.length : Int) % 256] by
                unfold of16
                rw [show l[k].t / 256 % 256 = l[k].t / 256 by omega, show (l[k].v.length : Int) / 256 % 256 = (l[k].v.length : Int) / 256 by omega]
                rfl)
              clear hbyt
              go_wp2_with fail
              go_region_held3 (fun w' => w'.cell? ⟨b, o + k * 2, none⟩ = some (.int .i64 l[k].t))
                (first | go_keep | (rw [hc2.cell (by simp; omega) (by exact HNE.out)]; go_keep))
                ((refine step_bytes (by rfl) _ _ (by rfl) (by rfl) (by rfl) (by exact HE.out.row.alloc _) (by simp; omega) (Bs.lit (by exact heap_alloc_new wr _) HBYT.out (by simp)) (by simp; omega) ?_; intro q2 c2 w2 hr2 hc2))
              have hS2 : Chg (fun j => (Value.slice q0 n0 c0).ownBlock = some j) wr w2 := Chg.trans (((Chg.refl _ wr).alloc _).drew) hc2 (fun j hj => .inl hj)
              have f1 := (hS2.cell (p := ⟨b, o + k * 2 + 1, none⟩) (by exact hbr) (by exact HNE.out)).trans e1
              have HS2 : Hid (Same w w2) := Chg.trans HE.out.same hS2 (fun j hj => .inr (HE.out.row.lt j hj).1)
              have hz2 := HS2.out.size
              have HR2 : Hid (w2.ownsRow w.heap.size 5 1 (.slice q2 (n0 + 4) c2) (n0 + 4) (bytes (encTo l k) ++ bytes [l[k].t / 256, l[k].t % 256, (l[k].v.length : Int) / 256, (l[k].v.length : Int) % 256])) := hr2
              clear hr2 hc2 hS2 v1 v2 v3 v4
              go_wp2_with (at_builtin; refine bytes_list rfl (.tmp 61) (.tmp 66) rfl rfl rfl HR2.out hz2 (HB.out.same HS2.out) (by omega) ?_; intro q3 c3 w3 hr3 hc3)
              have HE3 := hid (Enc.mk (w := w) (l := l) (k := k + 1) (q := q3) (n := n0 + 4 + l[k].v.length) (c := c3) (wr := w3) (by rw [encTo_step hlt]; unfold encB; rw [E1.out]; simpa [bytes] using hr3) (by rw [encTo_step hlt, List.length_append, encB_length, HE.out.len]; omega) (by rw [encTo_step hlt]; exact byt_append HE.out.byt (byt_append (byt_append (of16_byt _) (of16_byt _)) HB.out.byt)) (Chg.trans HS2.out hc3 (fun j hj => .inr (HR2.out.lt j hj).1)) HF.out (by have := HE.out.most; omega))
              clear hr3 hc3
              go_wp2_with fail
              go_roundw
              case rel => exact ⟨k + 1, q3, _, c3, by omega, by go_num, rfl, HE3.out⟩
              case measure => simp [intOf]; omega
      · have hkl : k = l.length := by omega
        subst hkl
        have HV := hid (encG_ok hlong HE.out.fine)
        have HL := hid HE.out.len
        go_wp2_with fail
        go_ret2
        rw [HV.out]
        refine ⟨q0, c0, ?_, HE.out.gives hlong, HE.out.same⟩
        rw [← HL.out]
        rfl
  · have b0 : (64 : Int) < (l.length : Int) := by omega
    have HV := hid (encG_long hlong)
    go_enter Try.func32, Try.ntmps32
    go_wp2_with fail
    go_ret2
    rw [HV.out]
    exact ⟨_, _, rfl, Bs.nil _, Chg.refl _ _⟩
end
end Go.Proofs.Ythmhmgmdajjpmaa
