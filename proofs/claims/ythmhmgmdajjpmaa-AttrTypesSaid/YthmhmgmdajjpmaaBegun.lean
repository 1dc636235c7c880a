/- begun: one list is told. -/
import Derived.Test.YthmhmgmdajjpmaaRdec
namespace Go.Proofs.Ythmhmgmdajjpmaa
set_option linter.unusedVariables false
set_option linter.unusedSimpArgs false
open Go.RowKit

/-! What is told of a list hangs on its types and values alone. -/
def gotA (A : List At) (t : Int) : List Int × Bool := match A.find? (fun x => x.t == t) with | some x => (x.v, true) | none => ([], false)
theorem gotOf_at (l : List Av) (t : Int) : gotOf l t = gotA (l.map Av.at) t := by
  unfold gotOf gotA
  rw [List.find?_map]
  have e : ((fun x : At => x.t == t) ∘ Av.at) = fun x : Av => x.t == t := rfl
  rw [e]
  cases l.find? (fun x => x.t == t) <;> rfl

def filtA (A : List At) (t : Int) : List At := A.filter fun x => !(x.t == t)
theorem filt_at (l : List Av) (t : Int) : (filt l t).map Av.at = filtA (l.map Av.at) t := by
  unfold filt filtA
  rw [List.filter_map]
  rfl
def putA (A : List At) (t : Int) (v : List Int) : List At := (filtA A t).take (idxOf (filtA A t) t) ++ ([⟨t, v⟩] ++ (filtA A t).drop (idxOf (filtA A t) t))
theorem putOf_at (l : List Av) (t : Int) (v : List Int) : putOf l t v = putA (l.map Av.at) t v := by
  unfold putOf putA
  rw [filt_at]

def matchA (A T : List At) : Bool := T.all fun a => (gotA A a.t).2 && eqB (gotA A a.t).1 a.v
theorem matchOf_at (o t : List Av) : matchOf o t = matchA (o.map Av.at) (t.map Av.at) := by
  unfold matchOf matchA
  rw [List.all_map]
  congr 1
  funext a
  rw [gotOf_at]
  rfl

def fineA (x : At) : Bool := decide (0 ≤ x.t) && decide (x.t ≤ 65535) && decide (x.v.length ≤ 16384)
def encA1 (x : At) : List Int := of16 x.t ++ of16 (x.v.length : Int) ++ x.v
def encA (A : List At) : List Int × Bool := if A.length ≤ 64 ∧ A.all fineA = true then (A.flatMap encA1, true) else ([], false)
theorem encG_at (l : List Av) : encG l = encA (l.map Av.at) := by
  unfold encG encA
  rw [List.length_map, List.all_map, List.flatMap_map]
  rfl

theorem form3 : formOf 3 = 3 := by decide
theorem formT : formOf 0 = 2 := by decide

def oneList : List At := [⟨0, [0, 0, 0, 4]⟩]
def twoList : List At := [⟨0, [0, 0, 0, 4]⟩, ⟨1, [1]⟩]
def twoBytes : List Int := [0, 0, 0, 4, 0, 0, 0, 4, 0, 1, 0, 1, 1]

theorem told_one : putA [] 0 (of32 4) = oneList := by decide
theorem told_two : putA oneList 1 [1] = twoList := by decide
theorem told_num : numIn (gotA twoList 0).1 = (4, true) := by decide
theorem told_enc : encA twoList = (twoBytes, true) := by decide
theorem told_dec : decG twoBytes = (twoList, true) := by decide
theorem told_get : gotA twoList 1 = ([1], true) := by decide
theorem told_flag : truthIn (gotA twoList 1).1 = true := by decide
theorem told_match : matchA twoList twoList = true := by decide
theorem told_fine : fineB 0 [0, 0, 0, 4] = true := by decide

theorem types_calls (w : World) : Calls Try.prog 17 #[] w (fun e w' => e = .returned (.func (.func 37) #[] #[]) ∧ w = w') := by
  go_enter Try.func17, Try.ntmps17
  go_wp2_with fail
  go_ret
  exact ⟨rfl, rfl⟩
end Go.Proofs.Ythmhmgmdajjpmaa
