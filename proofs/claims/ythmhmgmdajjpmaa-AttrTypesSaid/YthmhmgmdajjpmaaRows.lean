/-
  No cell of these rows narrows 'for every input' (looked for: loops, veiled, ifaces, maps, wideKeys, modest, calm, conditions, laid).
  DERIVED. THE GIVEN ROWS OF THIS SEAT. 5 by the template 'for every input the law returns true; each argument reads behind the call as it read before'; 0 by the template 'total and deterministic' (their statements: YthmhmgmdajjpmaaTotals.lean).
  GIVEN WITH THE SEED: the statements are not yours to turn. If you find one false, say at which input.
  Laid BY PROGRAM, IN A SANDBOX (cutbox-rows.mjs): the forced cells as the released guide's own fill.sh prints them over the translation aad289939dacef34… (all of the seat's roots in one cut). By AI agents, Wed Nov 11 2026. No macro, syntax, notation, axiom, sorry.
-/
import Derived.Test.YthmhmgmdajjpmaaChecked
import GoSem.Claim
import GoSem.ClaimJoined
import GoSem.ClaimMapViews
import Derived.JoinedTies
import Derived.KernelRfl
namespace Go.Proofs.Ythmhmgmdajjpmaa
/- THE CELL 'sum', in the pinned program and in every row, IS THE sha256 OF THE DUMP (.gsa) THAT YthmhmgmdajjpmaaProg.lean LOADS. Nothing in Lean hashes anything: it is a label: what it is worth is what the hold of that sum in a sandbox is worth. -/
noncomputable def Try.pinned : Pinned := { name := "ythmhmgmdajjpmaa", sum := "aad289939dacef34a84e62b76835113776514700aff74edf219f1987b61bff8b", checked := Try.checked }
namespace Rows
def none {H : Type} : Left H := { results := [], args := [] }

/-- 'baileylaw17.AttrForms': WHATEVER THE INPUT: true; the input reads as it did. -/
def attrFormsSpec : ChangeSpec := { name := "attrForms", fn := fun _ => fun
  | [d1, d2] => { results := [.lit (.bool true)], args := [d1, d2] }
  | _ => none }
def attrFormsRow : OpenClaim := { program := "ythmhmgmdajjpmaa", sum := "aad289939dacef34a84e62b76835113776514700aff74edf219f1987b61bff8b", func := "bailey/baileylaw17.AttrForms", spec := "attrForms", inPlace := ["slices.overlaps[bailey/api.Attr]"], unfollowed := true, recurses := true, apart := false }
def AttrFormsSaid : Prop := attrFormsRow.holds Try.pinned (OpenSpec.ofChange attrFormsSpec)

/-- ITS FALSE NEIGHBOUR: 'it returns false'. Refute it at one input. -/
def attrFormsWrong : ChangeSpec := { name := "attrForms", fn := fun _ => fun
  | [d1, d2] => { results := [.lit (.bool false)], args := [d1, d2] }
  | _ => none }
def AttrFormsWrongFalsely : Prop := attrFormsRow.holds Try.pinned (OpenSpec.ofChange attrFormsWrong)

/-- 'baileylaw17.AttrTypes': WHATEVER THE INPUT: true; the input reads as it did. -/
def attrTypesSpec : ChangeSpec := { name := "attrTypes", fn := fun _ => fun
  | [d] => { results := [.lit (.bool true)], args := [d] }
  | _ => none }
def attrTypesRow : OpenClaim := { program := "ythmhmgmdajjpmaa", sum := "aad289939dacef34a84e62b76835113776514700aff74edf219f1987b61bff8b", func := "bailey/baileylaw17.AttrTypes", spec := "attrTypes", inPlace := ["slices.overlaps[bailey/api.Attr]"], unfollowed := true, recurses := true, apart := false }
def AttrTypesSaid : Prop := attrTypesRow.holds Try.pinned (OpenSpec.ofChange attrTypesSpec)

/-- ITS FALSE NEIGHBOUR: 'it returns false'. Refute it at one input. -/
def attrTypesWrong : ChangeSpec := { name := "attrTypes", fn := fun _ => fun
  | [d] => { results := [.lit (.bool false)], args := [d] }
  | _ => none }
def AttrTypesWrongFalsely : Prop := attrTypesRow.holds Try.pinned (OpenSpec.ofChange attrTypesWrong)

/-- 'baileylaw17.AttrLists': WHATEVER THE INPUT: true; the input reads as it did. -/
def attrListsSpec : ChangeSpec := { name := "attrLists", fn := fun _ => fun
  | [d1, d2, d3] => { results := [.lit (.bool true)], args := [d1, d2, d3] }
  | _ => none }
def attrListsRow : OpenClaim := { program := "ythmhmgmdajjpmaa", sum := "aad289939dacef34a84e62b76835113776514700aff74edf219f1987b61bff8b", func := "bailey/baileylaw17.AttrLists", spec := "attrLists", inPlace := ["slices.overlaps[bailey/api.Attr]"], unfollowed := true, recurses := true, apart := false }
def AttrListsSaid : Prop := attrListsRow.holds Try.pinned (OpenSpec.ofChange attrListsSpec)

/-- ITS FALSE NEIGHBOUR: 'it returns false'. Refute it at one input. -/
def attrListsWrong : ChangeSpec := { name := "attrLists", fn := fun _ => fun
  | [d1, d2, d3] => { results := [.lit (.bool false)], args := [d1, d2, d3] }
  | _ => none }
def AttrListsWrongFalsely : Prop := attrListsRow.holds Try.pinned (OpenSpec.ofChange attrListsWrong)

/-- 'baileylaw17.AttrCode': WHATEVER THE INPUT: true; the input reads as it did. -/
def attrCodeSpec : ChangeSpec := { name := "attrCode", fn := fun _ => fun
  | [d1, d2] => { results := [.lit (.bool true)], args := [d1, d2] }
  | _ => none }
def attrCodeRow : OpenClaim := { program := "ythmhmgmdajjpmaa", sum := "aad289939dacef34a84e62b76835113776514700aff74edf219f1987b61bff8b", func := "bailey/baileylaw17.AttrCode", spec := "attrCode", inPlace := ["slices.overlaps[bailey/api.Attr]"], unfollowed := true, recurses := true, apart := false }
def AttrCodeSaid : Prop := attrCodeRow.holds Try.pinned (OpenSpec.ofChange attrCodeSpec)

/-- ITS FALSE NEIGHBOUR: 'it returns false'. Refute it at one input. -/
def attrCodeWrong : ChangeSpec := { name := "attrCode", fn := fun _ => fun
  | [d1, d2] => { results := [.lit (.bool false)], args := [d1, d2] }
  | _ => none }
def AttrCodeWrongFalsely : Prop := attrCodeRow.holds Try.pinned (OpenSpec.ofChange attrCodeWrong)

/-- 'baileylaw17.AttrOwn': WHATEVER THE INPUT: true; the input reads as it did. -/
def attrOwnSpec : ChangeSpec := { name := "attrOwn", fn := fun _ => fun
  | [d1, d2] => { results := [.lit (.bool true)], args := [d1, d2] }
  | _ => none }
def attrOwnRow : OpenClaim := { program := "ythmhmgmdajjpmaa", sum := "aad289939dacef34a84e62b76835113776514700aff74edf219f1987b61bff8b", func := "bailey/baileylaw17.AttrOwn", spec := "attrOwn", inPlace := ["slices.overlaps[bailey/api.Attr]"], unfollowed := true, recurses := true, apart := false }
def AttrOwnSaid : Prop := attrOwnRow.holds Try.pinned (OpenSpec.ofChange attrOwnSpec)

/-- ITS FALSE NEIGHBOUR: 'it returns false'. Refute it at one input. -/
def attrOwnWrong : ChangeSpec := { name := "attrOwn", fn := fun _ => fun
  | [d1, d2] => { results := [.lit (.bool false)], args := [d1, d2] }
  | _ => none }
def AttrOwnWrongFalsely : Prop := attrOwnRow.holds Try.pinned (OpenSpec.ofChange attrOwnWrong)

/- THE SECOND FORM. 'bulk': how many values and letters a reading holds, each counted each time it is reached (what is shared counts as often as it is met; a slice's spare places count too). A statement '..UptoSaid' is the law's where the arguments, and the package variables that the reading takes, are together of bulk at most 1048576: NARROWER than '..Said'. Prove '..Said' where nothing that the law and all that it calls make is longer than what came in: it says more and counts as full. Else prove '..UptoSaid'. A law counts once. -/
mutual
def uptoBulk {H : Type} : DataW H → Nat
  | .lit (.string bytes) => bytes.length + 1
  | .lit _ => 1
  | .nil => 1
  | .ptr d => uptoBulk d + 1
  | .slice elems spare => uptoBulkAll elems + uptoBulkAll spare + 1
  | .agg parts => uptoBulkAll parts + 1
  | .iface _ d => uptoBulk d + 1
  | .map entries => uptoBulkEntries entries + 1
  | .held _ => 1
def uptoBulkAll {H : Type} : List (DataW H) → Nat
  | [] => 0
  | d :: r => uptoBulk d + uptoBulkAll r
def uptoBulkEntries {H : Type} : List (Lit × DataW H) → Nat
  | [] => 0
  | x :: r => uptoBulkEntry x + uptoBulkEntries r
def uptoBulkEntry {H : Type} : Lit × DataW H → Nat
  | (.string bytes, d) => bytes.length + uptoBulk d + 1
  | (_, d) => uptoBulk d + 1
 end
def uptoSmall : (H : Type) → List (DataW H) → Bool := fun _ ds => decide (uptoBulkAll ds ≤ 1048576)
def OpenSpec.upto (s : _root_.Go.ChangeSpec) : _root_.Go.OpenSpec := { _root_.Go.OpenSpec.ofChange s with cond := some uptoSmall }

/-- 'baileylaw17.AttrForms', WHERE WHAT IT READS IS OF BULK AT MOST 1048576: true; the input reads as it did. -/
def attrFormsUptoRow : OpenClaim := { program := "ythmhmgmdajjpmaa", sum := "aad289939dacef34a84e62b76835113776514700aff74edf219f1987b61bff8b", func := "bailey/baileylaw17.AttrForms", spec := "attrForms", inPlace := ["slices.overlaps[bailey/api.Attr]"], unfollowed := true, recurses := true, apart := false, narrowed := true }
def AttrFormsUptoSaid : Prop := attrFormsUptoRow.holds Try.pinned (OpenSpec.upto attrFormsSpec)

/-- 'baileylaw17.AttrTypes', WHERE WHAT IT READS IS OF BULK AT MOST 1048576: true; the input reads as it did. -/
def attrTypesUptoRow : OpenClaim := { program := "ythmhmgmdajjpmaa", sum := "aad289939dacef34a84e62b76835113776514700aff74edf219f1987b61bff8b", func := "bailey/baileylaw17.AttrTypes", spec := "attrTypes", inPlace := ["slices.overlaps[bailey/api.Attr]"], unfollowed := true, recurses := true, apart := false, narrowed := true }
def AttrTypesUptoSaid : Prop := attrTypesUptoRow.holds Try.pinned (OpenSpec.upto attrTypesSpec)

/-- 'baileylaw17.AttrLists', WHERE WHAT IT READS IS OF BULK AT MOST 1048576: true; the input reads as it did. -/
def attrListsUptoRow : OpenClaim := { program := "ythmhmgmdajjpmaa", sum := "aad289939dacef34a84e62b76835113776514700aff74edf219f1987b61bff8b", func := "bailey/baileylaw17.AttrLists", spec := "attrLists", inPlace := ["slices.overlaps[bailey/api.Attr]"], unfollowed := true, recurses := true, apart := false, narrowed := true }
def AttrListsUptoSaid : Prop := attrListsUptoRow.holds Try.pinned (OpenSpec.upto attrListsSpec)

/-- 'baileylaw17.AttrCode', WHERE WHAT IT READS IS OF BULK AT MOST 1048576: true; the input reads as it did. -/
def attrCodeUptoRow : OpenClaim := { program := "ythmhmgmdajjpmaa", sum := "aad289939dacef34a84e62b76835113776514700aff74edf219f1987b61bff8b", func := "bailey/baileylaw17.AttrCode", spec := "attrCode", inPlace := ["slices.overlaps[bailey/api.Attr]"], unfollowed := true, recurses := true, apart := false, narrowed := true }
def AttrCodeUptoSaid : Prop := attrCodeUptoRow.holds Try.pinned (OpenSpec.upto attrCodeSpec)

/-- 'baileylaw17.AttrOwn', WHERE WHAT IT READS IS OF BULK AT MOST 1048576: true; the input reads as it did. -/
def attrOwnUptoRow : OpenClaim := { program := "ythmhmgmdajjpmaa", sum := "aad289939dacef34a84e62b76835113776514700aff74edf219f1987b61bff8b", func := "bailey/baileylaw17.AttrOwn", spec := "attrOwn", inPlace := ["slices.overlaps[bailey/api.Attr]"], unfollowed := true, recurses := true, apart := false, narrowed := true }
def AttrOwnUptoSaid : Prop := attrOwnUptoRow.holds Try.pinned (OpenSpec.upto attrOwnSpec)

end Rows
end Go.Proofs.Ythmhmgmdajjpmaa
