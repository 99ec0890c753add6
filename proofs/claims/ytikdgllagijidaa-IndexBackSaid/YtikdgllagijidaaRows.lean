/-
  No cell of these rows narrows 'for every input' (looked for: loops, veiled, ifaces, maps, wideKeys, modest, calm, conditions, laid).
  DERIVED. THE GIVEN ROWS OF THIS SEAT. 7 by the template 'for every input the law returns true; each argument reads behind the call as it read before'; 0 by the template 'total and deterministic' (their statements: YtikdgllagijidaaTotals.lean).
  GIVEN WITH THE SEED: the statements are not yours to turn. If you find one false, say at which input.
  Laid BY PROGRAM, IN A SANDBOX (cutbox-rows.mjs): the forced cells as the released guide's own fill.sh prints them over the translation 5317eec82d2a376e… (all of the seat's roots in one cut). By AI agents, Wed Nov 11 2026. No macro, syntax, notation, axiom, sorry.
-/
import Derived.Test.YtikdgllagijidaaChecked
import GoSem.Claim
import GoSem.ClaimJoined
import GoSem.ClaimMapViews
import Derived.JoinedTies
import Derived.KernelRfl
namespace Go.Proofs.Ytikdgllagijidaa
/- THE CELL 'sum', in the pinned program and in every row, IS THE sha256 OF THE DUMP (.gsa) THAT YtikdgllagijidaaProg.lean LOADS. Nothing in Lean hashes anything: it is a label: what it is worth is what the hold of that sum in a sandbox is worth. -/
noncomputable def Try.pinned : Pinned := { name := "ytikdgllagijidaa", sum := "5317eec82d2a376ea3a4d6b9b0aafc1d1ded1b67f0747fd99981249377f4ae7e", checked := Try.checked }
namespace Rows
def none {H : Type} : Left H := { results := [], args := [] }

/-- 'marigraphlaw08.IndexFinds': WHATEVER THE INPUT: true; the input reads as it did. -/
def indexFindsSpec : ChangeSpec := { name := "indexFinds", fn := fun _ => fun
  | [d1, d2] => { results := [.lit (.bool true)], args := [d1, d2] }
  | _ => none }
def indexFindsRow : OpenClaim := { program := "ytikdgllagijidaa", sum := "5317eec82d2a376ea3a4d6b9b0aafc1d1ded1b67f0747fd99981249377f4ae7e", func := "marigraph/marigraphlaw08.IndexFinds", spec := "indexFinds", unfollowed := true, recurses := true, plainKeys := false, apart := false }
def IndexFindsSaid : Prop := indexFindsRow.holds Try.pinned (OpenSpec.ofChange indexFindsSpec)

/-- ITS FALSE NEIGHBOUR: 'it returns false'. Refute it at one input. -/
def indexFindsWrong : ChangeSpec := { name := "indexFinds", fn := fun _ => fun
  | [d1, d2] => { results := [.lit (.bool false)], args := [d1, d2] }
  | _ => none }
def IndexFindsWrongFalsely : Prop := indexFindsRow.holds Try.pinned (OpenSpec.ofChange indexFindsWrong)

/-- 'marigraphlaw08.IndexNot': WHATEVER THE INPUT: true; the input reads as it did. -/
def indexNotSpec : ChangeSpec := { name := "indexNot", fn := fun _ => fun
  | [d1, d2, d3] => { results := [.lit (.bool true)], args := [d1, d2, d3] }
  | _ => none }
def indexNotRow : OpenClaim := { program := "ytikdgllagijidaa", sum := "5317eec82d2a376ea3a4d6b9b0aafc1d1ded1b67f0747fd99981249377f4ae7e", func := "marigraph/marigraphlaw08.IndexNot", spec := "indexNot", unfollowed := true, recurses := true, plainKeys := false, apart := false }
def IndexNotSaid : Prop := indexNotRow.holds Try.pinned (OpenSpec.ofChange indexNotSpec)

/-- ITS FALSE NEIGHBOUR: 'it returns false'. Refute it at one input. -/
def indexNotWrong : ChangeSpec := { name := "indexNot", fn := fun _ => fun
  | [d1, d2, d3] => { results := [.lit (.bool false)], args := [d1, d2, d3] }
  | _ => none }
def IndexNotWrongFalsely : Prop := indexNotRow.holds Try.pinned (OpenSpec.ofChange indexNotWrong)

/-- 'marigraphlaw08.IndexIds': WHATEVER THE INPUT: true; the input reads as it did. -/
def indexIdsSpec : ChangeSpec := { name := "indexIds", fn := fun _ => fun
  | [d1, d2, d3] => { results := [.lit (.bool true)], args := [d1, d2, d3] }
  | _ => none }
def indexIdsRow : OpenClaim := { program := "ytikdgllagijidaa", sum := "5317eec82d2a376ea3a4d6b9b0aafc1d1ded1b67f0747fd99981249377f4ae7e", func := "marigraph/marigraphlaw08.IndexIds", spec := "indexIds", unfollowed := true, recurses := true, plainKeys := false, apart := false }
def IndexIdsSaid : Prop := indexIdsRow.holds Try.pinned (OpenSpec.ofChange indexIdsSpec)

/-- ITS FALSE NEIGHBOUR: 'it returns false'. Refute it at one input. -/
def indexIdsWrong : ChangeSpec := { name := "indexIds", fn := fun _ => fun
  | [d1, d2, d3] => { results := [.lit (.bool false)], args := [d1, d2, d3] }
  | _ => none }
def IndexIdsWrongFalsely : Prop := indexIdsRow.holds Try.pinned (OpenSpec.ofChange indexIdsWrong)

/-- 'marigraphlaw08.IndexAll': WHATEVER THE INPUT: true; the input reads as it did. -/
def indexAllSpec : ChangeSpec := { name := "indexAll", fn := fun _ => fun
  | [d] => { results := [.lit (.bool true)], args := [d] }
  | _ => none }
def indexAllRow : OpenClaim := { program := "ytikdgllagijidaa", sum := "5317eec82d2a376ea3a4d6b9b0aafc1d1ded1b67f0747fd99981249377f4ae7e", func := "marigraph/marigraphlaw08.IndexAll", spec := "indexAll", unfollowed := true, recurses := true, plainKeys := false, apart := false }
def IndexAllSaid : Prop := indexAllRow.holds Try.pinned (OpenSpec.ofChange indexAllSpec)

/-- ITS FALSE NEIGHBOUR: 'it returns false'. Refute it at one input. -/
def indexAllWrong : ChangeSpec := { name := "indexAll", fn := fun _ => fun
  | [d] => { results := [.lit (.bool false)], args := [d] }
  | _ => none }
def IndexAllWrongFalsely : Prop := indexAllRow.holds Try.pinned (OpenSpec.ofChange indexAllWrong)

/-- 'marigraphlaw08.IndexVals': WHATEVER THE INPUT: true; the input reads as it did. -/
def indexValsSpec : ChangeSpec := { name := "indexVals", fn := fun _ => fun
  | [d1, d2] => { results := [.lit (.bool true)], args := [d1, d2] }
  | _ => none }
def indexValsRow : OpenClaim := { program := "ytikdgllagijidaa", sum := "5317eec82d2a376ea3a4d6b9b0aafc1d1ded1b67f0747fd99981249377f4ae7e", func := "marigraph/marigraphlaw08.IndexVals", spec := "indexVals", unfollowed := true, recurses := true, plainKeys := false, apart := false }
def IndexValsSaid : Prop := indexValsRow.holds Try.pinned (OpenSpec.ofChange indexValsSpec)

/-- ITS FALSE NEIGHBOUR: 'it returns false'. Refute it at one input. -/
def indexValsWrong : ChangeSpec := { name := "indexVals", fn := fun _ => fun
  | [d1, d2] => { results := [.lit (.bool false)], args := [d1, d2] }
  | _ => none }
def IndexValsWrongFalsely : Prop := indexValsRow.holds Try.pinned (OpenSpec.ofChange indexValsWrong)

/-- 'marigraphlaw08.IndexNil': WHATEVER THE INPUT: true; the input reads as it did. -/
def indexNilSpec : ChangeSpec := { name := "indexNil", fn := fun _ => fun
  | [d] => { results := [.lit (.bool true)], args := [d] }
  | _ => none }
def indexNilRow : OpenClaim := { program := "ytikdgllagijidaa", sum := "5317eec82d2a376ea3a4d6b9b0aafc1d1ded1b67f0747fd99981249377f4ae7e", func := "marigraph/marigraphlaw08.IndexNil", spec := "indexNil", unfollowed := true, recurses := true, plainKeys := false, apart := false }
def IndexNilSaid : Prop := indexNilRow.holds Try.pinned (OpenSpec.ofChange indexNilSpec)

/-- ITS FALSE NEIGHBOUR: 'it returns false'. Refute it at one input. -/
def indexNilWrong : ChangeSpec := { name := "indexNil", fn := fun _ => fun
  | [d] => { results := [.lit (.bool false)], args := [d] }
  | _ => none }
def IndexNilWrongFalsely : Prop := indexNilRow.holds Try.pinned (OpenSpec.ofChange indexNilWrong)

/-- 'marigraphlaw08.IndexBack': WHATEVER THE INPUT: true; the input reads as it did. -/
def indexBackSpec : ChangeSpec := { name := "indexBack", fn := fun _ => fun
  | [d1, d2] => { results := [.lit (.bool true)], args := [d1, d2] }
  | _ => none }
def indexBackRow : OpenClaim := { program := "ytikdgllagijidaa", sum := "5317eec82d2a376ea3a4d6b9b0aafc1d1ded1b67f0747fd99981249377f4ae7e", func := "marigraph/marigraphlaw08.IndexBack", spec := "indexBack", unfollowed := true, recurses := true, plainKeys := false, apart := false }
def IndexBackSaid : Prop := indexBackRow.holds Try.pinned (OpenSpec.ofChange indexBackSpec)

/-- ITS FALSE NEIGHBOUR: 'it returns false'. Refute it at one input. -/
def indexBackWrong : ChangeSpec := { name := "indexBack", fn := fun _ => fun
  | [d1, d2] => { results := [.lit (.bool false)], args := [d1, d2] }
  | _ => none }
def IndexBackWrongFalsely : Prop := indexBackRow.holds Try.pinned (OpenSpec.ofChange indexBackWrong)

/- THE SECOND FORM. 'bulk': how many values and letters a reading holds, each counted each time it is reached (what is shared counts as often as it is met; a slice's spare places count too). A statement '..UptoSaid' is the law's where the arguments, and the package variables that the reading takes, are together of bulk at most 1048576: NARROWER than '..Said'. Prove '..Said' where nothing that the law and all that it calls make is longer than what came in: it says more and counts as full. Else prove '..UptoSaid'. A law counts once. -/
mutual
def uptoBulk {H : Type} : DataW H → Nat
  | .lit (.string bytes) => bytes.length + 1
  | .lit _ => 1
  | .nil => 1
  | .ptr d => uptoBulk d + 1
  | .slice elems spare => uptoBulkAll elems + uptoBulkAll spare + 1
  | .agg parts => uptoBulkAll parts + 1
  | .iface _ d => uptoBulk d + 1
  | .map entries => uptoBulkEntries entries + 1
  | .held _ => 1
def uptoBulkAll {H : Type} : List (DataW H) → Nat
  | [] => 0
  | d :: r => uptoBulk d + uptoBulkAll r
def uptoBulkEntries {H : Type} : List (Lit × DataW H) → Nat
  | [] => 0
  | x :: r => uptoBulkEntry x + uptoBulkEntries r
def uptoBulkEntry {H : Type} : Lit × DataW H → Nat
  | (.string bytes, d) => bytes.length + uptoBulk d + 1
  | (_, d) => uptoBulk d + 1
 end
def uptoSmall : (H : Type) → List (DataW H) → Bool := fun _ ds => decide (uptoBulkAll ds ≤ 1048576)
def OpenSpec.upto (s : _root_.Go.ChangeSpec) : _root_.Go.OpenSpec := { _root_.Go.OpenSpec.ofChange s with cond := some uptoSmall }

/-- 'marigraphlaw08.IndexFinds', WHERE WHAT IT READS IS OF BULK AT MOST 1048576: true; the input reads as it did. -/
def indexFindsUptoRow : OpenClaim := { program := "ytikdgllagijidaa", sum := "5317eec82d2a376ea3a4d6b9b0aafc1d1ded1b67f0747fd99981249377f4ae7e", func := "marigraph/marigraphlaw08.IndexFinds", spec := "indexFinds", unfollowed := true, recurses := true, plainKeys := false, apart := false, narrowed := true }
def IndexFindsUptoSaid : Prop := indexFindsUptoRow.holds Try.pinned (OpenSpec.upto indexFindsSpec)

/-- 'marigraphlaw08.IndexNot', WHERE WHAT IT READS IS OF BULK AT MOST 1048576: true; the input reads as it did. -/
def indexNotUptoRow : OpenClaim := { program := "ytikdgllagijidaa", sum := "5317eec82d2a376ea3a4d6b9b0aafc1d1ded1b67f0747fd99981249377f4ae7e", func := "marigraph/marigraphlaw08.IndexNot", spec := "indexNot", unfollowed := true, recurses := true, plainKeys := false, apart := false, narrowed := true }
def IndexNotUptoSaid : Prop := indexNotUptoRow.holds Try.pinned (OpenSpec.upto indexNotSpec)

/-- 'marigraphlaw08.IndexIds', WHERE WHAT IT READS IS OF BULK AT MOST 1048576: true; the input reads as it did. -/
def indexIdsUptoRow : OpenClaim := { program := "ytikdgllagijidaa", sum := "5317eec82d2a376ea3a4d6b9b0aafc1d1ded1b67f0747fd99981249377f4ae7e", func := "marigraph/marigraphlaw08.IndexIds", spec := "indexIds", unfollowed := true, recurses := true, plainKeys := false, apart := false, narrowed := true }
def IndexIdsUptoSaid : Prop := indexIdsUptoRow.holds Try.pinned (OpenSpec.upto indexIdsSpec)

/-- 'marigraphlaw08.IndexAll', WHERE WHAT IT READS IS OF BULK AT MOST 1048576: true; the input reads as it did. -/
def indexAllUptoRow : OpenClaim := { program := "ytikdgllagijidaa", sum := "5317eec82d2a376ea3a4d6b9b0aafc1d1ded1b67f0747fd99981249377f4ae7e", func := "marigraph/marigraphlaw08.IndexAll", spec := "indexAll", unfollowed := true, recurses := true, plainKeys := false, apart := false, narrowed := true }
def IndexAllUptoSaid : Prop := indexAllUptoRow.holds Try.pinned (OpenSpec.upto indexAllSpec)

/-- 'marigraphlaw08.IndexVals', WHERE WHAT IT READS IS OF BULK AT MOST 1048576: true; the input reads as it did. -/
def indexValsUptoRow : OpenClaim := { program := "ytikdgllagijidaa", sum := "5317eec82d2a376ea3a4d6b9b0aafc1d1ded1b67f0747fd99981249377f4ae7e", func := "marigraph/marigraphlaw08.IndexVals", spec := "indexVals", unfollowed := true, recurses := true, plainKeys := false, apart := false, narrowed := true }
def IndexValsUptoSaid : Prop := indexValsUptoRow.holds Try.pinned (OpenSpec.upto indexValsSpec)

/-- 'marigraphlaw08.IndexNil', WHERE WHAT IT READS IS OF BULK AT MOST 1048576: true; the input reads as it did. -/
def indexNilUptoRow : OpenClaim := { program := "ytikdgllagijidaa", sum := "5317eec82d2a376ea3a4d6b9b0aafc1d1ded1b67f0747fd99981249377f4ae7e", func := "marigraph/marigraphlaw08.IndexNil", spec := "indexNil", unfollowed := true, recurses := true, plainKeys := false, apart := false, narrowed := true }
def IndexNilUptoSaid : Prop := indexNilUptoRow.holds Try.pinned (OpenSpec.upto indexNilSpec)

/-- 'marigraphlaw08.IndexBack', WHERE WHAT IT READS IS OF BULK AT MOST 1048576: true; the input reads as it did. -/
def indexBackUptoRow : OpenClaim := { program := "ytikdgllagijidaa", sum := "5317eec82d2a376ea3a4d6b9b0aafc1d1ded1b67f0747fd99981249377f4ae7e", func := "marigraph/marigraphlaw08.IndexBack", spec := "indexBack", unfollowed := true, recurses := true, plainKeys := false, apart := false, narrowed := true }
def IndexBackUptoSaid : Prop := indexBackUptoRow.holds Try.pinned (OpenSpec.upto indexBackSpec)

end Rows
end Go.Proofs.Ytikdgllagijidaa
