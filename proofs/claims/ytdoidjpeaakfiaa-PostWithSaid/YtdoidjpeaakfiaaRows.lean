/-
  No cell of these rows narrows 'for every input' (looked for: loops, veiled, ifaces, maps, wideKeys, modest, calm, conditions, laid).
  DERIVED. THE GIVEN ROWS OF THIS SEAT. 8 by the template 'for every input the law returns true; each argument reads behind the call as it read before'; 0 by the template 'total and deterministic' (their statements: YtdoidjpeaakfiaaTotals.lean).
  GIVEN WITH THE SEED: the statements are not yours to turn. If you find one false, say at which input.
  Laid BY PROGRAM, IN A SANDBOX (cutbox-rows.mjs): the forced cells as the released guide's own fill.sh prints them over the translation 69910e9774b81546… (all of the seat's roots in one cut). By AI agents, Wed Nov 11 2026. No macro, syntax, notation, axiom, sorry.
-/
import Derived.Test.YtdoidjpeaakfiaaChecked
import GoSem.Claim
import GoSem.ClaimJoined
import GoSem.ClaimMapViews
import Derived.JoinedTies
import Derived.KernelRfl
namespace Go.Proofs.Ytdoidjpeaakfiaa
/- THE CELL 'sum', in the pinned program and in every row, IS THE sha256 OF THE DUMP (.gsa) THAT YtdoidjpeaakfiaaProg.lean LOADS. Nothing in Lean hashes anything: it is a label: what it is worth is what the hold of that sum in a sandbox is worth. -/
noncomputable def Try.pinned : Pinned := { name := "ytdoidjpeaakfiaa", sum := "69910e9774b81546e83b5c73815743b9a61d4cdb4d54aa37b37d93c7837efb43", checked := Try.checked }
namespace Rows
def none {H : Type} : Left H := { results := [], args := [] }

/-- 'marigraphlaw06.PostOrder': WHATEVER THE INPUT: true; the input reads as it did. -/
def postOrderSpec : ChangeSpec := { name := "postOrder", fn := fun _ => fun
  | [d1, d2] => { results := [.lit (.bool true)], args := [d1, d2] }
  | _ => none }
def postOrderRow : OpenClaim := { program := "ytdoidjpeaakfiaa", sum := "69910e9774b81546e83b5c73815743b9a61d4cdb4d54aa37b37d93c7837efb43", func := "marigraph/marigraphlaw06.PostOrder", spec := "postOrder", recurses := true, apart := false }
def PostOrderSaid : Prop := postOrderRow.holds Try.pinned (OpenSpec.ofChange postOrderSpec)

/-- ITS FALSE NEIGHBOUR: 'it returns false'. Refute it at one input. -/
def postOrderWrong : ChangeSpec := { name := "postOrder", fn := fun _ => fun
  | [d1, d2] => { results := [.lit (.bool false)], args := [d1, d2] }
  | _ => none }
def PostOrderWrongFalsely : Prop := postOrderRow.holds Try.pinned (OpenSpec.ofChange postOrderWrong)

/-- 'marigraphlaw06.PostSelf': WHATEVER THE INPUT: true; the input reads as it did. -/
def postSelfSpec : ChangeSpec := { name := "postSelf", fn := fun _ => fun
  | [d] => { results := [.lit (.bool true)], args := [d] }
  | _ => none }
def postSelfRow : OpenClaim := { program := "ytdoidjpeaakfiaa", sum := "69910e9774b81546e83b5c73815743b9a61d4cdb4d54aa37b37d93c7837efb43", func := "marigraph/marigraphlaw06.PostSelf", spec := "postSelf", recurses := true, apart := false }
def PostSelfSaid : Prop := postSelfRow.holds Try.pinned (OpenSpec.ofChange postSelfSpec)

/-- ITS FALSE NEIGHBOUR: 'it returns false'. Refute it at one input. -/
def postSelfWrong : ChangeSpec := { name := "postSelf", fn := fun _ => fun
  | [d] => { results := [.lit (.bool false)], args := [d] }
  | _ => none }
def PostSelfWrongFalsely : Prop := postSelfRow.holds Try.pinned (OpenSpec.ofChange postSelfWrong)

/-- 'marigraphlaw06.PostBoth': WHATEVER THE INPUT: true; the input reads as it did. -/
def postBothSpec : ChangeSpec := { name := "postBoth", fn := fun _ => fun
  | [d1, d2, d3] => { results := [.lit (.bool true)], args := [d1, d2, d3] }
  | _ => none }
def postBothRow : OpenClaim := { program := "ytdoidjpeaakfiaa", sum := "69910e9774b81546e83b5c73815743b9a61d4cdb4d54aa37b37d93c7837efb43", func := "marigraph/marigraphlaw06.PostBoth", spec := "postBoth", recurses := true, apart := false }
def PostBothSaid : Prop := postBothRow.holds Try.pinned (OpenSpec.ofChange postBothSpec)

/-- ITS FALSE NEIGHBOUR: 'it returns false'. Refute it at one input. -/
def postBothWrong : ChangeSpec := { name := "postBoth", fn := fun _ => fun
  | [d1, d2, d3] => { results := [.lit (.bool false)], args := [d1, d2, d3] }
  | _ => none }
def PostBothWrongFalsely : Prop := postBothRow.holds Try.pinned (OpenSpec.ofChange postBothWrong)

/-- 'marigraphlaw06.PostAll': WHATEVER THE INPUT: true; the input reads as it did. -/
def postAllSpec : ChangeSpec := { name := "postAll", fn := fun _ => fun
  | [d] => { results := [.lit (.bool true)], args := [d] }
  | _ => none }
def postAllRow : OpenClaim := { program := "ytdoidjpeaakfiaa", sum := "69910e9774b81546e83b5c73815743b9a61d4cdb4d54aa37b37d93c7837efb43", func := "marigraph/marigraphlaw06.PostAll", spec := "postAll", recurses := true, apart := false }
def PostAllSaid : Prop := postAllRow.holds Try.pinned (OpenSpec.ofChange postAllSpec)

/-- ITS FALSE NEIGHBOUR: 'it returns false'. Refute it at one input. -/
def postAllWrong : ChangeSpec := { name := "postAll", fn := fun _ => fun
  | [d] => { results := [.lit (.bool false)], args := [d] }
  | _ => none }
def PostAllWrongFalsely : Prop := postAllRow.holds Try.pinned (OpenSpec.ofChange postAllWrong)

/-- 'marigraphlaw06.PostTwo': WHATEVER THE INPUT: true; the input reads as it did. -/
def postTwoSpec : ChangeSpec := { name := "postTwo", fn := fun _ => fun
  | [d1, d2] => { results := [.lit (.bool true)], args := [d1, d2] }
  | _ => none }
def postTwoRow : OpenClaim := { program := "ytdoidjpeaakfiaa", sum := "69910e9774b81546e83b5c73815743b9a61d4cdb4d54aa37b37d93c7837efb43", func := "marigraph/marigraphlaw06.PostTwo", spec := "postTwo", recurses := true, apart := false }
def PostTwoSaid : Prop := postTwoRow.holds Try.pinned (OpenSpec.ofChange postTwoSpec)

/-- ITS FALSE NEIGHBOUR: 'it returns false'. Refute it at one input. -/
def postTwoWrong : ChangeSpec := { name := "postTwo", fn := fun _ => fun
  | [d1, d2] => { results := [.lit (.bool false)], args := [d1, d2] }
  | _ => none }
def PostTwoWrongFalsely : Prop := postTwoRow.holds Try.pinned (OpenSpec.ofChange postTwoWrong)

/-- 'marigraphlaw06.PostOf': WHATEVER THE INPUT: true; the input reads as it did. -/
def postOfSpec : ChangeSpec := { name := "postOf", fn := fun _ => fun
  | [d1, d2] => { results := [.lit (.bool true)], args := [d1, d2] }
  | _ => none }
def postOfRow : OpenClaim := { program := "ytdoidjpeaakfiaa", sum := "69910e9774b81546e83b5c73815743b9a61d4cdb4d54aa37b37d93c7837efb43", func := "marigraph/marigraphlaw06.PostOf", spec := "postOf", recurses := true, apart := false }
def PostOfSaid : Prop := postOfRow.holds Try.pinned (OpenSpec.ofChange postOfSpec)

/-- ITS FALSE NEIGHBOUR: 'it returns false'. Refute it at one input. -/
def postOfWrong : ChangeSpec := { name := "postOf", fn := fun _ => fun
  | [d1, d2] => { results := [.lit (.bool false)], args := [d1, d2] }
  | _ => none }
def PostOfWrongFalsely : Prop := postOfRow.holds Try.pinned (OpenSpec.ofChange postOfWrong)

/-- 'marigraphlaw06.PostSets': WHATEVER THE INPUT: true; the input reads as it did. -/
def postSetsSpec : ChangeSpec := { name := "postSets", fn := fun _ => fun
  | [d1, d2, d3] => { results := [.lit (.bool true)], args := [d1, d2, d3] }
  | _ => none }
def postSetsRow : OpenClaim := { program := "ytdoidjpeaakfiaa", sum := "69910e9774b81546e83b5c73815743b9a61d4cdb4d54aa37b37d93c7837efb43", func := "marigraph/marigraphlaw06.PostSets", spec := "postSets", recurses := true, apart := false }
def PostSetsSaid : Prop := postSetsRow.holds Try.pinned (OpenSpec.ofChange postSetsSpec)

/-- ITS FALSE NEIGHBOUR: 'it returns false'. Refute it at one input. -/
def postSetsWrong : ChangeSpec := { name := "postSets", fn := fun _ => fun
  | [d1, d2, d3] => { results := [.lit (.bool false)], args := [d1, d2, d3] }
  | _ => none }
def PostSetsWrongFalsely : Prop := postSetsRow.holds Try.pinned (OpenSpec.ofChange postSetsWrong)

/-- 'marigraphlaw06.PostWith': WHATEVER THE INPUT: true; the input reads as it did. -/
def postWithSpec : ChangeSpec := { name := "postWith", fn := fun _ => fun
  | [d1, d2, d3] => { results := [.lit (.bool true)], args := [d1, d2, d3] }
  | _ => none }
def postWithRow : OpenClaim := { program := "ytdoidjpeaakfiaa", sum := "69910e9774b81546e83b5c73815743b9a61d4cdb4d54aa37b37d93c7837efb43", func := "marigraph/marigraphlaw06.PostWith", spec := "postWith", recurses := true, apart := false }
def PostWithSaid : Prop := postWithRow.holds Try.pinned (OpenSpec.ofChange postWithSpec)

/-- ITS FALSE NEIGHBOUR: 'it returns false'. Refute it at one input. -/
def postWithWrong : ChangeSpec := { name := "postWith", fn := fun _ => fun
  | [d1, d2, d3] => { results := [.lit (.bool false)], args := [d1, d2, d3] }
  | _ => none }
def PostWithWrongFalsely : Prop := postWithRow.holds Try.pinned (OpenSpec.ofChange postWithWrong)

/- THE SECOND FORM. 'bulk': how many values and letters a reading holds, each counted each time it is reached (what is shared counts as often as it is met; a slice's spare places count too). A statement '..UptoSaid' is the law's where the arguments, and the package variables that the reading takes, are together of bulk at most 1048576: NARROWER than '..Said'. Prove '..Said' where nothing that the law and all that it calls make is longer than what came in: it says more and counts as full. Else prove '..UptoSaid'. A law counts once. -/
mutual
def uptoBulk {H : Type} : DataW H → Nat
  | .lit (.string bytes) => bytes.length + 1
  | .lit _ => 1
  | .nil => 1
  | .ptr d => uptoBulk d + 1
  | .slice elems spare => uptoBulkAll elems + uptoBulkAll spare + 1
  | .agg parts => uptoBulkAll parts + 1
  | .iface _ d => uptoBulk d + 1
  | .map entries => uptoBulkEntries entries + 1
  | .held _ => 1
def uptoBulkAll {H : Type} : List (DataW H) → Nat
  | [] => 0
  | d :: r => uptoBulk d + uptoBulkAll r
def uptoBulkEntries {H : Type} : List (Lit × DataW H) → Nat
  | [] => 0
  | x :: r => uptoBulkEntry x + uptoBulkEntries r
def uptoBulkEntry {H : Type} : Lit × DataW H → Nat
  | (.string bytes, d) => bytes.length + uptoBulk d + 1
  | (_, d) => uptoBulk d + 1
 end
def uptoSmall : (H : Type) → List (DataW H) → Bool := fun _ ds => decide (uptoBulkAll ds ≤ 1048576)
def OpenSpec.upto (s : _root_.Go.ChangeSpec) : _root_.Go.OpenSpec := { _root_.Go.OpenSpec.ofChange s with cond := some uptoSmall }

/-- 'marigraphlaw06.PostOrder', WHERE WHAT IT READS IS OF BULK AT MOST 1048576: true; the input reads as it did. -/
def postOrderUptoRow : OpenClaim := { program := "ytdoidjpeaakfiaa", sum := "69910e9774b81546e83b5c73815743b9a61d4cdb4d54aa37b37d93c7837efb43", func := "marigraph/marigraphlaw06.PostOrder", spec := "postOrder", recurses := true, apart := false, narrowed := true }
def PostOrderUptoSaid : Prop := postOrderUptoRow.holds Try.pinned (OpenSpec.upto postOrderSpec)

/-- 'marigraphlaw06.PostSelf', WHERE WHAT IT READS IS OF BULK AT MOST 1048576: true; the input reads as it did. -/
def postSelfUptoRow : OpenClaim := { program := "ytdoidjpeaakfiaa", sum := "69910e9774b81546e83b5c73815743b9a61d4cdb4d54aa37b37d93c7837efb43", func := "marigraph/marigraphlaw06.PostSelf", spec := "postSelf", recurses := true, apart := false, narrowed := true }
def PostSelfUptoSaid : Prop := postSelfUptoRow.holds Try.pinned (OpenSpec.upto postSelfSpec)

/-- 'marigraphlaw06.PostBoth', WHERE WHAT IT READS IS OF BULK AT MOST 1048576: true; the input reads as it did. -/
def postBothUptoRow : OpenClaim := { program := "ytdoidjpeaakfiaa", sum := "69910e9774b81546e83b5c73815743b9a61d4cdb4d54aa37b37d93c7837efb43", func := "marigraph/marigraphlaw06.PostBoth", spec := "postBoth", recurses := true, apart := false, narrowed := true }
def PostBothUptoSaid : Prop := postBothUptoRow.holds Try.pinned (OpenSpec.upto postBothSpec)

/-- 'marigraphlaw06.PostAll', WHERE WHAT IT READS IS OF BULK AT MOST 1048576: true; the input reads as it did. -/
def postAllUptoRow : OpenClaim := { program := "ytdoidjpeaakfiaa", sum := "69910e9774b81546e83b5c73815743b9a61d4cdb4d54aa37b37d93c7837efb43", func := "marigraph/marigraphlaw06.PostAll", spec := "postAll", recurses := true, apart := false, narrowed := true }
def PostAllUptoSaid : Prop := postAllUptoRow.holds Try.pinned (OpenSpec.upto postAllSpec)

/-- 'marigraphlaw06.PostTwo', WHERE WHAT IT READS IS OF BULK AT MOST 1048576: true; the input reads as it did. -/
def postTwoUptoRow : OpenClaim := { program := "ytdoidjpeaakfiaa", sum := "69910e9774b81546e83b5c73815743b9a61d4cdb4d54aa37b37d93c7837efb43", func := "marigraph/marigraphlaw06.PostTwo", spec := "postTwo", recurses := true, apart := false, narrowed := true }
def PostTwoUptoSaid : Prop := postTwoUptoRow.holds Try.pinned (OpenSpec.upto postTwoSpec)

/-- 'marigraphlaw06.PostOf', WHERE WHAT IT READS IS OF BULK AT MOST 1048576: true; the input reads as it did. -/
def postOfUptoRow : OpenClaim := { program := "ytdoidjpeaakfiaa", sum := "69910e9774b81546e83b5c73815743b9a61d4cdb4d54aa37b37d93c7837efb43", func := "marigraph/marigraphlaw06.PostOf", spec := "postOf", recurses := true, apart := false, narrowed := true }
def PostOfUptoSaid : Prop := postOfUptoRow.holds Try.pinned (OpenSpec.upto postOfSpec)

/-- 'marigraphlaw06.PostSets', WHERE WHAT IT READS IS OF BULK AT MOST 1048576: true; the input reads as it did. -/
def postSetsUptoRow : OpenClaim := { program := "ytdoidjpeaakfiaa", sum := "69910e9774b81546e83b5c73815743b9a61d4cdb4d54aa37b37d93c7837efb43", func := "marigraph/marigraphlaw06.PostSets", spec := "postSets", recurses := true, apart := false, narrowed := true }
def PostSetsUptoSaid : Prop := postSetsUptoRow.holds Try.pinned (OpenSpec.upto postSetsSpec)

/-- 'marigraphlaw06.PostWith', WHERE WHAT IT READS IS OF BULK AT MOST 1048576: true; the input reads as it did. -/
def postWithUptoRow : OpenClaim := { program := "ytdoidjpeaakfiaa", sum := "69910e9774b81546e83b5c73815743b9a61d4cdb4d54aa37b37d93c7837efb43", func := "marigraph/marigraphlaw06.PostWith", spec := "postWith", recurses := true, apart := false, narrowed := true }
def PostWithUptoSaid : Prop := postWithUptoRow.holds Try.pinned (OpenSpec.upto postWithSpec)

end Rows
end Go.Proofs.Ytdoidjpeaakfiaa
