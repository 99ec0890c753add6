/-
  No cell of these rows narrows 'for every input' (looked for: loops, veiled, ifaces, maps, wideKeys, modest, calm, conditions, laid).
  DERIVED. THE GIVEN ROWS OF THIS SEAT. 8 by the template 'for every input the law returns true; each argument reads behind the call as it read before'; 0 by the template 'total and deterministic' (their statements: YtganbpmicmbamaaGreatTotals.lean).
  GIVEN WITH THE SEED: the statements are not yours to turn. If you find one false, say at which input.
  Laid BY PROGRAM, IN A SANDBOX (cutbox-rows.mjs): the forced cells as the released guide's own fill.sh prints them over the translation 12a09c5d4db0c9ea… (all of the seat's roots in one cut). By AI agents, Wed Nov 11 2026. No macro, syntax, notation, axiom, sorry.
-/
import Derived.Test.YtganbpmicmbamaaGreatChecked
import GoSem.Claim
import GoSem.ClaimJoined
import GoSem.ClaimMapViews
import Derived.JoinedTies
import Derived.KernelRfl
namespace Go.Proofs.YtganbpmicmbamaaGreat
/- THE CELL 'sum', in the pinned program and in every row, IS THE sha256 OF THE DUMP (.gsa) THAT YtganbpmicmbamaaGreatProg.lean LOADS. Nothing in Lean hashes anything: it is a label: what it is worth is what the hold of that sum in a sandbox is worth. -/
noncomputable def Tryz.pinned : Pinned := { name := "ytganbpmicmbamaagreat", sum := "12a09c5d4db0c9ea768a215f19525189c5ab64a66c3b6e09618306cafdd5fe9f", checked := Tryz.checked }
namespace Rows
def none {H : Type} : Left H := { results := [], args := [] }

/-- 'marigraphlaw15.BaseWindow': WHATEVER THE INPUT: true; the input reads as it did. -/
def baseWindowSpec : ChangeSpec := { name := "baseWindow", fn := fun _ => fun
  | [d1, d2] => { results := [.lit (.bool true)], args := [d1, d2] }
  | _ => none }
def baseWindowRow : OpenClaim := { program := "ytganbpmicmbamaagreat", sum := "12a09c5d4db0c9ea768a215f19525189c5ab64a66c3b6e09618306cafdd5fe9f", func := "marigraph/marigraphlaw15.BaseWindow", spec := "baseWindow", inPlace := ["slices.overlaps[marigraph/api.Point]"], unfollowed := true, recurses := true, plainKeys := false, apart := false }
def BaseWindowSaid : Prop := baseWindowRow.holds Tryz.pinned (OpenSpec.ofChange baseWindowSpec)

/-- ITS FALSE NEIGHBOUR: 'it returns false'. Refute it at one input. -/
def baseWindowWrong : ChangeSpec := { name := "baseWindow", fn := fun _ => fun
  | [d1, d2] => { results := [.lit (.bool false)], args := [d1, d2] }
  | _ => none }
def BaseWindowWrongFalsely : Prop := baseWindowRow.holds Tryz.pinned (OpenSpec.ofChange baseWindowWrong)

/-- 'marigraphlaw15.BasePack': WHATEVER THE INPUT: true; the input reads as it did. -/
def basePackSpec : ChangeSpec := { name := "basePack", fn := fun _ => fun
  | [d1, d2, d3] => { results := [.lit (.bool true)], args := [d1, d2, d3] }
  | _ => none }
def basePackRow : OpenClaim := { program := "ytganbpmicmbamaagreat", sum := "12a09c5d4db0c9ea768a215f19525189c5ab64a66c3b6e09618306cafdd5fe9f", func := "marigraph/marigraphlaw15.BasePack", spec := "basePack", inPlace := ["slices.overlaps[marigraph/api.Point]"], unfollowed := true, recurses := true, plainKeys := false, apart := false }
def BasePackSaid : Prop := basePackRow.holds Tryz.pinned (OpenSpec.ofChange basePackSpec)

/-- ITS FALSE NEIGHBOUR: 'it returns false'. Refute it at one input. -/
def basePackWrong : ChangeSpec := { name := "basePack", fn := fun _ => fun
  | [d1, d2, d3] => { results := [.lit (.bool false)], args := [d1, d2, d3] }
  | _ => none }
def BasePackWrongFalsely : Prop := basePackRow.holds Tryz.pinned (OpenSpec.ofChange basePackWrong)

/-- 'marigraphlaw15.BaseStill': WHATEVER THE INPUT: true; the input reads as it did. -/
def baseStillSpec : ChangeSpec := { name := "baseStill", fn := fun _ => fun
  | [d1, d2] => { results := [.lit (.bool true)], args := [d1, d2] }
  | _ => none }
def baseStillRow : OpenClaim := { program := "ytganbpmicmbamaagreat", sum := "12a09c5d4db0c9ea768a215f19525189c5ab64a66c3b6e09618306cafdd5fe9f", func := "marigraph/marigraphlaw15.BaseStill", spec := "baseStill", inPlace := ["slices.overlaps[marigraph/api.Point]"], unfollowed := true, recurses := true, plainKeys := false, apart := false }
def BaseStillSaid : Prop := baseStillRow.holds Tryz.pinned (OpenSpec.ofChange baseStillSpec)

/-- ITS FALSE NEIGHBOUR: 'it returns false'. Refute it at one input. -/
def baseStillWrong : ChangeSpec := { name := "baseStill", fn := fun _ => fun
  | [d1, d2] => { results := [.lit (.bool false)], args := [d1, d2] }
  | _ => none }
def BaseStillWrongFalsely : Prop := baseStillRow.holds Tryz.pinned (OpenSpec.ofChange baseStillWrong)

/-- 'marigraphlaw15.BaseGone': WHATEVER THE INPUT: true; the input reads as it did. -/
def baseGoneSpec : ChangeSpec := { name := "baseGone", fn := fun _ => fun
  | [d1, d2, d3, d4] => { results := [.lit (.bool true)], args := [d1, d2, d3, d4] }
  | _ => none }
def baseGoneRow : OpenClaim := { program := "ytganbpmicmbamaagreat", sum := "12a09c5d4db0c9ea768a215f19525189c5ab64a66c3b6e09618306cafdd5fe9f", func := "marigraph/marigraphlaw15.BaseGone", spec := "baseGone", inPlace := ["slices.overlaps[marigraph/api.Point]"], unfollowed := true, recurses := true, plainKeys := false, apart := false }
def BaseGoneSaid : Prop := baseGoneRow.holds Tryz.pinned (OpenSpec.ofChange baseGoneSpec)

/-- ITS FALSE NEIGHBOUR: 'it returns false'. Refute it at one input. -/
def baseGoneWrong : ChangeSpec := { name := "baseGone", fn := fun _ => fun
  | [d1, d2, d3, d4] => { results := [.lit (.bool false)], args := [d1, d2, d3, d4] }
  | _ => none }
def BaseGoneWrongFalsely : Prop := baseGoneRow.holds Tryz.pinned (OpenSpec.ofChange baseGoneWrong)

/-- 'marigraphlaw15.BaseOrder': WHATEVER THE INPUT: true; the input reads as it did. -/
def baseOrderSpec : ChangeSpec := { name := "baseOrder", fn := fun _ => fun
  | [d1, d2] => { results := [.lit (.bool true)], args := [d1, d2] }
  | _ => none }
def baseOrderRow : OpenClaim := { program := "ytganbpmicmbamaagreat", sum := "12a09c5d4db0c9ea768a215f19525189c5ab64a66c3b6e09618306cafdd5fe9f", func := "marigraph/marigraphlaw15.BaseOrder", spec := "baseOrder", inPlace := ["slices.overlaps[marigraph/api.Point]"], unfollowed := true, recurses := true, plainKeys := false, apart := false }
def BaseOrderSaid : Prop := baseOrderRow.holds Tryz.pinned (OpenSpec.ofChange baseOrderSpec)

/-- ITS FALSE NEIGHBOUR: 'it returns false'. Refute it at one input. -/
def baseOrderWrong : ChangeSpec := { name := "baseOrder", fn := fun _ => fun
  | [d1, d2] => { results := [.lit (.bool false)], args := [d1, d2] }
  | _ => none }
def BaseOrderWrongFalsely : Prop := baseOrderRow.holds Tryz.pinned (OpenSpec.ofChange baseOrderWrong)

/-- 'marigraphlaw15.BaseIds': WHATEVER THE INPUT: true; the input reads as it did. -/
def baseIdsSpec : ChangeSpec := { name := "baseIds", fn := fun _ => fun
  | [d1, d2] => { results := [.lit (.bool true)], args := [d1, d2] }
  | _ => none }
def baseIdsRow : OpenClaim := { program := "ytganbpmicmbamaagreat", sum := "12a09c5d4db0c9ea768a215f19525189c5ab64a66c3b6e09618306cafdd5fe9f", func := "marigraph/marigraphlaw15.BaseIds", spec := "baseIds", inPlace := ["slices.overlaps[marigraph/api.Point]"], unfollowed := true, recurses := true, plainKeys := false, apart := false }
def BaseIdsSaid : Prop := baseIdsRow.holds Tryz.pinned (OpenSpec.ofChange baseIdsSpec)

/-- ITS FALSE NEIGHBOUR: 'it returns false'. Refute it at one input. -/
def baseIdsWrong : ChangeSpec := { name := "baseIds", fn := fun _ => fun
  | [d1, d2] => { results := [.lit (.bool false)], args := [d1, d2] }
  | _ => none }
def BaseIdsWrongFalsely : Prop := baseIdsRow.holds Tryz.pinned (OpenSpec.ofChange baseIdsWrong)

/-- 'marigraphlaw15.BasePlays': WHATEVER THE INPUT: true; the input reads as it did. -/
def basePlaysSpec : ChangeSpec := { name := "basePlays", fn := fun _ => fun
  | [d1, d2, d3, d4, d5] => { results := [.lit (.bool true)], args := [d1, d2, d3, d4, d5] }
  | _ => none }
def basePlaysRow : OpenClaim := { program := "ytganbpmicmbamaagreat", sum := "12a09c5d4db0c9ea768a215f19525189c5ab64a66c3b6e09618306cafdd5fe9f", func := "marigraph/marigraphlaw15.BasePlays", spec := "basePlays", inPlace := ["slices.overlaps[marigraph/api.Point]"], unfollowed := true, recurses := true, plainKeys := false, apart := false }
def BasePlaysSaid : Prop := basePlaysRow.holds Tryz.pinned (OpenSpec.ofChange basePlaysSpec)

/-- ITS FALSE NEIGHBOUR: 'it returns false'. Refute it at one input. -/
def basePlaysWrong : ChangeSpec := { name := "basePlays", fn := fun _ => fun
  | [d1, d2, d3, d4, d5] => { results := [.lit (.bool false)], args := [d1, d2, d3, d4, d5] }
  | _ => none }
def BasePlaysWrongFalsely : Prop := basePlaysRow.holds Tryz.pinned (OpenSpec.ofChange basePlaysWrong)

/-- 'marigraphlaw15.BaseBlocks': WHATEVER THE INPUT: true; the input reads as it did. -/
def baseBlocksSpec : ChangeSpec := { name := "baseBlocks", fn := fun _ => fun
  | [d1, d2] => { results := [.lit (.bool true)], args := [d1, d2] }
  | _ => none }
def baseBlocksRow : OpenClaim := { program := "ytganbpmicmbamaagreat", sum := "12a09c5d4db0c9ea768a215f19525189c5ab64a66c3b6e09618306cafdd5fe9f", func := "marigraph/marigraphlaw15.BaseBlocks", spec := "baseBlocks", inPlace := ["slices.overlaps[marigraph/api.Point]"], unfollowed := true, recurses := true, plainKeys := false, apart := false }
def BaseBlocksSaid : Prop := baseBlocksRow.holds Tryz.pinned (OpenSpec.ofChange baseBlocksSpec)

/-- ITS FALSE NEIGHBOUR: 'it returns false'. Refute it at one input. -/
def baseBlocksWrong : ChangeSpec := { name := "baseBlocks", fn := fun _ => fun
  | [d1, d2] => { results := [.lit (.bool false)], args := [d1, d2] }
  | _ => none }
def BaseBlocksWrongFalsely : Prop := baseBlocksRow.holds Tryz.pinned (OpenSpec.ofChange baseBlocksWrong)

/- THE SECOND FORM. 'bulk': how many values and letters a reading holds, each counted each time it is reached (what is shared counts as often as it is met; a slice's spare places count too). A statement '..UptoSaid' is the law's where the arguments, and the package variables that the reading takes, are together of bulk at most 1048576: NARROWER than '..Said'. Prove '..Said' where nothing that the law and all that it calls make is longer than what came in: it says more and counts as full. Else prove '..UptoSaid'. A law counts once. -/
mutual
def uptoBulk {H : Type} : DataW H → Nat
  | .lit (.string bytes) => bytes.length + 1
  | .lit _ => 1
  | .nil => 1
  | .ptr d => uptoBulk d + 1
  | .slice elems spare => uptoBulkAll elems + uptoBulkAll spare + 1
  | .agg parts => uptoBulkAll parts + 1
  | .iface _ d => uptoBulk d + 1
  | .map entries => uptoBulkEntries entries + 1
  | .held _ => 1
def uptoBulkAll {H : Type} : List (DataW H) → Nat
  | [] => 0
  | d :: r => uptoBulk d + uptoBulkAll r
def uptoBulkEntries {H : Type} : List (Lit × DataW H) → Nat
  | [] => 0
  | x :: r => uptoBulkEntry x + uptoBulkEntries r
def uptoBulkEntry {H : Type} : Lit × DataW H → Nat
  | (.string bytes, d) => bytes.length + uptoBulk d + 1
  | (_, d) => uptoBulk d + 1
 end
def uptoSmall : (H : Type) → List (DataW H) → Bool := fun _ ds => decide (uptoBulkAll ds ≤ 1048576)
def OpenSpec.upto (s : _root_.Go.ChangeSpec) : _root_.Go.OpenSpec := { _root_.Go.OpenSpec.ofChange s with cond := some uptoSmall }

/-- 'marigraphlaw15.BaseWindow', WHERE WHAT IT READS IS OF BULK AT MOST 1048576: true; the input reads as it did. -/
def baseWindowUptoRow : OpenClaim := { program := "ytganbpmicmbamaagreat", sum := "12a09c5d4db0c9ea768a215f19525189c5ab64a66c3b6e09618306cafdd5fe9f", func := "marigraph/marigraphlaw15.BaseWindow", spec := "baseWindow", inPlace := ["slices.overlaps[marigraph/api.Point]"], unfollowed := true, recurses := true, plainKeys := false, apart := false, narrowed := true }
def BaseWindowUptoSaid : Prop := baseWindowUptoRow.holds Tryz.pinned (OpenSpec.upto baseWindowSpec)

/-- 'marigraphlaw15.BasePack', WHERE WHAT IT READS IS OF BULK AT MOST 1048576: true; the input reads as it did. -/
def basePackUptoRow : OpenClaim := { program := "ytganbpmicmbamaagreat", sum := "12a09c5d4db0c9ea768a215f19525189c5ab64a66c3b6e09618306cafdd5fe9f", func := "marigraph/marigraphlaw15.BasePack", spec := "basePack", inPlace := ["slices.overlaps[marigraph/api.Point]"], unfollowed := true, recurses := true, plainKeys := false, apart := false, narrowed := true }
def BasePackUptoSaid : Prop := basePackUptoRow.holds Tryz.pinned (OpenSpec.upto basePackSpec)

/-- 'marigraphlaw15.BaseStill', WHERE WHAT IT READS IS OF BULK AT MOST 1048576: true; the input reads as it did. -/
def baseStillUptoRow : OpenClaim := { program := "ytganbpmicmbamaagreat", sum := "12a09c5d4db0c9ea768a215f19525189c5ab64a66c3b6e09618306cafdd5fe9f", func := "marigraph/marigraphlaw15.BaseStill", spec := "baseStill", inPlace := ["slices.overlaps[marigraph/api.Point]"], unfollowed := true, recurses := true, plainKeys := false, apart := false, narrowed := true }
def BaseStillUptoSaid : Prop := baseStillUptoRow.holds Tryz.pinned (OpenSpec.upto baseStillSpec)

/-- 'marigraphlaw15.BaseGone', WHERE WHAT IT READS IS OF BULK AT MOST 1048576: true; the input reads as it did. -/
def baseGoneUptoRow : OpenClaim := { program := "ytganbpmicmbamaagreat", sum := "12a09c5d4db0c9ea768a215f19525189c5ab64a66c3b6e09618306cafdd5fe9f", func := "marigraph/marigraphlaw15.BaseGone", spec := "baseGone", inPlace := ["slices.overlaps[marigraph/api.Point]"], unfollowed := true, recurses := true, plainKeys := false, apart := false, narrowed := true }
def BaseGoneUptoSaid : Prop := baseGoneUptoRow.holds Tryz.pinned (OpenSpec.upto baseGoneSpec)

/-- 'marigraphlaw15.BaseOrder', WHERE WHAT IT READS IS OF BULK AT MOST 1048576: true; the input reads as it did. -/
def baseOrderUptoRow : OpenClaim := { program := "ytganbpmicmbamaagreat", sum := "12a09c5d4db0c9ea768a215f19525189c5ab64a66c3b6e09618306cafdd5fe9f", func := "marigraph/marigraphlaw15.BaseOrder", spec := "baseOrder", inPlace := ["slices.overlaps[marigraph/api.Point]"], unfollowed := true, recurses := true, plainKeys := false, apart := false, narrowed := true }
def BaseOrderUptoSaid : Prop := baseOrderUptoRow.holds Tryz.pinned (OpenSpec.upto baseOrderSpec)

/-- 'marigraphlaw15.BaseIds', WHERE WHAT IT READS IS OF BULK AT MOST 1048576: true; the input reads as it did. -/
def baseIdsUptoRow : OpenClaim := { program := "ytganbpmicmbamaagreat", sum := "12a09c5d4db0c9ea768a215f19525189c5ab64a66c3b6e09618306cafdd5fe9f", func := "marigraph/marigraphlaw15.BaseIds", spec := "baseIds", inPlace := ["slices.overlaps[marigraph/api.Point]"], unfollowed := true, recurses := true, plainKeys := false, apart := false, narrowed := true }
def BaseIdsUptoSaid : Prop := baseIdsUptoRow.holds Tryz.pinned (OpenSpec.upto baseIdsSpec)

/-- 'marigraphlaw15.BasePlays', WHERE WHAT IT READS IS OF BULK AT MOST 1048576: true; the input reads as it did. -/
def basePlaysUptoRow : OpenClaim := { program := "ytganbpmicmbamaagreat", sum := "12a09c5d4db0c9ea768a215f19525189c5ab64a66c3b6e09618306cafdd5fe9f", func := "marigraph/marigraphlaw15.BasePlays", spec := "basePlays", inPlace := ["slices.overlaps[marigraph/api.Point]"], unfollowed := true, recurses := true, plainKeys := false, apart := false, narrowed := true }
def BasePlaysUptoSaid : Prop := basePlaysUptoRow.holds Tryz.pinned (OpenSpec.upto basePlaysSpec)

/-- 'marigraphlaw15.BaseBlocks', WHERE WHAT IT READS IS OF BULK AT MOST 1048576: true; the input reads as it did. -/
def baseBlocksUptoRow : OpenClaim := { program := "ytganbpmicmbamaagreat", sum := "12a09c5d4db0c9ea768a215f19525189c5ab64a66c3b6e09618306cafdd5fe9f", func := "marigraph/marigraphlaw15.BaseBlocks", spec := "baseBlocks", inPlace := ["slices.overlaps[marigraph/api.Point]"], unfollowed := true, recurses := true, plainKeys := false, apart := false, narrowed := true }
def BaseBlocksUptoSaid : Prop := baseBlocksUptoRow.holds Tryz.pinned (OpenSpec.upto baseBlocksSpec)

end Rows
end Go.Proofs.YtganbpmicmbamaaGreat
