/-
  No cell of these rows narrows 'for every input' (looked for: loops, veiled, ifaces, maps, wideKeys, modest, calm, conditions, laid).
  DERIVED. THE GIVEN ROWS OF THIS SEAT. 7 by the template 'for every input the law returns true; each argument reads behind the call as it read before'; 0 by the template 'total and deterministic' (their statements: YtconkjamlhfneaaTotals.lean).
  GIVEN WITH THE SEED: the statements are not yours to turn. If you find one false, say at which input.
  Laid BY PROGRAM, IN A SANDBOX (cutbox-rows.mjs): the forced cells as the released guide's own fill.sh prints them over the translation 17cf36e57259448b… (all of the seat's roots in one cut). By AI agents, Wed Nov 11 2026. No macro, syntax, notation, axiom, sorry.
-/
import Derived.Test.YtconkjamlhfneaaChecked
import GoSem.Claim
import GoSem.ClaimJoined
import GoSem.ClaimMapViews
import Derived.JoinedTies
import Derived.KernelRfl
namespace Go.Proofs.Ytconkjamlhfneaa
/- THE CELL 'sum', in the pinned program and in every row, IS THE sha256 OF THE DUMP (.gsa) THAT YtconkjamlhfneaaProg.lean LOADS. Nothing in Lean hashes anything: it is a label: what it is worth is what the hold of that sum in a sandbox is worth. -/
noncomputable def Try.pinned : Pinned := { name := "ytconkjamlhfneaa", sum := "17cf36e57259448be4c1b27850d93c8d063d8fab415794e121161a35015ed35c", checked := Try.checked }
namespace Rows
def none {H : Type} : Left H := { results := [], args := [] }

/-- 'marigraphlaw11.HeadFull': WHATEVER THE INPUT: true; the input reads as it did. -/
def headFullSpec : ChangeSpec := { name := "headFull", fn := fun _ => fun
  | [d] => { results := [.lit (.bool true)], args := [d] }
  | _ => none }
def headFullRow : OpenClaim := { program := "ytconkjamlhfneaa", sum := "17cf36e57259448be4c1b27850d93c8d063d8fab415794e121161a35015ed35c", func := "marigraph/marigraphlaw11.HeadFull", spec := "headFull", inPlace := ["slices.overlaps[marigraph/api.Point]"], unfollowed := true, recurses := true, plainKeys := false, apart := false }
def HeadFullSaid : Prop := headFullRow.holds Try.pinned (OpenSpec.ofChange headFullSpec)

/-- ITS FALSE NEIGHBOUR: 'it returns false'. Refute it at one input. -/
def headFullWrong : ChangeSpec := { name := "headFull", fn := fun _ => fun
  | [d] => { results := [.lit (.bool false)], args := [d] }
  | _ => none }
def HeadFullWrongFalsely : Prop := headFullRow.holds Try.pinned (OpenSpec.ofChange headFullWrong)

/-- 'marigraphlaw11.HeadOrder': WHATEVER THE INPUT: true; the input reads as it did. -/
def headOrderSpec : ChangeSpec := { name := "headOrder", fn := fun _ => fun
  | [d1, d2] => { results := [.lit (.bool true)], args := [d1, d2] }
  | _ => none }
def headOrderRow : OpenClaim := { program := "ytconkjamlhfneaa", sum := "17cf36e57259448be4c1b27850d93c8d063d8fab415794e121161a35015ed35c", func := "marigraph/marigraphlaw11.HeadOrder", spec := "headOrder", inPlace := ["slices.overlaps[marigraph/api.Point]"], unfollowed := true, recurses := true, plainKeys := false, apart := false }
def HeadOrderSaid : Prop := headOrderRow.holds Try.pinned (OpenSpec.ofChange headOrderSpec)

/-- ITS FALSE NEIGHBOUR: 'it returns false'. Refute it at one input. -/
def headOrderWrong : ChangeSpec := { name := "headOrder", fn := fun _ => fun
  | [d1, d2] => { results := [.lit (.bool false)], args := [d1, d2] }
  | _ => none }
def HeadOrderWrongFalsely : Prop := headOrderRow.holds Try.pinned (OpenSpec.ofChange headOrderWrong)

/-- 'marigraphlaw11.HeadFar': WHATEVER THE INPUT: true; the input reads as it did. -/
def headFarSpec : ChangeSpec := { name := "headFar", fn := fun _ => fun
  | [d1, d2] => { results := [.lit (.bool true)], args := [d1, d2] }
  | _ => none }
def headFarRow : OpenClaim := { program := "ytconkjamlhfneaa", sum := "17cf36e57259448be4c1b27850d93c8d063d8fab415794e121161a35015ed35c", func := "marigraph/marigraphlaw11.HeadFar", spec := "headFar", inPlace := ["slices.overlaps[marigraph/api.Point]"], unfollowed := true, recurses := true, plainKeys := false, apart := false }
def HeadFarSaid : Prop := headFarRow.holds Try.pinned (OpenSpec.ofChange headFarSpec)

/-- ITS FALSE NEIGHBOUR: 'it returns false'. Refute it at one input. -/
def headFarWrong : ChangeSpec := { name := "headFar", fn := fun _ => fun
  | [d1, d2] => { results := [.lit (.bool false)], args := [d1, d2] }
  | _ => none }
def HeadFarWrongFalsely : Prop := headFarRow.holds Try.pinned (OpenSpec.ofChange headFarWrong)

/-- 'marigraphlaw11.HeadLast': WHATEVER THE INPUT: true; the input reads as it did. -/
def headLastSpec : ChangeSpec := { name := "headLast", fn := fun _ => fun
  | [d1, d2] => { results := [.lit (.bool true)], args := [d1, d2] }
  | _ => none }
def headLastRow : OpenClaim := { program := "ytconkjamlhfneaa", sum := "17cf36e57259448be4c1b27850d93c8d063d8fab415794e121161a35015ed35c", func := "marigraph/marigraphlaw11.HeadLast", spec := "headLast", inPlace := ["slices.overlaps[marigraph/api.Point]"], unfollowed := true, recurses := true, plainKeys := false, apart := false }
def HeadLastSaid : Prop := headLastRow.holds Try.pinned (OpenSpec.ofChange headLastSpec)

/-- ITS FALSE NEIGHBOUR: 'it returns false'. Refute it at one input. -/
def headLastWrong : ChangeSpec := { name := "headLast", fn := fun _ => fun
  | [d1, d2] => { results := [.lit (.bool false)], args := [d1, d2] }
  | _ => none }
def HeadLastWrongFalsely : Prop := headLastRow.holds Try.pinned (OpenSpec.ofChange headLastWrong)

/-- 'marigraphlaw11.HeadKeeps': WHATEVER THE INPUT: true; the input reads as it did. -/
def headKeepsSpec : ChangeSpec := { name := "headKeeps", fn := fun _ => fun
  | [d1, d2] => { results := [.lit (.bool true)], args := [d1, d2] }
  | _ => none }
def headKeepsRow : OpenClaim := { program := "ytconkjamlhfneaa", sum := "17cf36e57259448be4c1b27850d93c8d063d8fab415794e121161a35015ed35c", func := "marigraph/marigraphlaw11.HeadKeeps", spec := "headKeeps", inPlace := ["slices.overlaps[marigraph/api.Point]"], unfollowed := true, recurses := true, plainKeys := false, apart := false }
def HeadKeepsSaid : Prop := headKeepsRow.holds Try.pinned (OpenSpec.ofChange headKeepsSpec)

/-- ITS FALSE NEIGHBOUR: 'it returns false'. Refute it at one input. -/
def headKeepsWrong : ChangeSpec := { name := "headKeeps", fn := fun _ => fun
  | [d1, d2] => { results := [.lit (.bool false)], args := [d1, d2] }
  | _ => none }
def HeadKeepsWrongFalsely : Prop := headKeepsRow.holds Try.pinned (OpenSpec.ofChange headKeepsWrong)

/-- 'marigraphlaw11.HeadPlays': WHATEVER THE INPUT: true; the input reads as it did. -/
def headPlaysSpec : ChangeSpec := { name := "headPlays", fn := fun _ => fun
  | [d1, d2] => { results := [.lit (.bool true)], args := [d1, d2] }
  | _ => none }
def headPlaysRow : OpenClaim := { program := "ytconkjamlhfneaa", sum := "17cf36e57259448be4c1b27850d93c8d063d8fab415794e121161a35015ed35c", func := "marigraph/marigraphlaw11.HeadPlays", spec := "headPlays", inPlace := ["slices.overlaps[marigraph/api.Point]"], unfollowed := true, recurses := true, plainKeys := false, apart := false }
def HeadPlaysSaid : Prop := headPlaysRow.holds Try.pinned (OpenSpec.ofChange headPlaysSpec)

/-- ITS FALSE NEIGHBOUR: 'it returns false'. Refute it at one input. -/
def headPlaysWrong : ChangeSpec := { name := "headPlays", fn := fun _ => fun
  | [d1, d2] => { results := [.lit (.bool false)], args := [d1, d2] }
  | _ => none }
def HeadPlaysWrongFalsely : Prop := headPlaysRow.holds Try.pinned (OpenSpec.ofChange headPlaysWrong)

/-- 'marigraphlaw11.HeadNil': WHATEVER THE INPUT: true; the input reads as it did. -/
def headNilSpec : ChangeSpec := { name := "headNil", fn := fun _ => fun
  | [d] => { results := [.lit (.bool true)], args := [d] }
  | _ => none }
def headNilRow : OpenClaim := { program := "ytconkjamlhfneaa", sum := "17cf36e57259448be4c1b27850d93c8d063d8fab415794e121161a35015ed35c", func := "marigraph/marigraphlaw11.HeadNil", spec := "headNil", inPlace := ["slices.overlaps[marigraph/api.Point]"], unfollowed := true, recurses := true, plainKeys := false, apart := false }
def HeadNilSaid : Prop := headNilRow.holds Try.pinned (OpenSpec.ofChange headNilSpec)

/-- ITS FALSE NEIGHBOUR: 'it returns false'. Refute it at one input. -/
def headNilWrong : ChangeSpec := { name := "headNil", fn := fun _ => fun
  | [d] => { results := [.lit (.bool false)], args := [d] }
  | _ => none }
def HeadNilWrongFalsely : Prop := headNilRow.holds Try.pinned (OpenSpec.ofChange headNilWrong)

/- THE SECOND FORM. 'bulk': how many values and letters a reading holds, each counted each time it is reached (what is shared counts as often as it is met; a slice's spare places count too). A statement '..UptoSaid' is the law's where the arguments, and the package variables that the reading takes, are together of bulk at most 1048576: NARROWER than '..Said'. Prove '..Said' where nothing that the law and all that it calls make is longer than what came in: it says more and counts as full. Else prove '..UptoSaid'. A law counts once. -/
mutual
def uptoBulk {H : Type} : DataW H → Nat
  | .lit (.string bytes) => bytes.length + 1
  | .lit _ => 1
  | .nil => 1
  | .ptr d => uptoBulk d + 1
  | .slice elems spare => uptoBulkAll elems + uptoBulkAll spare + 1
  | .agg parts => uptoBulkAll parts + 1
  | .iface _ d => uptoBulk d + 1
  | .map entries => uptoBulkEntries entries + 1
  | .held _ => 1
def uptoBulkAll {H : Type} : List (DataW H) → Nat
  | [] => 0
  | d :: r => uptoBulk d + uptoBulkAll r
def uptoBulkEntries {H : Type} : List (Lit × DataW H) → Nat
  | [] => 0
  | x :: r => uptoBulkEntry x + uptoBulkEntries r
def uptoBulkEntry {H : Type} : Lit × DataW H → Nat
  | (.string bytes, d) => bytes.length + uptoBulk d + 1
  | (_, d) => uptoBulk d + 1
 end
def uptoSmall : (H : Type) → List (DataW H) → Bool := fun _ ds => decide (uptoBulkAll ds ≤ 1048576)
def OpenSpec.upto (s : _root_.Go.ChangeSpec) : _root_.Go.OpenSpec := { _root_.Go.OpenSpec.ofChange s with cond := some uptoSmall }

/-- 'marigraphlaw11.HeadFull', WHERE WHAT IT READS IS OF BULK AT MOST 1048576: true; the input reads as it did. -/
def headFullUptoRow : OpenClaim := { program := "ytconkjamlhfneaa", sum := "17cf36e57259448be4c1b27850d93c8d063d8fab415794e121161a35015ed35c", func := "marigraph/marigraphlaw11.HeadFull", spec := "headFull", inPlace := ["slices.overlaps[marigraph/api.Point]"], unfollowed := true, recurses := true, plainKeys := false, apart := false, narrowed := true }
def HeadFullUptoSaid : Prop := headFullUptoRow.holds Try.pinned (OpenSpec.upto headFullSpec)

/-- 'marigraphlaw11.HeadOrder', WHERE WHAT IT READS IS OF BULK AT MOST 1048576: true; the input reads as it did. -/
def headOrderUptoRow : OpenClaim := { program := "ytconkjamlhfneaa", sum := "17cf36e57259448be4c1b27850d93c8d063d8fab415794e121161a35015ed35c", func := "marigraph/marigraphlaw11.HeadOrder", spec := "headOrder", inPlace := ["slices.overlaps[marigraph/api.Point]"], unfollowed := true, recurses := true, plainKeys := false, apart := false, narrowed := true }
def HeadOrderUptoSaid : Prop := headOrderUptoRow.holds Try.pinned (OpenSpec.upto headOrderSpec)

/-- 'marigraphlaw11.HeadFar', WHERE WHAT IT READS IS OF BULK AT MOST 1048576: true; the input reads as it did. -/
def headFarUptoRow : OpenClaim := { program := "ytconkjamlhfneaa", sum := "17cf36e57259448be4c1b27850d93c8d063d8fab415794e121161a35015ed35c", func := "marigraph/marigraphlaw11.HeadFar", spec := "headFar", inPlace := ["slices.overlaps[marigraph/api.Point]"], unfollowed := true, recurses := true, plainKeys := false, apart := false, narrowed := true }
def HeadFarUptoSaid : Prop := headFarUptoRow.holds Try.pinned (OpenSpec.upto headFarSpec)

/-- 'marigraphlaw11.HeadLast', WHERE WHAT IT READS IS OF BULK AT MOST 1048576: true; the input reads as it did. -/
def headLastUptoRow : OpenClaim := { program := "ytconkjamlhfneaa", sum := "17cf36e57259448be4c1b27850d93c8d063d8fab415794e121161a35015ed35c", func := "marigraph/marigraphlaw11.HeadLast", spec := "headLast", inPlace := ["slices.overlaps[marigraph/api.Point]"], unfollowed := true, recurses := true, plainKeys := false, apart := false, narrowed := true }
def HeadLastUptoSaid : Prop := headLastUptoRow.holds Try.pinned (OpenSpec.upto headLastSpec)

/-- 'marigraphlaw11.HeadKeeps', WHERE WHAT IT READS IS OF BULK AT MOST 1048576: true; the input reads as it did. -/
def headKeepsUptoRow : OpenClaim := { program := "ytconkjamlhfneaa", sum := "17cf36e57259448be4c1b27850d93c8d063d8fab415794e121161a35015ed35c", func := "marigraph/marigraphlaw11.HeadKeeps", spec := "headKeeps", inPlace := ["slices.overlaps[marigraph/api.Point]"], unfollowed := true, recurses := true, plainKeys := false, apart := false, narrowed := true }
def HeadKeepsUptoSaid : Prop := headKeepsUptoRow.holds Try.pinned (OpenSpec.upto headKeepsSpec)

/-- 'marigraphlaw11.HeadPlays', WHERE WHAT IT READS IS OF BULK AT MOST 1048576: true; the input reads as it did. -/
def headPlaysUptoRow : OpenClaim := { program := "ytconkjamlhfneaa", sum := "17cf36e57259448be4c1b27850d93c8d063d8fab415794e121161a35015ed35c", func := "marigraph/marigraphlaw11.HeadPlays", spec := "headPlays", inPlace := ["slices.overlaps[marigraph/api.Point]"], unfollowed := true, recurses := true, plainKeys := false, apart := false, narrowed := true }
def HeadPlaysUptoSaid : Prop := headPlaysUptoRow.holds Try.pinned (OpenSpec.upto headPlaysSpec)

/-- 'marigraphlaw11.HeadNil', WHERE WHAT IT READS IS OF BULK AT MOST 1048576: true; the input reads as it did. -/
def headNilUptoRow : OpenClaim := { program := "ytconkjamlhfneaa", sum := "17cf36e57259448be4c1b27850d93c8d063d8fab415794e121161a35015ed35c", func := "marigraph/marigraphlaw11.HeadNil", spec := "headNil", inPlace := ["slices.overlaps[marigraph/api.Point]"], unfollowed := true, recurses := true, plainKeys := false, apart := false, narrowed := true }
def HeadNilUptoSaid : Prop := headNilUptoRow.holds Try.pinned (OpenSpec.upto headNilSpec)

end Rows
end Go.Proofs.Ytconkjamlhfneaa
