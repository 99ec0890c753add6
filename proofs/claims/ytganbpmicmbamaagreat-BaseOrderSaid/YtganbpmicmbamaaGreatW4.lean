/- What each function computes, and that the program computes it (part 4). Printed by gen.py, a program of this session. -/
import Derived.Test.YtganbpmicmbamaaGreatW3
set_option linter.unusedVariables false
set_option maxRecDepth 100000
set_option maxHeartbeats 4000000
namespace Go.Proofs.YtganbpmicmbamaaGreat
open Go Go.Mg
noncomputable section
variable {S : Nat → Prop} {w : World} {v0 v1 v2 v3 v4 v5 v6 v7 v8 v9 : Value} {cs0 cs1 cs2 cs3 : List Value} {fp0 fp1 fp2 fp3 : List Nat}
end
end Go.Proofs.YtganbpmicmbamaaGreat
