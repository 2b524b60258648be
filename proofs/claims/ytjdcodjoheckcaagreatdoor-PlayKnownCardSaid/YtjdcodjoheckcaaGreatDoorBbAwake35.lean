/-
  Proved: a layer's first sentence, 'awake', returns true.
-/
import Derived.Test.YtjdcodjoheckcaaGreatDoorBbSums
namespace Go.Proofs.YtjdcodjoheckcaaGreatDoor
open Go.Bb
set_option maxRecDepth 100000
theorem awakes35 : saysTrue (callOf Go.Bb.Tryzc.prog sums1 1000000 35 [] ⟨.l, 0⟩) = true := by decide +kernel
noncomputable def sumsA35 : SumT := fun i => if i = 35 then some trueS else sums1 i
theorem sumsA35_ok : SumsOk Tryz.prog sumsA35 := sumsOk_add (trueS_ok extOk mixed progOk sums1_ok awakes35) sums1_ok
end Go.Proofs.YtjdcodjoheckcaaGreatDoor
