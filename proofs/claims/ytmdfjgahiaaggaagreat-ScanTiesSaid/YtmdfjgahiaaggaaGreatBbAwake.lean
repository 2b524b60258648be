/-
  Proved: the layer's first sentence, 'awake', returns true; poly.At is taken by its summary.
-/
import Derived.Test.YtmdfjgahiaaggaaGreatBbFacts
import Derived.Test.YtmdfjgahiaaggaaGreatBbAt
namespace Go.Proofs.YtmdfjgahiaaggaaGreat
open Go.Bb
set_option maxRecDepth 100000
noncomputable def M0 : Mach := ⟨Go.Bb.Tryzc.prog, fun _ => none⟩
theorem fns0 : Fld.Fns M0 := ⟨rfl, rfl, rfl, rfl, rfl, rfl, rfl, rfl, rfl, rfl⟩
theorem atOk : CallsOk Tryz.prog (fun g args h k => if g = 112 then atS args h k else none) := at_ok (M := M0) extOk mixed progOk sumsOk_none fns0
noncomputable def sums1 : SumT := fun i => if i = 112 then some atS else none
theorem sums1_ok : SumsOk Tryz.prog sums1 := sumsOk_one atOk
theorem awakes : saysTrue (callOf Go.Bb.Tryzc.prog sums1 1000000 7 [] ⟨.l, 0⟩) = true := by decide +kernel
noncomputable def sums2 : SumT := fun i => if i = 7 then some trueS else sums1 i
theorem sums2_ok : SumsOk Tryz.prog sums2 := sumsOk_add (trueS_ok extOk mixed progOk sums1_ok awakes) sums1_ok
end Go.Proofs.YtmdfjgahiaaggaaGreat
