/-
  Proved: field.Make, (Tables).Mul and poly.At may be taken by their summaries.
-/
import Derived.Test.YtjdcodjoheckcaaGreatDoorBbFacts
import Derived.Test.YtjdcodjoheckcaaGreatDoorBbAt
import Derived.Test.YtjdcodjoheckcaaGreatDoorBbMakeS
namespace Go.Proofs.YtjdcodjoheckcaaGreatDoor
open Go.Bb
noncomputable def M0 : Mach := ⟨Go.Bb.Tryzc.prog, fun _ => none⟩
theorem fns0 : Fld.Fns M0 := ⟨rfl, rfl, rfl, rfl, rfl, rfl, rfl, rfl, rfl, rfl⟩
theorem atOk : CallsOk Tryz.prog (fun g args h k => if g = 234 then atS args h k else none) := at_ok (M := M0) extOk mixed progOk sumsOk_none fns0
theorem mulOk : CallsOk Tryz.prog (fun g args h k => if g = 241 then mulS args h k else none) := mul_ok (M := M0) extOk mixed progOk sumsOk_none fns0
set_option maxRecDepth 100000 in
theorem makes : isMake (callOf Go.Bb.Tryzc.prog (fun _ => none) 1000000 104 [] ⟨.l, 0⟩) = true := by decide +kernel
theorem makeOk : CallsOk Tryz.prog (fun g args h k => if g = 104 then makeS args h k else none) := make_ok extOk mixed progOk sumsOk_none makes
noncomputable def sums1 : SumT := fun i => if i = 104 then some makeS else if i = 241 then some mulS else if i = 234 then some atS else none
theorem sums1_ok : SumsOk Tryz.prog sums1 := sumsOk_add makeOk (sumsOk_add mulOk (sumsOk_one atOk))
end Go.Proofs.YtjdcodjoheckcaaGreatDoor
