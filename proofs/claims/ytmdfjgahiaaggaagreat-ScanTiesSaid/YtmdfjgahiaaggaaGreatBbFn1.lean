/-
  Proved: each printed function is what the compiler makes of the program's own, one after another.
-/
import Derived.Test.YtmdfjgahiaaggaaGreatBbCode1
import Derived.Test.YtmdfjgahiaaggaaGreatBbUse
import Derived.Test.YtmdfjgahiaaggaaGreatChecked
namespace Go.Proofs.YtmdfjgahiaaggaaGreat
open Go.Bb Go.Bb.Tryzc
set_option maxRecDepth 100000
theorem k4 : funcOf Tryz.prog Tryz.f4 = some c4 := by kernel_rfl
theorem k8 : funcOf Tryz.prog Tryz.f8 = some c8 := by kernel_rfl
theorem k12 : funcOf Tryz.prog Tryz.f12 = some c12 := by kernel_rfl
theorem k16 : funcOf Tryz.prog Tryz.f16 = some c16 := by kernel_rfl
theorem k20 : funcOf Tryz.prog Tryz.f20 = some c20 := by kernel_rfl
theorem k24 : funcOf Tryz.prog Tryz.f24 = some c24 := by kernel_rfl
theorem k28 : funcOf Tryz.prog Tryz.f28 = some c28 := by kernel_rfl
theorem k32 : funcOf Tryz.prog Tryz.f32 = some c32 := by kernel_rfl
theorem k36 : funcOf Tryz.prog Tryz.f36 = some c36 := by kernel_rfl
theorem k40 : funcOf Tryz.prog Tryz.f40 = some c40 := by kernel_rfl
theorem k44 : funcOf Tryz.prog Tryz.f44 = some c44 := by kernel_rfl
theorem k48 : funcOf Tryz.prog Tryz.f48 = some c48 := by kernel_rfl
theorem k52 : funcOf Tryz.prog Tryz.f52 = some c52 := by kernel_rfl
theorem k56 : funcOf Tryz.prog Tryz.f56 = some c56 := by kernel_rfl
theorem k60 : funcOf Tryz.prog Tryz.f60 = some c60 := by kernel_rfl
theorem k64 : funcOf Tryz.prog Tryz.f64 = some c64 := by kernel_rfl
theorem k68 : funcOf Tryz.prog Tryz.f68 = some c68 := by kernel_rfl
theorem k72 : funcOf Tryz.prog Tryz.f72 = some c72 := by kernel_rfl
theorem k76 : funcOf Tryz.prog Tryz.f76 = some c76 := by kernel_rfl
theorem k80 : funcOf Tryz.prog Tryz.f80 = some c80 := by kernel_rfl
theorem k84 : funcOf Tryz.prog Tryz.f84 = some c84 := by kernel_rfl
theorem k88 : funcOf Tryz.prog Tryz.f88 = some c88 := by kernel_rfl
theorem k92 : funcOf Tryz.prog Tryz.f92 = some c92 := by kernel_rfl
theorem k96 : funcOf Tryz.prog Tryz.f96 = some c96 := by kernel_rfl
theorem k100 : funcOf Tryz.prog Tryz.f100 = some c100 := by kernel_rfl
theorem k104 : funcOf Tryz.prog Tryz.f104 = some c104 := by kernel_rfl
theorem k108 : funcOf Tryz.prog Tryz.f108 = some c108 := by kernel_rfl
theorem k112 : funcOf Tryz.prog Tryz.f112 = some c112 := by kernel_rfl
theorem k116 : funcOf Tryz.prog Tryz.f116 = some c116 := by kernel_rfl
theorem k120 : funcOf Tryz.prog Tryz.f120 = some c120 := by kernel_rfl
theorem k125 : funcOf Tryz.prog Tryz.f125 = some c125 := by kernel_rfl
theorem k129 : funcOf Tryz.prog Tryz.f129 = some c129 := by kernel_rfl
theorem k133 : funcOf Tryz.prog Tryz.f133 = some c133 := by kernel_rfl
theorem k137 : funcOf Tryz.prog Tryz.f137 = some c137 := by kernel_rfl
end Go.Proofs.YtmdfjgahiaaggaaGreat
