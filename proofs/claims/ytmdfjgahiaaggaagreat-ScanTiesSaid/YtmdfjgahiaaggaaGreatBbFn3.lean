/-
  Proved: each printed function is what the compiler makes of the program's own, one after another.
-/
import Derived.Test.YtmdfjgahiaaggaaGreatBbCode1
import Derived.Test.YtmdfjgahiaaggaaGreatBbUse
import Derived.Test.YtmdfjgahiaaggaaGreatChecked
namespace Go.Proofs.YtmdfjgahiaaggaaGreat
open Go.Bb Go.Bb.Tryzc
set_option maxRecDepth 100000
theorem k6 : funcOf Tryz.prog Tryz.f6 = some c6 := by kernel_rfl
theorem k10 : funcOf Tryz.prog Tryz.f10 = some c10 := by kernel_rfl
theorem k14 : funcOf Tryz.prog Tryz.f14 = some c14 := by kernel_rfl
theorem k18 : funcOf Tryz.prog Tryz.f18 = some c18 := by kernel_rfl
theorem k22 : funcOf Tryz.prog Tryz.f22 = some c22 := by kernel_rfl
theorem k26 : funcOf Tryz.prog Tryz.f26 = some c26 := by kernel_rfl
theorem k30 : funcOf Tryz.prog Tryz.f30 = some c30 := by kernel_rfl
theorem k34 : funcOf Tryz.prog Tryz.f34 = some c34 := by kernel_rfl
theorem k38 : funcOf Tryz.prog Tryz.f38 = some c38 := by kernel_rfl
theorem k42 : funcOf Tryz.prog Tryz.f42 = some c42 := by kernel_rfl
theorem k46 : funcOf Tryz.prog Tryz.f46 = some c46 := by kernel_rfl
theorem k50 : funcOf Tryz.prog Tryz.f50 = some c50 := by kernel_rfl
theorem k54 : funcOf Tryz.prog Tryz.f54 = some c54 := by kernel_rfl
theorem k58 : funcOf Tryz.prog Tryz.f58 = some c58 := by kernel_rfl
theorem k62 : funcOf Tryz.prog Tryz.f62 = some c62 := by kernel_rfl
theorem k66 : funcOf Tryz.prog Tryz.f66 = some c66 := by kernel_rfl
theorem k70 : funcOf Tryz.prog Tryz.f70 = some c70 := by kernel_rfl
theorem k74 : funcOf Tryz.prog Tryz.f74 = some c74 := by kernel_rfl
theorem k78 : funcOf Tryz.prog Tryz.f78 = some c78 := by kernel_rfl
theorem k82 : funcOf Tryz.prog Tryz.f82 = some c82 := by kernel_rfl
theorem k86 : funcOf Tryz.prog Tryz.f86 = some c86 := by kernel_rfl
theorem k90 : funcOf Tryz.prog Tryz.f90 = some c90 := by kernel_rfl
theorem k94 : funcOf Tryz.prog Tryz.f94 = some c94 := by kernel_rfl
theorem k98 : funcOf Tryz.prog Tryz.f98 = some c98 := by kernel_rfl
theorem k102 : funcOf Tryz.prog Tryz.f102 = some c102 := by kernel_rfl
theorem k106 : funcOf Tryz.prog Tryz.f106 = some c106 := by kernel_rfl
theorem k110 : funcOf Tryz.prog Tryz.f110 = some c110 := by kernel_rfl
theorem k114 : funcOf Tryz.prog Tryz.f114 = some c114 := by kernel_rfl
theorem k118 : funcOf Tryz.prog Tryz.f118 = some c118 := by kernel_rfl
theorem k122 : funcOf Tryz.prog Tryz.f122 = some c122 := by kernel_rfl
theorem k127 : funcOf Tryz.prog Tryz.f127 = some c127 := by kernel_rfl
theorem k131 : funcOf Tryz.prog Tryz.f131 = some c131 := by kernel_rfl
theorem k135 : funcOf Tryz.prog Tryz.f135 = some c135 := by kernel_rfl
end Go.Proofs.YtmdfjgahiaaggaaGreat
