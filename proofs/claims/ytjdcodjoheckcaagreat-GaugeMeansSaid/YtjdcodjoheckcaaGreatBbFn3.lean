/-
  Proved: each printed function is what the compiler makes of the program's own, one after another.
-/
import Derived.Test.YtjdcodjoheckcaaGreatBbCode1
import Derived.Test.YtjdcodjoheckcaaGreatBbUse
import Derived.Test.YtjdcodjoheckcaaGreatChecked
namespace Go.Proofs.YtjdcodjoheckcaaGreat
open Go.Bb Go.Bb.Tryzc
set_option maxRecDepth 100000
theorem k6 : funcOf Tryz.prog Tryz.f6 = some c6 := by kernel_rfl
theorem k10 : funcOf Tryz.prog Tryz.f10 = some c10 := by kernel_rfl
theorem k14 : funcOf Tryz.prog Tryz.f14 = some c14 := by kernel_rfl
theorem k18 : funcOf Tryz.prog Tryz.f18 = some c18 := by kernel_rfl
theorem k22 : funcOf Tryz.prog Tryz.f22 = some c22 := by kernel_rfl
theorem k26 : funcOf Tryz.prog Tryz.f26 = some c26 := by kernel_rfl
theorem k30 : funcOf Tryz.prog Tryz.f30 = some c30 := by kernel_rfl
theorem k34 : funcOf Tryz.prog Tryz.f34 = some c34 := by kernel_rfl
theorem k38 : funcOf Tryz.prog Tryz.f38 = some c38 := by kernel_rfl
theorem k42 : funcOf Tryz.prog Tryz.f42 = some c42 := by kernel_rfl
theorem k46 : funcOf Tryz.prog Tryz.f46 = some c46 := by kernel_rfl
theorem k50 : funcOf Tryz.prog Tryz.f50 = some c50 := by kernel_rfl
theorem k54 : funcOf Tryz.prog Tryz.f54 = some c54 := by kernel_rfl
theorem k58 : funcOf Tryz.prog Tryz.f58 = some c58 := by kernel_rfl
theorem k62 : funcOf Tryz.prog Tryz.f62 = some c62 := by kernel_rfl
theorem k67 : funcOf Tryz.prog Tryz.f67 = some c67 := by kernel_rfl
theorem k71 : funcOf Tryz.prog Tryz.f71 = some c71 := by kernel_rfl
theorem k75 : funcOf Tryz.prog Tryz.f75 = some c75 := by kernel_rfl
theorem k79 : funcOf Tryz.prog Tryz.f79 = some c79 := by kernel_rfl
theorem k83 : funcOf Tryz.prog Tryz.f83 = some c83 := by kernel_rfl
theorem k87 : funcOf Tryz.prog Tryz.f87 = some c87 := by kernel_rfl
theorem k91 : funcOf Tryz.prog Tryz.f91 = some c91 := by kernel_rfl
theorem k95 : funcOf Tryz.prog Tryz.f95 = some c95 := by kernel_rfl
theorem k99 : funcOf Tryz.prog Tryz.f99 = some c99 := by kernel_rfl
theorem k103 : funcOf Tryz.prog Tryz.f103 = some c103 := by kernel_rfl
theorem k107 : funcOf Tryz.prog Tryz.f107 = some c107 := by kernel_rfl
theorem k111 : funcOf Tryz.prog Tryz.f111 = some c111 := by kernel_rfl
theorem k115 : funcOf Tryz.prog Tryz.f115 = some c115 := by kernel_rfl
theorem k119 : funcOf Tryz.prog Tryz.f119 = some c119 := by kernel_rfl
theorem k123 : funcOf Tryz.prog Tryz.f123 = some c123 := by kernel_rfl
theorem k127 : funcOf Tryz.prog Tryz.f127 = some c127 := by kernel_rfl
theorem k131 : funcOf Tryz.prog Tryz.f131 = some c131 := by kernel_rfl
theorem k135 : funcOf Tryz.prog Tryz.f135 = some c135 := by kernel_rfl
theorem k139 : funcOf Tryz.prog Tryz.f139 = some c139 := by kernel_rfl
theorem k144 : funcOf Tryz.prog Tryz.f144 = some c144 := by kernel_rfl
theorem k148 : funcOf Tryz.prog Tryz.f148 = some c148 := by kernel_rfl
theorem k152 : funcOf Tryz.prog Tryz.f152 = some c152 := by kernel_rfl
theorem k156 : funcOf Tryz.prog Tryz.f156 = some c156 := by kernel_rfl
theorem k160 : funcOf Tryz.prog Tryz.f160 = some c160 := by kernel_rfl
theorem k164 : funcOf Tryz.prog Tryz.f164 = some c164 := by kernel_rfl
theorem k168 : funcOf Tryz.prog Tryz.f168 = some c168 := by kernel_rfl
theorem k172 : funcOf Tryz.prog Tryz.f172 = some c172 := by kernel_rfl
theorem k179 : funcOf Tryz.prog Tryz.f179 = some c179 := by kernel_rfl
end Go.Proofs.YtjdcodjoheckcaaGreat
