/-
  Proved: each printed function is what the compiler makes of the program's own, one after another.
-/
import Derived.Test.YtmdfjgahiaaggaaGreatBbCode1
import Derived.Test.YtmdfjgahiaaggaaGreatBbUse
import Derived.Test.YtmdfjgahiaaggaaGreatChecked
namespace Go.Proofs.YtmdfjgahiaaggaaGreat
open Go.Bb Go.Bb.Tryzc
set_option maxRecDepth 100000
theorem k3 : funcOf Tryz.prog Tryz.f3 = some c3 := by kernel_rfl
theorem k7 : funcOf Tryz.prog Tryz.f7 = some c7 := by kernel_rfl
theorem k11 : funcOf Tryz.prog Tryz.f11 = some c11 := by kernel_rfl
theorem k15 : funcOf Tryz.prog Tryz.f15 = some c15 := by kernel_rfl
theorem k19 : funcOf Tryz.prog Tryz.f19 = some c19 := by kernel_rfl
theorem k23 : funcOf Tryz.prog Tryz.f23 = some c23 := by kernel_rfl
theorem k27 : funcOf Tryz.prog Tryz.f27 = some c27 := by kernel_rfl
theorem k31 : funcOf Tryz.prog Tryz.f31 = some c31 := by kernel_rfl
theorem k35 : funcOf Tryz.prog Tryz.f35 = some c35 := by kernel_rfl
theorem k39 : funcOf Tryz.prog Tryz.f39 = some c39 := by kernel_rfl
theorem k43 : funcOf Tryz.prog Tryz.f43 = some c43 := by kernel_rfl
theorem k47 : funcOf Tryz.prog Tryz.f47 = some c47 := by kernel_rfl
theorem k51 : funcOf Tryz.prog Tryz.f51 = some c51 := by kernel_rfl
theorem k55 : funcOf Tryz.prog Tryz.f55 = some c55 := by kernel_rfl
theorem k59 : funcOf Tryz.prog Tryz.f59 = some c59 := by kernel_rfl
theorem k63 : funcOf Tryz.prog Tryz.f63 = some c63 := by kernel_rfl
theorem k67 : funcOf Tryz.prog Tryz.f67 = some c67 := by kernel_rfl
theorem k71 : funcOf Tryz.prog Tryz.f71 = some c71 := by kernel_rfl
theorem k75 : funcOf Tryz.prog Tryz.f75 = some c75 := by kernel_rfl
theorem k79 : funcOf Tryz.prog Tryz.f79 = some c79 := by kernel_rfl
theorem k83 : funcOf Tryz.prog Tryz.f83 = some c83 := by kernel_rfl
theorem k87 : funcOf Tryz.prog Tryz.f87 = some c87 := by kernel_rfl
theorem k91 : funcOf Tryz.prog Tryz.f91 = some c91 := by kernel_rfl
theorem k95 : funcOf Tryz.prog Tryz.f95 = some c95 := by kernel_rfl
theorem k99 : funcOf Tryz.prog Tryz.f99 = some c99 := by kernel_rfl
theorem k103 : funcOf Tryz.prog Tryz.f103 = some c103 := by kernel_rfl
theorem k107 : funcOf Tryz.prog Tryz.f107 = some c107 := by kernel_rfl
theorem k111 : funcOf Tryz.prog Tryz.f111 = some c111 := by kernel_rfl
theorem k115 : funcOf Tryz.prog Tryz.f115 = some c115 := by kernel_rfl
theorem k119 : funcOf Tryz.prog Tryz.f119 = some c119 := by kernel_rfl
theorem k123 : funcOf Tryz.prog Tryz.f123 = some c123 := by kernel_rfl
theorem k128 : funcOf Tryz.prog Tryz.f128 = some c128 := by kernel_rfl
theorem k132 : funcOf Tryz.prog Tryz.f132 = some c132 := by kernel_rfl
theorem k136 : funcOf Tryz.prog Tryz.f136 = some c136 := by kernel_rfl
end Go.Proofs.YtmdfjgahiaaggaaGreat
