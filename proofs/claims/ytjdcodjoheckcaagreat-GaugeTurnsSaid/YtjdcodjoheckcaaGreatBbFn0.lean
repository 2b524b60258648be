/-
  Proved: each printed function is what the compiler makes of the program's own, one after another.
-/
import Derived.Test.YtjdcodjoheckcaaGreatBbCode1
import Derived.Test.YtjdcodjoheckcaaGreatBbUse
import Derived.Test.YtjdcodjoheckcaaGreatChecked
namespace Go.Proofs.YtjdcodjoheckcaaGreat
open Go.Bb Go.Bb.Tryzc
set_option maxRecDepth 100000
theorem k3 : funcOf Tryz.prog Tryz.f3 = some c3 := by kernel_rfl
theorem k7 : funcOf Tryz.prog Tryz.f7 = some c7 := by kernel_rfl
theorem k11 : funcOf Tryz.prog Tryz.f11 = some c11 := by kernel_rfl
theorem k15 : funcOf Tryz.prog Tryz.f15 = some c15 := by kernel_rfl
theorem k19 : funcOf Tryz.prog Tryz.f19 = some c19 := by kernel_rfl
theorem k23 : funcOf Tryz.prog Tryz.f23 = some c23 := by kernel_rfl
theorem k27 : funcOf Tryz.prog Tryz.f27 = some c27 := by kernel_rfl
theorem k31 : funcOf Tryz.prog Tryz.f31 = some c31 := by kernel_rfl
theorem k35 : funcOf Tryz.prog Tryz.f35 = some c35 := by kernel_rfl
theorem k39 : funcOf Tryz.prog Tryz.f39 = some c39 := by kernel_rfl
theorem k43 : funcOf Tryz.prog Tryz.f43 = some c43 := by kernel_rfl
theorem k47 : funcOf Tryz.prog Tryz.f47 = some c47 := by kernel_rfl
theorem k51 : funcOf Tryz.prog Tryz.f51 = some c51 := by kernel_rfl
theorem k55 : funcOf Tryz.prog Tryz.f55 = some c55 := by kernel_rfl
theorem k59 : funcOf Tryz.prog Tryz.f59 = some c59 := by kernel_rfl
theorem k63 : funcOf Tryz.prog Tryz.f63 = some c63 := by kernel_rfl
theorem k68 : funcOf Tryz.prog Tryz.f68 = some c68 := by kernel_rfl
theorem k72 : funcOf Tryz.prog Tryz.f72 = some c72 := by kernel_rfl
theorem k76 : funcOf Tryz.prog Tryz.f76 = some c76 := by kernel_rfl
theorem k80 : funcOf Tryz.prog Tryz.f80 = some c80 := by kernel_rfl
theorem k84 : funcOf Tryz.prog Tryz.f84 = some c84 := by kernel_rfl
theorem k88 : funcOf Tryz.prog Tryz.f88 = some c88 := by kernel_rfl
theorem k92 : funcOf Tryz.prog Tryz.f92 = some c92 := by kernel_rfl
theorem k96 : funcOf Tryz.prog Tryz.f96 = some c96 := by kernel_rfl
theorem k100 : funcOf Tryz.prog Tryz.f100 = some c100 := by kernel_rfl
theorem k104 : funcOf Tryz.prog Tryz.f104 = some c104 := by kernel_rfl
theorem k108 : funcOf Tryz.prog Tryz.f108 = some c108 := by kernel_rfl
theorem k112 : funcOf Tryz.prog Tryz.f112 = some c112 := by kernel_rfl
theorem k116 : funcOf Tryz.prog Tryz.f116 = some c116 := by kernel_rfl
theorem k120 : funcOf Tryz.prog Tryz.f120 = some c120 := by kernel_rfl
theorem k124 : funcOf Tryz.prog Tryz.f124 = some c124 := by kernel_rfl
theorem k128 : funcOf Tryz.prog Tryz.f128 = some c128 := by kernel_rfl
theorem k132 : funcOf Tryz.prog Tryz.f132 = some c132 := by kernel_rfl
theorem k136 : funcOf Tryz.prog Tryz.f136 = some c136 := by kernel_rfl
theorem k140 : funcOf Tryz.prog Tryz.f140 = some c140 := by kernel_rfl
theorem k145 : funcOf Tryz.prog Tryz.f145 = some c145 := by kernel_rfl
theorem k149 : funcOf Tryz.prog Tryz.f149 = some c149 := by kernel_rfl
theorem k153 : funcOf Tryz.prog Tryz.f153 = some c153 := by kernel_rfl
theorem k157 : funcOf Tryz.prog Tryz.f157 = some c157 := by kernel_rfl
theorem k161 : funcOf Tryz.prog Tryz.f161 = some c161 := by kernel_rfl
theorem k165 : funcOf Tryz.prog Tryz.f165 = some c165 := by kernel_rfl
theorem k169 : funcOf Tryz.prog Tryz.f169 = some c169 := by kernel_rfl
theorem k173 : funcOf Tryz.prog Tryz.f173 = some c173 := by kernel_rfl
theorem k180 : funcOf Tryz.prog Tryz.f180 = some c180 := by kernel_rfl
end Go.Proofs.YtjdcodjoheckcaaGreat
