/-
  Proved: each printed function is what the compiler makes of the program's own, one after another.
-/
import Derived.Test.YtjdcodjoheckcaaGreatBbCode1
import Derived.Test.YtjdcodjoheckcaaGreatBbUse
import Derived.Test.YtjdcodjoheckcaaGreatChecked
namespace Go.Proofs.YtjdcodjoheckcaaGreat
open Go.Bb Go.Bb.Tryzc
set_option maxRecDepth 100000
theorem k4 : funcOf Tryz.prog Tryz.f4 = some c4 := by kernel_rfl
theorem k8 : funcOf Tryz.prog Tryz.f8 = some c8 := by kernel_rfl
theorem k12 : funcOf Tryz.prog Tryz.f12 = some c12 := by kernel_rfl
theorem k16 : funcOf Tryz.prog Tryz.f16 = some c16 := by kernel_rfl
theorem k20 : funcOf Tryz.prog Tryz.f20 = some c20 := by kernel_rfl
theorem k24 : funcOf Tryz.prog Tryz.f24 = some c24 := by kernel_rfl
theorem k28 : funcOf Tryz.prog Tryz.f28 = some c28 := by kernel_rfl
theorem k32 : funcOf Tryz.prog Tryz.f32 = some c32 := by kernel_rfl
theorem k36 : funcOf Tryz.prog Tryz.f36 = some c36 := by kernel_rfl
theorem k40 : funcOf Tryz.prog Tryz.f40 = some c40 := by kernel_rfl
theorem k44 : funcOf Tryz.prog Tryz.f44 = some c44 := by kernel_rfl
theorem k48 : funcOf Tryz.prog Tryz.f48 = some c48 := by kernel_rfl
theorem k52 : funcOf Tryz.prog Tryz.f52 = some c52 := by kernel_rfl
theorem k56 : funcOf Tryz.prog Tryz.f56 = some c56 := by kernel_rfl
theorem k60 : funcOf Tryz.prog Tryz.f60 = some c60 := by kernel_rfl
theorem k65 : funcOf Tryz.prog Tryz.f65 = some c65 := by kernel_rfl
theorem k69 : funcOf Tryz.prog Tryz.f69 = some c69 := by kernel_rfl
theorem k73 : funcOf Tryz.prog Tryz.f73 = some c73 := by kernel_rfl
theorem k77 : funcOf Tryz.prog Tryz.f77 = some c77 := by kernel_rfl
theorem k81 : funcOf Tryz.prog Tryz.f81 = some c81 := by kernel_rfl
theorem k85 : funcOf Tryz.prog Tryz.f85 = some c85 := by kernel_rfl
theorem k89 : funcOf Tryz.prog Tryz.f89 = some c89 := by kernel_rfl
theorem k93 : funcOf Tryz.prog Tryz.f93 = some c93 := by kernel_rfl
theorem k97 : funcOf Tryz.prog Tryz.f97 = some c97 := by kernel_rfl
theorem k101 : funcOf Tryz.prog Tryz.f101 = some c101 := by kernel_rfl
theorem k105 : funcOf Tryz.prog Tryz.f105 = some c105 := by kernel_rfl
theorem k109 : funcOf Tryz.prog Tryz.f109 = some c109 := by kernel_rfl
theorem k113 : funcOf Tryz.prog Tryz.f113 = some c113 := by kernel_rfl
theorem k117 : funcOf Tryz.prog Tryz.f117 = some c117 := by kernel_rfl
theorem k121 : funcOf Tryz.prog Tryz.f121 = some c121 := by kernel_rfl
theorem k125 : funcOf Tryz.prog Tryz.f125 = some c125 := by kernel_rfl
theorem k129 : funcOf Tryz.prog Tryz.f129 = some c129 := by kernel_rfl
theorem k133 : funcOf Tryz.prog Tryz.f133 = some c133 := by kernel_rfl
theorem k137 : funcOf Tryz.prog Tryz.f137 = some c137 := by kernel_rfl
theorem k142 : funcOf Tryz.prog Tryz.f142 = some c142 := by kernel_rfl
theorem k146 : funcOf Tryz.prog Tryz.f146 = some c146 := by kernel_rfl
theorem k150 : funcOf Tryz.prog Tryz.f150 = some c150 := by kernel_rfl
theorem k154 : funcOf Tryz.prog Tryz.f154 = some c154 := by kernel_rfl
theorem k158 : funcOf Tryz.prog Tryz.f158 = some c158 := by kernel_rfl
theorem k162 : funcOf Tryz.prog Tryz.f162 = some c162 := by kernel_rfl
theorem k166 : funcOf Tryz.prog Tryz.f166 = some c166 := by kernel_rfl
theorem k170 : funcOf Tryz.prog Tryz.f170 = some c170 := by kernel_rfl
theorem k174 : funcOf Tryz.prog Tryz.f174 = some c174 := by kernel_rfl
end Go.Proofs.YtjdcodjoheckcaaGreat
