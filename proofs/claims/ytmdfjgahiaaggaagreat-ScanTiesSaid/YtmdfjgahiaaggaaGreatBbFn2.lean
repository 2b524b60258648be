/-
  Proved: each printed function is what the compiler makes of the program's own, one after another.
-/
import Derived.Test.YtmdfjgahiaaggaaGreatBbCode1
import Derived.Test.YtmdfjgahiaaggaaGreatBbUse
import Derived.Test.YtmdfjgahiaaggaaGreatChecked
namespace Go.Proofs.YtmdfjgahiaaggaaGreat
open Go.Bb Go.Bb.Tryzc
set_option maxRecDepth 100000
theorem k5 : funcOf Tryz.prog Tryz.f5 = some c5 := by kernel_rfl
theorem k9 : funcOf Tryz.prog Tryz.f9 = some c9 := by kernel_rfl
theorem k13 : funcOf Tryz.prog Tryz.f13 = some c13 := by kernel_rfl
theorem k17 : funcOf Tryz.prog Tryz.f17 = some c17 := by kernel_rfl
theorem k21 : funcOf Tryz.prog Tryz.f21 = some c21 := by kernel_rfl
theorem k25 : funcOf Tryz.prog Tryz.f25 = some c25 := by kernel_rfl
theorem k29 : funcOf Tryz.prog Tryz.f29 = some c29 := by kernel_rfl
theorem k33 : funcOf Tryz.prog Tryz.f33 = some c33 := by kernel_rfl
theorem k37 : funcOf Tryz.prog Tryz.f37 = some c37 := by kernel_rfl
theorem k41 : funcOf Tryz.prog Tryz.f41 = some c41 := by kernel_rfl
theorem k45 : funcOf Tryz.prog Tryz.f45 = some c45 := by kernel_rfl
theorem k49 : funcOf Tryz.prog Tryz.f49 = some c49 := by kernel_rfl
theorem k53 : funcOf Tryz.prog Tryz.f53 = some c53 := by kernel_rfl
theorem k57 : funcOf Tryz.prog Tryz.f57 = some c57 := by kernel_rfl
theorem k61 : funcOf Tryz.prog Tryz.f61 = some c61 := by kernel_rfl
theorem k65 : funcOf Tryz.prog Tryz.f65 = some c65 := by kernel_rfl
theorem k69 : funcOf Tryz.prog Tryz.f69 = some c69 := by kernel_rfl
theorem k73 : funcOf Tryz.prog Tryz.f73 = some c73 := by kernel_rfl
theorem k77 : funcOf Tryz.prog Tryz.f77 = some c77 := by kernel_rfl
theorem k81 : funcOf Tryz.prog Tryz.f81 = some c81 := by kernel_rfl
theorem k85 : funcOf Tryz.prog Tryz.f85 = some c85 := by kernel_rfl
theorem k89 : funcOf Tryz.prog Tryz.f89 = some c89 := by kernel_rfl
theorem k93 : funcOf Tryz.prog Tryz.f93 = some c93 := by kernel_rfl
theorem k97 : funcOf Tryz.prog Tryz.f97 = some c97 := by kernel_rfl
theorem k101 : funcOf Tryz.prog Tryz.f101 = some c101 := by kernel_rfl
theorem k105 : funcOf Tryz.prog Tryz.f105 = some c105 := by kernel_rfl
theorem k109 : funcOf Tryz.prog Tryz.f109 = some c109 := by kernel_rfl
theorem k113 : funcOf Tryz.prog Tryz.f113 = some c113 := by kernel_rfl
theorem k117 : funcOf Tryz.prog Tryz.f117 = some c117 := by kernel_rfl
theorem k121 : funcOf Tryz.prog Tryz.f121 = some c121 := by kernel_rfl
theorem k126 : funcOf Tryz.prog Tryz.f126 = some c126 := by kernel_rfl
theorem k130 : funcOf Tryz.prog Tryz.f130 = some c130 := by kernel_rfl
theorem k134 : funcOf Tryz.prog Tryz.f134 = some c134 := by kernel_rfl
theorem k141 : funcOf Tryz.prog Tryz.f141 = some c141 := by kernel_rfl
end Go.Proofs.YtmdfjgahiaaggaaGreat
