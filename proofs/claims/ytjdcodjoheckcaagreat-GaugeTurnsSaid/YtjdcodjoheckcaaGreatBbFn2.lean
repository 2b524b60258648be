/-
  Proved: each printed function is what the compiler makes of the program's own, one after another.
-/
import Derived.Test.YtjdcodjoheckcaaGreatBbCode1
import Derived.Test.YtjdcodjoheckcaaGreatBbUse
import Derived.Test.YtjdcodjoheckcaaGreatChecked
namespace Go.Proofs.YtjdcodjoheckcaaGreat
open Go.Bb Go.Bb.Tryzc
set_option maxRecDepth 100000
theorem k5 : funcOf Tryz.prog Tryz.f5 = some c5 := by kernel_rfl
theorem k9 : funcOf Tryz.prog Tryz.f9 = some c9 := by kernel_rfl
theorem k13 : funcOf Tryz.prog Tryz.f13 = some c13 := by kernel_rfl
theorem k17 : funcOf Tryz.prog Tryz.f17 = some c17 := by kernel_rfl
theorem k21 : funcOf Tryz.prog Tryz.f21 = some c21 := by kernel_rfl
theorem k25 : funcOf Tryz.prog Tryz.f25 = some c25 := by kernel_rfl
theorem k29 : funcOf Tryz.prog Tryz.f29 = some c29 := by kernel_rfl
theorem k33 : funcOf Tryz.prog Tryz.f33 = some c33 := by kernel_rfl
theorem k37 : funcOf Tryz.prog Tryz.f37 = some c37 := by kernel_rfl
theorem k41 : funcOf Tryz.prog Tryz.f41 = some c41 := by kernel_rfl
theorem k45 : funcOf Tryz.prog Tryz.f45 = some c45 := by kernel_rfl
theorem k49 : funcOf Tryz.prog Tryz.f49 = some c49 := by kernel_rfl
theorem k53 : funcOf Tryz.prog Tryz.f53 = some c53 := by kernel_rfl
theorem k57 : funcOf Tryz.prog Tryz.f57 = some c57 := by kernel_rfl
theorem k61 : funcOf Tryz.prog Tryz.f61 = some c61 := by kernel_rfl
theorem k66 : funcOf Tryz.prog Tryz.f66 = some c66 := by kernel_rfl
theorem k70 : funcOf Tryz.prog Tryz.f70 = some c70 := by kernel_rfl
theorem k74 : funcOf Tryz.prog Tryz.f74 = some c74 := by kernel_rfl
theorem k78 : funcOf Tryz.prog Tryz.f78 = some c78 := by kernel_rfl
theorem k82 : funcOf Tryz.prog Tryz.f82 = some c82 := by kernel_rfl
theorem k86 : funcOf Tryz.prog Tryz.f86 = some c86 := by kernel_rfl
theorem k90 : funcOf Tryz.prog Tryz.f90 = some c90 := by kernel_rfl
theorem k94 : funcOf Tryz.prog Tryz.f94 = some c94 := by kernel_rfl
theorem k98 : funcOf Tryz.prog Tryz.f98 = some c98 := by kernel_rfl
theorem k102 : funcOf Tryz.prog Tryz.f102 = some c102 := by kernel_rfl
theorem k106 : funcOf Tryz.prog Tryz.f106 = some c106 := by kernel_rfl
theorem k110 : funcOf Tryz.prog Tryz.f110 = some c110 := by kernel_rfl
theorem k114 : funcOf Tryz.prog Tryz.f114 = some c114 := by kernel_rfl
theorem k118 : funcOf Tryz.prog Tryz.f118 = some c118 := by kernel_rfl
theorem k122 : funcOf Tryz.prog Tryz.f122 = some c122 := by kernel_rfl
theorem k126 : funcOf Tryz.prog Tryz.f126 = some c126 := by kernel_rfl
theorem k130 : funcOf Tryz.prog Tryz.f130 = some c130 := by kernel_rfl
theorem k134 : funcOf Tryz.prog Tryz.f134 = some c134 := by kernel_rfl
theorem k138 : funcOf Tryz.prog Tryz.f138 = some c138 := by kernel_rfl
theorem k143 : funcOf Tryz.prog Tryz.f143 = some c143 := by kernel_rfl
theorem k147 : funcOf Tryz.prog Tryz.f147 = some c147 := by kernel_rfl
theorem k151 : funcOf Tryz.prog Tryz.f151 = some c151 := by kernel_rfl
theorem k155 : funcOf Tryz.prog Tryz.f155 = some c155 := by kernel_rfl
theorem k159 : funcOf Tryz.prog Tryz.f159 = some c159 := by kernel_rfl
theorem k163 : funcOf Tryz.prog Tryz.f163 = some c163 := by kernel_rfl
theorem k167 : funcOf Tryz.prog Tryz.f167 = some c167 := by kernel_rfl
theorem k171 : funcOf Tryz.prog Tryz.f171 = some c171 := by kernel_rfl
theorem k175 : funcOf Tryz.prog Tryz.f175 = some c175 := by kernel_rfl
end Go.Proofs.YtjdcodjoheckcaaGreat
