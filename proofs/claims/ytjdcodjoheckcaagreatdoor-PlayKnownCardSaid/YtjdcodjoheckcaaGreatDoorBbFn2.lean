/-
  Proved: each printed function is what the compiler makes of the program's own, one after another.
-/
import Derived.Test.YtjdcodjoheckcaaGreatDoorBbCode2
import Derived.Test.YtjdcodjoheckcaaGreatDoorBbUse
import Derived.Test.YtjdcodjoheckcaaGreatDoorChecked
namespace Go.Proofs.YtjdcodjoheckcaaGreatDoor
open Go.Bb Go.Bb.Tryzc
set_option maxRecDepth 100000
theorem k5 : funcOf Tryz.prog Tryz.f5 = some c5 := by kernel_rfl
theorem k9 : funcOf Tryz.prog Tryz.f9 = some c9 := by kernel_rfl
theorem k13 : funcOf Tryz.prog Tryz.f13 = some c13 := by kernel_rfl
theorem k17 : funcOf Tryz.prog Tryz.f17 = some c17 := by kernel_rfl
theorem k21 : funcOf Tryz.prog Tryz.f21 = some c21 := by kernel_rfl
theorem k25 : funcOf Tryz.prog Tryz.f25 = some c25 := by kernel_rfl
theorem k29 : funcOf Tryz.prog Tryz.f29 = some c29 := by kernel_rfl
theorem k33 : funcOf Tryz.prog Tryz.f33 = some c33 := by kernel_rfl
theorem k37 : funcOf Tryz.prog Tryz.f37 = some c37 := by kernel_rfl
theorem k41 : funcOf Tryz.prog Tryz.f41 = some c41 := by kernel_rfl
theorem k45 : funcOf Tryz.prog Tryz.f45 = some c45 := by kernel_rfl
theorem k49 : funcOf Tryz.prog Tryz.f49 = some c49 := by kernel_rfl
theorem k53 : funcOf Tryz.prog Tryz.f53 = some c53 := by kernel_rfl
theorem k57 : funcOf Tryz.prog Tryz.f57 = some c57 := by kernel_rfl
theorem k61 : funcOf Tryz.prog Tryz.f61 = some c61 := by kernel_rfl
theorem k65 : funcOf Tryz.prog Tryz.f65 = some c65 := by kernel_rfl
theorem k69 : funcOf Tryz.prog Tryz.f69 = some c69 := by kernel_rfl
theorem k73 : funcOf Tryz.prog Tryz.f73 = some c73 := by kernel_rfl
theorem k77 : funcOf Tryz.prog Tryz.f77 = some c77 := by kernel_rfl
theorem k81 : funcOf Tryz.prog Tryz.f81 = some c81 := by kernel_rfl
theorem k85 : funcOf Tryz.prog Tryz.f85 = some c85 := by kernel_rfl
theorem k89 : funcOf Tryz.prog Tryz.f89 = some c89 := by kernel_rfl
theorem k93 : funcOf Tryz.prog Tryz.f93 = some c93 := by kernel_rfl
theorem k97 : funcOf Tryz.prog Tryz.f97 = some c97 := by kernel_rfl
theorem k101 : funcOf Tryz.prog Tryz.f101 = some c101 := by kernel_rfl
theorem k105 : funcOf Tryz.prog Tryz.f105 = some c105 := by kernel_rfl
theorem k109 : funcOf Tryz.prog Tryz.f109 = some c109 := by kernel_rfl
theorem k113 : funcOf Tryz.prog Tryz.f113 = some c113 := by kernel_rfl
theorem k117 : funcOf Tryz.prog Tryz.f117 = some c117 := by kernel_rfl
theorem k121 : funcOf Tryz.prog Tryz.f121 = some c121 := by kernel_rfl
theorem k125 : funcOf Tryz.prog Tryz.f125 = some c125 := by kernel_rfl
theorem k129 : funcOf Tryz.prog Tryz.f129 = some c129 := by kernel_rfl
theorem k133 : funcOf Tryz.prog Tryz.f133 = some c133 := by kernel_rfl
theorem k137 : funcOf Tryz.prog Tryz.f137 = some c137 := by kernel_rfl
theorem k141 : funcOf Tryz.prog Tryz.f141 = some c141 := by kernel_rfl
theorem k145 : funcOf Tryz.prog Tryz.f145 = some c145 := by kernel_rfl
theorem k149 : funcOf Tryz.prog Tryz.f149 = some c149 := by kernel_rfl
theorem k153 : funcOf Tryz.prog Tryz.f153 = some c153 := by kernel_rfl
theorem k157 : funcOf Tryz.prog Tryz.f157 = some c157 := by kernel_rfl
theorem k161 : funcOf Tryz.prog Tryz.f161 = some c161 := by kernel_rfl
theorem k165 : funcOf Tryz.prog Tryz.f165 = some c165 := by kernel_rfl
theorem k169 : funcOf Tryz.prog Tryz.f169 = some c169 := by kernel_rfl
theorem k173 : funcOf Tryz.prog Tryz.f173 = some c173 := by kernel_rfl
theorem k177 : funcOf Tryz.prog Tryz.f177 = some c177 := by kernel_rfl
theorem k181 : funcOf Tryz.prog Tryz.f181 = some c181 := by kernel_rfl
theorem k185 : funcOf Tryz.prog Tryz.f185 = some c185 := by kernel_rfl
theorem k192 : funcOf Tryz.prog Tryz.f192 = some c192 := by kernel_rfl
theorem k196 : funcOf Tryz.prog Tryz.f196 = some c196 := by kernel_rfl
theorem k200 : funcOf Tryz.prog Tryz.f200 = some c200 := by kernel_rfl
theorem k204 : funcOf Tryz.prog Tryz.f204 = some c204 := by kernel_rfl
theorem k208 : funcOf Tryz.prog Tryz.f208 = some c208 := by kernel_rfl
theorem k212 : funcOf Tryz.prog Tryz.f212 = some c212 := by kernel_rfl
theorem k216 : funcOf Tryz.prog Tryz.f216 = some c216 := by kernel_rfl
theorem k220 : funcOf Tryz.prog Tryz.f220 = some c220 := by kernel_rfl
theorem k224 : funcOf Tryz.prog Tryz.f224 = some c224 := by kernel_rfl
theorem k228 : funcOf Tryz.prog Tryz.f228 = some c228 := by kernel_rfl
theorem k232 : funcOf Tryz.prog Tryz.f232 = some c232 := by kernel_rfl
theorem k236 : funcOf Tryz.prog Tryz.f236 = some c236 := by kernel_rfl
theorem k240 : funcOf Tryz.prog Tryz.f240 = some c240 := by kernel_rfl
theorem k244 : funcOf Tryz.prog Tryz.f244 = some c244 := by kernel_rfl
theorem k249 : funcOf Tryz.prog Tryz.f249 = some c249 := by kernel_rfl
theorem k253 : funcOf Tryz.prog Tryz.f253 = some c253 := by kernel_rfl
theorem k257 : funcOf Tryz.prog Tryz.f257 = some c257 := by kernel_rfl
theorem k261 : funcOf Tryz.prog Tryz.f261 = some c261 := by kernel_rfl
theorem k265 : funcOf Tryz.prog Tryz.f265 = some c265 := by kernel_rfl
theorem k269 : funcOf Tryz.prog Tryz.f269 = some c269 := by kernel_rfl
end Go.Proofs.YtjdcodjoheckcaaGreatDoor
