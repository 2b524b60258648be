/-
  Proved: each printed function is what the compiler makes of the program's own, one after another.
-/
import Derived.Test.YtjdcodjoheckcaaGreatDoorBbCode2
import Derived.Test.YtjdcodjoheckcaaGreatDoorBbUse
import Derived.Test.YtjdcodjoheckcaaGreatDoorChecked
namespace Go.Proofs.YtjdcodjoheckcaaGreatDoor
open Go.Bb Go.Bb.Tryzc
set_option maxRecDepth 100000
theorem k6 : funcOf Tryz.prog Tryz.f6 = some c6 := by kernel_rfl
theorem k10 : funcOf Tryz.prog Tryz.f10 = some c10 := by kernel_rfl
theorem k14 : funcOf Tryz.prog Tryz.f14 = some c14 := by kernel_rfl
theorem k18 : funcOf Tryz.prog Tryz.f18 = some c18 := by kernel_rfl
theorem k22 : funcOf Tryz.prog Tryz.f22 = some c22 := by kernel_rfl
theorem k26 : funcOf Tryz.prog Tryz.f26 = some c26 := by kernel_rfl
theorem k30 : funcOf Tryz.prog Tryz.f30 = some c30 := by kernel_rfl
theorem k34 : funcOf Tryz.prog Tryz.f34 = some c34 := by kernel_rfl
theorem k38 : funcOf Tryz.prog Tryz.f38 = some c38 := by kernel_rfl
theorem k42 : funcOf Tryz.prog Tryz.f42 = some c42 := by kernel_rfl
theorem k46 : funcOf Tryz.prog Tryz.f46 = some c46 := by kernel_rfl
theorem k50 : funcOf Tryz.prog Tryz.f50 = some c50 := by kernel_rfl
theorem k54 : funcOf Tryz.prog Tryz.f54 = some c54 := by kernel_rfl
theorem k58 : funcOf Tryz.prog Tryz.f58 = some c58 := by kernel_rfl
theorem k62 : funcOf Tryz.prog Tryz.f62 = some c62 := by kernel_rfl
theorem k66 : funcOf Tryz.prog Tryz.f66 = some c66 := by kernel_rfl
theorem k70 : funcOf Tryz.prog Tryz.f70 = some c70 := by kernel_rfl
theorem k74 : funcOf Tryz.prog Tryz.f74 = some c74 := by kernel_rfl
theorem k78 : funcOf Tryz.prog Tryz.f78 = some c78 := by kernel_rfl
theorem k82 : funcOf Tryz.prog Tryz.f82 = some c82 := by kernel_rfl
theorem k86 : funcOf Tryz.prog Tryz.f86 = some c86 := by kernel_rfl
theorem k90 : funcOf Tryz.prog Tryz.f90 = some c90 := by kernel_rfl
theorem k94 : funcOf Tryz.prog Tryz.f94 = some c94 := by kernel_rfl
theorem k98 : funcOf Tryz.prog Tryz.f98 = some c98 := by kernel_rfl
theorem k102 : funcOf Tryz.prog Tryz.f102 = some c102 := by kernel_rfl
theorem k106 : funcOf Tryz.prog Tryz.f106 = some c106 := by kernel_rfl
theorem k110 : funcOf Tryz.prog Tryz.f110 = some c110 := by kernel_rfl
theorem k114 : funcOf Tryz.prog Tryz.f114 = some c114 := by kernel_rfl
theorem k118 : funcOf Tryz.prog Tryz.f118 = some c118 := by kernel_rfl
theorem k122 : funcOf Tryz.prog Tryz.f122 = some c122 := by kernel_rfl
theorem k126 : funcOf Tryz.prog Tryz.f126 = some c126 := by kernel_rfl
theorem k130 : funcOf Tryz.prog Tryz.f130 = some c130 := by kernel_rfl
theorem k134 : funcOf Tryz.prog Tryz.f134 = some c134 := by kernel_rfl
theorem k138 : funcOf Tryz.prog Tryz.f138 = some c138 := by kernel_rfl
theorem k142 : funcOf Tryz.prog Tryz.f142 = some c142 := by kernel_rfl
theorem k146 : funcOf Tryz.prog Tryz.f146 = some c146 := by kernel_rfl
theorem k150 : funcOf Tryz.prog Tryz.f150 = some c150 := by kernel_rfl
theorem k154 : funcOf Tryz.prog Tryz.f154 = some c154 := by kernel_rfl
theorem k158 : funcOf Tryz.prog Tryz.f158 = some c158 := by kernel_rfl
theorem k162 : funcOf Tryz.prog Tryz.f162 = some c162 := by kernel_rfl
theorem k166 : funcOf Tryz.prog Tryz.f166 = some c166 := by kernel_rfl
theorem k170 : funcOf Tryz.prog Tryz.f170 = some c170 := by kernel_rfl
theorem k174 : funcOf Tryz.prog Tryz.f174 = some c174 := by kernel_rfl
theorem k178 : funcOf Tryz.prog Tryz.f178 = some c178 := by kernel_rfl
theorem k182 : funcOf Tryz.prog Tryz.f182 = some c182 := by kernel_rfl
theorem k186 : funcOf Tryz.prog Tryz.f186 = some c186 := by kernel_rfl
theorem k193 : funcOf Tryz.prog Tryz.f193 = some c193 := by kernel_rfl
theorem k197 : funcOf Tryz.prog Tryz.f197 = some c197 := by kernel_rfl
theorem k201 : funcOf Tryz.prog Tryz.f201 = some c201 := by kernel_rfl
theorem k205 : funcOf Tryz.prog Tryz.f205 = some c205 := by kernel_rfl
theorem k209 : funcOf Tryz.prog Tryz.f209 = some c209 := by kernel_rfl
theorem k213 : funcOf Tryz.prog Tryz.f213 = some c213 := by kernel_rfl
theorem k217 : funcOf Tryz.prog Tryz.f217 = some c217 := by kernel_rfl
theorem k221 : funcOf Tryz.prog Tryz.f221 = some c221 := by kernel_rfl
theorem k225 : funcOf Tryz.prog Tryz.f225 = some c225 := by kernel_rfl
theorem k229 : funcOf Tryz.prog Tryz.f229 = some c229 := by kernel_rfl
theorem k233 : funcOf Tryz.prog Tryz.f233 = some c233 := by kernel_rfl
theorem k237 : funcOf Tryz.prog Tryz.f237 = some c237 := by kernel_rfl
theorem k241 : funcOf Tryz.prog Tryz.f241 = some c241 := by kernel_rfl
theorem k245 : funcOf Tryz.prog Tryz.f245 = some c245 := by kernel_rfl
theorem k250 : funcOf Tryz.prog Tryz.f250 = some c250 := by kernel_rfl
theorem k254 : funcOf Tryz.prog Tryz.f254 = some c254 := by kernel_rfl
theorem k258 : funcOf Tryz.prog Tryz.f258 = some c258 := by kernel_rfl
theorem k262 : funcOf Tryz.prog Tryz.f262 = some c262 := by kernel_rfl
theorem k266 : funcOf Tryz.prog Tryz.f266 = some c266 := by kernel_rfl
theorem k270 : funcOf Tryz.prog Tryz.f270 = some c270 := by kernel_rfl
end Go.Proofs.YtjdcodjoheckcaaGreatDoor
