/-
  Proved: each printed function is what the compiler makes of the program's own, one after another.
-/
import Derived.Test.YtjdcodjoheckcaaGreatDoorBbCode2
import Derived.Test.YtjdcodjoheckcaaGreatDoorBbUse
import Derived.Test.YtjdcodjoheckcaaGreatDoorChecked
namespace Go.Proofs.YtjdcodjoheckcaaGreatDoor
open Go.Bb Go.Bb.Tryzc
set_option maxRecDepth 100000
theorem k4 : funcOf Tryz.prog Tryz.f4 = some c4 := by kernel_rfl
theorem k8 : funcOf Tryz.prog Tryz.f8 = some c8 := by kernel_rfl
theorem k12 : funcOf Tryz.prog Tryz.f12 = some c12 := by kernel_rfl
theorem k16 : funcOf Tryz.prog Tryz.f16 = some c16 := by kernel_rfl
theorem k20 : funcOf Tryz.prog Tryz.f20 = some c20 := by kernel_rfl
theorem k24 : funcOf Tryz.prog Tryz.f24 = some c24 := by kernel_rfl
theorem k28 : funcOf Tryz.prog Tryz.f28 = some c28 := by kernel_rfl
theorem k32 : funcOf Tryz.prog Tryz.f32 = some c32 := by kernel_rfl
theorem k36 : funcOf Tryz.prog Tryz.f36 = some c36 := by kernel_rfl
theorem k40 : funcOf Tryz.prog Tryz.f40 = some c40 := by kernel_rfl
theorem k44 : funcOf Tryz.prog Tryz.f44 = some c44 := by kernel_rfl
theorem k48 : funcOf Tryz.prog Tryz.f48 = some c48 := by kernel_rfl
theorem k52 : funcOf Tryz.prog Tryz.f52 = some c52 := by kernel_rfl
theorem k56 : funcOf Tryz.prog Tryz.f56 = some c56 := by kernel_rfl
theorem k60 : funcOf Tryz.prog Tryz.f60 = some c60 := by kernel_rfl
theorem k64 : funcOf Tryz.prog Tryz.f64 = some c64 := by kernel_rfl
theorem k68 : funcOf Tryz.prog Tryz.f68 = some c68 := by kernel_rfl
theorem k72 : funcOf Tryz.prog Tryz.f72 = some c72 := by kernel_rfl
theorem k76 : funcOf Tryz.prog Tryz.f76 = some c76 := by kernel_rfl
theorem k80 : funcOf Tryz.prog Tryz.f80 = some c80 := by kernel_rfl
theorem k84 : funcOf Tryz.prog Tryz.f84 = some c84 := by kernel_rfl
theorem k88 : funcOf Tryz.prog Tryz.f88 = some c88 := by kernel_rfl
theorem k92 : funcOf Tryz.prog Tryz.f92 = some c92 := by kernel_rfl
theorem k96 : funcOf Tryz.prog Tryz.f96 = some c96 := by kernel_rfl
theorem k100 : funcOf Tryz.prog Tryz.f100 = some c100 := by kernel_rfl
theorem k104 : funcOf Tryz.prog Tryz.f104 = some c104 := by kernel_rfl
theorem k108 : funcOf Tryz.prog Tryz.f108 = some c108 := by kernel_rfl
theorem k112 : funcOf Tryz.prog Tryz.f112 = some c112 := by kernel_rfl
theorem k116 : funcOf Tryz.prog Tryz.f116 = some c116 := by kernel_rfl
theorem k120 : funcOf Tryz.prog Tryz.f120 = some c120 := by kernel_rfl
theorem k124 : funcOf Tryz.prog Tryz.f124 = some c124 := by kernel_rfl
theorem k128 : funcOf Tryz.prog Tryz.f128 = some c128 := by kernel_rfl
theorem k132 : funcOf Tryz.prog Tryz.f132 = some c132 := by kernel_rfl
theorem k136 : funcOf Tryz.prog Tryz.f136 = some c136 := by kernel_rfl
theorem k140 : funcOf Tryz.prog Tryz.f140 = some c140 := by kernel_rfl
theorem k144 : funcOf Tryz.prog Tryz.f144 = some c144 := by kernel_rfl
theorem k148 : funcOf Tryz.prog Tryz.f148 = some c148 := by kernel_rfl
theorem k152 : funcOf Tryz.prog Tryz.f152 = some c152 := by kernel_rfl
theorem k156 : funcOf Tryz.prog Tryz.f156 = some c156 := by kernel_rfl
theorem k160 : funcOf Tryz.prog Tryz.f160 = some c160 := by kernel_rfl
theorem k164 : funcOf Tryz.prog Tryz.f164 = some c164 := by kernel_rfl
theorem k168 : funcOf Tryz.prog Tryz.f168 = some c168 := by kernel_rfl
theorem k172 : funcOf Tryz.prog Tryz.f172 = some c172 := by kernel_rfl
theorem k176 : funcOf Tryz.prog Tryz.f176 = some c176 := by kernel_rfl
theorem k180 : funcOf Tryz.prog Tryz.f180 = some c180 := by kernel_rfl
theorem k184 : funcOf Tryz.prog Tryz.f184 = some c184 := by kernel_rfl
theorem k189 : funcOf Tryz.prog Tryz.f189 = some c189 := by kernel_rfl
theorem k195 : funcOf Tryz.prog Tryz.f195 = some c195 := by kernel_rfl
theorem k199 : funcOf Tryz.prog Tryz.f199 = some c199 := by kernel_rfl
theorem k203 : funcOf Tryz.prog Tryz.f203 = some c203 := by kernel_rfl
theorem k207 : funcOf Tryz.prog Tryz.f207 = some c207 := by kernel_rfl
theorem k211 : funcOf Tryz.prog Tryz.f211 = some c211 := by kernel_rfl
theorem k215 : funcOf Tryz.prog Tryz.f215 = some c215 := by kernel_rfl
theorem k219 : funcOf Tryz.prog Tryz.f219 = some c219 := by kernel_rfl
theorem k223 : funcOf Tryz.prog Tryz.f223 = some c223 := by kernel_rfl
theorem k227 : funcOf Tryz.prog Tryz.f227 = some c227 := by kernel_rfl
theorem k231 : funcOf Tryz.prog Tryz.f231 = some c231 := by kernel_rfl
theorem k235 : funcOf Tryz.prog Tryz.f235 = some c235 := by kernel_rfl
theorem k239 : funcOf Tryz.prog Tryz.f239 = some c239 := by kernel_rfl
theorem k243 : funcOf Tryz.prog Tryz.f243 = some c243 := by kernel_rfl
theorem k247 : funcOf Tryz.prog Tryz.f247 = some c247 := by kernel_rfl
theorem k252 : funcOf Tryz.prog Tryz.f252 = some c252 := by kernel_rfl
theorem k256 : funcOf Tryz.prog Tryz.f256 = some c256 := by kernel_rfl
theorem k260 : funcOf Tryz.prog Tryz.f260 = some c260 := by kernel_rfl
theorem k264 : funcOf Tryz.prog Tryz.f264 = some c264 := by kernel_rfl
theorem k268 : funcOf Tryz.prog Tryz.f268 = some c268 := by kernel_rfl
end Go.Proofs.YtjdcodjoheckcaaGreatDoor
