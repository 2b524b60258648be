/-
  Proved: each printed function is what the compiler makes of the program's own, one after another.
-/
import Derived.Test.YtjdcodjoheckcaaGreatDoorBbCode2
import Derived.Test.YtjdcodjoheckcaaGreatDoorBbUse
import Derived.Test.YtjdcodjoheckcaaGreatDoorChecked
namespace Go.Proofs.YtjdcodjoheckcaaGreatDoor
open Go.Bb Go.Bb.Tryzc
set_option maxRecDepth 100000
theorem k3 : funcOf Tryz.prog Tryz.f3 = some c3 := by kernel_rfl
theorem k7 : funcOf Tryz.prog Tryz.f7 = some c7 := by kernel_rfl
theorem k11 : funcOf Tryz.prog Tryz.f11 = some c11 := by kernel_rfl
theorem k15 : funcOf Tryz.prog Tryz.f15 = some c15 := by kernel_rfl
theorem k19 : funcOf Tryz.prog Tryz.f19 = some c19 := by kernel_rfl
theorem k23 : funcOf Tryz.prog Tryz.f23 = some c23 := by kernel_rfl
theorem k27 : funcOf Tryz.prog Tryz.f27 = some c27 := by kernel_rfl
theorem k31 : funcOf Tryz.prog Tryz.f31 = some c31 := by kernel_rfl
theorem k35 : funcOf Tryz.prog Tryz.f35 = some c35 := by kernel_rfl
theorem k39 : funcOf Tryz.prog Tryz.f39 = some c39 := by kernel_rfl
theorem k43 : funcOf Tryz.prog Tryz.f43 = some c43 := by kernel_rfl
theorem k47 : funcOf Tryz.prog Tryz.f47 = some c47 := by kernel_rfl
theorem k51 : funcOf Tryz.prog Tryz.f51 = some c51 := by kernel_rfl
theorem k55 : funcOf Tryz.prog Tryz.f55 = some c55 := by kernel_rfl
theorem k59 : funcOf Tryz.prog Tryz.f59 = some c59 := by kernel_rfl
theorem k63 : funcOf Tryz.prog Tryz.f63 = some c63 := by kernel_rfl
theorem k67 : funcOf Tryz.prog Tryz.f67 = some c67 := by kernel_rfl
theorem k71 : funcOf Tryz.prog Tryz.f71 = some c71 := by kernel_rfl
theorem k75 : funcOf Tryz.prog Tryz.f75 = some c75 := by kernel_rfl
theorem k79 : funcOf Tryz.prog Tryz.f79 = some c79 := by kernel_rfl
theorem k83 : funcOf Tryz.prog Tryz.f83 = some c83 := by kernel_rfl
theorem k87 : funcOf Tryz.prog Tryz.f87 = some c87 := by kernel_rfl
theorem k91 : funcOf Tryz.prog Tryz.f91 = some c91 := by kernel_rfl
theorem k95 : funcOf Tryz.prog Tryz.f95 = some c95 := by kernel_rfl
theorem k99 : funcOf Tryz.prog Tryz.f99 = some c99 := by kernel_rfl
theorem k103 : funcOf Tryz.prog Tryz.f103 = some c103 := by kernel_rfl
theorem k107 : funcOf Tryz.prog Tryz.f107 = some c107 := by kernel_rfl
theorem k111 : funcOf Tryz.prog Tryz.f111 = some c111 := by kernel_rfl
theorem k115 : funcOf Tryz.prog Tryz.f115 = some c115 := by kernel_rfl
theorem k119 : funcOf Tryz.prog Tryz.f119 = some c119 := by kernel_rfl
theorem k123 : funcOf Tryz.prog Tryz.f123 = some c123 := by kernel_rfl
theorem k127 : funcOf Tryz.prog Tryz.f127 = some c127 := by kernel_rfl
theorem k131 : funcOf Tryz.prog Tryz.f131 = some c131 := by kernel_rfl
theorem k135 : funcOf Tryz.prog Tryz.f135 = some c135 := by kernel_rfl
theorem k139 : funcOf Tryz.prog Tryz.f139 = some c139 := by kernel_rfl
theorem k143 : funcOf Tryz.prog Tryz.f143 = some c143 := by kernel_rfl
theorem k147 : funcOf Tryz.prog Tryz.f147 = some c147 := by kernel_rfl
theorem k151 : funcOf Tryz.prog Tryz.f151 = some c151 := by kernel_rfl
theorem k155 : funcOf Tryz.prog Tryz.f155 = some c155 := by kernel_rfl
theorem k159 : funcOf Tryz.prog Tryz.f159 = some c159 := by kernel_rfl
theorem k163 : funcOf Tryz.prog Tryz.f163 = some c163 := by kernel_rfl
theorem k167 : funcOf Tryz.prog Tryz.f167 = some c167 := by kernel_rfl
theorem k171 : funcOf Tryz.prog Tryz.f171 = some c171 := by kernel_rfl
theorem k175 : funcOf Tryz.prog Tryz.f175 = some c175 := by kernel_rfl
theorem k179 : funcOf Tryz.prog Tryz.f179 = some c179 := by kernel_rfl
theorem k183 : funcOf Tryz.prog Tryz.f183 = some c183 := by kernel_rfl
theorem k187 : funcOf Tryz.prog Tryz.f187 = some c187 := by kernel_rfl
theorem k194 : funcOf Tryz.prog Tryz.f194 = some c194 := by kernel_rfl
theorem k198 : funcOf Tryz.prog Tryz.f198 = some c198 := by kernel_rfl
theorem k202 : funcOf Tryz.prog Tryz.f202 = some c202 := by kernel_rfl
theorem k206 : funcOf Tryz.prog Tryz.f206 = some c206 := by kernel_rfl
theorem k210 : funcOf Tryz.prog Tryz.f210 = some c210 := by kernel_rfl
theorem k214 : funcOf Tryz.prog Tryz.f214 = some c214 := by kernel_rfl
theorem k218 : funcOf Tryz.prog Tryz.f218 = some c218 := by kernel_rfl
theorem k222 : funcOf Tryz.prog Tryz.f222 = some c222 := by kernel_rfl
theorem k226 : funcOf Tryz.prog Tryz.f226 = some c226 := by kernel_rfl
theorem k230 : funcOf Tryz.prog Tryz.f230 = some c230 := by kernel_rfl
theorem k234 : funcOf Tryz.prog Tryz.f234 = some c234 := by kernel_rfl
theorem k238 : funcOf Tryz.prog Tryz.f238 = some c238 := by kernel_rfl
theorem k242 : funcOf Tryz.prog Tryz.f242 = some c242 := by kernel_rfl
theorem k246 : funcOf Tryz.prog Tryz.f246 = some c246 := by kernel_rfl
theorem k251 : funcOf Tryz.prog Tryz.f251 = some c251 := by kernel_rfl
theorem k255 : funcOf Tryz.prog Tryz.f255 = some c255 := by kernel_rfl
theorem k259 : funcOf Tryz.prog Tryz.f259 = some c259 := by kernel_rfl
theorem k263 : funcOf Tryz.prog Tryz.f263 = some c263 := by kernel_rfl
theorem k267 : funcOf Tryz.prog Tryz.f267 = some c267 := by kernel_rfl
end Go.Proofs.YtjdcodjoheckcaaGreatDoor
