/-
  DERIVED: THE SHELF's CONTRACTS AT THIS DUMP, IN PLAIN WORDS (tools/lay-plain.mjs out of 'YtbefgplaaghlbaaGreatDoorShelfZ0.lean', which tools/lay-shelf.mjs wrote): THE SAME DECLARATIONS UNDER THE SAME NAMES: 'import', 'namespace', 'open', 'def', 'theorem' AND NOTHING ELSE: no command of the shelf's: FOR A HAND-IN. Each laying: the table of numbers ('.._ren') and one theorem, a field a fact of the dump's own or the kernel's comparison; each contract: ONE APPLICATION.
-/
import Derived.Shelf.SlGeneric
import Derived.Shelf.SlicesE.Clone
import Derived.Ground.SlgnProg
import Derived.Test.YtbefgplaaghlbaaGreatDoorProg
namespace Go.Proofs
open Go.Shelf
def Tryz.cloneF_ren : Go.Shelf.Ren := ⟨fun | 41 => 37 | n => n, fun | 22 => 23 | 23 => 34 | 4 => 4 | n => n, fun | n => n⟩
theorem Tryz.cloneF : Go.Proofs.SlLaysE0.n41 Tryz.prog Tryz.cloneF_ren := {
  mixed := by kernel_rfl
  f41 := ⟨Tryz.f37.name, by decide, Tryz.func37.trans (congrArg some (by kernel_rfl))⟩
  t4 := Tryz.underlying4
  a4 := Tryz.isAgg4
  z4 := Tryz.sizeOf4
  v4 := Tryz.zeroValue4
  t22 := Tryz.underlying23
  a22 := Tryz.isAgg23
  z22 := Tryz.sizeOf23
  v22 := Tryz.zeroValue23 }
def Tryz.cloneI_ren : Go.Shelf.Ren := ⟨fun | 41 => 43 | n => n, fun | 22 => 22 | 23 => 38 | 4 => 4 | n => n, fun | n => n⟩
theorem Tryz.cloneI : Go.Proofs.SlLaysE0.n41 Tryz.prog Tryz.cloneI_ren := {
  mixed := by kernel_rfl
  f41 := ⟨Tryz.f43.name, by decide, Tryz.func43.trans (congrArg some (by kernel_rfl))⟩
  t4 := Tryz.underlying4
  a4 := Tryz.isAgg4
  z4 := Tryz.sizeOf4
  v4 := Tryz.zeroValue4
  t22 := Tryz.underlying22
  a22 := Tryz.isAgg22
  z22 := Tryz.sizeOf22
  v22 := Tryz.zeroValue22 }
def Tryz.cloneV_ren : Go.Shelf.Ren := ⟨fun | 41 => 112 | n => n, fun | 22 => 61 | 23 => 75 | 4 => 4 | n => n, fun | n => n⟩
theorem Tryz.cloneV : Go.Proofs.SlLaysE0.n41 Tryz.prog Tryz.cloneV_ren := {
  mixed := by kernel_rfl
  f41 := ⟨Tryz.f112.name, by decide, Tryz.func112.trans (congrArg some (by kernel_rfl))⟩
  t4 := Tryz.underlying4
  a4 := Tryz.isAgg4
  z4 := Tryz.sizeOf4
  v4 := Tryz.zeroValue4
  t22 := Tryz.underlying61
  a22 := Tryz.isAgg61
  z22 := Tryz.sizeOf61
  v22 := Tryz.zeroValue61 }
end Go.Proofs
