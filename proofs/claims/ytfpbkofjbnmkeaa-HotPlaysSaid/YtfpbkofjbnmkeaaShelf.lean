/- What this text proves: the library's contracts of slices.Index, Delete, Clone at this program's types. Conditions: the library's own. -/
import Derived.Shelf.SlicesE.Index
import Derived.Shelf.SlicesE.Delete
import Derived.Shelf.SlicesE.Clone
import Derived.Test.YtfpbkofjbnmkeaaChecked
namespace Go.Proofs.Ytfpbkofjbnmkeaa
open Go Go.RowKit Go.Shelf
open Go.Proofs

def renIndex : Go.Shelf.Ren := ⟨fun | 29 => 25 | n => n, fun | 22 => 44 | 23 => 23 | n => n, fun n => n⟩
theorem layIndex : SlLaysE.n29 Try.prog renIndex := {
  mixed := by kernel_rfl
  f29 := ⟨Try.f25.name, by decide, Try.func25.trans (congrArg some (by kernel_rfl))⟩
  t0 := by kernel_rfl
  a0 := fun w => by kernel_rfl
  z0 := fun w => by kernel_rfl
  v0 := fun w => by kernel_rfl
  t3 := by kernel_rfl
  a3 := fun w => by kernel_rfl
  z3 := fun w => by kernel_rfl
  v3 := fun w => by kernel_rfl
  t4 := by kernel_rfl
  a4 := fun w => by kernel_rfl
  z4 := fun w => by kernel_rfl
  v4 := fun w => by kernel_rfl
  t22 := by kernel_rfl
  a22 := fun w => by kernel_rfl
  z22 := fun w => by kernel_rfl
  v22 := fun w => by kernel_rfl
  a23 := fun w => by kernel_rfl
  z23 := fun w => by kernel_rfl }
def renDelete : Go.Shelf.Ren := ⟨fun | 45 => 26 | n => n, fun | 22 => 44 | 23 => 23 | n => n, fun n => n⟩
theorem layDelete : SlLaysE.n45 Try.prog renDelete := {
  mixed := by kernel_rfl
  f45 := ⟨Try.f26.name, by decide, Try.func26.trans (congrArg some (by kernel_rfl))⟩
  t0 := by kernel_rfl
  a0 := fun w => by kernel_rfl
  z0 := fun w => by kernel_rfl
  v0 := fun w => by kernel_rfl
  t3 := by kernel_rfl
  a3 := fun w => by kernel_rfl
  z3 := fun w => by kernel_rfl
  v3 := fun w => by kernel_rfl
  t4 := by kernel_rfl
  a4 := fun w => by kernel_rfl
  z4 := fun w => by kernel_rfl
  v4 := fun w => by kernel_rfl
  t22 := by kernel_rfl
  a22 := fun w => by kernel_rfl
  z22 := fun w => by kernel_rfl
  v22 := fun w => by kernel_rfl
  a23 := fun w => by kernel_rfl
  z23 := fun w => by kernel_rfl }
def renCloneU : Go.Shelf.Ren := ⟨fun | 41 => 30 | n => n, fun | 22 => 44 | 23 => 23 | n => n, fun n => n⟩
theorem layCloneU : SlLaysE0.n41 Try.prog renCloneU := {
  mixed := by kernel_rfl
  f41 := ⟨Try.f30.name, by decide, Try.func30.trans (congrArg some (by kernel_rfl))⟩
  t4 := by kernel_rfl
  a4 := fun w => by kernel_rfl
  z4 := fun w => by kernel_rfl
  v4 := fun w => by kernel_rfl
  t22 := by kernel_rfl
  a22 := fun w => by kernel_rfl
  z22 := fun w => by kernel_rfl
  v22 := fun w => by kernel_rfl }
def renCloneB : Go.Shelf.Ren := ⟨fun | 41 => 24 | n => n, fun | 22 => 30 | 23 => 5 | n => n, fun n => n⟩
theorem layCloneB : SlLaysE0.n41 Try.prog renCloneB := {
  mixed := by kernel_rfl
  f41 := ⟨Try.f24.name, by decide, Try.func24.trans (congrArg some (by kernel_rfl))⟩
  t4 := by kernel_rfl
  a4 := fun w => by kernel_rfl
  z4 := fun w => by kernel_rfl
  v4 := fun w => by kernel_rfl
  t22 := by kernel_rfl
  a22 := fun w => by kernel_rfl
  z22 := fun w => by kernel_rfl
  v22 := fun w => by kernel_rfl }
end Go.Proofs.Ytfpbkofjbnmkeaa
