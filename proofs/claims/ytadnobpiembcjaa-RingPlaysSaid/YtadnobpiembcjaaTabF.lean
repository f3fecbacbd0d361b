/- THE FIELDS OF THE PROGRAM'S STRUCTS (printed by wip/tab.py). -/
import Derived.Test.YtadnobpiembcjaaTab
import Derived.Test.YtadnobpiembcjaaOwnG
namespace Go.Own
open Go.Proofs
instance : FieldsT Try.prog 7 [2, 3, 4, 6] := ⟨_, Try.underlying7, by kernel_rfl⟩
instance : FieldsT Try.prog 8 [2, 3, 4, 6] := ⟨_, Try.underlying8, by kernel_rfl⟩
instance : FieldsT Try.prog 13 [9, 12] := ⟨_, Try.underlying13, by kernel_rfl⟩
instance : FieldsT Try.prog 14 [9, 12] := ⟨_, Try.underlying14, by kernel_rfl⟩
instance : FieldsT Try.prog 18 [17] := ⟨_, Try.underlying18, by kernel_rfl⟩
instance : FieldsT Try.prog 19 [17] := ⟨_, Try.underlying19, by kernel_rfl⟩
instance : FieldsT Try.prog 30 [3, 29, 3] := ⟨_, Try.underlying30, by kernel_rfl⟩
instance : FieldsT Try.prog 31 [3, 29, 3] := ⟨_, Try.underlying31, by kernel_rfl⟩
instance : FieldsT Try.prog 35 [29, 3] := ⟨_, Try.underlying35, by kernel_rfl⟩
instance : FieldsT Try.prog 36 [29, 3] := ⟨_, Try.underlying36, by kernel_rfl⟩
instance : FieldsT Try.prog 41 [29, 3, 3] := ⟨_, Try.underlying41, by kernel_rfl⟩
instance : FieldsT Try.prog 42 [29, 3, 3] := ⟨_, Try.underlying42, by kernel_rfl⟩
instance : FieldsT Try.prog 44 [17, 17, 17, 9] := ⟨_, Try.underlying44, by kernel_rfl⟩
instance : FieldsT Try.prog 45 [17, 17, 17, 9] := ⟨_, Try.underlying45, by kernel_rfl⟩
instance : FieldsT Try.prog 47 [46] := ⟨_, Try.underlying47, by kernel_rfl⟩
instance : FieldsT Try.prog 48 [46] := ⟨_, Try.underlying48, by kernel_rfl⟩
instance : FieldsT Try.prog 56 [12, 12, 49, 50, 5, 5, 51, 52, 53, 54, 55] := ⟨_, Try.underlying56, by kernel_rfl⟩
instance : FieldsT Try.prog 57 [12, 12, 49, 50, 5, 5, 51, 52, 53, 54, 55] := ⟨_, Try.underlying57, by kernel_rfl⟩
end Go.Own
