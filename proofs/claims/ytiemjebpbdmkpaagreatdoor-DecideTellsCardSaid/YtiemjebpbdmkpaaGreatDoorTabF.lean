/- THE FIELDS OF THE PROGRAM'S STRUCTS (printed by wip/tab.py). -/
import Derived.Test.YtiemjebpbdmkpaaGreatDoorTab
import Derived.Test.YtiemjebpbdmkpaaGreatDoorOwnG
namespace Go.Own
open Go.Proofs
instance : FieldsT Tryz.prog 33 [24, 3] := ⟨_, Tryz.underlying33, by kernel_rfl⟩
instance : FieldsT Tryz.prog 35 [9, 33, 3] := ⟨_, Tryz.underlying35, by kernel_rfl⟩
instance : FieldsT Tryz.prog 46 [4, 44, 22] := ⟨_, Tryz.underlying46, by kernel_rfl⟩
instance : FieldsT Tryz.prog 51 [4, 9, 48, 49, 4] := ⟨_, Tryz.underlying51, by kernel_rfl⟩
instance : FieldsT Tryz.prog 53 [3, 3, 3, 47, 9, 3, 51] := ⟨_, Tryz.underlying53, by kernel_rfl⟩
instance : FieldsT Tryz.prog 55 [24, 3] := ⟨_, Tryz.underlying55, by kernel_rfl⟩
instance : FieldsT Tryz.prog 66 [4, 3, 9, 3, 9] := ⟨_, Tryz.underlying66, by kernel_rfl⟩
end Go.Own
