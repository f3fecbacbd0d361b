/- THE FIELDS OF THE PROGRAM'S STRUCTS (printed by wip/tab.py). -/
import Derived.Test.YtlakopiopplfhaaGreatDoorTab
import Derived.Test.YtlakopiopplfhaaGreatDoorOwnG
namespace Go.Own
open Go.Proofs
instance : FieldsT Tryz.prog 25 [4, 22, 23] := ⟨_, Tryz.underlying25, by kernel_rfl⟩
instance : FieldsT Tryz.prog 30 [4, 9, 27, 28, 4] := ⟨_, Tryz.underlying30, by kernel_rfl⟩
instance : FieldsT Tryz.prog 32 [3, 3, 3, 26, 9, 3, 30] := ⟨_, Tryz.underlying32, by kernel_rfl⟩
instance : FieldsT Tryz.prog 36 [34, 3] := ⟨_, Tryz.underlying36, by kernel_rfl⟩
instance : FieldsT Tryz.prog 48 [4, 3, 9, 3, 9] := ⟨_, Tryz.underlying48, by kernel_rfl⟩
instance : FieldsT Tryz.prog 50 [34, 3] := ⟨_, Tryz.underlying50, by kernel_rfl⟩
instance : FieldsT Tryz.prog 52 [9, 50, 3] := ⟨_, Tryz.underlying52, by kernel_rfl⟩
end Go.Own
