/- THE FIELDS OF THE PROGRAM'S STRUCTS (printed by wip/tab.py). -/
import Derived.Test.YtabkbpckehdiaaaDoorTab
import Derived.Test.YtabkbpckehdiaaaDoorOwnG
namespace Go.Own
open Go.Proofs
instance : FieldsT Tryd.prog 7 [2, 3, 4, 6] := ⟨_, Tryd.underlying7, by kernel_rfl⟩
instance : FieldsT Tryd.prog 8 [2, 3, 4, 6] := ⟨_, Tryd.underlying8, by kernel_rfl⟩
instance : FieldsT Tryd.prog 13 [9, 12] := ⟨_, Tryd.underlying13, by kernel_rfl⟩
instance : FieldsT Tryd.prog 14 [9, 12] := ⟨_, Tryd.underlying14, by kernel_rfl⟩
instance : FieldsT Tryd.prog 18 [17] := ⟨_, Tryd.underlying18, by kernel_rfl⟩
instance : FieldsT Tryd.prog 19 [17] := ⟨_, Tryd.underlying19, by kernel_rfl⟩
instance : FieldsT Tryd.prog 72 [71, 36] := ⟨_, Tryd.underlying72, by kernel_rfl⟩
instance : FieldsT Tryd.prog 73 [71, 36] := ⟨_, Tryd.underlying73, by kernel_rfl⟩
instance : FieldsT Tryd.prog 116 [5, 5] := ⟨_, Tryd.underlying116, by kernel_rfl⟩
instance : FieldsT Tryd.prog 117 [5, 5] := ⟨_, Tryd.underlying117, by kernel_rfl⟩
instance : FieldsT Tryd.prog 121 [9, 9, 76] := ⟨_, Tryd.underlying121, by kernel_rfl⟩
instance : FieldsT Tryd.prog 122 [9, 9, 76] := ⟨_, Tryd.underlying122, by kernel_rfl⟩
instance : FieldsT Tryd.prog 127 [9] := ⟨_, Tryd.underlying127, by kernel_rfl⟩
instance : FieldsT Tryd.prog 128 [9] := ⟨_, Tryd.underlying128, by kernel_rfl⟩
instance : FieldsT Tryd.prog 129 [17, 17, 17, 9] := ⟨_, Tryd.underlying129, by kernel_rfl⟩
instance : FieldsT Tryd.prog 130 [17, 17, 17, 9] := ⟨_, Tryd.underlying130, by kernel_rfl⟩
instance : FieldsT Tryd.prog 132 [131] := ⟨_, Tryd.underlying132, by kernel_rfl⟩
instance : FieldsT Tryd.prog 133 [131] := ⟨_, Tryd.underlying133, by kernel_rfl⟩
instance : FieldsT Tryd.prog 140 [12, 12, 102, 135, 5, 5, 136, 137, 85, 138, 139] := ⟨_, Tryd.underlying140, by kernel_rfl⟩
instance : FieldsT Tryd.prog 141 [12, 12, 102, 135, 5, 5, 136, 137, 85, 138, 139] := ⟨_, Tryd.underlying141, by kernel_rfl⟩
end Go.Own
