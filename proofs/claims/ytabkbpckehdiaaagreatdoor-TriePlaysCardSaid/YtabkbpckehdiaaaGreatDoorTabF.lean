/- THE FIELDS OF THE PROGRAM'S STRUCTS (printed by wip/tab.py). -/
import Derived.Test.YtabkbpckehdiaaaGreatDoorTab
import Derived.Test.YtabkbpckehdiaaaGreatDoorOwnG
namespace Go.Own
open Go.Proofs
instance : FieldsT Tryz.prog 7 [2, 3, 4, 6] := ⟨_, Tryz.underlying7, by kernel_rfl⟩
instance : FieldsT Tryz.prog 8 [2, 3, 4, 6] := ⟨_, Tryz.underlying8, by kernel_rfl⟩
instance : FieldsT Tryz.prog 13 [9, 12] := ⟨_, Tryz.underlying13, by kernel_rfl⟩
instance : FieldsT Tryz.prog 14 [9, 12] := ⟨_, Tryz.underlying14, by kernel_rfl⟩
instance : FieldsT Tryz.prog 18 [17] := ⟨_, Tryz.underlying18, by kernel_rfl⟩
instance : FieldsT Tryz.prog 19 [17] := ⟨_, Tryz.underlying19, by kernel_rfl⟩
instance : FieldsT Tryz.prog 30 [4, 3, 9, 3, 9] := ⟨_, Tryz.underlying30, by kernel_rfl⟩
instance : FieldsT Tryz.prog 31 [4, 3, 9, 3, 9] := ⟨_, Tryz.underlying31, by kernel_rfl⟩
instance : FieldsT Tryz.prog 41 [35] := ⟨_, Tryz.underlying41, by kernel_rfl⟩
instance : FieldsT Tryz.prog 42 [35] := ⟨_, Tryz.underlying42, by kernel_rfl⟩
instance : FieldsT Tryz.prog 70 [68, 68, 69] := ⟨_, Tryz.underlying70, by kernel_rfl⟩
instance : FieldsT Tryz.prog 71 [68, 68, 69] := ⟨_, Tryz.underlying71, by kernel_rfl⟩
instance : FieldsT Tryz.prog 72 [35, 68, 71, 67] := ⟨_, Tryz.underlying72, by kernel_rfl⟩
instance : FieldsT Tryz.prog 73 [35, 68, 71, 67] := ⟨_, Tryz.underlying73, by kernel_rfl⟩
instance : FieldsT Tryz.prog 115 [114, 54] := ⟨_, Tryz.underlying115, by kernel_rfl⟩
instance : FieldsT Tryz.prog 116 [114, 54] := ⟨_, Tryz.underlying116, by kernel_rfl⟩
instance : FieldsT Tryz.prog 159 [5, 5] := ⟨_, Tryz.underlying159, by kernel_rfl⟩
instance : FieldsT Tryz.prog 160 [5, 5] := ⟨_, Tryz.underlying160, by kernel_rfl⟩
instance : FieldsT Tryz.prog 164 [9, 9, 119] := ⟨_, Tryz.underlying164, by kernel_rfl⟩
instance : FieldsT Tryz.prog 165 [9, 9, 119] := ⟨_, Tryz.underlying165, by kernel_rfl⟩
instance : FieldsT Tryz.prog 170 [9] := ⟨_, Tryz.underlying170, by kernel_rfl⟩
instance : FieldsT Tryz.prog 171 [9] := ⟨_, Tryz.underlying171, by kernel_rfl⟩
instance : FieldsT Tryz.prog 172 [17, 17, 17, 9] := ⟨_, Tryz.underlying172, by kernel_rfl⟩
instance : FieldsT Tryz.prog 173 [17, 17, 17, 9] := ⟨_, Tryz.underlying173, by kernel_rfl⟩
instance : FieldsT Tryz.prog 175 [174] := ⟨_, Tryz.underlying175, by kernel_rfl⟩
instance : FieldsT Tryz.prog 176 [174] := ⟨_, Tryz.underlying176, by kernel_rfl⟩
instance : FieldsT Tryz.prog 183 [12, 12, 145, 178, 5, 5, 179, 180, 129, 181, 182] := ⟨_, Tryz.underlying183, by kernel_rfl⟩
instance : FieldsT Tryz.prog 184 [12, 12, 145, 178, 5, 5, 179, 180, 129, 181, 182] := ⟨_, Tryz.underlying184, by kernel_rfl⟩
end Go.Own
