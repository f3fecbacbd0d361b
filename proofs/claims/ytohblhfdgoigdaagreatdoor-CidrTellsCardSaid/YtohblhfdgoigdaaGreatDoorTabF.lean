/- THE FIELDS OF THE PROGRAM'S STRUCTS (printed by wip/tab.py). -/
import Derived.Test.YtohblhfdgoigdaaGreatDoorTab
import Derived.Test.YtohblhfdgoigdaaGreatDoorOwnG
namespace Go.Own
open Go.Proofs
instance : FieldsT Tryz.prog 7 [2, 3, 4, 6] := ⟨_, Tryz.underlying7, by kernel_rfl⟩
instance : FieldsT Tryz.prog 8 [2, 3, 4, 6] := ⟨_, Tryz.underlying8, by kernel_rfl⟩
instance : FieldsT Tryz.prog 13 [9, 12] := ⟨_, Tryz.underlying13, by kernel_rfl⟩
instance : FieldsT Tryz.prog 14 [9, 12] := ⟨_, Tryz.underlying14, by kernel_rfl⟩
instance : FieldsT Tryz.prog 18 [17] := ⟨_, Tryz.underlying18, by kernel_rfl⟩
instance : FieldsT Tryz.prog 19 [17] := ⟨_, Tryz.underlying19, by kernel_rfl⟩
instance : FieldsT Tryz.prog 24 [4, 22, 23] := ⟨_, Tryz.underlying24, by kernel_rfl⟩
instance : FieldsT Tryz.prog 25 [4, 22, 23] := ⟨_, Tryz.underlying25, by kernel_rfl⟩
instance : FieldsT Tryz.prog 40 [39, 3] := ⟨_, Tryz.underlying40, by kernel_rfl⟩
instance : FieldsT Tryz.prog 41 [39, 3] := ⟨_, Tryz.underlying41, by kernel_rfl⟩
instance : FieldsT Tryz.prog 60 [4, 3, 9, 3, 9] := ⟨_, Tryz.underlying60, by kernel_rfl⟩
instance : FieldsT Tryz.prog 61 [4, 3, 9, 3, 9] := ⟨_, Tryz.underlying61, by kernel_rfl⟩
instance : FieldsT Tryz.prog 62 [9, 41, 3] := ⟨_, Tryz.underlying62, by kernel_rfl⟩
instance : FieldsT Tryz.prog 63 [9, 41, 3] := ⟨_, Tryz.underlying63, by kernel_rfl⟩
instance : FieldsT Tryz.prog 69 [67, 68] := ⟨_, Tryz.underlying69, by kernel_rfl⟩
instance : FieldsT Tryz.prog 70 [67, 68] := ⟨_, Tryz.underlying70, by kernel_rfl⟩
instance : FieldsT Tryz.prog 74 [65, 25] := ⟨_, Tryz.underlying74, by kernel_rfl⟩
instance : FieldsT Tryz.prog 75 [65, 25] := ⟨_, Tryz.underlying75, by kernel_rfl⟩
instance : FieldsT Tryz.prog 81 [79, 80] := ⟨_, Tryz.underlying81, by kernel_rfl⟩
instance : FieldsT Tryz.prog 82 [79, 80] := ⟨_, Tryz.underlying82, by kernel_rfl⟩
instance : FieldsT Tryz.prog 106 [105] := ⟨_, Tryz.underlying106, by kernel_rfl⟩
instance : FieldsT Tryz.prog 107 [105] := ⟨_, Tryz.underlying107, by kernel_rfl⟩
instance : FieldsT Tryz.prog 116 [114, 114, 115] := ⟨_, Tryz.underlying116, by kernel_rfl⟩
instance : FieldsT Tryz.prog 117 [114, 114, 115] := ⟨_, Tryz.underlying117, by kernel_rfl⟩
instance : FieldsT Tryz.prog 119 [22, 114, 117, 118] := ⟨_, Tryz.underlying119, by kernel_rfl⟩
instance : FieldsT Tryz.prog 120 [22, 114, 117, 118] := ⟨_, Tryz.underlying120, by kernel_rfl⟩
instance : FieldsT Tryz.prog 127 [9, 41] := ⟨_, Tryz.underlying127, by kernel_rfl⟩
instance : FieldsT Tryz.prog 128 [9, 41] := ⟨_, Tryz.underlying128, by kernel_rfl⟩
instance : FieldsT Tryz.prog 165 [3, 3] := ⟨_, Tryz.underlying165, by kernel_rfl⟩
instance : FieldsT Tryz.prog 166 [3, 3] := ⟨_, Tryz.underlying166, by kernel_rfl⟩
instance : FieldsT Tryz.prog 219 [9, 9, 84] := ⟨_, Tryz.underlying219, by kernel_rfl⟩
instance : FieldsT Tryz.prog 220 [9, 9, 84] := ⟨_, Tryz.underlying220, by kernel_rfl⟩
instance : FieldsT Tryz.prog 225 [5, 5] := ⟨_, Tryz.underlying225, by kernel_rfl⟩
instance : FieldsT Tryz.prog 226 [5, 5] := ⟨_, Tryz.underlying226, by kernel_rfl⟩
instance : FieldsT Tryz.prog 229 [9] := ⟨_, Tryz.underlying229, by kernel_rfl⟩
instance : FieldsT Tryz.prog 230 [9] := ⟨_, Tryz.underlying230, by kernel_rfl⟩
instance : FieldsT Tryz.prog 233 [17, 17, 17, 9] := ⟨_, Tryz.underlying233, by kernel_rfl⟩
instance : FieldsT Tryz.prog 234 [17, 17, 17, 9] := ⟨_, Tryz.underlying234, by kernel_rfl⟩
instance : FieldsT Tryz.prog 236 [235] := ⟨_, Tryz.underlying236, by kernel_rfl⟩
instance : FieldsT Tryz.prog 237 [235] := ⟨_, Tryz.underlying237, by kernel_rfl⟩
instance : FieldsT Tryz.prog 244 [12, 12, 182, 239, 5, 5, 240, 241, 135, 242, 243] := ⟨_, Tryz.underlying244, by kernel_rfl⟩
instance : FieldsT Tryz.prog 245 [12, 12, 182, 239, 5, 5, 240, 241, 135, 242, 243] := ⟨_, Tryz.underlying245, by kernel_rfl⟩
end Go.Own
