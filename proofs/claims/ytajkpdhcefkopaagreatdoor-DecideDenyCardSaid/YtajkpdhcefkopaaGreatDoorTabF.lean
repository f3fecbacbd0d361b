/- THE FIELDS OF THE PROGRAM'S STRUCTS (printed by wip/tab.py). -/
import Derived.Test.YtajkpdhcefkopaaGreatDoorTab
import Derived.Test.YtajkpdhcefkopaaGreatDoorOwnG
namespace Go.Own
open Go.Proofs
instance : FieldsT Tryz.prog 7 [2, 3, 4, 6] := ⟨_, Tryz.underlying7, by kernel_rfl⟩
instance : FieldsT Tryz.prog 8 [2, 3, 4, 6] := ⟨_, Tryz.underlying8, by kernel_rfl⟩
instance : FieldsT Tryz.prog 13 [9, 12] := ⟨_, Tryz.underlying13, by kernel_rfl⟩
instance : FieldsT Tryz.prog 14 [9, 12] := ⟨_, Tryz.underlying14, by kernel_rfl⟩
instance : FieldsT Tryz.prog 18 [17] := ⟨_, Tryz.underlying18, by kernel_rfl⟩
instance : FieldsT Tryz.prog 19 [17] := ⟨_, Tryz.underlying19, by kernel_rfl⟩
instance : FieldsT Tryz.prog 32 [24, 3] := ⟨_, Tryz.underlying32, by kernel_rfl⟩
instance : FieldsT Tryz.prog 33 [24, 3] := ⟨_, Tryz.underlying33, by kernel_rfl⟩
instance : FieldsT Tryz.prog 34 [9, 33, 3] := ⟨_, Tryz.underlying34, by kernel_rfl⟩
instance : FieldsT Tryz.prog 35 [9, 33, 3] := ⟨_, Tryz.underlying35, by kernel_rfl⟩
instance : FieldsT Tryz.prog 37 [22] := ⟨_, Tryz.underlying37, by kernel_rfl⟩
instance : FieldsT Tryz.prog 38 [22] := ⟨_, Tryz.underlying38, by kernel_rfl⟩
instance : FieldsT Tryz.prog 48 [4, 47, 22] := ⟨_, Tryz.underlying48, by kernel_rfl⟩
instance : FieldsT Tryz.prog 49 [4, 47, 22] := ⟨_, Tryz.underlying49, by kernel_rfl⟩
instance : FieldsT Tryz.prog 53 [4, 9, 51, 52, 4] := ⟨_, Tryz.underlying53, by kernel_rfl⟩
instance : FieldsT Tryz.prog 54 [4, 9, 51, 52, 4] := ⟨_, Tryz.underlying54, by kernel_rfl⟩
instance : FieldsT Tryz.prog 55 [3, 3, 3, 50, 9, 3, 54] := ⟨_, Tryz.underlying55, by kernel_rfl⟩
instance : FieldsT Tryz.prog 56 [3, 3, 3, 50, 9, 3, 54] := ⟨_, Tryz.underlying56, by kernel_rfl⟩
instance : FieldsT Tryz.prog 57 [24, 3] := ⟨_, Tryz.underlying57, by kernel_rfl⟩
instance : FieldsT Tryz.prog 58 [24, 3] := ⟨_, Tryz.underlying58, by kernel_rfl⟩
instance : FieldsT Tryz.prog 68 [4, 3, 9, 3, 9] := ⟨_, Tryz.underlying68, by kernel_rfl⟩
instance : FieldsT Tryz.prog 69 [4, 3, 9, 3, 9] := ⟨_, Tryz.underlying69, by kernel_rfl⟩
instance : FieldsT Tryz.prog 70 [4, 3, 3] := ⟨_, Tryz.underlying70, by kernel_rfl⟩
instance : FieldsT Tryz.prog 71 [4, 3, 3] := ⟨_, Tryz.underlying71, by kernel_rfl⟩
instance : FieldsT Tryz.prog 81 [79, 80] := ⟨_, Tryz.underlying81, by kernel_rfl⟩
instance : FieldsT Tryz.prog 82 [79, 80] := ⟨_, Tryz.underlying82, by kernel_rfl⟩
instance : FieldsT Tryz.prog 84 [9, 33] := ⟨_, Tryz.underlying84, by kernel_rfl⟩
instance : FieldsT Tryz.prog 85 [9, 33] := ⟨_, Tryz.underlying85, by kernel_rfl⟩
instance : FieldsT Tryz.prog 98 [95, 27, 4, 22] := ⟨_, Tryz.underlying98, by kernel_rfl⟩
instance : FieldsT Tryz.prog 99 [95, 27, 4, 22] := ⟨_, Tryz.underlying99, by kernel_rfl⟩
instance : FieldsT Tryz.prog 102 [47] := ⟨_, Tryz.underlying102, by kernel_rfl⟩
instance : FieldsT Tryz.prog 103 [47] := ⟨_, Tryz.underlying103, by kernel_rfl⟩
instance : FieldsT Tryz.prog 104 [49, 101, 29] := ⟨_, Tryz.underlying104, by kernel_rfl⟩
instance : FieldsT Tryz.prog 105 [49, 101, 29] := ⟨_, Tryz.underlying105, by kernel_rfl⟩
instance : FieldsT Tryz.prog 120 [95, 119] := ⟨_, Tryz.underlying120, by kernel_rfl⟩
instance : FieldsT Tryz.prog 121 [95, 119] := ⟨_, Tryz.underlying121, by kernel_rfl⟩
instance : FieldsT Tryz.prog 126 [125] := ⟨_, Tryz.underlying126, by kernel_rfl⟩
instance : FieldsT Tryz.prog 127 [125] := ⟨_, Tryz.underlying127, by kernel_rfl⟩
instance : FieldsT Tryz.prog 135 [52, 52, 134] := ⟨_, Tryz.underlying135, by kernel_rfl⟩
instance : FieldsT Tryz.prog 136 [52, 52, 134] := ⟨_, Tryz.underlying136, by kernel_rfl⟩
instance : FieldsT Tryz.prog 137 [47, 52, 136, 133] := ⟨_, Tryz.underlying137, by kernel_rfl⟩
instance : FieldsT Tryz.prog 138 [47, 52, 136, 133] := ⟨_, Tryz.underlying138, by kernel_rfl⟩
instance : FieldsT Tryz.prog 149 [9, 33] := ⟨_, Tryz.underlying149, by kernel_rfl⟩
instance : FieldsT Tryz.prog 150 [9, 33] := ⟨_, Tryz.underlying150, by kernel_rfl⟩
instance : FieldsT Tryz.prog 217 [216, 115] := ⟨_, Tryz.underlying217, by kernel_rfl⟩
instance : FieldsT Tryz.prog 218 [216, 115] := ⟨_, Tryz.underlying218, by kernel_rfl⟩
instance : FieldsT Tryz.prog 255 [5, 5] := ⟨_, Tryz.underlying255, by kernel_rfl⟩
instance : FieldsT Tryz.prog 256 [5, 5] := ⟨_, Tryz.underlying256, by kernel_rfl⟩
instance : FieldsT Tryz.prog 260 [9, 9, 221] := ⟨_, Tryz.underlying260, by kernel_rfl⟩
instance : FieldsT Tryz.prog 261 [9, 9, 221] := ⟨_, Tryz.underlying261, by kernel_rfl⟩
instance : FieldsT Tryz.prog 266 [9] := ⟨_, Tryz.underlying266, by kernel_rfl⟩
instance : FieldsT Tryz.prog 267 [9] := ⟨_, Tryz.underlying267, by kernel_rfl⟩
instance : FieldsT Tryz.prog 268 [17, 17, 17, 9] := ⟨_, Tryz.underlying268, by kernel_rfl⟩
instance : FieldsT Tryz.prog 269 [17, 17, 17, 9] := ⟨_, Tryz.underlying269, by kernel_rfl⟩
instance : FieldsT Tryz.prog 271 [270] := ⟨_, Tryz.underlying271, by kernel_rfl⟩
instance : FieldsT Tryz.prog 272 [270] := ⟨_, Tryz.underlying272, by kernel_rfl⟩
instance : FieldsT Tryz.prog 278 [12, 12, 179, 273, 5, 5, 274, 275, 233, 276, 277] := ⟨_, Tryz.underlying278, by kernel_rfl⟩
instance : FieldsT Tryz.prog 279 [12, 12, 179, 273, 5, 5, 274, 275, 233, 276, 277] := ⟨_, Tryz.underlying279, by kernel_rfl⟩
end Go.Own
