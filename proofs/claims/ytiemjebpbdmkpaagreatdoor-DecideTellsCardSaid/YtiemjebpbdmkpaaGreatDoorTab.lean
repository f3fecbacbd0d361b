/-
  THE TABLES OF THE PROGRAM, as instances (printed by wip/tab.py out of the loaded program).
-/
import Derived.Test.YtiemjebpbdmkpaaGreatDoorProg
import Derived.Test.YtiemjebpbdmkpaaGreatDoorOwnC
import Derived.KernelRfl
namespace Go.Own
open Go.Proofs

instance : UnderT Tryz.prog 3 (TypeDesc.int IntKind.i64) := ⟨Tryz.underlying3⟩
instance : OneT Tryz.prog 3 := ⟨Tryz.isAgg3, Tryz.sizeOf3⟩
instance : UnderT Tryz.prog 4 (TypeDesc.bool) := ⟨Tryz.underlying4⟩
instance : OneT Tryz.prog 4 := ⟨Tryz.isAgg4, Tryz.sizeOf4⟩
instance : UnderT Tryz.prog 5 (TypeDesc.int IntKind.u8) := ⟨Tryz.underlying5⟩
instance : OneT Tryz.prog 5 := ⟨Tryz.isAgg5, Tryz.sizeOf5⟩
instance : UnderT Tryz.prog 9 (TypeDesc.string) := ⟨Tryz.underlying9⟩
instance : OneT Tryz.prog 9 := ⟨Tryz.isAgg9, Tryz.sizeOf9⟩
instance : UnderT Tryz.prog 21 (TypeDesc.int IntKind.i32) := ⟨Tryz.underlying21⟩
instance : UnderT Tryz.prog 22 (TypeDesc.slice 35) := ⟨Tryz.underlying22⟩
instance : OneT Tryz.prog 22 := ⟨Tryz.isAgg22, Tryz.sizeOf22⟩
instance : SliceT Tryz.prog 22 35 19 48 (Value.agg #[Value.string { data := #[] }, Value.int IntKind.u8 0, Value.int IntKind.u8 0, Value.int IntKind.u8 0, Value.int IntKind.u8 0, Value.int IntKind.u8 0, Value.int IntKind.u8 0, Value.int IntKind.u8 0, Value.int IntKind.u8 0, Value.int IntKind.u8 0, Value.int IntKind.u8 0, Value.int IntKind.u8 0, Value.int IntKind.u8 0, Value.int IntKind.u8 0, Value.int IntKind.u8 0, Value.int IntKind.u8 0, Value.int IntKind.u8 0, Value.int IntKind.i64 0, Value.int IntKind.i64 0]) := ⟨Tryz.underlying22, ⟨Tryz.t35, by kernel_rfl, rfl, rfl, rfl⟩, rfl⟩
instance : UnderT Tryz.prog 24 (TypeDesc.array 16 5) := ⟨Tryz.underlying24⟩
instance : AggT Tryz.prog 24 16 := ⟨Tryz.isAgg24, Tryz.sizeOf24⟩
instance : ArrT Tryz.prog 24 16 5 1 := ⟨Tryz.underlying24, Tryz.sizeOf5⟩
instance : ZeroT Tryz.prog 24 (Value.agg #[Value.int IntKind.u8 0, Value.int IntKind.u8 0, Value.int IntKind.u8 0, Value.int IntKind.u8 0, Value.int IntKind.u8 0, Value.int IntKind.u8 0, Value.int IntKind.u8 0, Value.int IntKind.u8 0, Value.int IntKind.u8 0, Value.int IntKind.u8 0, Value.int IntKind.u8 0, Value.int IntKind.u8 0, Value.int IntKind.u8 0, Value.int IntKind.u8 0, Value.int IntKind.u8 0, Value.int IntKind.u8 0]) := ⟨Tryz.zeroValue24⟩
instance : OneT Tryz.prog 27 := ⟨Tryz.isAgg27, Tryz.sizeOf27⟩
instance : OneT Tryz.prog 29 := ⟨Tryz.isAgg29, Tryz.sizeOf29⟩
instance : AggT Tryz.prog 33 17 := ⟨Tryz.isAgg33, Tryz.sizeOf33⟩
instance : FAddr Tryz.prog 33 0 0 := ⟨fun _ _ => by kernel_rfl⟩
instance : FAddr Tryz.prog 33 1 16 := ⟨fun _ _ => by kernel_rfl⟩
instance : BuildT Tryz.prog 33 (fun i => #[(0, 16), (16, 1)][i]?) #[Value.int IntKind.u8 0, Value.int IntKind.u8 0, Value.int IntKind.u8 0, Value.int IntKind.u8 0, Value.int IntKind.u8 0, Value.int IntKind.u8 0, Value.int IntKind.u8 0, Value.int IntKind.u8 0, Value.int IntKind.u8 0, Value.int IntKind.u8 0, Value.int IntKind.u8 0, Value.int IntKind.u8 0, Value.int IntKind.u8 0, Value.int IntKind.u8 0, Value.int IntKind.u8 0, Value.int IntKind.u8 0, Value.int IntKind.i64 0] := ⟨fun _ => by kernel_rfl⟩
instance : ZeroT Tryz.prog 33 (Value.agg #[Value.int IntKind.u8 0, Value.int IntKind.u8 0, Value.int IntKind.u8 0, Value.int IntKind.u8 0, Value.int IntKind.u8 0, Value.int IntKind.u8 0, Value.int IntKind.u8 0, Value.int IntKind.u8 0, Value.int IntKind.u8 0, Value.int IntKind.u8 0, Value.int IntKind.u8 0, Value.int IntKind.u8 0, Value.int IntKind.u8 0, Value.int IntKind.u8 0, Value.int IntKind.u8 0, Value.int IntKind.u8 0, Value.int IntKind.i64 0]) := ⟨Tryz.zeroValue33⟩
instance : AggT Tryz.prog 35 19 := ⟨Tryz.isAgg35, Tryz.sizeOf35⟩
instance : FAddr Tryz.prog 35 0 0 := ⟨fun _ _ => by kernel_rfl⟩
instance : FAddr Tryz.prog 35 1 1 := ⟨fun _ _ => by kernel_rfl⟩
instance : FAddr Tryz.prog 35 2 18 := ⟨fun _ _ => by kernel_rfl⟩
instance : BuildT Tryz.prog 35 (fun i => #[(0, 1), (1, 17), (18, 1)][i]?) #[Value.string { data := #[] }, Value.int IntKind.u8 0, Value.int IntKind.u8 0, Value.int IntKind.u8 0, Value.int IntKind.u8 0, Value.int IntKind.u8 0, Value.int IntKind.u8 0, Value.int IntKind.u8 0, Value.int IntKind.u8 0, Value.int IntKind.u8 0, Value.int IntKind.u8 0, Value.int IntKind.u8 0, Value.int IntKind.u8 0, Value.int IntKind.u8 0, Value.int IntKind.u8 0, Value.int IntKind.u8 0, Value.int IntKind.u8 0, Value.int IntKind.i64 0, Value.int IntKind.i64 0] := ⟨fun _ => by kernel_rfl⟩
instance : ZeroT Tryz.prog 35 (Value.agg #[Value.string { data := #[] }, Value.int IntKind.u8 0, Value.int IntKind.u8 0, Value.int IntKind.u8 0, Value.int IntKind.u8 0, Value.int IntKind.u8 0, Value.int IntKind.u8 0, Value.int IntKind.u8 0, Value.int IntKind.u8 0, Value.int IntKind.u8 0, Value.int IntKind.u8 0, Value.int IntKind.u8 0, Value.int IntKind.u8 0, Value.int IntKind.u8 0, Value.int IntKind.u8 0, Value.int IntKind.u8 0, Value.int IntKind.u8 0, Value.int IntKind.i64 0, Value.int IntKind.i64 0]) := ⟨Tryz.zeroValue35⟩
instance : FAddr Tryz.prog 38 0 0 := ⟨fun _ _ => by kernel_rfl⟩
instance : BuildT Tryz.prog 38 (fun i => #[(0, 1)][i]?) #[Value.slice none 0 0] := ⟨fun _ => by kernel_rfl⟩
instance : UnderT Tryz.prog 40 (TypeDesc.slice 33) := ⟨Tryz.underlying40⟩
instance : SliceT Tryz.prog 40 33 17 24 (Value.agg #[Value.int IntKind.u8 0, Value.int IntKind.u8 0, Value.int IntKind.u8 0, Value.int IntKind.u8 0, Value.int IntKind.u8 0, Value.int IntKind.u8 0, Value.int IntKind.u8 0, Value.int IntKind.u8 0, Value.int IntKind.u8 0, Value.int IntKind.u8 0, Value.int IntKind.u8 0, Value.int IntKind.u8 0, Value.int IntKind.u8 0, Value.int IntKind.u8 0, Value.int IntKind.u8 0, Value.int IntKind.u8 0, Value.int IntKind.i64 0]) := ⟨Tryz.underlying40, ⟨Tryz.t33, by kernel_rfl, rfl, rfl, rfl⟩, rfl⟩
instance : UnderT Tryz.prog 44 (TypeDesc.slice 66) := ⟨Tryz.underlying44⟩
instance : OneT Tryz.prog 44 := ⟨Tryz.isAgg44, Tryz.sizeOf44⟩
instance : SliceT Tryz.prog 44 66 5 56 (Value.agg #[Value.bool false, Value.int IntKind.i64 0, Value.string { data := #[] }, Value.int IntKind.i64 0, Value.string { data := #[] }]) := ⟨Tryz.underlying44, ⟨Tryz.t66, by kernel_rfl, rfl, rfl, rfl⟩, rfl⟩
instance : AggT Tryz.prog 46 3 := ⟨Tryz.isAgg46, Tryz.sizeOf46⟩
instance : FAddr Tryz.prog 46 0 0 := ⟨fun _ _ => by kernel_rfl⟩
instance : FAddr Tryz.prog 46 1 1 := ⟨fun _ _ => by kernel_rfl⟩
instance : FAddr Tryz.prog 46 2 2 := ⟨fun _ _ => by kernel_rfl⟩
instance : BuildT Tryz.prog 46 (fun i => #[(0, 1), (1, 1), (2, 1)][i]?) #[Value.bool false, Value.slice none 0 0, Value.slice none 0 0] := ⟨fun _ => by kernel_rfl⟩
instance : ZeroT Tryz.prog 46 (Value.agg #[Value.bool false, Value.slice none 0 0, Value.slice none 0 0]) := ⟨Tryz.zeroValue46⟩
instance : UnderT Tryz.prog 47 (TypeDesc.int IntKind.i64) := ⟨Tryz.underlying47⟩
instance : UnderT Tryz.prog 48 (TypeDesc.slice 9) := ⟨Tryz.underlying48⟩
instance : OneT Tryz.prog 48 := ⟨Tryz.isAgg48, Tryz.sizeOf48⟩
instance : SliceT Tryz.prog 48 9 1 16 (Value.string { data := #[] }) := ⟨Tryz.underlying48, ⟨Tryz.t9, by kernel_rfl, rfl, rfl, rfl⟩, rfl⟩
instance : UnderT Tryz.prog 49 (TypeDesc.slice 3) := ⟨Tryz.underlying49⟩
instance : OneT Tryz.prog 49 := ⟨Tryz.isAgg49, Tryz.sizeOf49⟩
instance : SliceT Tryz.prog 49 3 1 8 (Value.int IntKind.i64 0) := ⟨Tryz.underlying49, ⟨Tryz.t3, by kernel_rfl, rfl, rfl, rfl⟩, rfl⟩
instance : FAddr Tryz.prog 51 2 2 := ⟨fun _ _ => by kernel_rfl⟩
instance : AggT Tryz.prog 53 11 := ⟨Tryz.isAgg53, Tryz.sizeOf53⟩
instance : FAddr Tryz.prog 53 0 0 := ⟨fun _ _ => by kernel_rfl⟩
instance : FAddr Tryz.prog 53 4 4 := ⟨fun _ _ => by kernel_rfl⟩
instance : FAddr Tryz.prog 53 5 5 := ⟨fun _ _ => by kernel_rfl⟩
instance : FAddr Tryz.prog 53 6 6 := ⟨fun _ _ => by kernel_rfl⟩
instance : BuildT Tryz.prog 53 (fun i => #[(0, 1), (1, 1), (2, 1), (3, 1), (4, 1), (5, 1), (6, 5)][i]?) #[Value.int IntKind.i64 0, Value.int IntKind.i64 0, Value.int IntKind.i64 0, Value.int IntKind.i64 0, Value.string { data := #[] }, Value.int IntKind.i64 0, Value.bool false, Value.string { data := #[] }, Value.slice none 0 0, Value.slice none 0 0, Value.bool false] := ⟨fun _ => by kernel_rfl⟩
instance : ZeroT Tryz.prog 53 (Value.agg #[Value.int IntKind.i64 0, Value.int IntKind.i64 0, Value.int IntKind.i64 0, Value.int IntKind.i64 0, Value.string { data := #[] }, Value.int IntKind.i64 0, Value.bool false, Value.string { data := #[] }, Value.slice none 0 0, Value.slice none 0 0, Value.bool false]) := ⟨Tryz.zeroValue53⟩
instance : AggT Tryz.prog 55 17 := ⟨Tryz.isAgg55, Tryz.sizeOf55⟩
instance : FAddr Tryz.prog 55 0 0 := ⟨fun _ _ => by kernel_rfl⟩
instance : FAddr Tryz.prog 55 1 16 := ⟨fun _ _ => by kernel_rfl⟩
instance : BuildT Tryz.prog 55 (fun i => #[(0, 16), (16, 1)][i]?) #[Value.int IntKind.u8 0, Value.int IntKind.u8 0, Value.int IntKind.u8 0, Value.int IntKind.u8 0, Value.int IntKind.u8 0, Value.int IntKind.u8 0, Value.int IntKind.u8 0, Value.int IntKind.u8 0, Value.int IntKind.u8 0, Value.int IntKind.u8 0, Value.int IntKind.u8 0, Value.int IntKind.u8 0, Value.int IntKind.u8 0, Value.int IntKind.u8 0, Value.int IntKind.u8 0, Value.int IntKind.u8 0, Value.int IntKind.i64 0] := ⟨fun _ => by kernel_rfl⟩
instance : ZeroT Tryz.prog 55 (Value.agg #[Value.int IntKind.u8 0, Value.int IntKind.u8 0, Value.int IntKind.u8 0, Value.int IntKind.u8 0, Value.int IntKind.u8 0, Value.int IntKind.u8 0, Value.int IntKind.u8 0, Value.int IntKind.u8 0, Value.int IntKind.u8 0, Value.int IntKind.u8 0, Value.int IntKind.u8 0, Value.int IntKind.u8 0, Value.int IntKind.u8 0, Value.int IntKind.u8 0, Value.int IntKind.u8 0, Value.int IntKind.u8 0, Value.int IntKind.i64 0]) := ⟨Tryz.zeroValue55⟩
instance : UnderT Tryz.prog 57 (TypeDesc.pointer 132) := ⟨Tryz.underlying57⟩
instance : UnderT Tryz.prog 60 (TypeDesc.pointer 138) := ⟨Tryz.underlying60⟩
instance : AggT Tryz.prog 66 5 := ⟨Tryz.isAgg66, Tryz.sizeOf66⟩
instance : FAddr Tryz.prog 66 0 0 := ⟨fun _ _ => by kernel_rfl⟩
instance : FAddr Tryz.prog 66 1 1 := ⟨fun _ _ => by kernel_rfl⟩
instance : FAddr Tryz.prog 66 2 2 := ⟨fun _ _ => by kernel_rfl⟩
instance : FAddr Tryz.prog 66 3 3 := ⟨fun _ _ => by kernel_rfl⟩
instance : FAddr Tryz.prog 66 4 4 := ⟨fun _ _ => by kernel_rfl⟩
instance : BuildT Tryz.prog 66 (fun i => #[(0, 1), (1, 1), (2, 1), (3, 1), (4, 1)][i]?) #[Value.bool false, Value.int IntKind.i64 0, Value.string { data := #[] }, Value.int IntKind.i64 0, Value.string { data := #[] }] := ⟨fun _ => by kernel_rfl⟩
instance : ZeroT Tryz.prog 66 (Value.agg #[Value.bool false, Value.int IntKind.i64 0, Value.string { data := #[] }, Value.int IntKind.i64 0, Value.string { data := #[] }]) := ⟨Tryz.zeroValue66⟩
instance : AggT Tryz.prog 68 3 := ⟨Tryz.isAgg68, Tryz.sizeOf68⟩
instance : FAddr Tryz.prog 68 1 1 := ⟨fun _ _ => by kernel_rfl⟩
instance : BuildT Tryz.prog 68 (fun i => #[(0, 1), (1, 1), (2, 1)][i]?) #[Value.bool false, Value.int IntKind.i64 0, Value.int IntKind.i64 0] := ⟨fun _ => by kernel_rfl⟩
instance : ZeroT Tryz.prog 68 (Value.agg #[Value.bool false, Value.int IntKind.i64 0, Value.int IntKind.i64 0]) := ⟨Tryz.zeroValue68⟩
instance : UnderT Tryz.prog 79 (TypeDesc.slice 5) := ⟨Tryz.underlying79⟩
instance : SliceT Tryz.prog 79 5 1 1 (Value.int IntKind.u8 0) := ⟨Tryz.underlying79, ⟨Tryz.t5, by kernel_rfl, rfl, rfl, rfl⟩, rfl⟩
instance : AggT Tryz.prog 111 4 := ⟨Tryz.isAgg111, Tryz.sizeOf111⟩
instance : BuildT Tryz.prog 111 (fun i => some (i * 1, 1)) #[Value.int IntKind.u8 0, Value.int IntKind.u8 0, Value.int IntKind.u8 0, Value.int IntKind.u8 0] := ⟨fun _ => by kernel_rfl⟩
instance : ArrT Tryz.prog 111 4 5 1 := ⟨Tryz.underlying111, Tryz.sizeOf5⟩
instance : ZeroT Tryz.prog 111 (Value.agg #[Value.int IntKind.u8 0, Value.int IntKind.u8 0, Value.int IntKind.u8 0, Value.int IntKind.u8 0]) := ⟨Tryz.zeroValue111⟩
instance : UnderT Tryz.prog 112 (TypeDesc.map 118 3) := ⟨Tryz.underlying112⟩
instance : OneT Tryz.prog 112 := ⟨Tryz.isAgg112, Tryz.sizeOf112⟩
instance : OneT Tryz.prog 113 := ⟨Tryz.isAgg113, Tryz.sizeOf113⟩
instance : FAddr Tryz.prog 115 0 0 := ⟨fun _ _ => by kernel_rfl⟩
instance : FAddr Tryz.prog 115 1 1 := ⟨fun _ _ => by kernel_rfl⟩
instance : BuildT Tryz.prog 115 (fun i => #[(0, 1), (1, 1)][i]?) #[Value.map none, Value.map none] := ⟨fun _ => by kernel_rfl⟩
instance : AggT Tryz.prog 118 18 := ⟨Tryz.isAgg118, Tryz.sizeOf118⟩
instance : FAddr Tryz.prog 118 0 0 := ⟨fun _ _ => by kernel_rfl⟩
instance : FAddr Tryz.prog 118 1 1 := ⟨fun _ _ => by kernel_rfl⟩
instance : BuildT Tryz.prog 118 (fun i => #[(0, 1), (1, 17)][i]?) #[Value.string { data := #[] }, Value.int IntKind.u8 0, Value.int IntKind.u8 0, Value.int IntKind.u8 0, Value.int IntKind.u8 0, Value.int IntKind.u8 0, Value.int IntKind.u8 0, Value.int IntKind.u8 0, Value.int IntKind.u8 0, Value.int IntKind.u8 0, Value.int IntKind.u8 0, Value.int IntKind.u8 0, Value.int IntKind.u8 0, Value.int IntKind.u8 0, Value.int IntKind.u8 0, Value.int IntKind.u8 0, Value.int IntKind.u8 0, Value.int IntKind.i64 0] := ⟨fun _ => by kernel_rfl⟩
instance : ZeroT Tryz.prog 118 (Value.agg #[Value.string { data := #[] }, Value.int IntKind.u8 0, Value.int IntKind.u8 0, Value.int IntKind.u8 0, Value.int IntKind.u8 0, Value.int IntKind.u8 0, Value.int IntKind.u8 0, Value.int IntKind.u8 0, Value.int IntKind.u8 0, Value.int IntKind.u8 0, Value.int IntKind.u8 0, Value.int IntKind.u8 0, Value.int IntKind.u8 0, Value.int IntKind.u8 0, Value.int IntKind.u8 0, Value.int IntKind.u8 0, Value.int IntKind.u8 0, Value.int IntKind.i64 0]) := ⟨Tryz.zeroValue118⟩
instance : OneT Tryz.prog 128 := ⟨Tryz.isAgg128, Tryz.sizeOf128⟩
instance : FAddr Tryz.prog 132 0 0 := ⟨fun _ _ => by kernel_rfl⟩
instance : FAddr Tryz.prog 132 1 1 := ⟨fun _ _ => by kernel_rfl⟩
instance : FAddr Tryz.prog 132 2 2 := ⟨fun _ _ => by kernel_rfl⟩
instance : FAddr Tryz.prog 132 3 3 := ⟨fun _ _ => by kernel_rfl⟩
instance : BuildT Tryz.prog 132 (fun i => #[(0, 1), (1, 1), (2, 1), (3, 1)][i]?) #[Value.pointer none, Value.pointer none, Value.bool false, Value.slice none 0 0] := ⟨fun _ => by kernel_rfl⟩
instance : OneT Tryz.prog 134 := ⟨Tryz.isAgg134, Tryz.sizeOf134⟩
instance : FAddr Tryz.prog 136 0 0 := ⟨fun _ _ => by kernel_rfl⟩
instance : BuildT Tryz.prog 136 (fun i => #[(0, 1)][i]?) #[Value.slice none 0 0] := ⟨fun _ => by kernel_rfl⟩
instance : FAddr Tryz.prog 138 0 0 := ⟨fun _ _ => by kernel_rfl⟩
instance : FAddr Tryz.prog 138 1 3 := ⟨fun _ _ => by kernel_rfl⟩
instance : FAddr Tryz.prog 138 2 4 := ⟨fun _ _ => by kernel_rfl⟩
instance : BuildT Tryz.prog 138 (fun i => #[(0, 3), (3, 1), (4, 1)][i]?) #[Value.bool false, Value.slice none 0 0, Value.slice none 0 0, Value.pointer none, Value.pointer none] := ⟨fun _ => by kernel_rfl⟩
instance : AggT Tryz.prog 174 12 := ⟨Tryz.isAgg174, Tryz.sizeOf174⟩
instance : ArrT Tryz.prog 174 12 5 1 := ⟨Tryz.underlying174, Tryz.sizeOf5⟩
instance : OneT Tryz.prog 177 := ⟨Tryz.isAgg177, Tryz.sizeOf177⟩
instance : FAddr Tryz.prog 179 0 0 := ⟨fun _ _ => by kernel_rfl⟩
instance : FAddr Tryz.prog 179 1 1 := ⟨fun _ _ => by kernel_rfl⟩
instance : BuildT Tryz.prog 179 (fun i => #[(0, 1), (1, 1)][i]?) #[Value.pointer none, Value.map none] := ⟨fun _ => by kernel_rfl⟩
instance : UnderT Tryz.prog 183 (TypeDesc.map 33 3) := ⟨Tryz.underlying183⟩
instance : OneT Tryz.prog 183 := ⟨Tryz.isAgg183, Tryz.sizeOf183⟩
instance : FAddr Tryz.prog 185 0 0 := ⟨fun _ _ => by kernel_rfl⟩
instance : BuildT Tryz.prog 185 (fun i => #[(0, 1)][i]?) #[Value.map none] := ⟨fun _ => by kernel_rfl⟩
instance : OneT Tryz.prog 190 := ⟨Tryz.isAgg190, Tryz.sizeOf190⟩
instance : UnderT Tryz.prog 191 (TypeDesc.map 9 238) := ⟨Tryz.underlying191⟩
instance : OneT Tryz.prog 191 := ⟨Tryz.isAgg191, Tryz.sizeOf191⟩
instance : FAddr Tryz.prog 193 0 0 := ⟨fun _ _ => by kernel_rfl⟩
instance : FAddr Tryz.prog 193 1 1 := ⟨fun _ _ => by kernel_rfl⟩
instance : FAddr Tryz.prog 193 2 2 := ⟨fun _ _ => by kernel_rfl⟩
instance : BuildT Tryz.prog 193 (fun i => #[(0, 1), (1, 1), (2, 1)][i]?) #[Value.slice none 0 0, Value.slice none 0 0, Value.map none] := ⟨fun _ => by kernel_rfl⟩
instance : FAddr Tryz.prog 195 0 0 := ⟨fun _ _ => by kernel_rfl⟩
instance : FAddr Tryz.prog 195 1 1 := ⟨fun _ _ => by kernel_rfl⟩
instance : FAddr Tryz.prog 195 2 2 := ⟨fun _ _ => by kernel_rfl⟩
instance : FAddr Tryz.prog 195 3 5 := ⟨fun _ _ => by kernel_rfl⟩
instance : BuildT Tryz.prog 195 (fun i => #[(0, 1), (1, 1), (2, 3), (5, 1)][i]?) #[Value.slice none 0 0, Value.slice none 0 0, Value.slice none 0 0, Value.slice none 0 0, Value.map none, Value.map none] := ⟨fun _ => by kernel_rfl⟩
instance : UnderT Tryz.prog 201 (TypeDesc.slice 49) := ⟨Tryz.underlying201⟩
instance : SliceT Tryz.prog 201 49 1 24 (Value.slice none 0 0) := ⟨Tryz.underlying201, ⟨Tryz.t49, by kernel_rfl, rfl, rfl, rfl⟩, rfl⟩
instance : AggT Tryz.prog 231 18 := ⟨Tryz.isAgg231, Tryz.sizeOf231⟩
instance : BuildT Tryz.prog 231 (fun i => #[(0, 1), (1, 17)][i]?) #[Value.string { data := #[] }, Value.int IntKind.u8 0, Value.int IntKind.u8 0, Value.int IntKind.u8 0, Value.int IntKind.u8 0, Value.int IntKind.u8 0, Value.int IntKind.u8 0, Value.int IntKind.u8 0, Value.int IntKind.u8 0, Value.int IntKind.u8 0, Value.int IntKind.u8 0, Value.int IntKind.u8 0, Value.int IntKind.u8 0, Value.int IntKind.u8 0, Value.int IntKind.u8 0, Value.int IntKind.u8 0, Value.int IntKind.u8 0, Value.int IntKind.i64 0] := ⟨fun _ => by kernel_rfl⟩
instance : ZeroT Tryz.prog 231 (Value.agg #[Value.string { data := #[] }, Value.int IntKind.u8 0, Value.int IntKind.u8 0, Value.int IntKind.u8 0, Value.int IntKind.u8 0, Value.int IntKind.u8 0, Value.int IntKind.u8 0, Value.int IntKind.u8 0, Value.int IntKind.u8 0, Value.int IntKind.u8 0, Value.int IntKind.u8 0, Value.int IntKind.u8 0, Value.int IntKind.u8 0, Value.int IntKind.u8 0, Value.int IntKind.u8 0, Value.int IntKind.u8 0, Value.int IntKind.u8 0, Value.int IntKind.i64 0]) := ⟨Tryz.zeroValue231⟩
instance : UnderT Tryz.prog 232 (TypeDesc.int IntKind.u64) := ⟨Tryz.underlying232⟩
instance : UnderT Tryz.prog 238 (TypeDesc.pointer 193) := ⟨Tryz.underlying238⟩
instance : UnderT Tryz.prog 248 (TypeDesc.int IntKind.u64) := ⟨Tryz.underlying248⟩
instance : UnderT Tryz.prog 253 (TypeDesc.interface #[("Error", 256)]) := ⟨Tryz.underlying253⟩
instance : UnderT Tryz.prog 289 (TypeDesc.int IntKind.u16) := ⟨Tryz.underlying289⟩
instance : OneT Tryz.prog 289 := ⟨Tryz.isAgg289, Tryz.sizeOf289⟩
instance : AggT Tryz.prog 290 8 := ⟨Tryz.isAgg290, Tryz.sizeOf290⟩
instance : ArrT Tryz.prog 290 8 289 1 := ⟨Tryz.underlying290, Tryz.sizeOf289⟩
instance : ZeroT Tryz.prog 290 (Value.agg #[Value.int IntKind.u16 0, Value.int IntKind.u16 0, Value.int IntKind.u16 0, Value.int IntKind.u16 0, Value.int IntKind.u16 0, Value.int IntKind.u16 0, Value.int IntKind.u16 0, Value.int IntKind.u16 0]) := ⟨Tryz.zeroValue290⟩
instance : UnderT Tryz.prog 291 (TypeDesc.slice 289) := ⟨Tryz.underlying291⟩
instance : SliceT Tryz.prog 291 289 1 2 (Value.int IntKind.u16 0) := ⟨Tryz.underlying291, ⟨Tryz.t289, by kernel_rfl, rfl, rfl, rfl⟩, rfl⟩
instance : ArrT Tryz.prog 359 65 5 1 := ⟨Tryz.underlying359, Tryz.sizeOf5⟩
instance : ZeroT Tryz.prog 359 (Value.agg ([Value.int IntKind.u8 0, Value.int IntKind.u8 0, Value.int IntKind.u8 0, Value.int IntKind.u8 0, Value.int IntKind.u8 0, Value.int IntKind.u8 0, Value.int IntKind.u8 0, Value.int IntKind.u8 0, Value.int IntKind.u8 0, Value.int IntKind.u8 0, Value.int IntKind.u8 0, Value.int IntKind.u8 0, Value.int IntKind.u8 0, Value.int IntKind.u8 0, Value.int IntKind.u8 0, Value.int IntKind.u8 0, Value.int IntKind.u8 0, Value.int IntKind.u8 0, Value.int IntKind.u8 0, Value.int IntKind.u8 0, Value.int IntKind.u8 0, Value.int IntKind.u8 0, Value.int IntKind.u8 0, Value.int IntKind.u8 0, Value.int IntKind.u8 0, Value.int IntKind.u8 0, Value.int IntKind.u8 0, Value.int IntKind.u8 0, Value.int IntKind.u8 0, Value.int IntKind.u8 0, Value.int IntKind.u8 0, Value.int IntKind.u8 0].append [Value.int IntKind.u8 0, Value.int IntKind.u8 0, Value.int IntKind.u8 0, Value.int IntKind.u8 0, Value.int IntKind.u8 0, Value.int IntKind.u8 0, Value.int IntKind.u8 0, Value.int IntKind.u8 0, Value.int IntKind.u8 0, Value.int IntKind.u8 0, Value.int IntKind.u8 0, Value.int IntKind.u8 0, Value.int IntKind.u8 0, Value.int IntKind.u8 0, Value.int IntKind.u8 0, Value.int IntKind.u8 0, Value.int IntKind.u8 0, Value.int IntKind.u8 0, Value.int IntKind.u8 0, Value.int IntKind.u8 0, Value.int IntKind.u8 0, Value.int IntKind.u8 0, Value.int IntKind.u8 0, Value.int IntKind.u8 0, Value.int IntKind.u8 0, Value.int IntKind.u8 0, Value.int IntKind.u8 0, Value.int IntKind.u8 0, Value.int IntKind.u8 0, Value.int IntKind.u8 0, Value.int IntKind.u8 0, Value.int IntKind.u8 0, Value.int IntKind.u8 0]).toArray) := ⟨Tryz.zeroValue359⟩
instance : ArrT Tryz.prog 402 64 5 1 := ⟨Tryz.underlying402, Tryz.sizeOf5⟩
instance : CallF Tryz.prog 14 := ⟨Tryz.call14⟩
instance : CallF Tryz.prog 15 := ⟨Tryz.call15⟩
instance : CallF Tryz.prog 16 := ⟨Tryz.call16⟩
instance : CallF Tryz.prog 17 := ⟨Tryz.call17⟩
instance : CallF Tryz.prog 19 := ⟨Tryz.call19⟩
instance : CallF Tryz.prog 20 := ⟨Tryz.call20⟩
instance : CallF Tryz.prog 21 := ⟨Tryz.call21⟩
instance : CallF Tryz.prog 23 := ⟨Tryz.call23⟩
instance : CallF Tryz.prog 24 := ⟨Tryz.call24⟩
instance : CallF Tryz.prog 25 := ⟨Tryz.call25⟩
instance : CallF Tryz.prog 26 := ⟨Tryz.call26⟩
instance : CallF Tryz.prog 27 := ⟨Tryz.call27⟩
instance : CallF Tryz.prog 28 := ⟨Tryz.call28⟩
instance : CallF Tryz.prog 29 := ⟨Tryz.call29⟩
instance : CallF Tryz.prog 30 := ⟨Tryz.call30⟩
instance : CallF Tryz.prog 31 := ⟨Tryz.call31⟩
instance : CallF Tryz.prog 33 := ⟨Tryz.call33⟩
instance : CallF Tryz.prog 62 := ⟨Tryz.call62⟩
instance : CallF Tryz.prog 63 := ⟨Tryz.call63⟩
instance : CallF Tryz.prog 64 := ⟨Tryz.call64⟩
instance : CallF Tryz.prog 65 := ⟨Tryz.call65⟩
instance : CallF Tryz.prog 66 := ⟨Tryz.call66⟩
instance : CallF Tryz.prog 67 := ⟨Tryz.call67⟩
instance : CallF Tryz.prog 68 := ⟨Tryz.call68⟩
instance : CallF Tryz.prog 69 := ⟨Tryz.call69⟩
instance : CallF Tryz.prog 70 := ⟨Tryz.call70⟩
instance : CallF Tryz.prog 71 := ⟨Tryz.call71⟩
instance : CallF Tryz.prog 72 := ⟨Tryz.call72⟩
instance : CallF Tryz.prog 73 := ⟨Tryz.call73⟩
instance : CallF Tryz.prog 74 := ⟨Tryz.call74⟩
instance : CallF Tryz.prog 75 := ⟨Tryz.call75⟩
instance : CallF Tryz.prog 76 := ⟨Tryz.call76⟩
instance : CallF Tryz.prog 77 := ⟨Tryz.call77⟩
instance : CallF Tryz.prog 78 := ⟨Tryz.call78⟩
instance : CallF Tryz.prog 79 := ⟨Tryz.call79⟩
instance : CallF Tryz.prog 80 := ⟨Tryz.call80⟩
instance : CallF Tryz.prog 81 := ⟨Tryz.call81⟩
instance : CallF Tryz.prog 82 := ⟨Tryz.call82⟩
instance : CallF Tryz.prog 83 := ⟨Tryz.call83⟩
instance : CallF Tryz.prog 84 := ⟨Tryz.call84⟩
instance : CallF Tryz.prog 123 := ⟨Tryz.call123⟩
instance : CallF Tryz.prog 124 := ⟨Tryz.call124⟩
instance : CallF Tryz.prog 125 := ⟨Tryz.call125⟩
instance : CallF Tryz.prog 126 := ⟨Tryz.call126⟩
instance : CallF Tryz.prog 127 := ⟨Tryz.call127⟩
instance : CallF Tryz.prog 128 := ⟨Tryz.call128⟩
instance : CallF Tryz.prog 129 := ⟨Tryz.call129⟩
instance : CallF Tryz.prog 130 := ⟨Tryz.call130⟩
instance : CallF Tryz.prog 131 := ⟨Tryz.call131⟩
instance : CallF Tryz.prog 132 := ⟨Tryz.call132⟩
instance : CallF Tryz.prog 133 := ⟨Tryz.call133⟩
instance : CallF Tryz.prog 134 := ⟨Tryz.call134⟩
instance : CallF Tryz.prog 135 := ⟨Tryz.call135⟩
instance : CallF Tryz.prog 136 := ⟨Tryz.call136⟩
instance : CallF Tryz.prog 137 := ⟨Tryz.call137⟩
instance : CallF Tryz.prog 138 := ⟨Tryz.call138⟩
instance : CallF Tryz.prog 139 := ⟨Tryz.call139⟩
instance : CallF Tryz.prog 140 := ⟨Tryz.call140⟩
instance : CallF Tryz.prog 141 := ⟨Tryz.call141⟩
instance : CallF Tryz.prog 142 := ⟨Tryz.call142⟩
instance : CallF Tryz.prog 143 := ⟨Tryz.call143⟩
instance : CallF Tryz.prog 144 := ⟨Tryz.call144⟩
instance : CallF Tryz.prog 145 := ⟨Tryz.call145⟩
instance : CallF Tryz.prog 156 := ⟨Tryz.call156⟩
instance : CallF Tryz.prog 157 := ⟨Tryz.call157⟩
instance : CallF Tryz.prog 165 := ⟨Tryz.call165⟩
instance : CallF Tryz.prog 166 := ⟨Tryz.call166⟩
instance : CallF Tryz.prog 167 := ⟨Tryz.call167⟩
instance : CallF Tryz.prog 170 := ⟨Tryz.call170⟩
instance : CallF Tryz.prog 171 := ⟨Tryz.call171⟩
instance : CallF Tryz.prog 172 := ⟨Tryz.call172⟩
instance : CallF Tryz.prog 173 := ⟨Tryz.call173⟩
instance : CallF Tryz.prog 174 := ⟨Tryz.call174⟩
instance : CallF Tryz.prog 175 := ⟨Tryz.call175⟩
instance : CallF Tryz.prog 176 := ⟨Tryz.call176⟩
instance : CallF Tryz.prog 177 := ⟨Tryz.call177⟩
instance : CallF Tryz.prog 178 := ⟨Tryz.call178⟩
instance : CallF Tryz.prog 179 := ⟨Tryz.call179⟩
instance : CallF Tryz.prog 180 := ⟨Tryz.call180⟩
instance : CallF Tryz.prog 181 := ⟨Tryz.call181⟩
instance : CallF Tryz.prog 190 := ⟨Tryz.call190⟩
instance : CallF Tryz.prog 191 := ⟨Tryz.call191⟩
instance : CallF Tryz.prog 192 := ⟨Tryz.call192⟩
instance : CallF Tryz.prog 193 := ⟨Tryz.call193⟩
instance : CallF Tryz.prog 194 := ⟨Tryz.call194⟩
instance : CallF Tryz.prog 195 := ⟨Tryz.call195⟩
instance : CallF Tryz.prog 196 := ⟨Tryz.call196⟩
instance : CallF Tryz.prog 197 := ⟨Tryz.call197⟩
instance : CallF Tryz.prog 198 := ⟨Tryz.call198⟩
instance : CallF Tryz.prog 199 := ⟨Tryz.call199⟩
instance : CallF Tryz.prog 200 := ⟨Tryz.call200⟩
instance : CallF Tryz.prog 201 := ⟨Tryz.call201⟩
instance : CallF Tryz.prog 202 := ⟨Tryz.call202⟩
instance : CallF Tryz.prog 213 := ⟨Tryz.call213⟩
instance : CallF Tryz.prog 214 := ⟨Tryz.call214⟩
instance : CallF Tryz.prog 215 := ⟨Tryz.call215⟩
instance : CallF Tryz.prog 216 := ⟨Tryz.call216⟩
instance : CallF Tryz.prog 217 := ⟨Tryz.call217⟩
instance : CallF Tryz.prog 218 := ⟨Tryz.call218⟩
instance : CallF Tryz.prog 219 := ⟨Tryz.call219⟩
instance : CallF Tryz.prog 220 := ⟨Tryz.call220⟩
instance : CallF Tryz.prog 221 := ⟨Tryz.call221⟩
instance : CallF Tryz.prog 222 := ⟨Tryz.call222⟩
instance : CallF Tryz.prog 223 := ⟨Tryz.call223⟩
instance : CallF Tryz.prog 224 := ⟨Tryz.call224⟩
instance : CallF Tryz.prog 225 := ⟨Tryz.call225⟩
instance : CallF Tryz.prog 235 := ⟨Tryz.call235⟩
instance : CallF Tryz.prog 236 := ⟨Tryz.call236⟩
instance : CallF Tryz.prog 237 := ⟨Tryz.call237⟩
instance : CallF Tryz.prog 238 := ⟨Tryz.call238⟩
instance : CallF Tryz.prog 239 := ⟨Tryz.call239⟩
instance : CallF Tryz.prog 240 := ⟨Tryz.call240⟩
instance : CallF Tryz.prog 241 := ⟨Tryz.call241⟩
instance : CallF Tryz.prog 242 := ⟨Tryz.call242⟩
instance : CallF Tryz.prog 243 := ⟨Tryz.call243⟩
instance : CallF Tryz.prog 244 := ⟨Tryz.call244⟩
instance : CallF Tryz.prog 245 := ⟨Tryz.call245⟩
instance : CallF Tryz.prog 246 := ⟨Tryz.call246⟩
instance : CallF Tryz.prog 247 := ⟨Tryz.call247⟩
instance : CallF Tryz.prog 248 := ⟨Tryz.call248⟩
instance : CallF Tryz.prog 249 := ⟨Tryz.call249⟩
instance : CallF Tryz.prog 250 := ⟨Tryz.call250⟩
instance : CallF Tryz.prog 251 := ⟨Tryz.call251⟩
instance : CallF Tryz.prog 252 := ⟨Tryz.call252⟩
instance : CallF Tryz.prog 253 := ⟨Tryz.call253⟩
instance : CallF Tryz.prog 259 := ⟨Tryz.call259⟩
instance : CallF Tryz.prog 261 := ⟨Tryz.call261⟩
instance : CallF Tryz.prog 263 := ⟨Tryz.call263⟩
instance : CallF Tryz.prog 264 := ⟨Tryz.call264⟩
instance : CallF Tryz.prog 270 := ⟨Tryz.call270⟩
instance : CallF Tryz.prog 280 := ⟨Tryz.call280⟩
instance : CallF Tryz.prog 281 := ⟨Tryz.call281⟩
instance : CallF Tryz.prog 282 := ⟨Tryz.call282⟩
instance : CallF Tryz.prog 283 := ⟨Tryz.call283⟩
instance : CallF Tryz.prog 284 := ⟨Tryz.call284⟩
instance : CallF Tryz.prog 286 := ⟨Tryz.call286⟩
instance : CallF Tryz.prog 287 := ⟨Tryz.call287⟩
instance : CallF Tryz.prog 288 := ⟨Tryz.call288⟩
instance : CallF Tryz.prog 289 := ⟨Tryz.call289⟩
instance : CallF Tryz.prog 297 := ⟨Tryz.call297⟩
instance : CallF Tryz.prog 298 := ⟨Tryz.call298⟩
instance : CallF Tryz.prog 307 := ⟨Tryz.call307⟩
instance : CallF Tryz.prog 309 := ⟨Tryz.call309⟩
instance : CallF Tryz.prog 313 := ⟨Tryz.call313⟩
instance : CallF Tryz.prog 317 := ⟨Tryz.call317⟩
end Go.Own
