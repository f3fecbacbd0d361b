/-
  THE TABLES OF THE PROGRAM, as instances (printed by wip/tab.py out of the loaded program).
-/
import Derived.Test.YtiemjebpbdmkpaaGreatDoorProg
import Derived.Test.YtiemjebpbdmkpaaGreatDoorOwnC
import Derived.KernelRfl
namespace Go.Own
open Go.Proofs

instance : OneT Tryz.prog 1 := ⟨Tryz.isAgg1, Tryz.sizeOf1⟩
instance : ZeroT Tryz.prog 1 Value.nilFunc := ⟨Tryz.zeroValue1⟩
instance : UnderT Tryz.prog 2 (TypeDesc.int IntKind.i64) := ⟨Tryz.underlying2⟩
instance : OneT Tryz.prog 2 := ⟨Tryz.isAgg2, Tryz.sizeOf2⟩
instance : ZeroT Tryz.prog 2 (Value.int IntKind.i64 0) := ⟨Tryz.zeroValue2⟩
instance : UnderT Tryz.prog 3 (TypeDesc.int IntKind.i64) := ⟨Tryz.underlying3⟩
instance : OneT Tryz.prog 3 := ⟨Tryz.isAgg3, Tryz.sizeOf3⟩
instance : ZeroT Tryz.prog 3 (Value.int IntKind.i64 0) := ⟨Tryz.zeroValue3⟩
instance : UnderT Tryz.prog 4 (TypeDesc.bool) := ⟨Tryz.underlying4⟩
instance : OneT Tryz.prog 4 := ⟨Tryz.isAgg4, Tryz.sizeOf4⟩
instance : ZeroT Tryz.prog 4 (Value.bool false) := ⟨Tryz.zeroValue4⟩
instance : UnderT Tryz.prog 5 (TypeDesc.int IntKind.u8) := ⟨Tryz.underlying5⟩
instance : OneT Tryz.prog 5 := ⟨Tryz.isAgg5, Tryz.sizeOf5⟩
instance : ZeroT Tryz.prog 5 (Value.int IntKind.u8 0) := ⟨Tryz.zeroValue5⟩
instance : UnderT Tryz.prog 6 (TypeDesc.int IntKind.u8) := ⟨Tryz.underlying6⟩
instance : OneT Tryz.prog 6 := ⟨Tryz.isAgg6, Tryz.sizeOf6⟩
instance : ZeroT Tryz.prog 6 (Value.int IntKind.u8 0) := ⟨Tryz.zeroValue6⟩
instance : AggT Tryz.prog 7 4 := ⟨Tryz.isAgg7, Tryz.sizeOf7⟩
instance : FAddr Tryz.prog 7 0 0 := ⟨fun _ _ => by kernel_rfl⟩
instance : FAddr Tryz.prog 7 1 1 := ⟨fun _ _ => by kernel_rfl⟩
instance : FAddr Tryz.prog 7 2 2 := ⟨fun _ _ => by kernel_rfl⟩
instance : FAddr Tryz.prog 7 3 3 := ⟨fun _ _ => by kernel_rfl⟩
instance : BuildT Tryz.prog 7 (fun i => #[(0, 1), (1, 1), (2, 1), (3, 1)][i]?) #[Value.int IntKind.i64 0, Value.int IntKind.i64 0, Value.bool false, Value.int IntKind.u8 0] := ⟨fun _ => by kernel_rfl⟩
instance : ZeroT Tryz.prog 7 (Value.agg #[Value.int IntKind.i64 0, Value.int IntKind.i64 0, Value.bool false, Value.int IntKind.u8 0]) := ⟨Tryz.zeroValue7⟩
instance : AggT Tryz.prog 8 4 := ⟨Tryz.isAgg8, Tryz.sizeOf8⟩
instance : FAddr Tryz.prog 8 0 0 := ⟨fun _ _ => by kernel_rfl⟩
instance : FAddr Tryz.prog 8 1 1 := ⟨fun _ _ => by kernel_rfl⟩
instance : FAddr Tryz.prog 8 2 2 := ⟨fun _ _ => by kernel_rfl⟩
instance : FAddr Tryz.prog 8 3 3 := ⟨fun _ _ => by kernel_rfl⟩
instance : BuildT Tryz.prog 8 (fun i => #[(0, 1), (1, 1), (2, 1), (3, 1)][i]?) #[Value.int IntKind.i64 0, Value.int IntKind.i64 0, Value.bool false, Value.int IntKind.u8 0] := ⟨fun _ => by kernel_rfl⟩
instance : ZeroT Tryz.prog 8 (Value.agg #[Value.int IntKind.i64 0, Value.int IntKind.i64 0, Value.bool false, Value.int IntKind.u8 0]) := ⟨Tryz.zeroValue8⟩
instance : UnderT Tryz.prog 9 (TypeDesc.string) := ⟨Tryz.underlying9⟩
instance : OneT Tryz.prog 9 := ⟨Tryz.isAgg9, Tryz.sizeOf9⟩
instance : ZeroT Tryz.prog 9 (Value.string { data := #[] }) := ⟨Tryz.zeroValue9⟩
instance : UnderT Tryz.prog 10 (TypeDesc.string) := ⟨Tryz.underlying10⟩
instance : OneT Tryz.prog 10 := ⟨Tryz.isAgg10, Tryz.sizeOf10⟩
instance : ZeroT Tryz.prog 10 (Value.string { data := #[] }) := ⟨Tryz.zeroValue10⟩
instance : UnderT Tryz.prog 11 (TypeDesc.string) := ⟨Tryz.underlying11⟩
instance : OneT Tryz.prog 11 := ⟨Tryz.isAgg11, Tryz.sizeOf11⟩
instance : ZeroT Tryz.prog 11 (Value.string { data := #[] }) := ⟨Tryz.zeroValue11⟩
instance : UnderT Tryz.prog 12 (TypeDesc.int IntKind.u64) := ⟨Tryz.underlying12⟩
instance : OneT Tryz.prog 12 := ⟨Tryz.isAgg12, Tryz.sizeOf12⟩
instance : ZeroT Tryz.prog 12 (Value.int IntKind.u64 0) := ⟨Tryz.zeroValue12⟩
instance : AggT Tryz.prog 13 2 := ⟨Tryz.isAgg13, Tryz.sizeOf13⟩
instance : FAddr Tryz.prog 13 0 0 := ⟨fun _ _ => by kernel_rfl⟩
instance : FAddr Tryz.prog 13 1 1 := ⟨fun _ _ => by kernel_rfl⟩
instance : BuildT Tryz.prog 13 (fun i => #[(0, 1), (1, 1)][i]?) #[Value.string { data := #[] }, Value.int IntKind.u64 0] := ⟨fun _ => by kernel_rfl⟩
instance : ZeroT Tryz.prog 13 (Value.agg #[Value.string { data := #[] }, Value.int IntKind.u64 0]) := ⟨Tryz.zeroValue13⟩
instance : AggT Tryz.prog 14 2 := ⟨Tryz.isAgg14, Tryz.sizeOf14⟩
instance : FAddr Tryz.prog 14 0 0 := ⟨fun _ _ => by kernel_rfl⟩
instance : FAddr Tryz.prog 14 1 1 := ⟨fun _ _ => by kernel_rfl⟩
instance : BuildT Tryz.prog 14 (fun i => #[(0, 1), (1, 1)][i]?) #[Value.string { data := #[] }, Value.int IntKind.u64 0] := ⟨fun _ => by kernel_rfl⟩
instance : ZeroT Tryz.prog 14 (Value.agg #[Value.string { data := #[] }, Value.int IntKind.u64 0]) := ⟨Tryz.zeroValue14⟩
instance : UnderT Tryz.prog 15 (TypeDesc.pointer 424) := ⟨Tryz.underlying15⟩
instance : OneT Tryz.prog 15 := ⟨Tryz.isAgg15, Tryz.sizeOf15⟩
instance : ZeroT Tryz.prog 15 (Value.pointer none) := ⟨Tryz.zeroValue15⟩
instance : UnderT Tryz.prog 16 (TypeDesc.pointer 427) := ⟨Tryz.underlying16⟩
instance : OneT Tryz.prog 16 := ⟨Tryz.isAgg16, Tryz.sizeOf16⟩
instance : ZeroT Tryz.prog 16 (Value.pointer none) := ⟨Tryz.zeroValue16⟩
instance : UnderT Tryz.prog 17 (TypeDesc.pointer 434) := ⟨Tryz.underlying17⟩
instance : OneT Tryz.prog 17 := ⟨Tryz.isAgg17, Tryz.sizeOf17⟩
instance : ZeroT Tryz.prog 17 (Value.pointer none) := ⟨Tryz.zeroValue17⟩
instance : AggT Tryz.prog 18 1 := ⟨Tryz.isAgg18, Tryz.sizeOf18⟩
instance : FAddr Tryz.prog 18 0 0 := ⟨fun _ _ => by kernel_rfl⟩
instance : BuildT Tryz.prog 18 (fun i => #[(0, 1)][i]?) #[Value.pointer none] := ⟨fun _ => by kernel_rfl⟩
instance : ZeroT Tryz.prog 18 (Value.agg #[Value.pointer none]) := ⟨Tryz.zeroValue18⟩
instance : AggT Tryz.prog 19 1 := ⟨Tryz.isAgg19, Tryz.sizeOf19⟩
instance : FAddr Tryz.prog 19 0 0 := ⟨fun _ _ => by kernel_rfl⟩
instance : BuildT Tryz.prog 19 (fun i => #[(0, 1)][i]?) #[Value.pointer none] := ⟨fun _ => by kernel_rfl⟩
instance : ZeroT Tryz.prog 19 (Value.agg #[Value.pointer none]) := ⟨Tryz.zeroValue19⟩
instance : UnderT Tryz.prog 20 (TypeDesc.interface #[]) := ⟨Tryz.underlying20⟩
instance : OneT Tryz.prog 20 := ⟨Tryz.isAgg20, Tryz.sizeOf20⟩
instance : ZeroT Tryz.prog 20 Value.nilIface := ⟨Tryz.zeroValue20⟩
instance : UnderT Tryz.prog 21 (TypeDesc.int IntKind.i32) := ⟨Tryz.underlying21⟩
instance : OneT Tryz.prog 21 := ⟨Tryz.isAgg21, Tryz.sizeOf21⟩
instance : ZeroT Tryz.prog 21 (Value.int IntKind.i32 0) := ⟨Tryz.zeroValue21⟩
instance : UnderT Tryz.prog 22 (TypeDesc.slice 35) := ⟨Tryz.underlying22⟩
instance : OneT Tryz.prog 22 := ⟨Tryz.isAgg22, Tryz.sizeOf22⟩
instance : ZeroT Tryz.prog 22 (Value.slice none 0 0) := ⟨Tryz.zeroValue22⟩
instance : SliceT Tryz.prog 22 35 19 48 (Value.agg #[Value.string { data := #[] }, Value.int IntKind.u8 0, Value.int IntKind.u8 0, Value.int IntKind.u8 0, Value.int IntKind.u8 0, Value.int IntKind.u8 0, Value.int IntKind.u8 0, Value.int IntKind.u8 0, Value.int IntKind.u8 0, Value.int IntKind.u8 0, Value.int IntKind.u8 0, Value.int IntKind.u8 0, Value.int IntKind.u8 0, Value.int IntKind.u8 0, Value.int IntKind.u8 0, Value.int IntKind.u8 0, Value.int IntKind.u8 0, Value.int IntKind.i64 0, Value.int IntKind.i64 0]) := ⟨Tryz.underlying22, ⟨Tryz.t35, by kernel_rfl, rfl, rfl, rfl⟩, rfl⟩
instance : UnderT Tryz.prog 23 (TypeDesc.array 16 5) := ⟨Tryz.underlying23⟩
instance : AggT Tryz.prog 23 16 := ⟨Tryz.isAgg23, Tryz.sizeOf23⟩
instance : BuildT Tryz.prog 23 (fun i => some (i * 1, 1)) #[Value.int IntKind.u8 0, Value.int IntKind.u8 0, Value.int IntKind.u8 0, Value.int IntKind.u8 0, Value.int IntKind.u8 0, Value.int IntKind.u8 0, Value.int IntKind.u8 0, Value.int IntKind.u8 0, Value.int IntKind.u8 0, Value.int IntKind.u8 0, Value.int IntKind.u8 0, Value.int IntKind.u8 0, Value.int IntKind.u8 0, Value.int IntKind.u8 0, Value.int IntKind.u8 0, Value.int IntKind.u8 0] := ⟨fun _ => by kernel_rfl⟩
instance : ArrT Tryz.prog 23 16 5 1 := ⟨Tryz.underlying23, Tryz.sizeOf5⟩
instance : ZeroT Tryz.prog 23 (Value.agg #[Value.int IntKind.u8 0, Value.int IntKind.u8 0, Value.int IntKind.u8 0, Value.int IntKind.u8 0, Value.int IntKind.u8 0, Value.int IntKind.u8 0, Value.int IntKind.u8 0, Value.int IntKind.u8 0, Value.int IntKind.u8 0, Value.int IntKind.u8 0, Value.int IntKind.u8 0, Value.int IntKind.u8 0, Value.int IntKind.u8 0, Value.int IntKind.u8 0, Value.int IntKind.u8 0, Value.int IntKind.u8 0]) := ⟨Tryz.zeroValue23⟩
instance : UnderT Tryz.prog 24 (TypeDesc.array 16 5) := ⟨Tryz.underlying24⟩
instance : AggT Tryz.prog 24 16 := ⟨Tryz.isAgg24, Tryz.sizeOf24⟩
instance : BuildT Tryz.prog 24 (fun i => some (i * 1, 1)) #[Value.int IntKind.u8 0, Value.int IntKind.u8 0, Value.int IntKind.u8 0, Value.int IntKind.u8 0, Value.int IntKind.u8 0, Value.int IntKind.u8 0, Value.int IntKind.u8 0, Value.int IntKind.u8 0, Value.int IntKind.u8 0, Value.int IntKind.u8 0, Value.int IntKind.u8 0, Value.int IntKind.u8 0, Value.int IntKind.u8 0, Value.int IntKind.u8 0, Value.int IntKind.u8 0, Value.int IntKind.u8 0] := ⟨fun _ => by kernel_rfl⟩
instance : ArrT Tryz.prog 24 16 5 1 := ⟨Tryz.underlying24, Tryz.sizeOf5⟩
instance : ZeroT Tryz.prog 24 (Value.agg #[Value.int IntKind.u8 0, Value.int IntKind.u8 0, Value.int IntKind.u8 0, Value.int IntKind.u8 0, Value.int IntKind.u8 0, Value.int IntKind.u8 0, Value.int IntKind.u8 0, Value.int IntKind.u8 0, Value.int IntKind.u8 0, Value.int IntKind.u8 0, Value.int IntKind.u8 0, Value.int IntKind.u8 0, Value.int IntKind.u8 0, Value.int IntKind.u8 0, Value.int IntKind.u8 0, Value.int IntKind.u8 0]) := ⟨Tryz.zeroValue24⟩
instance : OneT Tryz.prog 25 := ⟨Tryz.isAgg25, Tryz.sizeOf25⟩
instance : ZeroT Tryz.prog 25 Value.nilFunc := ⟨Tryz.zeroValue25⟩
instance : OneT Tryz.prog 26 := ⟨Tryz.isAgg26, Tryz.sizeOf26⟩
instance : ZeroT Tryz.prog 26 Value.nilFunc := ⟨Tryz.zeroValue26⟩
instance : UnderT Tryz.prog 27 (TypeDesc.pointer 115) := ⟨Tryz.underlying27⟩
instance : OneT Tryz.prog 27 := ⟨Tryz.isAgg27, Tryz.sizeOf27⟩
instance : ZeroT Tryz.prog 27 (Value.pointer none) := ⟨Tryz.zeroValue27⟩
instance : OneT Tryz.prog 28 := ⟨Tryz.isAgg28, Tryz.sizeOf28⟩
instance : ZeroT Tryz.prog 28 Value.nilFunc := ⟨Tryz.zeroValue28⟩
instance : UnderT Tryz.prog 29 (TypeDesc.pointer 38) := ⟨Tryz.underlying29⟩
instance : OneT Tryz.prog 29 := ⟨Tryz.isAgg29, Tryz.sizeOf29⟩
instance : ZeroT Tryz.prog 29 (Value.pointer none) := ⟨Tryz.zeroValue29⟩
instance : OneT Tryz.prog 30 := ⟨Tryz.isAgg30, Tryz.sizeOf30⟩
instance : ZeroT Tryz.prog 30 Value.nilFunc := ⟨Tryz.zeroValue30⟩
instance : OneT Tryz.prog 31 := ⟨Tryz.isAgg31, Tryz.sizeOf31⟩
instance : ZeroT Tryz.prog 31 Value.nilFunc := ⟨Tryz.zeroValue31⟩
instance : AggT Tryz.prog 32 17 := ⟨Tryz.isAgg32, Tryz.sizeOf32⟩
instance : FAddr Tryz.prog 32 0 0 := ⟨fun _ _ => by kernel_rfl⟩
instance : FAddr Tryz.prog 32 1 16 := ⟨fun _ _ => by kernel_rfl⟩
instance : BuildT Tryz.prog 32 (fun i => #[(0, 16), (16, 1)][i]?) #[Value.int IntKind.u8 0, Value.int IntKind.u8 0, Value.int IntKind.u8 0, Value.int IntKind.u8 0, Value.int IntKind.u8 0, Value.int IntKind.u8 0, Value.int IntKind.u8 0, Value.int IntKind.u8 0, Value.int IntKind.u8 0, Value.int IntKind.u8 0, Value.int IntKind.u8 0, Value.int IntKind.u8 0, Value.int IntKind.u8 0, Value.int IntKind.u8 0, Value.int IntKind.u8 0, Value.int IntKind.u8 0, Value.int IntKind.i64 0] := ⟨fun _ => by kernel_rfl⟩
instance : ZeroT Tryz.prog 32 (Value.agg #[Value.int IntKind.u8 0, Value.int IntKind.u8 0, Value.int IntKind.u8 0, Value.int IntKind.u8 0, Value.int IntKind.u8 0, Value.int IntKind.u8 0, Value.int IntKind.u8 0, Value.int IntKind.u8 0, Value.int IntKind.u8 0, Value.int IntKind.u8 0, Value.int IntKind.u8 0, Value.int IntKind.u8 0, Value.int IntKind.u8 0, Value.int IntKind.u8 0, Value.int IntKind.u8 0, Value.int IntKind.u8 0, Value.int IntKind.i64 0]) := ⟨Tryz.zeroValue32⟩
instance : AggT Tryz.prog 33 17 := ⟨Tryz.isAgg33, Tryz.sizeOf33⟩
instance : FAddr Tryz.prog 33 0 0 := ⟨fun _ _ => by kernel_rfl⟩
instance : FAddr Tryz.prog 33 1 16 := ⟨fun _ _ => by kernel_rfl⟩
instance : BuildT Tryz.prog 33 (fun i => #[(0, 16), (16, 1)][i]?) #[Value.int IntKind.u8 0, Value.int IntKind.u8 0, Value.int IntKind.u8 0, Value.int IntKind.u8 0, Value.int IntKind.u8 0, Value.int IntKind.u8 0, Value.int IntKind.u8 0, Value.int IntKind.u8 0, Value.int IntKind.u8 0, Value.int IntKind.u8 0, Value.int IntKind.u8 0, Value.int IntKind.u8 0, Value.int IntKind.u8 0, Value.int IntKind.u8 0, Value.int IntKind.u8 0, Value.int IntKind.u8 0, Value.int IntKind.i64 0] := ⟨fun _ => by kernel_rfl⟩
instance : ZeroT Tryz.prog 33 (Value.agg #[Value.int IntKind.u8 0, Value.int IntKind.u8 0, Value.int IntKind.u8 0, Value.int IntKind.u8 0, Value.int IntKind.u8 0, Value.int IntKind.u8 0, Value.int IntKind.u8 0, Value.int IntKind.u8 0, Value.int IntKind.u8 0, Value.int IntKind.u8 0, Value.int IntKind.u8 0, Value.int IntKind.u8 0, Value.int IntKind.u8 0, Value.int IntKind.u8 0, Value.int IntKind.u8 0, Value.int IntKind.u8 0, Value.int IntKind.i64 0]) := ⟨Tryz.zeroValue33⟩
instance : AggT Tryz.prog 34 19 := ⟨Tryz.isAgg34, Tryz.sizeOf34⟩
instance : FAddr Tryz.prog 34 0 0 := ⟨fun _ _ => by kernel_rfl⟩
instance : FAddr Tryz.prog 34 1 1 := ⟨fun _ _ => by kernel_rfl⟩
instance : FAddr Tryz.prog 34 2 18 := ⟨fun _ _ => by kernel_rfl⟩
instance : BuildT Tryz.prog 34 (fun i => #[(0, 1), (1, 17), (18, 1)][i]?) #[Value.string { data := #[] }, Value.int IntKind.u8 0, Value.int IntKind.u8 0, Value.int IntKind.u8 0, Value.int IntKind.u8 0, Value.int IntKind.u8 0, Value.int IntKind.u8 0, Value.int IntKind.u8 0, Value.int IntKind.u8 0, Value.int IntKind.u8 0, Value.int IntKind.u8 0, Value.int IntKind.u8 0, Value.int IntKind.u8 0, Value.int IntKind.u8 0, Value.int IntKind.u8 0, Value.int IntKind.u8 0, Value.int IntKind.u8 0, Value.int IntKind.i64 0, Value.int IntKind.i64 0] := ⟨fun _ => by kernel_rfl⟩
instance : ZeroT Tryz.prog 34 (Value.agg #[Value.string { data := #[] }, Value.int IntKind.u8 0, Value.int IntKind.u8 0, Value.int IntKind.u8 0, Value.int IntKind.u8 0, Value.int IntKind.u8 0, Value.int IntKind.u8 0, Value.int IntKind.u8 0, Value.int IntKind.u8 0, Value.int IntKind.u8 0, Value.int IntKind.u8 0, Value.int IntKind.u8 0, Value.int IntKind.u8 0, Value.int IntKind.u8 0, Value.int IntKind.u8 0, Value.int IntKind.u8 0, Value.int IntKind.u8 0, Value.int IntKind.i64 0, Value.int IntKind.i64 0]) := ⟨Tryz.zeroValue34⟩
instance : AggT Tryz.prog 35 19 := ⟨Tryz.isAgg35, Tryz.sizeOf35⟩
instance : FAddr Tryz.prog 35 0 0 := ⟨fun _ _ => by kernel_rfl⟩
instance : FAddr Tryz.prog 35 1 1 := ⟨fun _ _ => by kernel_rfl⟩
instance : FAddr Tryz.prog 35 2 18 := ⟨fun _ _ => by kernel_rfl⟩
instance : BuildT Tryz.prog 35 (fun i => #[(0, 1), (1, 17), (18, 1)][i]?) #[Value.string { data := #[] }, Value.int IntKind.u8 0, Value.int IntKind.u8 0, Value.int IntKind.u8 0, Value.int IntKind.u8 0, Value.int IntKind.u8 0, Value.int IntKind.u8 0, Value.int IntKind.u8 0, Value.int IntKind.u8 0, Value.int IntKind.u8 0, Value.int IntKind.u8 0, Value.int IntKind.u8 0, Value.int IntKind.u8 0, Value.int IntKind.u8 0, Value.int IntKind.u8 0, Value.int IntKind.u8 0, Value.int IntKind.u8 0, Value.int IntKind.i64 0, Value.int IntKind.i64 0] := ⟨fun _ => by kernel_rfl⟩
instance : ZeroT Tryz.prog 35 (Value.agg #[Value.string { data := #[] }, Value.int IntKind.u8 0, Value.int IntKind.u8 0, Value.int IntKind.u8 0, Value.int IntKind.u8 0, Value.int IntKind.u8 0, Value.int IntKind.u8 0, Value.int IntKind.u8 0, Value.int IntKind.u8 0, Value.int IntKind.u8 0, Value.int IntKind.u8 0, Value.int IntKind.u8 0, Value.int IntKind.u8 0, Value.int IntKind.u8 0, Value.int IntKind.u8 0, Value.int IntKind.u8 0, Value.int IntKind.u8 0, Value.int IntKind.i64 0, Value.int IntKind.i64 0]) := ⟨Tryz.zeroValue35⟩
instance : OneT Tryz.prog 36 := ⟨Tryz.isAgg36, Tryz.sizeOf36⟩
instance : ZeroT Tryz.prog 36 Value.nilFunc := ⟨Tryz.zeroValue36⟩
instance : AggT Tryz.prog 37 1 := ⟨Tryz.isAgg37, Tryz.sizeOf37⟩
instance : FAddr Tryz.prog 37 0 0 := ⟨fun _ _ => by kernel_rfl⟩
instance : BuildT Tryz.prog 37 (fun i => #[(0, 1)][i]?) #[Value.slice none 0 0] := ⟨fun _ => by kernel_rfl⟩
instance : ZeroT Tryz.prog 37 (Value.agg #[Value.slice none 0 0]) := ⟨Tryz.zeroValue37⟩
instance : AggT Tryz.prog 38 1 := ⟨Tryz.isAgg38, Tryz.sizeOf38⟩
instance : FAddr Tryz.prog 38 0 0 := ⟨fun _ _ => by kernel_rfl⟩
instance : BuildT Tryz.prog 38 (fun i => #[(0, 1)][i]?) #[Value.slice none 0 0] := ⟨fun _ => by kernel_rfl⟩
instance : ZeroT Tryz.prog 38 (Value.agg #[Value.slice none 0 0]) := ⟨Tryz.zeroValue38⟩
instance : OneT Tryz.prog 39 := ⟨Tryz.isAgg39, Tryz.sizeOf39⟩
instance : ZeroT Tryz.prog 39 Value.nilFunc := ⟨Tryz.zeroValue39⟩
instance : UnderT Tryz.prog 40 (TypeDesc.slice 33) := ⟨Tryz.underlying40⟩
instance : OneT Tryz.prog 40 := ⟨Tryz.isAgg40, Tryz.sizeOf40⟩
instance : ZeroT Tryz.prog 40 (Value.slice none 0 0) := ⟨Tryz.zeroValue40⟩
instance : SliceT Tryz.prog 40 33 17 24 (Value.agg #[Value.int IntKind.u8 0, Value.int IntKind.u8 0, Value.int IntKind.u8 0, Value.int IntKind.u8 0, Value.int IntKind.u8 0, Value.int IntKind.u8 0, Value.int IntKind.u8 0, Value.int IntKind.u8 0, Value.int IntKind.u8 0, Value.int IntKind.u8 0, Value.int IntKind.u8 0, Value.int IntKind.u8 0, Value.int IntKind.u8 0, Value.int IntKind.u8 0, Value.int IntKind.u8 0, Value.int IntKind.u8 0, Value.int IntKind.i64 0]) := ⟨Tryz.underlying40, ⟨Tryz.t33, by kernel_rfl, rfl, rfl, rfl⟩, rfl⟩
instance : OneT Tryz.prog 41 := ⟨Tryz.isAgg41, Tryz.sizeOf41⟩
instance : ZeroT Tryz.prog 41 Value.nilFunc := ⟨Tryz.zeroValue41⟩
instance : OneT Tryz.prog 42 := ⟨Tryz.isAgg42, Tryz.sizeOf42⟩
instance : ZeroT Tryz.prog 42 Value.nilFunc := ⟨Tryz.zeroValue42⟩
instance : OneT Tryz.prog 43 := ⟨Tryz.isAgg43, Tryz.sizeOf43⟩
instance : ZeroT Tryz.prog 43 Value.nilFunc := ⟨Tryz.zeroValue43⟩
instance : UnderT Tryz.prog 44 (TypeDesc.slice 66) := ⟨Tryz.underlying44⟩
instance : OneT Tryz.prog 44 := ⟨Tryz.isAgg44, Tryz.sizeOf44⟩
instance : ZeroT Tryz.prog 44 (Value.slice none 0 0) := ⟨Tryz.zeroValue44⟩
instance : SliceT Tryz.prog 44 66 5 56 (Value.agg #[Value.bool false, Value.int IntKind.i64 0, Value.string { data := #[] }, Value.int IntKind.i64 0, Value.string { data := #[] }]) := ⟨Tryz.underlying44, ⟨Tryz.t66, by kernel_rfl, rfl, rfl, rfl⟩, rfl⟩
instance : AggT Tryz.prog 45 3 := ⟨Tryz.isAgg45, Tryz.sizeOf45⟩
instance : FAddr Tryz.prog 45 0 0 := ⟨fun _ _ => by kernel_rfl⟩
instance : FAddr Tryz.prog 45 1 1 := ⟨fun _ _ => by kernel_rfl⟩
instance : FAddr Tryz.prog 45 2 2 := ⟨fun _ _ => by kernel_rfl⟩
instance : BuildT Tryz.prog 45 (fun i => #[(0, 1), (1, 1), (2, 1)][i]?) #[Value.bool false, Value.slice none 0 0, Value.slice none 0 0] := ⟨fun _ => by kernel_rfl⟩
instance : ZeroT Tryz.prog 45 (Value.agg #[Value.bool false, Value.slice none 0 0, Value.slice none 0 0]) := ⟨Tryz.zeroValue45⟩
instance : AggT Tryz.prog 46 3 := ⟨Tryz.isAgg46, Tryz.sizeOf46⟩
instance : FAddr Tryz.prog 46 0 0 := ⟨fun _ _ => by kernel_rfl⟩
instance : FAddr Tryz.prog 46 1 1 := ⟨fun _ _ => by kernel_rfl⟩
instance : FAddr Tryz.prog 46 2 2 := ⟨fun _ _ => by kernel_rfl⟩
instance : BuildT Tryz.prog 46 (fun i => #[(0, 1), (1, 1), (2, 1)][i]?) #[Value.bool false, Value.slice none 0 0, Value.slice none 0 0] := ⟨fun _ => by kernel_rfl⟩
instance : ZeroT Tryz.prog 46 (Value.agg #[Value.bool false, Value.slice none 0 0, Value.slice none 0 0]) := ⟨Tryz.zeroValue46⟩
instance : UnderT Tryz.prog 47 (TypeDesc.int IntKind.i64) := ⟨Tryz.underlying47⟩
instance : OneT Tryz.prog 47 := ⟨Tryz.isAgg47, Tryz.sizeOf47⟩
instance : ZeroT Tryz.prog 47 (Value.int IntKind.i64 0) := ⟨Tryz.zeroValue47⟩
instance : UnderT Tryz.prog 48 (TypeDesc.slice 9) := ⟨Tryz.underlying48⟩
instance : OneT Tryz.prog 48 := ⟨Tryz.isAgg48, Tryz.sizeOf48⟩
instance : ZeroT Tryz.prog 48 (Value.slice none 0 0) := ⟨Tryz.zeroValue48⟩
instance : SliceT Tryz.prog 48 9 1 16 (Value.string { data := #[] }) := ⟨Tryz.underlying48, ⟨Tryz.t9, by kernel_rfl, rfl, rfl, rfl⟩, rfl⟩
instance : UnderT Tryz.prog 49 (TypeDesc.slice 3) := ⟨Tryz.underlying49⟩
instance : OneT Tryz.prog 49 := ⟨Tryz.isAgg49, Tryz.sizeOf49⟩
instance : ZeroT Tryz.prog 49 (Value.slice none 0 0) := ⟨Tryz.zeroValue49⟩
instance : SliceT Tryz.prog 49 3 1 8 (Value.int IntKind.i64 0) := ⟨Tryz.underlying49, ⟨Tryz.t3, by kernel_rfl, rfl, rfl, rfl⟩, rfl⟩
instance : AggT Tryz.prog 50 5 := ⟨Tryz.isAgg50, Tryz.sizeOf50⟩
instance : FAddr Tryz.prog 50 0 0 := ⟨fun _ _ => by kernel_rfl⟩
instance : FAddr Tryz.prog 50 1 1 := ⟨fun _ _ => by kernel_rfl⟩
instance : FAddr Tryz.prog 50 2 2 := ⟨fun _ _ => by kernel_rfl⟩
instance : FAddr Tryz.prog 50 3 3 := ⟨fun _ _ => by kernel_rfl⟩
instance : FAddr Tryz.prog 50 4 4 := ⟨fun _ _ => by kernel_rfl⟩
instance : BuildT Tryz.prog 50 (fun i => #[(0, 1), (1, 1), (2, 1), (3, 1), (4, 1)][i]?) #[Value.bool false, Value.string { data := #[] }, Value.slice none 0 0, Value.slice none 0 0, Value.bool false] := ⟨fun _ => by kernel_rfl⟩
instance : ZeroT Tryz.prog 50 (Value.agg #[Value.bool false, Value.string { data := #[] }, Value.slice none 0 0, Value.slice none 0 0, Value.bool false]) := ⟨Tryz.zeroValue50⟩
instance : AggT Tryz.prog 51 5 := ⟨Tryz.isAgg51, Tryz.sizeOf51⟩
instance : FAddr Tryz.prog 51 0 0 := ⟨fun _ _ => by kernel_rfl⟩
instance : FAddr Tryz.prog 51 1 1 := ⟨fun _ _ => by kernel_rfl⟩
instance : FAddr Tryz.prog 51 2 2 := ⟨fun _ _ => by kernel_rfl⟩
instance : FAddr Tryz.prog 51 3 3 := ⟨fun _ _ => by kernel_rfl⟩
instance : FAddr Tryz.prog 51 4 4 := ⟨fun _ _ => by kernel_rfl⟩
instance : BuildT Tryz.prog 51 (fun i => #[(0, 1), (1, 1), (2, 1), (3, 1), (4, 1)][i]?) #[Value.bool false, Value.string { data := #[] }, Value.slice none 0 0, Value.slice none 0 0, Value.bool false] := ⟨fun _ => by kernel_rfl⟩
instance : ZeroT Tryz.prog 51 (Value.agg #[Value.bool false, Value.string { data := #[] }, Value.slice none 0 0, Value.slice none 0 0, Value.bool false]) := ⟨Tryz.zeroValue51⟩
instance : AggT Tryz.prog 52 11 := ⟨Tryz.isAgg52, Tryz.sizeOf52⟩
instance : FAddr Tryz.prog 52 0 0 := ⟨fun _ _ => by kernel_rfl⟩
instance : FAddr Tryz.prog 52 1 1 := ⟨fun _ _ => by kernel_rfl⟩
instance : FAddr Tryz.prog 52 2 2 := ⟨fun _ _ => by kernel_rfl⟩
instance : FAddr Tryz.prog 52 3 3 := ⟨fun _ _ => by kernel_rfl⟩
instance : FAddr Tryz.prog 52 4 4 := ⟨fun _ _ => by kernel_rfl⟩
instance : FAddr Tryz.prog 52 5 5 := ⟨fun _ _ => by kernel_rfl⟩
instance : FAddr Tryz.prog 52 6 6 := ⟨fun _ _ => by kernel_rfl⟩
instance : BuildT Tryz.prog 52 (fun i => #[(0, 1), (1, 1), (2, 1), (3, 1), (4, 1), (5, 1), (6, 5)][i]?) #[Value.int IntKind.i64 0, Value.int IntKind.i64 0, Value.int IntKind.i64 0, Value.int IntKind.i64 0, Value.string { data := #[] }, Value.int IntKind.i64 0, Value.bool false, Value.string { data := #[] }, Value.slice none 0 0, Value.slice none 0 0, Value.bool false] := ⟨fun _ => by kernel_rfl⟩
instance : ZeroT Tryz.prog 52 (Value.agg #[Value.int IntKind.i64 0, Value.int IntKind.i64 0, Value.int IntKind.i64 0, Value.int IntKind.i64 0, Value.string { data := #[] }, Value.int IntKind.i64 0, Value.bool false, Value.string { data := #[] }, Value.slice none 0 0, Value.slice none 0 0, Value.bool false]) := ⟨Tryz.zeroValue52⟩
instance : AggT Tryz.prog 53 11 := ⟨Tryz.isAgg53, Tryz.sizeOf53⟩
instance : FAddr Tryz.prog 53 0 0 := ⟨fun _ _ => by kernel_rfl⟩
instance : FAddr Tryz.prog 53 1 1 := ⟨fun _ _ => by kernel_rfl⟩
instance : FAddr Tryz.prog 53 2 2 := ⟨fun _ _ => by kernel_rfl⟩
instance : FAddr Tryz.prog 53 3 3 := ⟨fun _ _ => by kernel_rfl⟩
instance : FAddr Tryz.prog 53 4 4 := ⟨fun _ _ => by kernel_rfl⟩
instance : FAddr Tryz.prog 53 5 5 := ⟨fun _ _ => by kernel_rfl⟩
instance : FAddr Tryz.prog 53 6 6 := ⟨fun _ _ => by kernel_rfl⟩
instance : BuildT Tryz.prog 53 (fun i => #[(0, 1), (1, 1), (2, 1), (3, 1), (4, 1), (5, 1), (6, 5)][i]?) #[Value.int IntKind.i64 0, Value.int IntKind.i64 0, Value.int IntKind.i64 0, Value.int IntKind.i64 0, Value.string { data := #[] }, Value.int IntKind.i64 0, Value.bool false, Value.string { data := #[] }, Value.slice none 0 0, Value.slice none 0 0, Value.bool false] := ⟨fun _ => by kernel_rfl⟩
instance : ZeroT Tryz.prog 53 (Value.agg #[Value.int IntKind.i64 0, Value.int IntKind.i64 0, Value.int IntKind.i64 0, Value.int IntKind.i64 0, Value.string { data := #[] }, Value.int IntKind.i64 0, Value.bool false, Value.string { data := #[] }, Value.slice none 0 0, Value.slice none 0 0, Value.bool false]) := ⟨Tryz.zeroValue53⟩
instance : AggT Tryz.prog 54 17 := ⟨Tryz.isAgg54, Tryz.sizeOf54⟩
instance : FAddr Tryz.prog 54 0 0 := ⟨fun _ _ => by kernel_rfl⟩
instance : FAddr Tryz.prog 54 1 16 := ⟨fun _ _ => by kernel_rfl⟩
instance : BuildT Tryz.prog 54 (fun i => #[(0, 16), (16, 1)][i]?) #[Value.int IntKind.u8 0, Value.int IntKind.u8 0, Value.int IntKind.u8 0, Value.int IntKind.u8 0, Value.int IntKind.u8 0, Value.int IntKind.u8 0, Value.int IntKind.u8 0, Value.int IntKind.u8 0, Value.int IntKind.u8 0, Value.int IntKind.u8 0, Value.int IntKind.u8 0, Value.int IntKind.u8 0, Value.int IntKind.u8 0, Value.int IntKind.u8 0, Value.int IntKind.u8 0, Value.int IntKind.u8 0, Value.int IntKind.i64 0] := ⟨fun _ => by kernel_rfl⟩
instance : ZeroT Tryz.prog 54 (Value.agg #[Value.int IntKind.u8 0, Value.int IntKind.u8 0, Value.int IntKind.u8 0, Value.int IntKind.u8 0, Value.int IntKind.u8 0, Value.int IntKind.u8 0, Value.int IntKind.u8 0, Value.int IntKind.u8 0, Value.int IntKind.u8 0, Value.int IntKind.u8 0, Value.int IntKind.u8 0, Value.int IntKind.u8 0, Value.int IntKind.u8 0, Value.int IntKind.u8 0, Value.int IntKind.u8 0, Value.int IntKind.u8 0, Value.int IntKind.i64 0]) := ⟨Tryz.zeroValue54⟩
instance : AggT Tryz.prog 55 17 := ⟨Tryz.isAgg55, Tryz.sizeOf55⟩
instance : FAddr Tryz.prog 55 0 0 := ⟨fun _ _ => by kernel_rfl⟩
instance : FAddr Tryz.prog 55 1 16 := ⟨fun _ _ => by kernel_rfl⟩
instance : BuildT Tryz.prog 55 (fun i => #[(0, 16), (16, 1)][i]?) #[Value.int IntKind.u8 0, Value.int IntKind.u8 0, Value.int IntKind.u8 0, Value.int IntKind.u8 0, Value.int IntKind.u8 0, Value.int IntKind.u8 0, Value.int IntKind.u8 0, Value.int IntKind.u8 0, Value.int IntKind.u8 0, Value.int IntKind.u8 0, Value.int IntKind.u8 0, Value.int IntKind.u8 0, Value.int IntKind.u8 0, Value.int IntKind.u8 0, Value.int IntKind.u8 0, Value.int IntKind.u8 0, Value.int IntKind.i64 0] := ⟨fun _ => by kernel_rfl⟩
instance : ZeroT Tryz.prog 55 (Value.agg #[Value.int IntKind.u8 0, Value.int IntKind.u8 0, Value.int IntKind.u8 0, Value.int IntKind.u8 0, Value.int IntKind.u8 0, Value.int IntKind.u8 0, Value.int IntKind.u8 0, Value.int IntKind.u8 0, Value.int IntKind.u8 0, Value.int IntKind.u8 0, Value.int IntKind.u8 0, Value.int IntKind.u8 0, Value.int IntKind.u8 0, Value.int IntKind.u8 0, Value.int IntKind.u8 0, Value.int IntKind.u8 0, Value.int IntKind.i64 0]) := ⟨Tryz.zeroValue55⟩
instance : OneT Tryz.prog 56 := ⟨Tryz.isAgg56, Tryz.sizeOf56⟩
instance : ZeroT Tryz.prog 56 Value.nilFunc := ⟨Tryz.zeroValue56⟩
instance : UnderT Tryz.prog 57 (TypeDesc.pointer 132) := ⟨Tryz.underlying57⟩
instance : OneT Tryz.prog 57 := ⟨Tryz.isAgg57, Tryz.sizeOf57⟩
instance : ZeroT Tryz.prog 57 (Value.pointer none) := ⟨Tryz.zeroValue57⟩
instance : OneT Tryz.prog 59 := ⟨Tryz.isAgg59, Tryz.sizeOf59⟩
instance : ZeroT Tryz.prog 59 Value.nilFunc := ⟨Tryz.zeroValue59⟩
instance : UnderT Tryz.prog 60 (TypeDesc.pointer 138) := ⟨Tryz.underlying60⟩
instance : OneT Tryz.prog 60 := ⟨Tryz.isAgg60, Tryz.sizeOf60⟩
instance : ZeroT Tryz.prog 60 (Value.pointer none) := ⟨Tryz.zeroValue60⟩
instance : OneT Tryz.prog 62 := ⟨Tryz.isAgg62, Tryz.sizeOf62⟩
instance : ZeroT Tryz.prog 62 Value.nilFunc := ⟨Tryz.zeroValue62⟩
instance : OneT Tryz.prog 63 := ⟨Tryz.isAgg63, Tryz.sizeOf63⟩
instance : ZeroT Tryz.prog 63 Value.nilFunc := ⟨Tryz.zeroValue63⟩
instance : OneT Tryz.prog 64 := ⟨Tryz.isAgg64, Tryz.sizeOf64⟩
instance : ZeroT Tryz.prog 64 Value.nilFunc := ⟨Tryz.zeroValue64⟩
instance : AggT Tryz.prog 65 5 := ⟨Tryz.isAgg65, Tryz.sizeOf65⟩
instance : FAddr Tryz.prog 65 0 0 := ⟨fun _ _ => by kernel_rfl⟩
instance : FAddr Tryz.prog 65 1 1 := ⟨fun _ _ => by kernel_rfl⟩
instance : FAddr Tryz.prog 65 2 2 := ⟨fun _ _ => by kernel_rfl⟩
instance : FAddr Tryz.prog 65 3 3 := ⟨fun _ _ => by kernel_rfl⟩
instance : FAddr Tryz.prog 65 4 4 := ⟨fun _ _ => by kernel_rfl⟩
instance : BuildT Tryz.prog 65 (fun i => #[(0, 1), (1, 1), (2, 1), (3, 1), (4, 1)][i]?) #[Value.bool false, Value.int IntKind.i64 0, Value.string { data := #[] }, Value.int IntKind.i64 0, Value.string { data := #[] }] := ⟨fun _ => by kernel_rfl⟩
instance : ZeroT Tryz.prog 65 (Value.agg #[Value.bool false, Value.int IntKind.i64 0, Value.string { data := #[] }, Value.int IntKind.i64 0, Value.string { data := #[] }]) := ⟨Tryz.zeroValue65⟩
instance : AggT Tryz.prog 66 5 := ⟨Tryz.isAgg66, Tryz.sizeOf66⟩
instance : FAddr Tryz.prog 66 0 0 := ⟨fun _ _ => by kernel_rfl⟩
instance : FAddr Tryz.prog 66 1 1 := ⟨fun _ _ => by kernel_rfl⟩
instance : FAddr Tryz.prog 66 2 2 := ⟨fun _ _ => by kernel_rfl⟩
instance : FAddr Tryz.prog 66 3 3 := ⟨fun _ _ => by kernel_rfl⟩
instance : FAddr Tryz.prog 66 4 4 := ⟨fun _ _ => by kernel_rfl⟩
instance : BuildT Tryz.prog 66 (fun i => #[(0, 1), (1, 1), (2, 1), (3, 1), (4, 1)][i]?) #[Value.bool false, Value.int IntKind.i64 0, Value.string { data := #[] }, Value.int IntKind.i64 0, Value.string { data := #[] }] := ⟨fun _ => by kernel_rfl⟩
instance : ZeroT Tryz.prog 66 (Value.agg #[Value.bool false, Value.int IntKind.i64 0, Value.string { data := #[] }, Value.int IntKind.i64 0, Value.string { data := #[] }]) := ⟨Tryz.zeroValue66⟩
instance : AggT Tryz.prog 67 3 := ⟨Tryz.isAgg67, Tryz.sizeOf67⟩
instance : FAddr Tryz.prog 67 0 0 := ⟨fun _ _ => by kernel_rfl⟩
instance : FAddr Tryz.prog 67 1 1 := ⟨fun _ _ => by kernel_rfl⟩
instance : FAddr Tryz.prog 67 2 2 := ⟨fun _ _ => by kernel_rfl⟩
instance : BuildT Tryz.prog 67 (fun i => #[(0, 1), (1, 1), (2, 1)][i]?) #[Value.bool false, Value.int IntKind.i64 0, Value.int IntKind.i64 0] := ⟨fun _ => by kernel_rfl⟩
instance : ZeroT Tryz.prog 67 (Value.agg #[Value.bool false, Value.int IntKind.i64 0, Value.int IntKind.i64 0]) := ⟨Tryz.zeroValue67⟩
instance : AggT Tryz.prog 68 3 := ⟨Tryz.isAgg68, Tryz.sizeOf68⟩
instance : FAddr Tryz.prog 68 0 0 := ⟨fun _ _ => by kernel_rfl⟩
instance : FAddr Tryz.prog 68 1 1 := ⟨fun _ _ => by kernel_rfl⟩
instance : FAddr Tryz.prog 68 2 2 := ⟨fun _ _ => by kernel_rfl⟩
instance : BuildT Tryz.prog 68 (fun i => #[(0, 1), (1, 1), (2, 1)][i]?) #[Value.bool false, Value.int IntKind.i64 0, Value.int IntKind.i64 0] := ⟨fun _ => by kernel_rfl⟩
instance : ZeroT Tryz.prog 68 (Value.agg #[Value.bool false, Value.int IntKind.i64 0, Value.int IntKind.i64 0]) := ⟨Tryz.zeroValue68⟩
instance : OneT Tryz.prog 69 := ⟨Tryz.isAgg69, Tryz.sizeOf69⟩
instance : ZeroT Tryz.prog 69 Value.nilFunc := ⟨Tryz.zeroValue69⟩
instance : OneT Tryz.prog 70 := ⟨Tryz.isAgg70, Tryz.sizeOf70⟩
instance : ZeroT Tryz.prog 70 Value.nilFunc := ⟨Tryz.zeroValue70⟩
instance : OneT Tryz.prog 71 := ⟨Tryz.isAgg71, Tryz.sizeOf71⟩
instance : ZeroT Tryz.prog 71 Value.nilFunc := ⟨Tryz.zeroValue71⟩
instance : AggT Tryz.prog 72 5 := ⟨Tryz.isAgg72, Tryz.sizeOf72⟩
instance : FAddr Tryz.prog 72 0 0 := ⟨fun _ _ => by kernel_rfl⟩
instance : FAddr Tryz.prog 72 1 1 := ⟨fun _ _ => by kernel_rfl⟩
instance : FAddr Tryz.prog 72 2 2 := ⟨fun _ _ => by kernel_rfl⟩
instance : FAddr Tryz.prog 72 3 3 := ⟨fun _ _ => by kernel_rfl⟩
instance : FAddr Tryz.prog 72 4 4 := ⟨fun _ _ => by kernel_rfl⟩
instance : BuildT Tryz.prog 72 (fun i => #[(0, 1), (1, 1), (2, 1), (3, 1), (4, 1)][i]?) #[Value.int IntKind.i64 0, Value.int IntKind.i64 0, Value.int IntKind.i64 0, Value.int IntKind.i64 0, Value.int IntKind.i64 0] := ⟨fun _ => by kernel_rfl⟩
instance : ZeroT Tryz.prog 72 (Value.agg #[Value.int IntKind.i64 0, Value.int IntKind.i64 0, Value.int IntKind.i64 0, Value.int IntKind.i64 0, Value.int IntKind.i64 0]) := ⟨Tryz.zeroValue72⟩
instance : AggT Tryz.prog 73 5 := ⟨Tryz.isAgg73, Tryz.sizeOf73⟩
instance : FAddr Tryz.prog 73 0 0 := ⟨fun _ _ => by kernel_rfl⟩
instance : FAddr Tryz.prog 73 1 1 := ⟨fun _ _ => by kernel_rfl⟩
instance : FAddr Tryz.prog 73 2 2 := ⟨fun _ _ => by kernel_rfl⟩
instance : FAddr Tryz.prog 73 3 3 := ⟨fun _ _ => by kernel_rfl⟩
instance : FAddr Tryz.prog 73 4 4 := ⟨fun _ _ => by kernel_rfl⟩
instance : BuildT Tryz.prog 73 (fun i => #[(0, 1), (1, 1), (2, 1), (3, 1), (4, 1)][i]?) #[Value.int IntKind.i64 0, Value.int IntKind.i64 0, Value.int IntKind.i64 0, Value.int IntKind.i64 0, Value.int IntKind.i64 0] := ⟨fun _ => by kernel_rfl⟩
instance : ZeroT Tryz.prog 73 (Value.agg #[Value.int IntKind.i64 0, Value.int IntKind.i64 0, Value.int IntKind.i64 0, Value.int IntKind.i64 0, Value.int IntKind.i64 0]) := ⟨Tryz.zeroValue73⟩
instance : UnderT Tryz.prog 74 (TypeDesc.pointer 155) := ⟨Tryz.underlying74⟩
instance : OneT Tryz.prog 74 := ⟨Tryz.isAgg74, Tryz.sizeOf74⟩
instance : ZeroT Tryz.prog 74 (Value.pointer none) := ⟨Tryz.zeroValue74⟩
instance : OneT Tryz.prog 75 := ⟨Tryz.isAgg75, Tryz.sizeOf75⟩
instance : ZeroT Tryz.prog 75 Value.nilFunc := ⟨Tryz.zeroValue75⟩
instance : UnderT Tryz.prog 76 (TypeDesc.slice 89) := ⟨Tryz.underlying76⟩
instance : OneT Tryz.prog 76 := ⟨Tryz.isAgg76, Tryz.sizeOf76⟩
instance : ZeroT Tryz.prog 76 (Value.slice none 0 0) := ⟨Tryz.zeroValue76⟩
instance : SliceT Tryz.prog 76 89 3 32 (Value.agg #[Value.int IntKind.i64 0, Value.string { data := #[] }, Value.int IntKind.i64 0]) := ⟨Tryz.underlying76, ⟨Tryz.t89, by kernel_rfl, rfl, rfl, rfl⟩, rfl⟩
instance : OneT Tryz.prog 78 := ⟨Tryz.isAgg78, Tryz.sizeOf78⟩
instance : ZeroT Tryz.prog 78 Value.nilFunc := ⟨Tryz.zeroValue78⟩
instance : UnderT Tryz.prog 79 (TypeDesc.slice 5) := ⟨Tryz.underlying79⟩
instance : OneT Tryz.prog 79 := ⟨Tryz.isAgg79, Tryz.sizeOf79⟩
instance : ZeroT Tryz.prog 79 (Value.slice none 0 0) := ⟨Tryz.zeroValue79⟩
instance : SliceT Tryz.prog 79 5 1 1 (Value.int IntKind.u8 0) := ⟨Tryz.underlying79, ⟨Tryz.t5, by kernel_rfl, rfl, rfl, rfl⟩, rfl⟩
instance : OneT Tryz.prog 80 := ⟨Tryz.isAgg80, Tryz.sizeOf80⟩
instance : ZeroT Tryz.prog 80 Value.nilFunc := ⟨Tryz.zeroValue80⟩
instance : OneT Tryz.prog 81 := ⟨Tryz.isAgg81, Tryz.sizeOf81⟩
instance : ZeroT Tryz.prog 81 Value.nilFunc := ⟨Tryz.zeroValue81⟩
instance : OneT Tryz.prog 82 := ⟨Tryz.isAgg82, Tryz.sizeOf82⟩
instance : ZeroT Tryz.prog 82 Value.nilFunc := ⟨Tryz.zeroValue82⟩
instance : OneT Tryz.prog 83 := ⟨Tryz.isAgg83, Tryz.sizeOf83⟩
instance : ZeroT Tryz.prog 83 Value.nilFunc := ⟨Tryz.zeroValue83⟩
instance : OneT Tryz.prog 84 := ⟨Tryz.isAgg84, Tryz.sizeOf84⟩
instance : ZeroT Tryz.prog 84 Value.nilFunc := ⟨Tryz.zeroValue84⟩
instance : OneT Tryz.prog 85 := ⟨Tryz.isAgg85, Tryz.sizeOf85⟩
instance : ZeroT Tryz.prog 85 Value.nilFunc := ⟨Tryz.zeroValue85⟩
instance : OneT Tryz.prog 86 := ⟨Tryz.isAgg86, Tryz.sizeOf86⟩
instance : ZeroT Tryz.prog 86 Value.nilFunc := ⟨Tryz.zeroValue86⟩
instance : OneT Tryz.prog 87 := ⟨Tryz.isAgg87, Tryz.sizeOf87⟩
instance : ZeroT Tryz.prog 87 Value.nilFunc := ⟨Tryz.zeroValue87⟩
instance : AggT Tryz.prog 88 3 := ⟨Tryz.isAgg88, Tryz.sizeOf88⟩
instance : FAddr Tryz.prog 88 0 0 := ⟨fun _ _ => by kernel_rfl⟩
instance : FAddr Tryz.prog 88 1 1 := ⟨fun _ _ => by kernel_rfl⟩
instance : FAddr Tryz.prog 88 2 2 := ⟨fun _ _ => by kernel_rfl⟩
instance : BuildT Tryz.prog 88 (fun i => #[(0, 1), (1, 1), (2, 1)][i]?) #[Value.int IntKind.i64 0, Value.string { data := #[] }, Value.int IntKind.i64 0] := ⟨fun _ => by kernel_rfl⟩
instance : ZeroT Tryz.prog 88 (Value.agg #[Value.int IntKind.i64 0, Value.string { data := #[] }, Value.int IntKind.i64 0]) := ⟨Tryz.zeroValue88⟩
instance : AggT Tryz.prog 89 3 := ⟨Tryz.isAgg89, Tryz.sizeOf89⟩
instance : FAddr Tryz.prog 89 0 0 := ⟨fun _ _ => by kernel_rfl⟩
instance : FAddr Tryz.prog 89 1 1 := ⟨fun _ _ => by kernel_rfl⟩
instance : FAddr Tryz.prog 89 2 2 := ⟨fun _ _ => by kernel_rfl⟩
instance : BuildT Tryz.prog 89 (fun i => #[(0, 1), (1, 1), (2, 1)][i]?) #[Value.int IntKind.i64 0, Value.string { data := #[] }, Value.int IntKind.i64 0] := ⟨fun _ => by kernel_rfl⟩
instance : ZeroT Tryz.prog 89 (Value.agg #[Value.int IntKind.i64 0, Value.string { data := #[] }, Value.int IntKind.i64 0]) := ⟨Tryz.zeroValue89⟩
instance : OneT Tryz.prog 90 := ⟨Tryz.isAgg90, Tryz.sizeOf90⟩
instance : ZeroT Tryz.prog 90 Value.nilFunc := ⟨Tryz.zeroValue90⟩
instance : UnderT Tryz.prog 91 (TypeDesc.slice 95) := ⟨Tryz.underlying91⟩
instance : OneT Tryz.prog 91 := ⟨Tryz.isAgg91, Tryz.sizeOf91⟩
instance : ZeroT Tryz.prog 91 (Value.slice none 0 0) := ⟨Tryz.zeroValue91⟩
instance : SliceT Tryz.prog 91 95 3 32 (Value.agg #[Value.int IntKind.i64 0, Value.string { data := #[] }, Value.int IntKind.i64 0]) := ⟨Tryz.underlying91, ⟨Tryz.t95, by kernel_rfl, rfl, rfl, rfl⟩, rfl⟩
instance : OneT Tryz.prog 92 := ⟨Tryz.isAgg92, Tryz.sizeOf92⟩
instance : ZeroT Tryz.prog 92 Value.nilFunc := ⟨Tryz.zeroValue92⟩
instance : OneT Tryz.prog 93 := ⟨Tryz.isAgg93, Tryz.sizeOf93⟩
instance : ZeroT Tryz.prog 93 Value.nilFunc := ⟨Tryz.zeroValue93⟩
instance : AggT Tryz.prog 94 3 := ⟨Tryz.isAgg94, Tryz.sizeOf94⟩
instance : FAddr Tryz.prog 94 0 0 := ⟨fun _ _ => by kernel_rfl⟩
instance : FAddr Tryz.prog 94 1 1 := ⟨fun _ _ => by kernel_rfl⟩
instance : FAddr Tryz.prog 94 2 2 := ⟨fun _ _ => by kernel_rfl⟩
instance : BuildT Tryz.prog 94 (fun i => #[(0, 1), (1, 1), (2, 1)][i]?) #[Value.int IntKind.i64 0, Value.string { data := #[] }, Value.int IntKind.i64 0] := ⟨fun _ => by kernel_rfl⟩
instance : ZeroT Tryz.prog 94 (Value.agg #[Value.int IntKind.i64 0, Value.string { data := #[] }, Value.int IntKind.i64 0]) := ⟨Tryz.zeroValue94⟩
instance : AggT Tryz.prog 95 3 := ⟨Tryz.isAgg95, Tryz.sizeOf95⟩
instance : FAddr Tryz.prog 95 0 0 := ⟨fun _ _ => by kernel_rfl⟩
instance : FAddr Tryz.prog 95 1 1 := ⟨fun _ _ => by kernel_rfl⟩
instance : FAddr Tryz.prog 95 2 2 := ⟨fun _ _ => by kernel_rfl⟩
instance : BuildT Tryz.prog 95 (fun i => #[(0, 1), (1, 1), (2, 1)][i]?) #[Value.int IntKind.i64 0, Value.string { data := #[] }, Value.int IntKind.i64 0] := ⟨fun _ => by kernel_rfl⟩
instance : ZeroT Tryz.prog 95 (Value.agg #[Value.int IntKind.i64 0, Value.string { data := #[] }, Value.int IntKind.i64 0]) := ⟨Tryz.zeroValue95⟩
instance : OneT Tryz.prog 96 := ⟨Tryz.isAgg96, Tryz.sizeOf96⟩
instance : ZeroT Tryz.prog 96 Value.nilFunc := ⟨Tryz.zeroValue96⟩
instance : OneT Tryz.prog 97 := ⟨Tryz.isAgg97, Tryz.sizeOf97⟩
instance : ZeroT Tryz.prog 97 Value.nilFunc := ⟨Tryz.zeroValue97⟩
instance : OneT Tryz.prog 98 := ⟨Tryz.isAgg98, Tryz.sizeOf98⟩
instance : ZeroT Tryz.prog 98 Value.nilFunc := ⟨Tryz.zeroValue98⟩
instance : UnderT Tryz.prog 99 (TypeDesc.pointer 107) := ⟨Tryz.underlying99⟩
instance : OneT Tryz.prog 99 := ⟨Tryz.isAgg99, Tryz.sizeOf99⟩
instance : ZeroT Tryz.prog 99 (Value.pointer none) := ⟨Tryz.zeroValue99⟩
instance : OneT Tryz.prog 100 := ⟨Tryz.isAgg100, Tryz.sizeOf100⟩
instance : ZeroT Tryz.prog 100 Value.nilFunc := ⟨Tryz.zeroValue100⟩
instance : OneT Tryz.prog 101 := ⟨Tryz.isAgg101, Tryz.sizeOf101⟩
instance : ZeroT Tryz.prog 101 Value.nilFunc := ⟨Tryz.zeroValue101⟩
instance : OneT Tryz.prog 102 := ⟨Tryz.isAgg102, Tryz.sizeOf102⟩
instance : ZeroT Tryz.prog 102 Value.nilFunc := ⟨Tryz.zeroValue102⟩
instance : OneT Tryz.prog 104 := ⟨Tryz.isAgg104, Tryz.sizeOf104⟩
instance : ZeroT Tryz.prog 104 Value.nilFunc := ⟨Tryz.zeroValue104⟩
instance : UnderT Tryz.prog 105 (TypeDesc.pointer 172) := ⟨Tryz.underlying105⟩
instance : OneT Tryz.prog 105 := ⟨Tryz.isAgg105, Tryz.sizeOf105⟩
instance : ZeroT Tryz.prog 105 (Value.pointer none) := ⟨Tryz.zeroValue105⟩
instance : AggT Tryz.prog 106 49 := ⟨Tryz.isAgg106, Tryz.sizeOf106⟩
instance : FAddr Tryz.prog 106 0 0 := ⟨fun _ _ => by kernel_rfl⟩
instance : FAddr Tryz.prog 106 1 1 := ⟨fun _ _ => by kernel_rfl⟩
instance : FAddr Tryz.prog 106 2 6 := ⟨fun _ _ => by kernel_rfl⟩
instance : FAddr Tryz.prog 106 3 23 := ⟨fun _ _ => by kernel_rfl⟩
instance : FAddr Tryz.prog 106 4 24 := ⟨fun _ _ => by kernel_rfl⟩
instance : FAddr Tryz.prog 106 5 25 := ⟨fun _ _ => by kernel_rfl⟩
instance : FAddr Tryz.prog 106 6 26 := ⟨fun _ _ => by kernel_rfl⟩
instance : FAddr Tryz.prog 106 7 27 := ⟨fun _ _ => by kernel_rfl⟩
instance : FAddr Tryz.prog 106 8 28 := ⟨fun _ _ => by kernel_rfl⟩
instance : FAddr Tryz.prog 106 9 29 := ⟨fun _ _ => by kernel_rfl⟩
instance : FAddr Tryz.prog 106 10 30 := ⟨fun _ _ => by kernel_rfl⟩
instance : FAddr Tryz.prog 106 11 31 := ⟨fun _ _ => by kernel_rfl⟩
instance : FAddr Tryz.prog 106 12 32 := ⟨fun _ _ => by kernel_rfl⟩
instance : FAddr Tryz.prog 106 13 33 := ⟨fun _ _ => by kernel_rfl⟩
instance : FAddr Tryz.prog 106 14 34 := ⟨fun _ _ => by kernel_rfl⟩
instance : FAddr Tryz.prog 106 15 35 := ⟨fun _ _ => by kernel_rfl⟩
instance : FAddr Tryz.prog 106 16 46 := ⟨fun _ _ => by kernel_rfl⟩
instance : BuildT Tryz.prog 106 (fun i => #[(0, 1), (1, 5), (6, 17), (23, 1), (24, 1), (25, 1), (26, 1), (27, 1), (28, 1), (29, 1), (30, 1), (31, 1), (32, 1), (33, 1), (34, 1), (35, 11), (46, 3)][i]?) #[Value.pointer none, Value.int IntKind.i64 0, Value.int IntKind.i64 0, Value.int IntKind.i64 0, Value.int IntKind.i64 0, Value.int IntKind.i64 0, Value.int IntKind.u8 0, Value.int IntKind.u8 0, Value.int IntKind.u8 0, Value.int IntKind.u8 0, Value.int IntKind.u8 0, Value.int IntKind.u8 0, Value.int IntKind.u8 0, Value.int IntKind.u8 0, Value.int IntKind.u8 0, Value.int IntKind.u8 0, Value.int IntKind.u8 0, Value.int IntKind.u8 0, Value.int IntKind.u8 0, Value.int IntKind.u8 0, Value.int IntKind.u8 0, Value.int IntKind.u8 0, Value.int IntKind.i64 0, Value.int IntKind.i64 0, Value.int IntKind.i64 0, Value.int IntKind.i64 0, Value.int IntKind.i64 0, Value.pointer none, Value.slice none 0 0, Value.slice none 0 0, Value.slice none 0 0, Value.bool false, Value.bool false, Value.bool false, Value.bool false, Value.int IntKind.i64 0, Value.int IntKind.i64 0, Value.int IntKind.i64 0, Value.int IntKind.i64 0, Value.string { data := #[] }, Value.int IntKind.i64 0, Value.bool false, Value.string { data := #[] }, Value.slice none 0 0, Value.slice none 0 0, Value.bool false, Value.bool false, Value.int IntKind.i64 0, Value.int IntKind.i64 0] := ⟨fun _ => by kernel_rfl⟩
instance : ZeroT Tryz.prog 106 (Value.agg #[Value.pointer none, Value.int IntKind.i64 0, Value.int IntKind.i64 0, Value.int IntKind.i64 0, Value.int IntKind.i64 0, Value.int IntKind.i64 0, Value.int IntKind.u8 0, Value.int IntKind.u8 0, Value.int IntKind.u8 0, Value.int IntKind.u8 0, Value.int IntKind.u8 0, Value.int IntKind.u8 0, Value.int IntKind.u8 0, Value.int IntKind.u8 0, Value.int IntKind.u8 0, Value.int IntKind.u8 0, Value.int IntKind.u8 0, Value.int IntKind.u8 0, Value.int IntKind.u8 0, Value.int IntKind.u8 0, Value.int IntKind.u8 0, Value.int IntKind.u8 0, Value.int IntKind.i64 0, Value.int IntKind.i64 0, Value.int IntKind.i64 0, Value.int IntKind.i64 0, Value.int IntKind.i64 0, Value.pointer none, Value.slice none 0 0, Value.slice none 0 0, Value.slice none 0 0, Value.bool false, Value.bool false, Value.bool false, Value.bool false, Value.int IntKind.i64 0, Value.int IntKind.i64 0, Value.int IntKind.i64 0, Value.int IntKind.i64 0, Value.string { data := #[] }, Value.int IntKind.i64 0, Value.bool false, Value.string { data := #[] }, Value.slice none 0 0, Value.slice none 0 0, Value.bool false, Value.bool false, Value.int IntKind.i64 0, Value.int IntKind.i64 0]) := ⟨Tryz.zeroValue106⟩
instance : AggT Tryz.prog 107 49 := ⟨Tryz.isAgg107, Tryz.sizeOf107⟩
instance : FAddr Tryz.prog 107 0 0 := ⟨fun _ _ => by kernel_rfl⟩
instance : FAddr Tryz.prog 107 1 1 := ⟨fun _ _ => by kernel_rfl⟩
instance : FAddr Tryz.prog 107 2 6 := ⟨fun _ _ => by kernel_rfl⟩
instance : FAddr Tryz.prog 107 3 23 := ⟨fun _ _ => by kernel_rfl⟩
instance : FAddr Tryz.prog 107 4 24 := ⟨fun _ _ => by kernel_rfl⟩
instance : FAddr Tryz.prog 107 5 25 := ⟨fun _ _ => by kernel_rfl⟩
instance : FAddr Tryz.prog 107 6 26 := ⟨fun _ _ => by kernel_rfl⟩
instance : FAddr Tryz.prog 107 7 27 := ⟨fun _ _ => by kernel_rfl⟩
instance : FAddr Tryz.prog 107 8 28 := ⟨fun _ _ => by kernel_rfl⟩
instance : FAddr Tryz.prog 107 9 29 := ⟨fun _ _ => by kernel_rfl⟩
instance : FAddr Tryz.prog 107 10 30 := ⟨fun _ _ => by kernel_rfl⟩
instance : FAddr Tryz.prog 107 11 31 := ⟨fun _ _ => by kernel_rfl⟩
instance : FAddr Tryz.prog 107 12 32 := ⟨fun _ _ => by kernel_rfl⟩
instance : FAddr Tryz.prog 107 13 33 := ⟨fun _ _ => by kernel_rfl⟩
instance : FAddr Tryz.prog 107 14 34 := ⟨fun _ _ => by kernel_rfl⟩
instance : FAddr Tryz.prog 107 15 35 := ⟨fun _ _ => by kernel_rfl⟩
instance : FAddr Tryz.prog 107 16 46 := ⟨fun _ _ => by kernel_rfl⟩
instance : BuildT Tryz.prog 107 (fun i => #[(0, 1), (1, 5), (6, 17), (23, 1), (24, 1), (25, 1), (26, 1), (27, 1), (28, 1), (29, 1), (30, 1), (31, 1), (32, 1), (33, 1), (34, 1), (35, 11), (46, 3)][i]?) #[Value.pointer none, Value.int IntKind.i64 0, Value.int IntKind.i64 0, Value.int IntKind.i64 0, Value.int IntKind.i64 0, Value.int IntKind.i64 0, Value.int IntKind.u8 0, Value.int IntKind.u8 0, Value.int IntKind.u8 0, Value.int IntKind.u8 0, Value.int IntKind.u8 0, Value.int IntKind.u8 0, Value.int IntKind.u8 0, Value.int IntKind.u8 0, Value.int IntKind.u8 0, Value.int IntKind.u8 0, Value.int IntKind.u8 0, Value.int IntKind.u8 0, Value.int IntKind.u8 0, Value.int IntKind.u8 0, Value.int IntKind.u8 0, Value.int IntKind.u8 0, Value.int IntKind.i64 0, Value.int IntKind.i64 0, Value.int IntKind.i64 0, Value.int IntKind.i64 0, Value.int IntKind.i64 0, Value.pointer none, Value.slice none 0 0, Value.slice none 0 0, Value.slice none 0 0, Value.bool false, Value.bool false, Value.bool false, Value.bool false, Value.int IntKind.i64 0, Value.int IntKind.i64 0, Value.int IntKind.i64 0, Value.int IntKind.i64 0, Value.string { data := #[] }, Value.int IntKind.i64 0, Value.bool false, Value.string { data := #[] }, Value.slice none 0 0, Value.slice none 0 0, Value.bool false, Value.bool false, Value.int IntKind.i64 0, Value.int IntKind.i64 0] := ⟨fun _ => by kernel_rfl⟩
instance : ZeroT Tryz.prog 107 (Value.agg #[Value.pointer none, Value.int IntKind.i64 0, Value.int IntKind.i64 0, Value.int IntKind.i64 0, Value.int IntKind.i64 0, Value.int IntKind.i64 0, Value.int IntKind.u8 0, Value.int IntKind.u8 0, Value.int IntKind.u8 0, Value.int IntKind.u8 0, Value.int IntKind.u8 0, Value.int IntKind.u8 0, Value.int IntKind.u8 0, Value.int IntKind.u8 0, Value.int IntKind.u8 0, Value.int IntKind.u8 0, Value.int IntKind.u8 0, Value.int IntKind.u8 0, Value.int IntKind.u8 0, Value.int IntKind.u8 0, Value.int IntKind.u8 0, Value.int IntKind.u8 0, Value.int IntKind.i64 0, Value.int IntKind.i64 0, Value.int IntKind.i64 0, Value.int IntKind.i64 0, Value.int IntKind.i64 0, Value.pointer none, Value.slice none 0 0, Value.slice none 0 0, Value.slice none 0 0, Value.bool false, Value.bool false, Value.bool false, Value.bool false, Value.int IntKind.i64 0, Value.int IntKind.i64 0, Value.int IntKind.i64 0, Value.int IntKind.i64 0, Value.string { data := #[] }, Value.int IntKind.i64 0, Value.bool false, Value.string { data := #[] }, Value.slice none 0 0, Value.slice none 0 0, Value.bool false, Value.bool false, Value.int IntKind.i64 0, Value.int IntKind.i64 0]) := ⟨Tryz.zeroValue107⟩
instance : OneT Tryz.prog 108 := ⟨Tryz.isAgg108, Tryz.sizeOf108⟩
instance : ZeroT Tryz.prog 108 Value.nilFunc := ⟨Tryz.zeroValue108⟩
instance : OneT Tryz.prog 109 := ⟨Tryz.isAgg109, Tryz.sizeOf109⟩
instance : ZeroT Tryz.prog 109 Value.nilFunc := ⟨Tryz.zeroValue109⟩
instance : OneT Tryz.prog 110 := ⟨Tryz.isAgg110, Tryz.sizeOf110⟩
instance : ZeroT Tryz.prog 110 Value.nilFunc := ⟨Tryz.zeroValue110⟩
instance : UnderT Tryz.prog 111 (TypeDesc.array 4 5) := ⟨Tryz.underlying111⟩
instance : AggT Tryz.prog 111 4 := ⟨Tryz.isAgg111, Tryz.sizeOf111⟩
instance : BuildT Tryz.prog 111 (fun i => some (i * 1, 1)) #[Value.int IntKind.u8 0, Value.int IntKind.u8 0, Value.int IntKind.u8 0, Value.int IntKind.u8 0] := ⟨fun _ => by kernel_rfl⟩
instance : ArrT Tryz.prog 111 4 5 1 := ⟨Tryz.underlying111, Tryz.sizeOf5⟩
instance : ZeroT Tryz.prog 111 (Value.agg #[Value.int IntKind.u8 0, Value.int IntKind.u8 0, Value.int IntKind.u8 0, Value.int IntKind.u8 0]) := ⟨Tryz.zeroValue111⟩
instance : UnderT Tryz.prog 112 (TypeDesc.map 118 3) := ⟨Tryz.underlying112⟩
instance : OneT Tryz.prog 112 := ⟨Tryz.isAgg112, Tryz.sizeOf112⟩
instance : ZeroT Tryz.prog 112 (Value.map none) := ⟨Tryz.zeroValue112⟩
instance : UnderT Tryz.prog 113 (TypeDesc.map 9 3) := ⟨Tryz.underlying113⟩
instance : OneT Tryz.prog 113 := ⟨Tryz.isAgg113, Tryz.sizeOf113⟩
instance : ZeroT Tryz.prog 113 (Value.map none) := ⟨Tryz.zeroValue113⟩
instance : AggT Tryz.prog 114 2 := ⟨Tryz.isAgg114, Tryz.sizeOf114⟩
instance : FAddr Tryz.prog 114 0 0 := ⟨fun _ _ => by kernel_rfl⟩
instance : FAddr Tryz.prog 114 1 1 := ⟨fun _ _ => by kernel_rfl⟩
instance : BuildT Tryz.prog 114 (fun i => #[(0, 1), (1, 1)][i]?) #[Value.map none, Value.map none] := ⟨fun _ => by kernel_rfl⟩
instance : ZeroT Tryz.prog 114 (Value.agg #[Value.map none, Value.map none]) := ⟨Tryz.zeroValue114⟩
instance : AggT Tryz.prog 115 2 := ⟨Tryz.isAgg115, Tryz.sizeOf115⟩
instance : FAddr Tryz.prog 115 0 0 := ⟨fun _ _ => by kernel_rfl⟩
instance : FAddr Tryz.prog 115 1 1 := ⟨fun _ _ => by kernel_rfl⟩
instance : BuildT Tryz.prog 115 (fun i => #[(0, 1), (1, 1)][i]?) #[Value.map none, Value.map none] := ⟨fun _ => by kernel_rfl⟩
instance : ZeroT Tryz.prog 115 (Value.agg #[Value.map none, Value.map none]) := ⟨Tryz.zeroValue115⟩
instance : OneT Tryz.prog 116 := ⟨Tryz.isAgg116, Tryz.sizeOf116⟩
instance : ZeroT Tryz.prog 116 Value.nilFunc := ⟨Tryz.zeroValue116⟩
instance : AggT Tryz.prog 117 18 := ⟨Tryz.isAgg117, Tryz.sizeOf117⟩
instance : FAddr Tryz.prog 117 0 0 := ⟨fun _ _ => by kernel_rfl⟩
instance : FAddr Tryz.prog 117 1 1 := ⟨fun _ _ => by kernel_rfl⟩
instance : BuildT Tryz.prog 117 (fun i => #[(0, 1), (1, 17)][i]?) #[Value.string { data := #[] }, Value.int IntKind.u8 0, Value.int IntKind.u8 0, Value.int IntKind.u8 0, Value.int IntKind.u8 0, Value.int IntKind.u8 0, Value.int IntKind.u8 0, Value.int IntKind.u8 0, Value.int IntKind.u8 0, Value.int IntKind.u8 0, Value.int IntKind.u8 0, Value.int IntKind.u8 0, Value.int IntKind.u8 0, Value.int IntKind.u8 0, Value.int IntKind.u8 0, Value.int IntKind.u8 0, Value.int IntKind.u8 0, Value.int IntKind.i64 0] := ⟨fun _ => by kernel_rfl⟩
instance : ZeroT Tryz.prog 117 (Value.agg #[Value.string { data := #[] }, Value.int IntKind.u8 0, Value.int IntKind.u8 0, Value.int IntKind.u8 0, Value.int IntKind.u8 0, Value.int IntKind.u8 0, Value.int IntKind.u8 0, Value.int IntKind.u8 0, Value.int IntKind.u8 0, Value.int IntKind.u8 0, Value.int IntKind.u8 0, Value.int IntKind.u8 0, Value.int IntKind.u8 0, Value.int IntKind.u8 0, Value.int IntKind.u8 0, Value.int IntKind.u8 0, Value.int IntKind.u8 0, Value.int IntKind.i64 0]) := ⟨Tryz.zeroValue117⟩
instance : AggT Tryz.prog 118 18 := ⟨Tryz.isAgg118, Tryz.sizeOf118⟩
instance : FAddr Tryz.prog 118 0 0 := ⟨fun _ _ => by kernel_rfl⟩
instance : FAddr Tryz.prog 118 1 1 := ⟨fun _ _ => by kernel_rfl⟩
instance : BuildT Tryz.prog 118 (fun i => #[(0, 1), (1, 17)][i]?) #[Value.string { data := #[] }, Value.int IntKind.u8 0, Value.int IntKind.u8 0, Value.int IntKind.u8 0, Value.int IntKind.u8 0, Value.int IntKind.u8 0, Value.int IntKind.u8 0, Value.int IntKind.u8 0, Value.int IntKind.u8 0, Value.int IntKind.u8 0, Value.int IntKind.u8 0, Value.int IntKind.u8 0, Value.int IntKind.u8 0, Value.int IntKind.u8 0, Value.int IntKind.u8 0, Value.int IntKind.u8 0, Value.int IntKind.u8 0, Value.int IntKind.i64 0] := ⟨fun _ => by kernel_rfl⟩
instance : ZeroT Tryz.prog 118 (Value.agg #[Value.string { data := #[] }, Value.int IntKind.u8 0, Value.int IntKind.u8 0, Value.int IntKind.u8 0, Value.int IntKind.u8 0, Value.int IntKind.u8 0, Value.int IntKind.u8 0, Value.int IntKind.u8 0, Value.int IntKind.u8 0, Value.int IntKind.u8 0, Value.int IntKind.u8 0, Value.int IntKind.u8 0, Value.int IntKind.u8 0, Value.int IntKind.u8 0, Value.int IntKind.u8 0, Value.int IntKind.u8 0, Value.int IntKind.u8 0, Value.int IntKind.i64 0]) := ⟨Tryz.zeroValue118⟩
instance : OneT Tryz.prog 120 := ⟨Tryz.isAgg120, Tryz.sizeOf120⟩
instance : ZeroT Tryz.prog 120 Value.nilFunc := ⟨Tryz.zeroValue120⟩
instance : OneT Tryz.prog 121 := ⟨Tryz.isAgg121, Tryz.sizeOf121⟩
instance : ZeroT Tryz.prog 121 Value.nilFunc := ⟨Tryz.zeroValue121⟩
instance : OneT Tryz.prog 122 := ⟨Tryz.isAgg122, Tryz.sizeOf122⟩
instance : ZeroT Tryz.prog 122 Value.nilFunc := ⟨Tryz.zeroValue122⟩
instance : OneT Tryz.prog 123 := ⟨Tryz.isAgg123, Tryz.sizeOf123⟩
instance : ZeroT Tryz.prog 123 Value.nilFunc := ⟨Tryz.zeroValue123⟩
instance : UnderT Tryz.prog 124 (TypeDesc.pointer 185) := ⟨Tryz.underlying124⟩
instance : OneT Tryz.prog 124 := ⟨Tryz.isAgg124, Tryz.sizeOf124⟩
instance : ZeroT Tryz.prog 124 (Value.pointer none) := ⟨Tryz.zeroValue124⟩
instance : OneT Tryz.prog 125 := ⟨Tryz.isAgg125, Tryz.sizeOf125⟩
instance : ZeroT Tryz.prog 125 Value.nilFunc := ⟨Tryz.zeroValue125⟩
instance : OneT Tryz.prog 126 := ⟨Tryz.isAgg126, Tryz.sizeOf126⟩
instance : ZeroT Tryz.prog 126 Value.nilFunc := ⟨Tryz.zeroValue126⟩
instance : OneT Tryz.prog 127 := ⟨Tryz.isAgg127, Tryz.sizeOf127⟩
instance : ZeroT Tryz.prog 127 Value.nilFunc := ⟨Tryz.zeroValue127⟩
instance : UnderT Tryz.prog 128 (TypeDesc.pointer 195) := ⟨Tryz.underlying128⟩
instance : OneT Tryz.prog 128 := ⟨Tryz.isAgg128, Tryz.sizeOf128⟩
instance : ZeroT Tryz.prog 128 (Value.pointer none) := ⟨Tryz.zeroValue128⟩
instance : OneT Tryz.prog 129 := ⟨Tryz.isAgg129, Tryz.sizeOf129⟩
instance : ZeroT Tryz.prog 129 Value.nilFunc := ⟨Tryz.zeroValue129⟩
instance : OneT Tryz.prog 130 := ⟨Tryz.isAgg130, Tryz.sizeOf130⟩
instance : ZeroT Tryz.prog 130 Value.nilFunc := ⟨Tryz.zeroValue130⟩
instance : AggT Tryz.prog 131 4 := ⟨Tryz.isAgg131, Tryz.sizeOf131⟩
instance : FAddr Tryz.prog 131 0 0 := ⟨fun _ _ => by kernel_rfl⟩
instance : FAddr Tryz.prog 131 1 1 := ⟨fun _ _ => by kernel_rfl⟩
instance : FAddr Tryz.prog 131 2 2 := ⟨fun _ _ => by kernel_rfl⟩
instance : FAddr Tryz.prog 131 3 3 := ⟨fun _ _ => by kernel_rfl⟩
instance : BuildT Tryz.prog 131 (fun i => #[(0, 1), (1, 1), (2, 1), (3, 1)][i]?) #[Value.pointer none, Value.pointer none, Value.bool false, Value.slice none 0 0] := ⟨fun _ => by kernel_rfl⟩
instance : ZeroT Tryz.prog 131 (Value.agg #[Value.pointer none, Value.pointer none, Value.bool false, Value.slice none 0 0]) := ⟨Tryz.zeroValue131⟩
instance : AggT Tryz.prog 132 4 := ⟨Tryz.isAgg132, Tryz.sizeOf132⟩
instance : FAddr Tryz.prog 132 0 0 := ⟨fun _ _ => by kernel_rfl⟩
instance : FAddr Tryz.prog 132 1 1 := ⟨fun _ _ => by kernel_rfl⟩
instance : FAddr Tryz.prog 132 2 2 := ⟨fun _ _ => by kernel_rfl⟩
instance : FAddr Tryz.prog 132 3 3 := ⟨fun _ _ => by kernel_rfl⟩
instance : BuildT Tryz.prog 132 (fun i => #[(0, 1), (1, 1), (2, 1), (3, 1)][i]?) #[Value.pointer none, Value.pointer none, Value.bool false, Value.slice none 0 0] := ⟨fun _ => by kernel_rfl⟩
instance : ZeroT Tryz.prog 132 (Value.agg #[Value.pointer none, Value.pointer none, Value.bool false, Value.slice none 0 0]) := ⟨Tryz.zeroValue132⟩
instance : OneT Tryz.prog 133 := ⟨Tryz.isAgg133, Tryz.sizeOf133⟩
instance : ZeroT Tryz.prog 133 Value.nilFunc := ⟨Tryz.zeroValue133⟩
instance : UnderT Tryz.prog 134 (TypeDesc.pointer 136) := ⟨Tryz.underlying134⟩
instance : OneT Tryz.prog 134 := ⟨Tryz.isAgg134, Tryz.sizeOf134⟩
instance : ZeroT Tryz.prog 134 (Value.pointer none) := ⟨Tryz.zeroValue134⟩
instance : AggT Tryz.prog 135 1 := ⟨Tryz.isAgg135, Tryz.sizeOf135⟩
instance : FAddr Tryz.prog 135 0 0 := ⟨fun _ _ => by kernel_rfl⟩
instance : BuildT Tryz.prog 135 (fun i => #[(0, 1)][i]?) #[Value.slice none 0 0] := ⟨fun _ => by kernel_rfl⟩
instance : ZeroT Tryz.prog 135 (Value.agg #[Value.slice none 0 0]) := ⟨Tryz.zeroValue135⟩
instance : AggT Tryz.prog 136 1 := ⟨Tryz.isAgg136, Tryz.sizeOf136⟩
instance : FAddr Tryz.prog 136 0 0 := ⟨fun _ _ => by kernel_rfl⟩
instance : BuildT Tryz.prog 136 (fun i => #[(0, 1)][i]?) #[Value.slice none 0 0] := ⟨fun _ => by kernel_rfl⟩
instance : ZeroT Tryz.prog 136 (Value.agg #[Value.slice none 0 0]) := ⟨Tryz.zeroValue136⟩
instance : AggT Tryz.prog 137 5 := ⟨Tryz.isAgg137, Tryz.sizeOf137⟩
instance : FAddr Tryz.prog 137 0 0 := ⟨fun _ _ => by kernel_rfl⟩
instance : FAddr Tryz.prog 137 1 3 := ⟨fun _ _ => by kernel_rfl⟩
instance : FAddr Tryz.prog 137 2 4 := ⟨fun _ _ => by kernel_rfl⟩
instance : BuildT Tryz.prog 137 (fun i => #[(0, 3), (3, 1), (4, 1)][i]?) #[Value.bool false, Value.slice none 0 0, Value.slice none 0 0, Value.pointer none, Value.pointer none] := ⟨fun _ => by kernel_rfl⟩
instance : ZeroT Tryz.prog 137 (Value.agg #[Value.bool false, Value.slice none 0 0, Value.slice none 0 0, Value.pointer none, Value.pointer none]) := ⟨Tryz.zeroValue137⟩
instance : AggT Tryz.prog 138 5 := ⟨Tryz.isAgg138, Tryz.sizeOf138⟩
instance : FAddr Tryz.prog 138 0 0 := ⟨fun _ _ => by kernel_rfl⟩
instance : FAddr Tryz.prog 138 1 3 := ⟨fun _ _ => by kernel_rfl⟩
instance : FAddr Tryz.prog 138 2 4 := ⟨fun _ _ => by kernel_rfl⟩
instance : BuildT Tryz.prog 138 (fun i => #[(0, 3), (3, 1), (4, 1)][i]?) #[Value.bool false, Value.slice none 0 0, Value.slice none 0 0, Value.pointer none, Value.pointer none] := ⟨fun _ => by kernel_rfl⟩
instance : ZeroT Tryz.prog 138 (Value.agg #[Value.bool false, Value.slice none 0 0, Value.slice none 0 0, Value.pointer none, Value.pointer none]) := ⟨Tryz.zeroValue138⟩
instance : OneT Tryz.prog 139 := ⟨Tryz.isAgg139, Tryz.sizeOf139⟩
instance : ZeroT Tryz.prog 139 Value.nilFunc := ⟨Tryz.zeroValue139⟩
instance : OneT Tryz.prog 140 := ⟨Tryz.isAgg140, Tryz.sizeOf140⟩
instance : ZeroT Tryz.prog 140 Value.nilFunc := ⟨Tryz.zeroValue140⟩
instance : OneT Tryz.prog 141 := ⟨Tryz.isAgg141, Tryz.sizeOf141⟩
instance : ZeroT Tryz.prog 141 Value.nilFunc := ⟨Tryz.zeroValue141⟩
instance : OneT Tryz.prog 143 := ⟨Tryz.isAgg143, Tryz.sizeOf143⟩
instance : ZeroT Tryz.prog 143 Value.nilFunc := ⟨Tryz.zeroValue143⟩
instance : OneT Tryz.prog 144 := ⟨Tryz.isAgg144, Tryz.sizeOf144⟩
instance : ZeroT Tryz.prog 144 Value.nilFunc := ⟨Tryz.zeroValue144⟩
instance : OneT Tryz.prog 145 := ⟨Tryz.isAgg145, Tryz.sizeOf145⟩
instance : ZeroT Tryz.prog 145 Value.nilFunc := ⟨Tryz.zeroValue145⟩
instance : UnderT Tryz.prog 146 (TypeDesc.pointer 209) := ⟨Tryz.underlying146⟩
instance : OneT Tryz.prog 146 := ⟨Tryz.isAgg146, Tryz.sizeOf146⟩
instance : ZeroT Tryz.prog 146 (Value.pointer none) := ⟨Tryz.zeroValue146⟩
instance : OneT Tryz.prog 147 := ⟨Tryz.isAgg147, Tryz.sizeOf147⟩
instance : ZeroT Tryz.prog 147 Value.nilFunc := ⟨Tryz.zeroValue147⟩
instance : UnderT Tryz.prog 148 (TypeDesc.pointer 211) := ⟨Tryz.underlying148⟩
instance : OneT Tryz.prog 148 := ⟨Tryz.isAgg148, Tryz.sizeOf148⟩
instance : ZeroT Tryz.prog 148 (Value.pointer none) := ⟨Tryz.zeroValue148⟩
instance : OneT Tryz.prog 149 := ⟨Tryz.isAgg149, Tryz.sizeOf149⟩
instance : ZeroT Tryz.prog 149 Value.nilFunc := ⟨Tryz.zeroValue149⟩
instance : UnderT Tryz.prog 150 (TypeDesc.pointer 213) := ⟨Tryz.underlying150⟩
instance : OneT Tryz.prog 150 := ⟨Tryz.isAgg150, Tryz.sizeOf150⟩
instance : ZeroT Tryz.prog 150 (Value.pointer none) := ⟨Tryz.zeroValue150⟩
instance : OneT Tryz.prog 151 := ⟨Tryz.isAgg151, Tryz.sizeOf151⟩
instance : ZeroT Tryz.prog 151 Value.nilFunc := ⟨Tryz.zeroValue151⟩
instance : AggT Tryz.prog 152 3 := ⟨Tryz.isAgg152, Tryz.sizeOf152⟩
instance : FAddr Tryz.prog 152 0 0 := ⟨fun _ _ => by kernel_rfl⟩
instance : FAddr Tryz.prog 152 1 1 := ⟨fun _ _ => by kernel_rfl⟩
instance : FAddr Tryz.prog 152 2 2 := ⟨fun _ _ => by kernel_rfl⟩
instance : BuildT Tryz.prog 152 (fun i => #[(0, 1), (1, 1), (2, 1)][i]?) #[Value.pointer none, Value.bool false, Value.bool false] := ⟨fun _ => by kernel_rfl⟩
instance : ZeroT Tryz.prog 152 (Value.agg #[Value.pointer none, Value.bool false, Value.bool false]) := ⟨Tryz.zeroValue152⟩
instance : AggT Tryz.prog 153 3 := ⟨Tryz.isAgg153, Tryz.sizeOf153⟩
instance : FAddr Tryz.prog 153 0 0 := ⟨fun _ _ => by kernel_rfl⟩
instance : FAddr Tryz.prog 153 1 1 := ⟨fun _ _ => by kernel_rfl⟩
instance : FAddr Tryz.prog 153 2 2 := ⟨fun _ _ => by kernel_rfl⟩
instance : BuildT Tryz.prog 153 (fun i => #[(0, 1), (1, 1), (2, 1)][i]?) #[Value.pointer none, Value.bool false, Value.bool false] := ⟨fun _ => by kernel_rfl⟩
instance : ZeroT Tryz.prog 153 (Value.agg #[Value.pointer none, Value.bool false, Value.bool false]) := ⟨Tryz.zeroValue153⟩
instance : AggT Tryz.prog 154 49 := ⟨Tryz.isAgg154, Tryz.sizeOf154⟩
instance : FAddr Tryz.prog 154 0 0 := ⟨fun _ _ => by kernel_rfl⟩
instance : FAddr Tryz.prog 154 1 1 := ⟨fun _ _ => by kernel_rfl⟩
instance : FAddr Tryz.prog 154 2 6 := ⟨fun _ _ => by kernel_rfl⟩
instance : FAddr Tryz.prog 154 3 23 := ⟨fun _ _ => by kernel_rfl⟩
instance : FAddr Tryz.prog 154 4 24 := ⟨fun _ _ => by kernel_rfl⟩
instance : FAddr Tryz.prog 154 5 25 := ⟨fun _ _ => by kernel_rfl⟩
instance : FAddr Tryz.prog 154 6 26 := ⟨fun _ _ => by kernel_rfl⟩
instance : FAddr Tryz.prog 154 7 27 := ⟨fun _ _ => by kernel_rfl⟩
instance : FAddr Tryz.prog 154 8 28 := ⟨fun _ _ => by kernel_rfl⟩
instance : FAddr Tryz.prog 154 9 29 := ⟨fun _ _ => by kernel_rfl⟩
instance : FAddr Tryz.prog 154 10 32 := ⟨fun _ _ => by kernel_rfl⟩
instance : FAddr Tryz.prog 154 11 35 := ⟨fun _ _ => by kernel_rfl⟩
instance : FAddr Tryz.prog 154 12 46 := ⟨fun _ _ => by kernel_rfl⟩
instance : BuildT Tryz.prog 154 (fun i => #[(0, 1), (1, 5), (6, 17), (23, 1), (24, 1), (25, 1), (26, 1), (27, 1), (28, 1), (29, 3), (32, 3), (35, 11), (46, 3)][i]?) #[Value.pointer none, Value.int IntKind.i64 0, Value.int IntKind.i64 0, Value.int IntKind.i64 0, Value.int IntKind.i64 0, Value.int IntKind.i64 0, Value.int IntKind.u8 0, Value.int IntKind.u8 0, Value.int IntKind.u8 0, Value.int IntKind.u8 0, Value.int IntKind.u8 0, Value.int IntKind.u8 0, Value.int IntKind.u8 0, Value.int IntKind.u8 0, Value.int IntKind.u8 0, Value.int IntKind.u8 0, Value.int IntKind.u8 0, Value.int IntKind.u8 0, Value.int IntKind.u8 0, Value.int IntKind.u8 0, Value.int IntKind.u8 0, Value.int IntKind.u8 0, Value.int IntKind.i64 0, Value.int IntKind.i64 0, Value.int IntKind.i64 0, Value.int IntKind.i64 0, Value.int IntKind.i64 0, Value.pointer none, Value.pointer none, Value.pointer none, Value.bool false, Value.bool false, Value.pointer none, Value.bool false, Value.bool false, Value.int IntKind.i64 0, Value.int IntKind.i64 0, Value.int IntKind.i64 0, Value.int IntKind.i64 0, Value.string { data := #[] }, Value.int IntKind.i64 0, Value.bool false, Value.string { data := #[] }, Value.slice none 0 0, Value.slice none 0 0, Value.bool false, Value.bool false, Value.int IntKind.i64 0, Value.int IntKind.i64 0] := ⟨fun _ => by kernel_rfl⟩
instance : ZeroT Tryz.prog 154 (Value.agg #[Value.pointer none, Value.int IntKind.i64 0, Value.int IntKind.i64 0, Value.int IntKind.i64 0, Value.int IntKind.i64 0, Value.int IntKind.i64 0, Value.int IntKind.u8 0, Value.int IntKind.u8 0, Value.int IntKind.u8 0, Value.int IntKind.u8 0, Value.int IntKind.u8 0, Value.int IntKind.u8 0, Value.int IntKind.u8 0, Value.int IntKind.u8 0, Value.int IntKind.u8 0, Value.int IntKind.u8 0, Value.int IntKind.u8 0, Value.int IntKind.u8 0, Value.int IntKind.u8 0, Value.int IntKind.u8 0, Value.int IntKind.u8 0, Value.int IntKind.u8 0, Value.int IntKind.i64 0, Value.int IntKind.i64 0, Value.int IntKind.i64 0, Value.int IntKind.i64 0, Value.int IntKind.i64 0, Value.pointer none, Value.pointer none, Value.pointer none, Value.bool false, Value.bool false, Value.pointer none, Value.bool false, Value.bool false, Value.int IntKind.i64 0, Value.int IntKind.i64 0, Value.int IntKind.i64 0, Value.int IntKind.i64 0, Value.string { data := #[] }, Value.int IntKind.i64 0, Value.bool false, Value.string { data := #[] }, Value.slice none 0 0, Value.slice none 0 0, Value.bool false, Value.bool false, Value.int IntKind.i64 0, Value.int IntKind.i64 0]) := ⟨Tryz.zeroValue154⟩
instance : AggT Tryz.prog 155 49 := ⟨Tryz.isAgg155, Tryz.sizeOf155⟩
instance : FAddr Tryz.prog 155 0 0 := ⟨fun _ _ => by kernel_rfl⟩
instance : FAddr Tryz.prog 155 1 1 := ⟨fun _ _ => by kernel_rfl⟩
instance : FAddr Tryz.prog 155 2 6 := ⟨fun _ _ => by kernel_rfl⟩
instance : FAddr Tryz.prog 155 3 23 := ⟨fun _ _ => by kernel_rfl⟩
instance : FAddr Tryz.prog 155 4 24 := ⟨fun _ _ => by kernel_rfl⟩
instance : FAddr Tryz.prog 155 5 25 := ⟨fun _ _ => by kernel_rfl⟩
instance : FAddr Tryz.prog 155 6 26 := ⟨fun _ _ => by kernel_rfl⟩
instance : FAddr Tryz.prog 155 7 27 := ⟨fun _ _ => by kernel_rfl⟩
instance : FAddr Tryz.prog 155 8 28 := ⟨fun _ _ => by kernel_rfl⟩
instance : FAddr Tryz.prog 155 9 29 := ⟨fun _ _ => by kernel_rfl⟩
instance : FAddr Tryz.prog 155 10 32 := ⟨fun _ _ => by kernel_rfl⟩
instance : FAddr Tryz.prog 155 11 35 := ⟨fun _ _ => by kernel_rfl⟩
instance : FAddr Tryz.prog 155 12 46 := ⟨fun _ _ => by kernel_rfl⟩
instance : BuildT Tryz.prog 155 (fun i => #[(0, 1), (1, 5), (6, 17), (23, 1), (24, 1), (25, 1), (26, 1), (27, 1), (28, 1), (29, 3), (32, 3), (35, 11), (46, 3)][i]?) #[Value.pointer none, Value.int IntKind.i64 0, Value.int IntKind.i64 0, Value.int IntKind.i64 0, Value.int IntKind.i64 0, Value.int IntKind.i64 0, Value.int IntKind.u8 0, Value.int IntKind.u8 0, Value.int IntKind.u8 0, Value.int IntKind.u8 0, Value.int IntKind.u8 0, Value.int IntKind.u8 0, Value.int IntKind.u8 0, Value.int IntKind.u8 0, Value.int IntKind.u8 0, Value.int IntKind.u8 0, Value.int IntKind.u8 0, Value.int IntKind.u8 0, Value.int IntKind.u8 0, Value.int IntKind.u8 0, Value.int IntKind.u8 0, Value.int IntKind.u8 0, Value.int IntKind.i64 0, Value.int IntKind.i64 0, Value.int IntKind.i64 0, Value.int IntKind.i64 0, Value.int IntKind.i64 0, Value.pointer none, Value.pointer none, Value.pointer none, Value.bool false, Value.bool false, Value.pointer none, Value.bool false, Value.bool false, Value.int IntKind.i64 0, Value.int IntKind.i64 0, Value.int IntKind.i64 0, Value.int IntKind.i64 0, Value.string { data := #[] }, Value.int IntKind.i64 0, Value.bool false, Value.string { data := #[] }, Value.slice none 0 0, Value.slice none 0 0, Value.bool false, Value.bool false, Value.int IntKind.i64 0, Value.int IntKind.i64 0] := ⟨fun _ => by kernel_rfl⟩
instance : ZeroT Tryz.prog 155 (Value.agg #[Value.pointer none, Value.int IntKind.i64 0, Value.int IntKind.i64 0, Value.int IntKind.i64 0, Value.int IntKind.i64 0, Value.int IntKind.i64 0, Value.int IntKind.u8 0, Value.int IntKind.u8 0, Value.int IntKind.u8 0, Value.int IntKind.u8 0, Value.int IntKind.u8 0, Value.int IntKind.u8 0, Value.int IntKind.u8 0, Value.int IntKind.u8 0, Value.int IntKind.u8 0, Value.int IntKind.u8 0, Value.int IntKind.u8 0, Value.int IntKind.u8 0, Value.int IntKind.u8 0, Value.int IntKind.u8 0, Value.int IntKind.u8 0, Value.int IntKind.u8 0, Value.int IntKind.i64 0, Value.int IntKind.i64 0, Value.int IntKind.i64 0, Value.int IntKind.i64 0, Value.int IntKind.i64 0, Value.pointer none, Value.pointer none, Value.pointer none, Value.bool false, Value.bool false, Value.pointer none, Value.bool false, Value.bool false, Value.int IntKind.i64 0, Value.int IntKind.i64 0, Value.int IntKind.i64 0, Value.int IntKind.i64 0, Value.string { data := #[] }, Value.int IntKind.i64 0, Value.bool false, Value.string { data := #[] }, Value.slice none 0 0, Value.slice none 0 0, Value.bool false, Value.bool false, Value.int IntKind.i64 0, Value.int IntKind.i64 0]) := ⟨Tryz.zeroValue155⟩
instance : UnderT Tryz.prog 156 (TypeDesc.array 5 78) := ⟨Tryz.underlying156⟩
instance : AggT Tryz.prog 156 5 := ⟨Tryz.isAgg156, Tryz.sizeOf156⟩
instance : BuildT Tryz.prog 156 (fun i => some (i * 1, 1)) #[Value.nilFunc, Value.nilFunc, Value.nilFunc, Value.nilFunc, Value.nilFunc] := ⟨fun _ => by kernel_rfl⟩
instance : ArrT Tryz.prog 156 5 78 1 := ⟨Tryz.underlying156, Tryz.sizeOf78⟩
instance : ZeroT Tryz.prog 156 (Value.agg #[Value.nilFunc, Value.nilFunc, Value.nilFunc, Value.nilFunc, Value.nilFunc]) := ⟨Tryz.zeroValue156⟩
instance : OneT Tryz.prog 157 := ⟨Tryz.isAgg157, Tryz.sizeOf157⟩
instance : ZeroT Tryz.prog 157 Value.nilFunc := ⟨Tryz.zeroValue157⟩
instance : OneT Tryz.prog 158 := ⟨Tryz.isAgg158, Tryz.sizeOf158⟩
instance : ZeroT Tryz.prog 158 Value.nilFunc := ⟨Tryz.zeroValue158⟩
instance : OneT Tryz.prog 159 := ⟨Tryz.isAgg159, Tryz.sizeOf159⟩
instance : ZeroT Tryz.prog 159 Value.nilFunc := ⟨Tryz.zeroValue159⟩
instance : OneT Tryz.prog 160 := ⟨Tryz.isAgg160, Tryz.sizeOf160⟩
instance : ZeroT Tryz.prog 160 Value.nilFunc := ⟨Tryz.zeroValue160⟩
instance : OneT Tryz.prog 161 := ⟨Tryz.isAgg161, Tryz.sizeOf161⟩
instance : ZeroT Tryz.prog 161 Value.nilFunc := ⟨Tryz.zeroValue161⟩
instance : UnderT Tryz.prog 162 (TypeDesc.pointer 153) := ⟨Tryz.underlying162⟩
instance : OneT Tryz.prog 162 := ⟨Tryz.isAgg162, Tryz.sizeOf162⟩
instance : ZeroT Tryz.prog 162 (Value.pointer none) := ⟨Tryz.zeroValue162⟩
instance : OneT Tryz.prog 163 := ⟨Tryz.isAgg163, Tryz.sizeOf163⟩
instance : ZeroT Tryz.prog 163 Value.nilFunc := ⟨Tryz.zeroValue163⟩
instance : OneT Tryz.prog 164 := ⟨Tryz.isAgg164, Tryz.sizeOf164⟩
instance : ZeroT Tryz.prog 164 Value.nilFunc := ⟨Tryz.zeroValue164⟩
instance : OneT Tryz.prog 165 := ⟨Tryz.isAgg165, Tryz.sizeOf165⟩
instance : ZeroT Tryz.prog 165 Value.nilFunc := ⟨Tryz.zeroValue165⟩
instance : OneT Tryz.prog 166 := ⟨Tryz.isAgg166, Tryz.sizeOf166⟩
instance : ZeroT Tryz.prog 166 Value.nilFunc := ⟨Tryz.zeroValue166⟩
instance : OneT Tryz.prog 167 := ⟨Tryz.isAgg167, Tryz.sizeOf167⟩
instance : ZeroT Tryz.prog 167 Value.nilFunc := ⟨Tryz.zeroValue167⟩
instance : OneT Tryz.prog 168 := ⟨Tryz.isAgg168, Tryz.sizeOf168⟩
instance : ZeroT Tryz.prog 168 Value.nilFunc := ⟨Tryz.zeroValue168⟩
instance : UnderT Tryz.prog 169 (TypeDesc.array 5 3) := ⟨Tryz.underlying169⟩
instance : AggT Tryz.prog 169 5 := ⟨Tryz.isAgg169, Tryz.sizeOf169⟩
instance : BuildT Tryz.prog 169 (fun i => some (i * 1, 1)) #[Value.int IntKind.i64 0, Value.int IntKind.i64 0, Value.int IntKind.i64 0, Value.int IntKind.i64 0, Value.int IntKind.i64 0] := ⟨fun _ => by kernel_rfl⟩
instance : ArrT Tryz.prog 169 5 3 1 := ⟨Tryz.underlying169, Tryz.sizeOf3⟩
instance : ZeroT Tryz.prog 169 (Value.agg #[Value.int IntKind.i64 0, Value.int IntKind.i64 0, Value.int IntKind.i64 0, Value.int IntKind.i64 0, Value.int IntKind.i64 0]) := ⟨Tryz.zeroValue169⟩
instance : OneT Tryz.prog 170 := ⟨Tryz.isAgg170, Tryz.sizeOf170⟩
instance : ZeroT Tryz.prog 170 Value.nilFunc := ⟨Tryz.zeroValue170⟩
instance : AggT Tryz.prog 171 3 := ⟨Tryz.isAgg171, Tryz.sizeOf171⟩
instance : FAddr Tryz.prog 171 0 0 := ⟨fun _ _ => by kernel_rfl⟩
instance : FAddr Tryz.prog 171 1 1 := ⟨fun _ _ => by kernel_rfl⟩
instance : FAddr Tryz.prog 171 2 2 := ⟨fun _ _ => by kernel_rfl⟩
instance : BuildT Tryz.prog 171 (fun i => #[(0, 1), (1, 1), (2, 1)][i]?) #[Value.slice none 0 0, Value.int IntKind.i64 0, Value.bool false] := ⟨fun _ => by kernel_rfl⟩
instance : ZeroT Tryz.prog 171 (Value.agg #[Value.slice none 0 0, Value.int IntKind.i64 0, Value.bool false]) := ⟨Tryz.zeroValue171⟩
instance : AggT Tryz.prog 172 3 := ⟨Tryz.isAgg172, Tryz.sizeOf172⟩
instance : FAddr Tryz.prog 172 0 0 := ⟨fun _ _ => by kernel_rfl⟩
instance : FAddr Tryz.prog 172 1 1 := ⟨fun _ _ => by kernel_rfl⟩
instance : FAddr Tryz.prog 172 2 2 := ⟨fun _ _ => by kernel_rfl⟩
instance : BuildT Tryz.prog 172 (fun i => #[(0, 1), (1, 1), (2, 1)][i]?) #[Value.slice none 0 0, Value.int IntKind.i64 0, Value.bool false] := ⟨fun _ => by kernel_rfl⟩
instance : ZeroT Tryz.prog 172 (Value.agg #[Value.slice none 0 0, Value.int IntKind.i64 0, Value.bool false]) := ⟨Tryz.zeroValue172⟩
instance : OneT Tryz.prog 173 := ⟨Tryz.isAgg173, Tryz.sizeOf173⟩
instance : ZeroT Tryz.prog 173 Value.nilFunc := ⟨Tryz.zeroValue173⟩
instance : UnderT Tryz.prog 174 (TypeDesc.array 12 5) := ⟨Tryz.underlying174⟩
instance : AggT Tryz.prog 174 12 := ⟨Tryz.isAgg174, Tryz.sizeOf174⟩
instance : BuildT Tryz.prog 174 (fun i => some (i * 1, 1)) #[Value.int IntKind.u8 0, Value.int IntKind.u8 0, Value.int IntKind.u8 0, Value.int IntKind.u8 0, Value.int IntKind.u8 0, Value.int IntKind.u8 0, Value.int IntKind.u8 0, Value.int IntKind.u8 0, Value.int IntKind.u8 0, Value.int IntKind.u8 0, Value.int IntKind.u8 0, Value.int IntKind.u8 0] := ⟨fun _ => by kernel_rfl⟩
instance : ArrT Tryz.prog 174 12 5 1 := ⟨Tryz.underlying174, Tryz.sizeOf5⟩
instance : ZeroT Tryz.prog 174 (Value.agg #[Value.int IntKind.u8 0, Value.int IntKind.u8 0, Value.int IntKind.u8 0, Value.int IntKind.u8 0, Value.int IntKind.u8 0, Value.int IntKind.u8 0, Value.int IntKind.u8 0, Value.int IntKind.u8 0, Value.int IntKind.u8 0, Value.int IntKind.u8 0, Value.int IntKind.u8 0, Value.int IntKind.u8 0]) := ⟨Tryz.zeroValue174⟩
instance : UnderT Tryz.prog 175 (TypeDesc.pointer 179) := ⟨Tryz.underlying175⟩
instance : OneT Tryz.prog 175 := ⟨Tryz.isAgg175, Tryz.sizeOf175⟩
instance : ZeroT Tryz.prog 175 (Value.pointer none) := ⟨Tryz.zeroValue175⟩
instance : OneT Tryz.prog 176 := ⟨Tryz.isAgg176, Tryz.sizeOf176⟩
instance : ZeroT Tryz.prog 176 Value.nilFunc := ⟨Tryz.zeroValue176⟩
instance : UnderT Tryz.prog 177 (TypeDesc.map 231 3) := ⟨Tryz.underlying177⟩
instance : OneT Tryz.prog 177 := ⟨Tryz.isAgg177, Tryz.sizeOf177⟩
instance : ZeroT Tryz.prog 177 (Value.map none) := ⟨Tryz.zeroValue177⟩
instance : AggT Tryz.prog 178 2 := ⟨Tryz.isAgg178, Tryz.sizeOf178⟩
instance : FAddr Tryz.prog 178 0 0 := ⟨fun _ _ => by kernel_rfl⟩
instance : FAddr Tryz.prog 178 1 1 := ⟨fun _ _ => by kernel_rfl⟩
instance : BuildT Tryz.prog 178 (fun i => #[(0, 1), (1, 1)][i]?) #[Value.pointer none, Value.map none] := ⟨fun _ => by kernel_rfl⟩
instance : ZeroT Tryz.prog 178 (Value.agg #[Value.pointer none, Value.map none]) := ⟨Tryz.zeroValue178⟩
instance : AggT Tryz.prog 179 2 := ⟨Tryz.isAgg179, Tryz.sizeOf179⟩
instance : FAddr Tryz.prog 179 0 0 := ⟨fun _ _ => by kernel_rfl⟩
instance : FAddr Tryz.prog 179 1 1 := ⟨fun _ _ => by kernel_rfl⟩
instance : BuildT Tryz.prog 179 (fun i => #[(0, 1), (1, 1)][i]?) #[Value.pointer none, Value.map none] := ⟨fun _ => by kernel_rfl⟩
instance : ZeroT Tryz.prog 179 (Value.agg #[Value.pointer none, Value.map none]) := ⟨Tryz.zeroValue179⟩
instance : OneT Tryz.prog 180 := ⟨Tryz.isAgg180, Tryz.sizeOf180⟩
instance : ZeroT Tryz.prog 180 Value.nilFunc := ⟨Tryz.zeroValue180⟩
instance : OneT Tryz.prog 181 := ⟨Tryz.isAgg181, Tryz.sizeOf181⟩
instance : ZeroT Tryz.prog 181 Value.nilFunc := ⟨Tryz.zeroValue181⟩
instance : OneT Tryz.prog 182 := ⟨Tryz.isAgg182, Tryz.sizeOf182⟩
instance : ZeroT Tryz.prog 182 Value.nilFunc := ⟨Tryz.zeroValue182⟩
instance : UnderT Tryz.prog 183 (TypeDesc.map 33 3) := ⟨Tryz.underlying183⟩
instance : OneT Tryz.prog 183 := ⟨Tryz.isAgg183, Tryz.sizeOf183⟩
instance : ZeroT Tryz.prog 183 (Value.map none) := ⟨Tryz.zeroValue183⟩
instance : AggT Tryz.prog 184 1 := ⟨Tryz.isAgg184, Tryz.sizeOf184⟩
instance : FAddr Tryz.prog 184 0 0 := ⟨fun _ _ => by kernel_rfl⟩
instance : BuildT Tryz.prog 184 (fun i => #[(0, 1)][i]?) #[Value.map none] := ⟨fun _ => by kernel_rfl⟩
instance : ZeroT Tryz.prog 184 (Value.agg #[Value.map none]) := ⟨Tryz.zeroValue184⟩
instance : AggT Tryz.prog 185 1 := ⟨Tryz.isAgg185, Tryz.sizeOf185⟩
instance : FAddr Tryz.prog 185 0 0 := ⟨fun _ _ => by kernel_rfl⟩
instance : BuildT Tryz.prog 185 (fun i => #[(0, 1)][i]?) #[Value.map none] := ⟨fun _ => by kernel_rfl⟩
instance : ZeroT Tryz.prog 185 (Value.agg #[Value.map none]) := ⟨Tryz.zeroValue185⟩
instance : OneT Tryz.prog 186 := ⟨Tryz.isAgg186, Tryz.sizeOf186⟩
instance : ZeroT Tryz.prog 186 Value.nilFunc := ⟨Tryz.zeroValue186⟩
instance : OneT Tryz.prog 187 := ⟨Tryz.isAgg187, Tryz.sizeOf187⟩
instance : ZeroT Tryz.prog 187 Value.nilFunc := ⟨Tryz.zeroValue187⟩
instance : OneT Tryz.prog 188 := ⟨Tryz.isAgg188, Tryz.sizeOf188⟩
instance : ZeroT Tryz.prog 188 Value.nilFunc := ⟨Tryz.zeroValue188⟩
instance : OneT Tryz.prog 189 := ⟨Tryz.isAgg189, Tryz.sizeOf189⟩
instance : ZeroT Tryz.prog 189 Value.nilFunc := ⟨Tryz.zeroValue189⟩
instance : UnderT Tryz.prog 190 (TypeDesc.map 66 3) := ⟨Tryz.underlying190⟩
instance : OneT Tryz.prog 190 := ⟨Tryz.isAgg190, Tryz.sizeOf190⟩
instance : ZeroT Tryz.prog 190 (Value.map none) := ⟨Tryz.zeroValue190⟩
instance : UnderT Tryz.prog 191 (TypeDesc.map 9 238) := ⟨Tryz.underlying191⟩
instance : OneT Tryz.prog 191 := ⟨Tryz.isAgg191, Tryz.sizeOf191⟩
instance : ZeroT Tryz.prog 191 (Value.map none) := ⟨Tryz.zeroValue191⟩
instance : AggT Tryz.prog 192 3 := ⟨Tryz.isAgg192, Tryz.sizeOf192⟩
instance : FAddr Tryz.prog 192 0 0 := ⟨fun _ _ => by kernel_rfl⟩
instance : FAddr Tryz.prog 192 1 1 := ⟨fun _ _ => by kernel_rfl⟩
instance : FAddr Tryz.prog 192 2 2 := ⟨fun _ _ => by kernel_rfl⟩
instance : BuildT Tryz.prog 192 (fun i => #[(0, 1), (1, 1), (2, 1)][i]?) #[Value.slice none 0 0, Value.slice none 0 0, Value.map none] := ⟨fun _ => by kernel_rfl⟩
instance : ZeroT Tryz.prog 192 (Value.agg #[Value.slice none 0 0, Value.slice none 0 0, Value.map none]) := ⟨Tryz.zeroValue192⟩
instance : AggT Tryz.prog 193 3 := ⟨Tryz.isAgg193, Tryz.sizeOf193⟩
instance : FAddr Tryz.prog 193 0 0 := ⟨fun _ _ => by kernel_rfl⟩
instance : FAddr Tryz.prog 193 1 1 := ⟨fun _ _ => by kernel_rfl⟩
instance : FAddr Tryz.prog 193 2 2 := ⟨fun _ _ => by kernel_rfl⟩
instance : BuildT Tryz.prog 193 (fun i => #[(0, 1), (1, 1), (2, 1)][i]?) #[Value.slice none 0 0, Value.slice none 0 0, Value.map none] := ⟨fun _ => by kernel_rfl⟩
instance : ZeroT Tryz.prog 193 (Value.agg #[Value.slice none 0 0, Value.slice none 0 0, Value.map none]) := ⟨Tryz.zeroValue193⟩
instance : AggT Tryz.prog 194 6 := ⟨Tryz.isAgg194, Tryz.sizeOf194⟩
instance : FAddr Tryz.prog 194 0 0 := ⟨fun _ _ => by kernel_rfl⟩
instance : FAddr Tryz.prog 194 1 1 := ⟨fun _ _ => by kernel_rfl⟩
instance : FAddr Tryz.prog 194 2 2 := ⟨fun _ _ => by kernel_rfl⟩
instance : FAddr Tryz.prog 194 3 5 := ⟨fun _ _ => by kernel_rfl⟩
instance : BuildT Tryz.prog 194 (fun i => #[(0, 1), (1, 1), (2, 3), (5, 1)][i]?) #[Value.slice none 0 0, Value.slice none 0 0, Value.slice none 0 0, Value.slice none 0 0, Value.map none, Value.map none] := ⟨fun _ => by kernel_rfl⟩
instance : ZeroT Tryz.prog 194 (Value.agg #[Value.slice none 0 0, Value.slice none 0 0, Value.slice none 0 0, Value.slice none 0 0, Value.map none, Value.map none]) := ⟨Tryz.zeroValue194⟩
instance : AggT Tryz.prog 195 6 := ⟨Tryz.isAgg195, Tryz.sizeOf195⟩
instance : FAddr Tryz.prog 195 0 0 := ⟨fun _ _ => by kernel_rfl⟩
instance : FAddr Tryz.prog 195 1 1 := ⟨fun _ _ => by kernel_rfl⟩
instance : FAddr Tryz.prog 195 2 2 := ⟨fun _ _ => by kernel_rfl⟩
instance : FAddr Tryz.prog 195 3 5 := ⟨fun _ _ => by kernel_rfl⟩
instance : BuildT Tryz.prog 195 (fun i => #[(0, 1), (1, 1), (2, 3), (5, 1)][i]?) #[Value.slice none 0 0, Value.slice none 0 0, Value.slice none 0 0, Value.slice none 0 0, Value.map none, Value.map none] := ⟨fun _ => by kernel_rfl⟩
instance : ZeroT Tryz.prog 195 (Value.agg #[Value.slice none 0 0, Value.slice none 0 0, Value.slice none 0 0, Value.slice none 0 0, Value.map none, Value.map none]) := ⟨Tryz.zeroValue195⟩
instance : OneT Tryz.prog 197 := ⟨Tryz.isAgg197, Tryz.sizeOf197⟩
instance : ZeroT Tryz.prog 197 Value.nilFunc := ⟨Tryz.zeroValue197⟩
instance : OneT Tryz.prog 198 := ⟨Tryz.isAgg198, Tryz.sizeOf198⟩
instance : ZeroT Tryz.prog 198 Value.nilFunc := ⟨Tryz.zeroValue198⟩
instance : OneT Tryz.prog 199 := ⟨Tryz.isAgg199, Tryz.sizeOf199⟩
instance : ZeroT Tryz.prog 199 Value.nilFunc := ⟨Tryz.zeroValue199⟩
instance : OneT Tryz.prog 200 := ⟨Tryz.isAgg200, Tryz.sizeOf200⟩
instance : ZeroT Tryz.prog 200 Value.nilFunc := ⟨Tryz.zeroValue200⟩
instance : UnderT Tryz.prog 201 (TypeDesc.slice 49) := ⟨Tryz.underlying201⟩
instance : OneT Tryz.prog 201 := ⟨Tryz.isAgg201, Tryz.sizeOf201⟩
instance : ZeroT Tryz.prog 201 (Value.slice none 0 0) := ⟨Tryz.zeroValue201⟩
instance : SliceT Tryz.prog 201 49 1 24 (Value.slice none 0 0) := ⟨Tryz.underlying201, ⟨Tryz.t49, by kernel_rfl, rfl, rfl, rfl⟩, rfl⟩
instance : OneT Tryz.prog 202 := ⟨Tryz.isAgg202, Tryz.sizeOf202⟩
instance : ZeroT Tryz.prog 202 Value.nilFunc := ⟨Tryz.zeroValue202⟩
instance : OneT Tryz.prog 203 := ⟨Tryz.isAgg203, Tryz.sizeOf203⟩
instance : ZeroT Tryz.prog 203 Value.nilFunc := ⟨Tryz.zeroValue203⟩
instance : OneT Tryz.prog 204 := ⟨Tryz.isAgg204, Tryz.sizeOf204⟩
instance : ZeroT Tryz.prog 204 Value.nilFunc := ⟨Tryz.zeroValue204⟩
instance : OneT Tryz.prog 205 := ⟨Tryz.isAgg205, Tryz.sizeOf205⟩
instance : ZeroT Tryz.prog 205 Value.nilFunc := ⟨Tryz.zeroValue205⟩
instance : UnderT Tryz.prog 206 (TypeDesc.interface #[("Take", 284)]) := ⟨Tryz.underlying206⟩
instance : OneT Tryz.prog 206 := ⟨Tryz.isAgg206, Tryz.sizeOf206⟩
instance : ZeroT Tryz.prog 206 Value.nilIface := ⟨Tryz.zeroValue206⟩
instance : UnderT Tryz.prog 207 (TypeDesc.interface #[("Take", 284)]) := ⟨Tryz.underlying207⟩
instance : OneT Tryz.prog 207 := ⟨Tryz.isAgg207, Tryz.sizeOf207⟩
instance : ZeroT Tryz.prog 207 Value.nilIface := ⟨Tryz.zeroValue207⟩
instance : AggT Tryz.prog 208 13 := ⟨Tryz.isAgg208, Tryz.sizeOf208⟩
instance : FAddr Tryz.prog 208 0 0 := ⟨fun _ _ => by kernel_rfl⟩
instance : FAddr Tryz.prog 208 1 1 := ⟨fun _ _ => by kernel_rfl⟩
instance : FAddr Tryz.prog 208 2 2 := ⟨fun _ _ => by kernel_rfl⟩
instance : BuildT Tryz.prog 208 (fun i => #[(0, 1), (1, 1), (2, 11)][i]?) #[Value.int IntKind.i64 0, Value.nilIface, Value.int IntKind.i64 0, Value.int IntKind.i64 0, Value.int IntKind.i64 0, Value.int IntKind.i64 0, Value.string { data := #[] }, Value.int IntKind.i64 0, Value.bool false, Value.string { data := #[] }, Value.slice none 0 0, Value.slice none 0 0, Value.bool false] := ⟨fun _ => by kernel_rfl⟩
instance : ZeroT Tryz.prog 208 (Value.agg #[Value.int IntKind.i64 0, Value.nilIface, Value.int IntKind.i64 0, Value.int IntKind.i64 0, Value.int IntKind.i64 0, Value.int IntKind.i64 0, Value.string { data := #[] }, Value.int IntKind.i64 0, Value.bool false, Value.string { data := #[] }, Value.slice none 0 0, Value.slice none 0 0, Value.bool false]) := ⟨Tryz.zeroValue208⟩
instance : AggT Tryz.prog 209 13 := ⟨Tryz.isAgg209, Tryz.sizeOf209⟩
instance : FAddr Tryz.prog 209 0 0 := ⟨fun _ _ => by kernel_rfl⟩
instance : FAddr Tryz.prog 209 1 1 := ⟨fun _ _ => by kernel_rfl⟩
instance : FAddr Tryz.prog 209 2 2 := ⟨fun _ _ => by kernel_rfl⟩
instance : BuildT Tryz.prog 209 (fun i => #[(0, 1), (1, 1), (2, 11)][i]?) #[Value.int IntKind.i64 0, Value.nilIface, Value.int IntKind.i64 0, Value.int IntKind.i64 0, Value.int IntKind.i64 0, Value.int IntKind.i64 0, Value.string { data := #[] }, Value.int IntKind.i64 0, Value.bool false, Value.string { data := #[] }, Value.slice none 0 0, Value.slice none 0 0, Value.bool false] := ⟨fun _ => by kernel_rfl⟩
instance : ZeroT Tryz.prog 209 (Value.agg #[Value.int IntKind.i64 0, Value.nilIface, Value.int IntKind.i64 0, Value.int IntKind.i64 0, Value.int IntKind.i64 0, Value.int IntKind.i64 0, Value.string { data := #[] }, Value.int IntKind.i64 0, Value.bool false, Value.string { data := #[] }, Value.slice none 0 0, Value.slice none 0 0, Value.bool false]) := ⟨Tryz.zeroValue209⟩
instance : AggT Tryz.prog 210 4 := ⟨Tryz.isAgg210, Tryz.sizeOf210⟩
instance : FAddr Tryz.prog 210 0 0 := ⟨fun _ _ => by kernel_rfl⟩
instance : FAddr Tryz.prog 210 1 1 := ⟨fun _ _ => by kernel_rfl⟩
instance : FAddr Tryz.prog 210 2 2 := ⟨fun _ _ => by kernel_rfl⟩
instance : FAddr Tryz.prog 210 3 3 := ⟨fun _ _ => by kernel_rfl⟩
instance : BuildT Tryz.prog 210 (fun i => #[(0, 1), (1, 1), (2, 1), (3, 1)][i]?) #[Value.slice none 0 0, Value.int IntKind.i64 0, Value.int IntKind.i64 0, Value.bool false] := ⟨fun _ => by kernel_rfl⟩
instance : ZeroT Tryz.prog 210 (Value.agg #[Value.slice none 0 0, Value.int IntKind.i64 0, Value.int IntKind.i64 0, Value.bool false]) := ⟨Tryz.zeroValue210⟩
instance : AggT Tryz.prog 211 4 := ⟨Tryz.isAgg211, Tryz.sizeOf211⟩
instance : FAddr Tryz.prog 211 0 0 := ⟨fun _ _ => by kernel_rfl⟩
instance : FAddr Tryz.prog 211 1 1 := ⟨fun _ _ => by kernel_rfl⟩
instance : FAddr Tryz.prog 211 2 2 := ⟨fun _ _ => by kernel_rfl⟩
instance : FAddr Tryz.prog 211 3 3 := ⟨fun _ _ => by kernel_rfl⟩
instance : BuildT Tryz.prog 211 (fun i => #[(0, 1), (1, 1), (2, 1), (3, 1)][i]?) #[Value.slice none 0 0, Value.int IntKind.i64 0, Value.int IntKind.i64 0, Value.bool false] := ⟨fun _ => by kernel_rfl⟩
instance : ZeroT Tryz.prog 211 (Value.agg #[Value.slice none 0 0, Value.int IntKind.i64 0, Value.int IntKind.i64 0, Value.bool false]) := ⟨Tryz.zeroValue211⟩
instance : AggT Tryz.prog 212 3 := ⟨Tryz.isAgg212, Tryz.sizeOf212⟩
instance : FAddr Tryz.prog 212 0 0 := ⟨fun _ _ => by kernel_rfl⟩
instance : FAddr Tryz.prog 212 1 1 := ⟨fun _ _ => by kernel_rfl⟩
instance : FAddr Tryz.prog 212 2 2 := ⟨fun _ _ => by kernel_rfl⟩
instance : BuildT Tryz.prog 212 (fun i => #[(0, 1), (1, 1), (2, 1)][i]?) #[Value.slice none 0 0, Value.int IntKind.i64 0, Value.int IntKind.i64 0] := ⟨fun _ => by kernel_rfl⟩
instance : ZeroT Tryz.prog 212 (Value.agg #[Value.slice none 0 0, Value.int IntKind.i64 0, Value.int IntKind.i64 0]) := ⟨Tryz.zeroValue212⟩
instance : AggT Tryz.prog 213 3 := ⟨Tryz.isAgg213, Tryz.sizeOf213⟩
instance : FAddr Tryz.prog 213 0 0 := ⟨fun _ _ => by kernel_rfl⟩
instance : FAddr Tryz.prog 213 1 1 := ⟨fun _ _ => by kernel_rfl⟩
instance : FAddr Tryz.prog 213 2 2 := ⟨fun _ _ => by kernel_rfl⟩
instance : BuildT Tryz.prog 213 (fun i => #[(0, 1), (1, 1), (2, 1)][i]?) #[Value.slice none 0 0, Value.int IntKind.i64 0, Value.int IntKind.i64 0] := ⟨fun _ => by kernel_rfl⟩
instance : ZeroT Tryz.prog 213 (Value.agg #[Value.slice none 0 0, Value.int IntKind.i64 0, Value.int IntKind.i64 0]) := ⟨Tryz.zeroValue213⟩
instance : OneT Tryz.prog 215 := ⟨Tryz.isAgg215, Tryz.sizeOf215⟩
instance : ZeroT Tryz.prog 215 Value.nilFunc := ⟨Tryz.zeroValue215⟩
instance : OneT Tryz.prog 216 := ⟨Tryz.isAgg216, Tryz.sizeOf216⟩
instance : ZeroT Tryz.prog 216 Value.nilFunc := ⟨Tryz.zeroValue216⟩
instance : OneT Tryz.prog 217 := ⟨Tryz.isAgg217, Tryz.sizeOf217⟩
instance : ZeroT Tryz.prog 217 Value.nilFunc := ⟨Tryz.zeroValue217⟩
instance : OneT Tryz.prog 218 := ⟨Tryz.isAgg218, Tryz.sizeOf218⟩
instance : ZeroT Tryz.prog 218 Value.nilFunc := ⟨Tryz.zeroValue218⟩
instance : OneT Tryz.prog 219 := ⟨Tryz.isAgg219, Tryz.sizeOf219⟩
instance : ZeroT Tryz.prog 219 Value.nilFunc := ⟨Tryz.zeroValue219⟩
instance : OneT Tryz.prog 220 := ⟨Tryz.isAgg220, Tryz.sizeOf220⟩
instance : ZeroT Tryz.prog 220 Value.nilFunc := ⟨Tryz.zeroValue220⟩
instance : OneT Tryz.prog 222 := ⟨Tryz.isAgg222, Tryz.sizeOf222⟩
instance : ZeroT Tryz.prog 222 Value.nilFunc := ⟨Tryz.zeroValue222⟩
instance : OneT Tryz.prog 223 := ⟨Tryz.isAgg223, Tryz.sizeOf223⟩
instance : ZeroT Tryz.prog 223 Value.nilFunc := ⟨Tryz.zeroValue223⟩
instance : OneT Tryz.prog 224 := ⟨Tryz.isAgg224, Tryz.sizeOf224⟩
instance : ZeroT Tryz.prog 224 Value.nilFunc := ⟨Tryz.zeroValue224⟩
instance : OneT Tryz.prog 226 := ⟨Tryz.isAgg226, Tryz.sizeOf226⟩
instance : ZeroT Tryz.prog 226 Value.nilFunc := ⟨Tryz.zeroValue226⟩
instance : OneT Tryz.prog 227 := ⟨Tryz.isAgg227, Tryz.sizeOf227⟩
instance : ZeroT Tryz.prog 227 Value.nilFunc := ⟨Tryz.zeroValue227⟩
instance : OneT Tryz.prog 229 := ⟨Tryz.isAgg229, Tryz.sizeOf229⟩
instance : ZeroT Tryz.prog 229 Value.nilFunc := ⟨Tryz.zeroValue229⟩
instance : AggT Tryz.prog 230 18 := ⟨Tryz.isAgg230, Tryz.sizeOf230⟩
instance : FAddr Tryz.prog 230 0 0 := ⟨fun _ _ => by kernel_rfl⟩
instance : FAddr Tryz.prog 230 1 1 := ⟨fun _ _ => by kernel_rfl⟩
instance : BuildT Tryz.prog 230 (fun i => #[(0, 1), (1, 17)][i]?) #[Value.string { data := #[] }, Value.int IntKind.u8 0, Value.int IntKind.u8 0, Value.int IntKind.u8 0, Value.int IntKind.u8 0, Value.int IntKind.u8 0, Value.int IntKind.u8 0, Value.int IntKind.u8 0, Value.int IntKind.u8 0, Value.int IntKind.u8 0, Value.int IntKind.u8 0, Value.int IntKind.u8 0, Value.int IntKind.u8 0, Value.int IntKind.u8 0, Value.int IntKind.u8 0, Value.int IntKind.u8 0, Value.int IntKind.u8 0, Value.int IntKind.i64 0] := ⟨fun _ => by kernel_rfl⟩
instance : ZeroT Tryz.prog 230 (Value.agg #[Value.string { data := #[] }, Value.int IntKind.u8 0, Value.int IntKind.u8 0, Value.int IntKind.u8 0, Value.int IntKind.u8 0, Value.int IntKind.u8 0, Value.int IntKind.u8 0, Value.int IntKind.u8 0, Value.int IntKind.u8 0, Value.int IntKind.u8 0, Value.int IntKind.u8 0, Value.int IntKind.u8 0, Value.int IntKind.u8 0, Value.int IntKind.u8 0, Value.int IntKind.u8 0, Value.int IntKind.u8 0, Value.int IntKind.u8 0, Value.int IntKind.i64 0]) := ⟨Tryz.zeroValue230⟩
instance : AggT Tryz.prog 231 18 := ⟨Tryz.isAgg231, Tryz.sizeOf231⟩
instance : FAddr Tryz.prog 231 0 0 := ⟨fun _ _ => by kernel_rfl⟩
instance : FAddr Tryz.prog 231 1 1 := ⟨fun _ _ => by kernel_rfl⟩
instance : BuildT Tryz.prog 231 (fun i => #[(0, 1), (1, 17)][i]?) #[Value.string { data := #[] }, Value.int IntKind.u8 0, Value.int IntKind.u8 0, Value.int IntKind.u8 0, Value.int IntKind.u8 0, Value.int IntKind.u8 0, Value.int IntKind.u8 0, Value.int IntKind.u8 0, Value.int IntKind.u8 0, Value.int IntKind.u8 0, Value.int IntKind.u8 0, Value.int IntKind.u8 0, Value.int IntKind.u8 0, Value.int IntKind.u8 0, Value.int IntKind.u8 0, Value.int IntKind.u8 0, Value.int IntKind.u8 0, Value.int IntKind.i64 0] := ⟨fun _ => by kernel_rfl⟩
instance : ZeroT Tryz.prog 231 (Value.agg #[Value.string { data := #[] }, Value.int IntKind.u8 0, Value.int IntKind.u8 0, Value.int IntKind.u8 0, Value.int IntKind.u8 0, Value.int IntKind.u8 0, Value.int IntKind.u8 0, Value.int IntKind.u8 0, Value.int IntKind.u8 0, Value.int IntKind.u8 0, Value.int IntKind.u8 0, Value.int IntKind.u8 0, Value.int IntKind.u8 0, Value.int IntKind.u8 0, Value.int IntKind.u8 0, Value.int IntKind.u8 0, Value.int IntKind.u8 0, Value.int IntKind.i64 0]) := ⟨Tryz.zeroValue231⟩
instance : UnderT Tryz.prog 232 (TypeDesc.int IntKind.u64) := ⟨Tryz.underlying232⟩
instance : OneT Tryz.prog 232 := ⟨Tryz.isAgg232, Tryz.sizeOf232⟩
instance : ZeroT Tryz.prog 232 (Value.int IntKind.u64 0) := ⟨Tryz.zeroValue232⟩
instance : OneT Tryz.prog 233 := ⟨Tryz.isAgg233, Tryz.sizeOf233⟩
instance : ZeroT Tryz.prog 233 Value.nilFunc := ⟨Tryz.zeroValue233⟩
instance : OneT Tryz.prog 234 := ⟨Tryz.isAgg234, Tryz.sizeOf234⟩
instance : ZeroT Tryz.prog 234 Value.nilFunc := ⟨Tryz.zeroValue234⟩
instance : OneT Tryz.prog 235 := ⟨Tryz.isAgg235, Tryz.sizeOf235⟩
instance : ZeroT Tryz.prog 235 Value.nilFunc := ⟨Tryz.zeroValue235⟩
instance : OneT Tryz.prog 236 := ⟨Tryz.isAgg236, Tryz.sizeOf236⟩
instance : ZeroT Tryz.prog 236 Value.nilFunc := ⟨Tryz.zeroValue236⟩
instance : OneT Tryz.prog 237 := ⟨Tryz.isAgg237, Tryz.sizeOf237⟩
instance : ZeroT Tryz.prog 237 Value.nilFunc := ⟨Tryz.zeroValue237⟩
instance : UnderT Tryz.prog 238 (TypeDesc.pointer 193) := ⟨Tryz.underlying238⟩
instance : OneT Tryz.prog 238 := ⟨Tryz.isAgg238, Tryz.sizeOf238⟩
instance : ZeroT Tryz.prog 238 (Value.pointer none) := ⟨Tryz.zeroValue238⟩
instance : OneT Tryz.prog 240 := ⟨Tryz.isAgg240, Tryz.sizeOf240⟩
instance : ZeroT Tryz.prog 240 Value.nilFunc := ⟨Tryz.zeroValue240⟩
instance : OneT Tryz.prog 241 := ⟨Tryz.isAgg241, Tryz.sizeOf241⟩
instance : ZeroT Tryz.prog 241 Value.nilFunc := ⟨Tryz.zeroValue241⟩
instance : OneT Tryz.prog 243 := ⟨Tryz.isAgg243, Tryz.sizeOf243⟩
instance : ZeroT Tryz.prog 243 Value.nilFunc := ⟨Tryz.zeroValue243⟩
instance : OneT Tryz.prog 244 := ⟨Tryz.isAgg244, Tryz.sizeOf244⟩
instance : ZeroT Tryz.prog 244 Value.nilFunc := ⟨Tryz.zeroValue244⟩
instance : OneT Tryz.prog 245 := ⟨Tryz.isAgg245, Tryz.sizeOf245⟩
instance : ZeroT Tryz.prog 245 Value.nilFunc := ⟨Tryz.zeroValue245⟩
instance : OneT Tryz.prog 246 := ⟨Tryz.isAgg246, Tryz.sizeOf246⟩
instance : ZeroT Tryz.prog 246 Value.nilFunc := ⟨Tryz.zeroValue246⟩
instance : OneT Tryz.prog 247 := ⟨Tryz.isAgg247, Tryz.sizeOf247⟩
instance : ZeroT Tryz.prog 247 Value.nilFunc := ⟨Tryz.zeroValue247⟩
instance : UnderT Tryz.prog 248 (TypeDesc.int IntKind.u64) := ⟨Tryz.underlying248⟩
instance : OneT Tryz.prog 248 := ⟨Tryz.isAgg248, Tryz.sizeOf248⟩
instance : ZeroT Tryz.prog 248 (Value.int IntKind.u64 0) := ⟨Tryz.zeroValue248⟩
instance : UnderT Tryz.prog 249 (TypeDesc.pointer 251) := ⟨Tryz.underlying249⟩
instance : OneT Tryz.prog 249 := ⟨Tryz.isAgg249, Tryz.sizeOf249⟩
instance : ZeroT Tryz.prog 249 (Value.pointer none) := ⟨Tryz.zeroValue249⟩
instance : AggT Tryz.prog 250 2 := ⟨Tryz.isAgg250, Tryz.sizeOf250⟩
instance : FAddr Tryz.prog 250 0 0 := ⟨fun _ _ => by kernel_rfl⟩
instance : FAddr Tryz.prog 250 1 1 := ⟨fun _ _ => by kernel_rfl⟩
instance : BuildT Tryz.prog 250 (fun i => #[(0, 1), (1, 1)][i]?) #[Value.pointer none, Value.slice none 0 0] := ⟨fun _ => by kernel_rfl⟩
instance : ZeroT Tryz.prog 250 (Value.agg #[Value.pointer none, Value.slice none 0 0]) := ⟨Tryz.zeroValue250⟩
instance : AggT Tryz.prog 251 2 := ⟨Tryz.isAgg251, Tryz.sizeOf251⟩
instance : FAddr Tryz.prog 251 0 0 := ⟨fun _ _ => by kernel_rfl⟩
instance : FAddr Tryz.prog 251 1 1 := ⟨fun _ _ => by kernel_rfl⟩
instance : BuildT Tryz.prog 251 (fun i => #[(0, 1), (1, 1)][i]?) #[Value.pointer none, Value.slice none 0 0] := ⟨fun _ => by kernel_rfl⟩
instance : ZeroT Tryz.prog 251 (Value.agg #[Value.pointer none, Value.slice none 0 0]) := ⟨Tryz.zeroValue251⟩
instance : UnderT Tryz.prog 252 (TypeDesc.interface #[("Error", 256)]) := ⟨Tryz.underlying252⟩
instance : OneT Tryz.prog 252 := ⟨Tryz.isAgg252, Tryz.sizeOf252⟩
instance : ZeroT Tryz.prog 252 Value.nilIface := ⟨Tryz.zeroValue252⟩
instance : UnderT Tryz.prog 253 (TypeDesc.interface #[("Error", 256)]) := ⟨Tryz.underlying253⟩
instance : OneT Tryz.prog 253 := ⟨Tryz.isAgg253, Tryz.sizeOf253⟩
instance : ZeroT Tryz.prog 253 Value.nilIface := ⟨Tryz.zeroValue253⟩
instance : OneT Tryz.prog 255 := ⟨Tryz.isAgg255, Tryz.sizeOf255⟩
instance : ZeroT Tryz.prog 255 Value.nilFunc := ⟨Tryz.zeroValue255⟩
instance : OneT Tryz.prog 256 := ⟨Tryz.isAgg256, Tryz.sizeOf256⟩
instance : ZeroT Tryz.prog 256 Value.nilFunc := ⟨Tryz.zeroValue256⟩
instance : OneT Tryz.prog 257 := ⟨Tryz.isAgg257, Tryz.sizeOf257⟩
instance : ZeroT Tryz.prog 257 Value.nilFunc := ⟨Tryz.zeroValue257⟩
instance : OneT Tryz.prog 258 := ⟨Tryz.isAgg258, Tryz.sizeOf258⟩
instance : ZeroT Tryz.prog 258 Value.nilFunc := ⟨Tryz.zeroValue258⟩
instance : OneT Tryz.prog 259 := ⟨Tryz.isAgg259, Tryz.sizeOf259⟩
instance : ZeroT Tryz.prog 259 Value.nilFunc := ⟨Tryz.zeroValue259⟩
instance : OneT Tryz.prog 260 := ⟨Tryz.isAgg260, Tryz.sizeOf260⟩
instance : ZeroT Tryz.prog 260 Value.nilFunc := ⟨Tryz.zeroValue260⟩
instance : OneT Tryz.prog 261 := ⟨Tryz.isAgg261, Tryz.sizeOf261⟩
instance : ZeroT Tryz.prog 261 Value.nilFunc := ⟨Tryz.zeroValue261⟩
instance : OneT Tryz.prog 262 := ⟨Tryz.isAgg262, Tryz.sizeOf262⟩
instance : ZeroT Tryz.prog 262 Value.nilFunc := ⟨Tryz.zeroValue262⟩
instance : OneT Tryz.prog 263 := ⟨Tryz.isAgg263, Tryz.sizeOf263⟩
instance : ZeroT Tryz.prog 263 Value.nilFunc := ⟨Tryz.zeroValue263⟩
instance : OneT Tryz.prog 264 := ⟨Tryz.isAgg264, Tryz.sizeOf264⟩
instance : ZeroT Tryz.prog 264 Value.nilFunc := ⟨Tryz.zeroValue264⟩
instance : OneT Tryz.prog 265 := ⟨Tryz.isAgg265, Tryz.sizeOf265⟩
instance : ZeroT Tryz.prog 265 Value.nilFunc := ⟨Tryz.zeroValue265⟩
instance : UnderT Tryz.prog 266 (TypeDesc.int IntKind.i64) := ⟨Tryz.underlying266⟩
instance : OneT Tryz.prog 266 := ⟨Tryz.isAgg266, Tryz.sizeOf266⟩
instance : ZeroT Tryz.prog 266 (Value.int IntKind.i64 0) := ⟨Tryz.zeroValue266⟩
instance : OneT Tryz.prog 268 := ⟨Tryz.isAgg268, Tryz.sizeOf268⟩
instance : ZeroT Tryz.prog 268 Value.nilFunc := ⟨Tryz.zeroValue268⟩
instance : OneT Tryz.prog 269 := ⟨Tryz.isAgg269, Tryz.sizeOf269⟩
instance : ZeroT Tryz.prog 269 Value.nilFunc := ⟨Tryz.zeroValue269⟩
instance : OneT Tryz.prog 270 := ⟨Tryz.isAgg270, Tryz.sizeOf270⟩
instance : ZeroT Tryz.prog 270 Value.nilFunc := ⟨Tryz.zeroValue270⟩
instance : OneT Tryz.prog 271 := ⟨Tryz.isAgg271, Tryz.sizeOf271⟩
instance : ZeroT Tryz.prog 271 Value.nilFunc := ⟨Tryz.zeroValue271⟩
instance : OneT Tryz.prog 272 := ⟨Tryz.isAgg272, Tryz.sizeOf272⟩
instance : ZeroT Tryz.prog 272 Value.nilFunc := ⟨Tryz.zeroValue272⟩
instance : UnderT Tryz.prog 273 (TypeDesc.int IntKind.u32) := ⟨Tryz.underlying273⟩
instance : OneT Tryz.prog 273 := ⟨Tryz.isAgg273, Tryz.sizeOf273⟩
instance : ZeroT Tryz.prog 273 (Value.int IntKind.u32 0) := ⟨Tryz.zeroValue273⟩
instance : OneT Tryz.prog 274 := ⟨Tryz.isAgg274, Tryz.sizeOf274⟩
instance : ZeroT Tryz.prog 274 Value.nilFunc := ⟨Tryz.zeroValue274⟩
instance : OneT Tryz.prog 275 := ⟨Tryz.isAgg275, Tryz.sizeOf275⟩
instance : ZeroT Tryz.prog 275 Value.nilFunc := ⟨Tryz.zeroValue275⟩
instance : OneT Tryz.prog 277 := ⟨Tryz.isAgg277, Tryz.sizeOf277⟩
instance : ZeroT Tryz.prog 277 Value.nilFunc := ⟨Tryz.zeroValue277⟩
instance : OneT Tryz.prog 279 := ⟨Tryz.isAgg279, Tryz.sizeOf279⟩
instance : ZeroT Tryz.prog 279 Value.nilFunc := ⟨Tryz.zeroValue279⟩
instance : OneT Tryz.prog 280 := ⟨Tryz.isAgg280, Tryz.sizeOf280⟩
instance : ZeroT Tryz.prog 280 Value.nilFunc := ⟨Tryz.zeroValue280⟩
instance : OneT Tryz.prog 281 := ⟨Tryz.isAgg281, Tryz.sizeOf281⟩
instance : ZeroT Tryz.prog 281 Value.nilFunc := ⟨Tryz.zeroValue281⟩
instance : OneT Tryz.prog 282 := ⟨Tryz.isAgg282, Tryz.sizeOf282⟩
instance : ZeroT Tryz.prog 282 Value.nilFunc := ⟨Tryz.zeroValue282⟩
instance : OneT Tryz.prog 283 := ⟨Tryz.isAgg283, Tryz.sizeOf283⟩
instance : ZeroT Tryz.prog 283 Value.nilFunc := ⟨Tryz.zeroValue283⟩
instance : OneT Tryz.prog 284 := ⟨Tryz.isAgg284, Tryz.sizeOf284⟩
instance : ZeroT Tryz.prog 284 Value.nilFunc := ⟨Tryz.zeroValue284⟩
instance : OneT Tryz.prog 285 := ⟨Tryz.isAgg285, Tryz.sizeOf285⟩
instance : ZeroT Tryz.prog 285 Value.nilFunc := ⟨Tryz.zeroValue285⟩
instance : UnderT Tryz.prog 286 (TypeDesc.pointer 5) := ⟨Tryz.underlying286⟩
instance : OneT Tryz.prog 286 := ⟨Tryz.isAgg286, Tryz.sizeOf286⟩
instance : ZeroT Tryz.prog 286 (Value.pointer none) := ⟨Tryz.zeroValue286⟩
instance : OneT Tryz.prog 287 := ⟨Tryz.isAgg287, Tryz.sizeOf287⟩
instance : ZeroT Tryz.prog 287 Value.nilFunc := ⟨Tryz.zeroValue287⟩
instance : OneT Tryz.prog 288 := ⟨Tryz.isAgg288, Tryz.sizeOf288⟩
instance : ZeroT Tryz.prog 288 Value.nilFunc := ⟨Tryz.zeroValue288⟩
instance : UnderT Tryz.prog 289 (TypeDesc.int IntKind.u16) := ⟨Tryz.underlying289⟩
instance : OneT Tryz.prog 289 := ⟨Tryz.isAgg289, Tryz.sizeOf289⟩
instance : ZeroT Tryz.prog 289 (Value.int IntKind.u16 0) := ⟨Tryz.zeroValue289⟩
instance : UnderT Tryz.prog 290 (TypeDesc.array 8 289) := ⟨Tryz.underlying290⟩
instance : AggT Tryz.prog 290 8 := ⟨Tryz.isAgg290, Tryz.sizeOf290⟩
instance : BuildT Tryz.prog 290 (fun i => some (i * 1, 1)) #[Value.int IntKind.u16 0, Value.int IntKind.u16 0, Value.int IntKind.u16 0, Value.int IntKind.u16 0, Value.int IntKind.u16 0, Value.int IntKind.u16 0, Value.int IntKind.u16 0, Value.int IntKind.u16 0] := ⟨fun _ => by kernel_rfl⟩
instance : ArrT Tryz.prog 290 8 289 1 := ⟨Tryz.underlying290, Tryz.sizeOf289⟩
instance : ZeroT Tryz.prog 290 (Value.agg #[Value.int IntKind.u16 0, Value.int IntKind.u16 0, Value.int IntKind.u16 0, Value.int IntKind.u16 0, Value.int IntKind.u16 0, Value.int IntKind.u16 0, Value.int IntKind.u16 0, Value.int IntKind.u16 0]) := ⟨Tryz.zeroValue290⟩
instance : UnderT Tryz.prog 291 (TypeDesc.slice 289) := ⟨Tryz.underlying291⟩
instance : OneT Tryz.prog 291 := ⟨Tryz.isAgg291, Tryz.sizeOf291⟩
instance : ZeroT Tryz.prog 291 (Value.slice none 0 0) := ⟨Tryz.zeroValue291⟩
instance : SliceT Tryz.prog 291 289 1 2 (Value.int IntKind.u16 0) := ⟨Tryz.underlying291, ⟨Tryz.t289, by kernel_rfl, rfl, rfl, rfl⟩, rfl⟩
instance : OneT Tryz.prog 292 := ⟨Tryz.isAgg292, Tryz.sizeOf292⟩
instance : ZeroT Tryz.prog 292 Value.nilFunc := ⟨Tryz.zeroValue292⟩
instance : OneT Tryz.prog 293 := ⟨Tryz.isAgg293, Tryz.sizeOf293⟩
instance : ZeroT Tryz.prog 293 Value.nilFunc := ⟨Tryz.zeroValue293⟩
instance : OneT Tryz.prog 295 := ⟨Tryz.isAgg295, Tryz.sizeOf295⟩
instance : ZeroT Tryz.prog 295 Value.nilFunc := ⟨Tryz.zeroValue295⟩
instance : OneT Tryz.prog 296 := ⟨Tryz.isAgg296, Tryz.sizeOf296⟩
instance : ZeroT Tryz.prog 296 Value.nilFunc := ⟨Tryz.zeroValue296⟩
instance : OneT Tryz.prog 297 := ⟨Tryz.isAgg297, Tryz.sizeOf297⟩
instance : ZeroT Tryz.prog 297 Value.nilFunc := ⟨Tryz.zeroValue297⟩
instance : OneT Tryz.prog 298 := ⟨Tryz.isAgg298, Tryz.sizeOf298⟩
instance : ZeroT Tryz.prog 298 Value.nilFunc := ⟨Tryz.zeroValue298⟩
instance : OneT Tryz.prog 299 := ⟨Tryz.isAgg299, Tryz.sizeOf299⟩
instance : ZeroT Tryz.prog 299 Value.nilFunc := ⟨Tryz.zeroValue299⟩
instance : OneT Tryz.prog 300 := ⟨Tryz.isAgg300, Tryz.sizeOf300⟩
instance : ZeroT Tryz.prog 300 Value.nilFunc := ⟨Tryz.zeroValue300⟩
instance : UnderT Tryz.prog 301 (TypeDesc.int IntKind.u64) := ⟨Tryz.underlying301⟩
instance : OneT Tryz.prog 301 := ⟨Tryz.isAgg301, Tryz.sizeOf301⟩
instance : ZeroT Tryz.prog 301 (Value.int IntKind.u64 0) := ⟨Tryz.zeroValue301⟩
instance : OneT Tryz.prog 302 := ⟨Tryz.isAgg302, Tryz.sizeOf302⟩
instance : ZeroT Tryz.prog 302 Value.nilFunc := ⟨Tryz.zeroValue302⟩
instance : OneT Tryz.prog 303 := ⟨Tryz.isAgg303, Tryz.sizeOf303⟩
instance : ZeroT Tryz.prog 303 Value.nilFunc := ⟨Tryz.zeroValue303⟩
instance : OneT Tryz.prog 304 := ⟨Tryz.isAgg304, Tryz.sizeOf304⟩
instance : ZeroT Tryz.prog 304 Value.nilFunc := ⟨Tryz.zeroValue304⟩
instance : UnderT Tryz.prog 305 (TypeDesc.pointer 3) := ⟨Tryz.underlying305⟩
instance : OneT Tryz.prog 305 := ⟨Tryz.isAgg305, Tryz.sizeOf305⟩
instance : ZeroT Tryz.prog 305 (Value.pointer none) := ⟨Tryz.zeroValue305⟩
instance : OneT Tryz.prog 306 := ⟨Tryz.isAgg306, Tryz.sizeOf306⟩
instance : ZeroT Tryz.prog 306 Value.nilFunc := ⟨Tryz.zeroValue306⟩
instance : OneT Tryz.prog 307 := ⟨Tryz.isAgg307, Tryz.sizeOf307⟩
instance : ZeroT Tryz.prog 307 Value.nilFunc := ⟨Tryz.zeroValue307⟩
instance : OneT Tryz.prog 308 := ⟨Tryz.isAgg308, Tryz.sizeOf308⟩
instance : ZeroT Tryz.prog 308 Value.nilFunc := ⟨Tryz.zeroValue308⟩
instance : OneT Tryz.prog 309 := ⟨Tryz.isAgg309, Tryz.sizeOf309⟩
instance : ZeroT Tryz.prog 309 Value.nilFunc := ⟨Tryz.zeroValue309⟩
instance : OneT Tryz.prog 310 := ⟨Tryz.isAgg310, Tryz.sizeOf310⟩
instance : ZeroT Tryz.prog 310 Value.nilFunc := ⟨Tryz.zeroValue310⟩
instance : UnderT Tryz.prog 311 (TypeDesc.pointer 354) := ⟨Tryz.underlying311⟩
instance : OneT Tryz.prog 311 := ⟨Tryz.isAgg311, Tryz.sizeOf311⟩
instance : ZeroT Tryz.prog 311 (Value.pointer none) := ⟨Tryz.zeroValue311⟩
instance : OneT Tryz.prog 312 := ⟨Tryz.isAgg312, Tryz.sizeOf312⟩
instance : ZeroT Tryz.prog 312 Value.nilFunc := ⟨Tryz.zeroValue312⟩
instance : UnderT Tryz.prog 313 (TypeDesc.pointer 356) := ⟨Tryz.underlying313⟩
instance : OneT Tryz.prog 313 := ⟨Tryz.isAgg313, Tryz.sizeOf313⟩
instance : ZeroT Tryz.prog 313 (Value.pointer none) := ⟨Tryz.zeroValue313⟩
instance : OneT Tryz.prog 314 := ⟨Tryz.isAgg314, Tryz.sizeOf314⟩
instance : ZeroT Tryz.prog 314 Value.nilFunc := ⟨Tryz.zeroValue314⟩
instance : AggT Tryz.prog 315 0 := ⟨Tryz.isAgg315, Tryz.sizeOf315⟩
instance : BuildT Tryz.prog 315 (fun i => #[][i]?) #[] := ⟨fun _ => by kernel_rfl⟩
instance : ZeroT Tryz.prog 315 (Value.agg #[]) := ⟨Tryz.zeroValue315⟩
instance : AggT Tryz.prog 316 0 := ⟨Tryz.isAgg316, Tryz.sizeOf316⟩
instance : BuildT Tryz.prog 316 (fun i => #[][i]?) #[] := ⟨fun _ => by kernel_rfl⟩
instance : ZeroT Tryz.prog 316 (Value.agg #[]) := ⟨Tryz.zeroValue316⟩
instance : UnderT Tryz.prog 317 (TypeDesc.array 24 5) := ⟨Tryz.underlying317⟩
instance : AggT Tryz.prog 317 24 := ⟨Tryz.isAgg317, Tryz.sizeOf317⟩
instance : BuildT Tryz.prog 317 (fun i => some (i * 1, 1)) #[Value.int IntKind.u8 0, Value.int IntKind.u8 0, Value.int IntKind.u8 0, Value.int IntKind.u8 0, Value.int IntKind.u8 0, Value.int IntKind.u8 0, Value.int IntKind.u8 0, Value.int IntKind.u8 0, Value.int IntKind.u8 0, Value.int IntKind.u8 0, Value.int IntKind.u8 0, Value.int IntKind.u8 0, Value.int IntKind.u8 0, Value.int IntKind.u8 0, Value.int IntKind.u8 0, Value.int IntKind.u8 0, Value.int IntKind.u8 0, Value.int IntKind.u8 0, Value.int IntKind.u8 0, Value.int IntKind.u8 0, Value.int IntKind.u8 0, Value.int IntKind.u8 0, Value.int IntKind.u8 0, Value.int IntKind.u8 0] := ⟨fun _ => by kernel_rfl⟩
instance : ArrT Tryz.prog 317 24 5 1 := ⟨Tryz.underlying317, Tryz.sizeOf5⟩
instance : ZeroT Tryz.prog 317 (Value.agg #[Value.int IntKind.u8 0, Value.int IntKind.u8 0, Value.int IntKind.u8 0, Value.int IntKind.u8 0, Value.int IntKind.u8 0, Value.int IntKind.u8 0, Value.int IntKind.u8 0, Value.int IntKind.u8 0, Value.int IntKind.u8 0, Value.int IntKind.u8 0, Value.int IntKind.u8 0, Value.int IntKind.u8 0, Value.int IntKind.u8 0, Value.int IntKind.u8 0, Value.int IntKind.u8 0, Value.int IntKind.u8 0, Value.int IntKind.u8 0, Value.int IntKind.u8 0, Value.int IntKind.u8 0, Value.int IntKind.u8 0, Value.int IntKind.u8 0, Value.int IntKind.u8 0, Value.int IntKind.u8 0, Value.int IntKind.u8 0]) := ⟨Tryz.zeroValue317⟩
instance : OneT Tryz.prog 318 := ⟨Tryz.isAgg318, Tryz.sizeOf318⟩
instance : ZeroT Tryz.prog 318 Value.nilFunc := ⟨Tryz.zeroValue318⟩
instance : OneT Tryz.prog 320 := ⟨Tryz.isAgg320, Tryz.sizeOf320⟩
instance : ZeroT Tryz.prog 320 Value.nilFunc := ⟨Tryz.zeroValue320⟩
instance : OneT Tryz.prog 321 := ⟨Tryz.isAgg321, Tryz.sizeOf321⟩
instance : ZeroT Tryz.prog 321 (Value.pointer none) := ⟨Tryz.zeroValue321⟩
instance : OneT Tryz.prog 322 := ⟨Tryz.isAgg322, Tryz.sizeOf322⟩
instance : ZeroT Tryz.prog 322 Value.nilFunc := ⟨Tryz.zeroValue322⟩
instance : UnderT Tryz.prog 323 (TypeDesc.pointer 325) := ⟨Tryz.underlying323⟩
instance : OneT Tryz.prog 323 := ⟨Tryz.isAgg323, Tryz.sizeOf323⟩
instance : ZeroT Tryz.prog 323 (Value.pointer none) := ⟨Tryz.zeroValue323⟩
instance : AggT Tryz.prog 324 4 := ⟨Tryz.isAgg324, Tryz.sizeOf324⟩
instance : FAddr Tryz.prog 324 0 0 := ⟨fun _ _ => by kernel_rfl⟩
instance : FAddr Tryz.prog 324 1 1 := ⟨fun _ _ => by kernel_rfl⟩
instance : FAddr Tryz.prog 324 2 2 := ⟨fun _ _ => by kernel_rfl⟩
instance : FAddr Tryz.prog 324 3 3 := ⟨fun _ _ => by kernel_rfl⟩
instance : BuildT Tryz.prog 324 (fun i => #[(0, 1), (1, 1), (2, 1), (3, 1)][i]?) #[Value.int IntKind.i64 0, Value.int IntKind.i64 0, Value.int IntKind.i64 0, Value.int IntKind.i64 0] := ⟨fun _ => by kernel_rfl⟩
instance : ZeroT Tryz.prog 324 (Value.agg #[Value.int IntKind.i64 0, Value.int IntKind.i64 0, Value.int IntKind.i64 0, Value.int IntKind.i64 0]) := ⟨Tryz.zeroValue324⟩
instance : AggT Tryz.prog 325 4 := ⟨Tryz.isAgg325, Tryz.sizeOf325⟩
instance : FAddr Tryz.prog 325 0 0 := ⟨fun _ _ => by kernel_rfl⟩
instance : FAddr Tryz.prog 325 1 1 := ⟨fun _ _ => by kernel_rfl⟩
instance : FAddr Tryz.prog 325 2 2 := ⟨fun _ _ => by kernel_rfl⟩
instance : FAddr Tryz.prog 325 3 3 := ⟨fun _ _ => by kernel_rfl⟩
instance : BuildT Tryz.prog 325 (fun i => #[(0, 1), (1, 1), (2, 1), (3, 1)][i]?) #[Value.int IntKind.i64 0, Value.int IntKind.i64 0, Value.int IntKind.i64 0, Value.int IntKind.i64 0] := ⟨fun _ => by kernel_rfl⟩
instance : ZeroT Tryz.prog 325 (Value.agg #[Value.int IntKind.i64 0, Value.int IntKind.i64 0, Value.int IntKind.i64 0, Value.int IntKind.i64 0]) := ⟨Tryz.zeroValue325⟩
instance : UnderT Tryz.prog 326 (TypeDesc.pointer 328) := ⟨Tryz.underlying326⟩
instance : OneT Tryz.prog 326 := ⟨Tryz.isAgg326, Tryz.sizeOf326⟩
instance : ZeroT Tryz.prog 326 (Value.pointer none) := ⟨Tryz.zeroValue326⟩
instance : AggT Tryz.prog 327 2 := ⟨Tryz.isAgg327, Tryz.sizeOf327⟩
instance : FAddr Tryz.prog 327 0 0 := ⟨fun _ _ => by kernel_rfl⟩
instance : FAddr Tryz.prog 327 1 1 := ⟨fun _ _ => by kernel_rfl⟩
instance : BuildT Tryz.prog 327 (fun i => #[(0, 1), (1, 1)][i]?) #[Value.slice none 0 0, Value.int IntKind.i64 0] := ⟨fun _ => by kernel_rfl⟩
instance : ZeroT Tryz.prog 327 (Value.agg #[Value.slice none 0 0, Value.int IntKind.i64 0]) := ⟨Tryz.zeroValue327⟩
instance : AggT Tryz.prog 328 2 := ⟨Tryz.isAgg328, Tryz.sizeOf328⟩
instance : FAddr Tryz.prog 328 0 0 := ⟨fun _ _ => by kernel_rfl⟩
instance : FAddr Tryz.prog 328 1 1 := ⟨fun _ _ => by kernel_rfl⟩
instance : BuildT Tryz.prog 328 (fun i => #[(0, 1), (1, 1)][i]?) #[Value.slice none 0 0, Value.int IntKind.i64 0] := ⟨fun _ => by kernel_rfl⟩
instance : ZeroT Tryz.prog 328 (Value.agg #[Value.slice none 0 0, Value.int IntKind.i64 0]) := ⟨Tryz.zeroValue328⟩
instance : OneT Tryz.prog 330 := ⟨Tryz.isAgg330, Tryz.sizeOf330⟩
instance : ZeroT Tryz.prog 330 Value.nilFunc := ⟨Tryz.zeroValue330⟩
instance : OneT Tryz.prog 331 := ⟨Tryz.isAgg331, Tryz.sizeOf331⟩
instance : ZeroT Tryz.prog 331 Value.nilFunc := ⟨Tryz.zeroValue331⟩
instance : AggT Tryz.prog 332 3 := ⟨Tryz.isAgg332, Tryz.sizeOf332⟩
instance : FAddr Tryz.prog 332 0 0 := ⟨fun _ _ => by kernel_rfl⟩
instance : FAddr Tryz.prog 332 1 1 := ⟨fun _ _ => by kernel_rfl⟩
instance : FAddr Tryz.prog 332 2 2 := ⟨fun _ _ => by kernel_rfl⟩
instance : BuildT Tryz.prog 332 (fun i => #[(0, 1), (1, 1), (2, 1)][i]?) #[Value.string { data := #[] }, Value.string { data := #[] }, Value.int IntKind.i64 0] := ⟨fun _ => by kernel_rfl⟩
instance : ZeroT Tryz.prog 332 (Value.agg #[Value.string { data := #[] }, Value.string { data := #[] }, Value.int IntKind.i64 0]) := ⟨Tryz.zeroValue332⟩
instance : AggT Tryz.prog 333 3 := ⟨Tryz.isAgg333, Tryz.sizeOf333⟩
instance : FAddr Tryz.prog 333 0 0 := ⟨fun _ _ => by kernel_rfl⟩
instance : FAddr Tryz.prog 333 1 1 := ⟨fun _ _ => by kernel_rfl⟩
instance : FAddr Tryz.prog 333 2 2 := ⟨fun _ _ => by kernel_rfl⟩
instance : BuildT Tryz.prog 333 (fun i => #[(0, 1), (1, 1), (2, 1)][i]?) #[Value.string { data := #[] }, Value.string { data := #[] }, Value.int IntKind.i64 0] := ⟨fun _ => by kernel_rfl⟩
instance : ZeroT Tryz.prog 333 (Value.agg #[Value.string { data := #[] }, Value.string { data := #[] }, Value.int IntKind.i64 0]) := ⟨Tryz.zeroValue333⟩
instance : UnderT Tryz.prog 334 (TypeDesc.slice 339) := ⟨Tryz.underlying334⟩
instance : OneT Tryz.prog 334 := ⟨Tryz.isAgg334, Tryz.sizeOf334⟩
instance : ZeroT Tryz.prog 334 (Value.slice none 0 0) := ⟨Tryz.zeroValue334⟩
instance : SliceT Tryz.prog 334 339 2 32 (Value.agg #[Value.string { data := #[] }, Value.string { data := #[] }]) := ⟨Tryz.underlying334, ⟨Tryz.t339, by kernel_rfl, rfl, rfl, rfl⟩, rfl⟩
instance : OneT Tryz.prog 336 := ⟨Tryz.isAgg336, Tryz.sizeOf336⟩
instance : ZeroT Tryz.prog 336 Value.nilFunc := ⟨Tryz.zeroValue336⟩
instance : OneT Tryz.prog 337 := ⟨Tryz.isAgg337, Tryz.sizeOf337⟩
instance : ZeroT Tryz.prog 337 Value.nilFunc := ⟨Tryz.zeroValue337⟩
instance : AggT Tryz.prog 338 2 := ⟨Tryz.isAgg338, Tryz.sizeOf338⟩
instance : FAddr Tryz.prog 338 0 0 := ⟨fun _ _ => by kernel_rfl⟩
instance : FAddr Tryz.prog 338 1 1 := ⟨fun _ _ => by kernel_rfl⟩
instance : BuildT Tryz.prog 338 (fun i => #[(0, 1), (1, 1)][i]?) #[Value.string { data := #[] }, Value.string { data := #[] }] := ⟨fun _ => by kernel_rfl⟩
instance : ZeroT Tryz.prog 338 (Value.agg #[Value.string { data := #[] }, Value.string { data := #[] }]) := ⟨Tryz.zeroValue338⟩
instance : AggT Tryz.prog 339 2 := ⟨Tryz.isAgg339, Tryz.sizeOf339⟩
instance : FAddr Tryz.prog 339 0 0 := ⟨fun _ _ => by kernel_rfl⟩
instance : FAddr Tryz.prog 339 1 1 := ⟨fun _ _ => by kernel_rfl⟩
instance : BuildT Tryz.prog 339 (fun i => #[(0, 1), (1, 1)][i]?) #[Value.string { data := #[] }, Value.string { data := #[] }] := ⟨fun _ => by kernel_rfl⟩
instance : ZeroT Tryz.prog 339 (Value.agg #[Value.string { data := #[] }, Value.string { data := #[] }]) := ⟨Tryz.zeroValue339⟩
instance : OneT Tryz.prog 341 := ⟨Tryz.isAgg341, Tryz.sizeOf341⟩
instance : ZeroT Tryz.prog 341 Value.nilFunc := ⟨Tryz.zeroValue341⟩
instance : OneT Tryz.prog 342 := ⟨Tryz.isAgg342, Tryz.sizeOf342⟩
instance : ZeroT Tryz.prog 342 Value.nilFunc := ⟨Tryz.zeroValue342⟩
instance : UnderT Tryz.prog 343 (TypeDesc.pointer 301) := ⟨Tryz.underlying343⟩
instance : OneT Tryz.prog 343 := ⟨Tryz.isAgg343, Tryz.sizeOf343⟩
instance : ZeroT Tryz.prog 343 (Value.pointer none) := ⟨Tryz.zeroValue343⟩
instance : OneT Tryz.prog 344 := ⟨Tryz.isAgg344, Tryz.sizeOf344⟩
instance : ZeroT Tryz.prog 344 Value.nilFunc := ⟨Tryz.zeroValue344⟩
instance : OneT Tryz.prog 345 := ⟨Tryz.isAgg345, Tryz.sizeOf345⟩
instance : ZeroT Tryz.prog 345 Value.nilFunc := ⟨Tryz.zeroValue345⟩
instance : OneT Tryz.prog 347 := ⟨Tryz.isAgg347, Tryz.sizeOf347⟩
instance : ZeroT Tryz.prog 347 Value.nilFunc := ⟨Tryz.zeroValue347⟩
instance : OneT Tryz.prog 348 := ⟨Tryz.isAgg348, Tryz.sizeOf348⟩
instance : ZeroT Tryz.prog 348 Value.nilFunc := ⟨Tryz.zeroValue348⟩
instance : UnderT Tryz.prog 349 (TypeDesc.pointer 373) := ⟨Tryz.underlying349⟩
instance : OneT Tryz.prog 349 := ⟨Tryz.isAgg349, Tryz.sizeOf349⟩
instance : ZeroT Tryz.prog 349 (Value.pointer none) := ⟨Tryz.zeroValue349⟩
instance : OneT Tryz.prog 350 := ⟨Tryz.isAgg350, Tryz.sizeOf350⟩
instance : ZeroT Tryz.prog 350 Value.nilFunc := ⟨Tryz.zeroValue350⟩
instance : UnderT Tryz.prog 351 (TypeDesc.pointer 375) := ⟨Tryz.underlying351⟩
instance : OneT Tryz.prog 351 := ⟨Tryz.isAgg351, Tryz.sizeOf351⟩
instance : ZeroT Tryz.prog 351 (Value.pointer none) := ⟨Tryz.zeroValue351⟩
instance : OneT Tryz.prog 352 := ⟨Tryz.isAgg352, Tryz.sizeOf352⟩
instance : ZeroT Tryz.prog 352 Value.nilFunc := ⟨Tryz.zeroValue352⟩
instance : AggT Tryz.prog 353 14 := ⟨Tryz.isAgg353, Tryz.sizeOf353⟩
instance : FAddr Tryz.prog 353 0 0 := ⟨fun _ _ => by kernel_rfl⟩
instance : FAddr Tryz.prog 353 1 1 := ⟨fun _ _ => by kernel_rfl⟩
instance : FAddr Tryz.prog 353 2 2 := ⟨fun _ _ => by kernel_rfl⟩
instance : FAddr Tryz.prog 353 3 3 := ⟨fun _ _ => by kernel_rfl⟩
instance : BuildT Tryz.prog 353 (fun i => #[(0, 1), (1, 1), (2, 1), (3, 11)][i]?) #[Value.pointer none, Value.pointer none, Value.int IntKind.i64 0, Value.int IntKind.i64 0, Value.int IntKind.i64 0, Value.int IntKind.i64 0, Value.int IntKind.i64 0, Value.string { data := #[] }, Value.int IntKind.i64 0, Value.bool false, Value.string { data := #[] }, Value.slice none 0 0, Value.slice none 0 0, Value.bool false] := ⟨fun _ => by kernel_rfl⟩
instance : ZeroT Tryz.prog 353 (Value.agg #[Value.pointer none, Value.pointer none, Value.int IntKind.i64 0, Value.int IntKind.i64 0, Value.int IntKind.i64 0, Value.int IntKind.i64 0, Value.int IntKind.i64 0, Value.string { data := #[] }, Value.int IntKind.i64 0, Value.bool false, Value.string { data := #[] }, Value.slice none 0 0, Value.slice none 0 0, Value.bool false]) := ⟨Tryz.zeroValue353⟩
instance : AggT Tryz.prog 354 14 := ⟨Tryz.isAgg354, Tryz.sizeOf354⟩
instance : FAddr Tryz.prog 354 0 0 := ⟨fun _ _ => by kernel_rfl⟩
instance : FAddr Tryz.prog 354 1 1 := ⟨fun _ _ => by kernel_rfl⟩
instance : FAddr Tryz.prog 354 2 2 := ⟨fun _ _ => by kernel_rfl⟩
instance : FAddr Tryz.prog 354 3 3 := ⟨fun _ _ => by kernel_rfl⟩
instance : BuildT Tryz.prog 354 (fun i => #[(0, 1), (1, 1), (2, 1), (3, 11)][i]?) #[Value.pointer none, Value.pointer none, Value.int IntKind.i64 0, Value.int IntKind.i64 0, Value.int IntKind.i64 0, Value.int IntKind.i64 0, Value.int IntKind.i64 0, Value.string { data := #[] }, Value.int IntKind.i64 0, Value.bool false, Value.string { data := #[] }, Value.slice none 0 0, Value.slice none 0 0, Value.bool false] := ⟨fun _ => by kernel_rfl⟩
instance : ZeroT Tryz.prog 354 (Value.agg #[Value.pointer none, Value.pointer none, Value.int IntKind.i64 0, Value.int IntKind.i64 0, Value.int IntKind.i64 0, Value.int IntKind.i64 0, Value.int IntKind.i64 0, Value.string { data := #[] }, Value.int IntKind.i64 0, Value.bool false, Value.string { data := #[] }, Value.slice none 0 0, Value.slice none 0 0, Value.bool false]) := ⟨Tryz.zeroValue354⟩
instance : AggT Tryz.prog 355 18 := ⟨Tryz.isAgg355, Tryz.sizeOf355⟩
instance : FAddr Tryz.prog 355 0 0 := ⟨fun _ _ => by kernel_rfl⟩
instance : FAddr Tryz.prog 355 1 1 := ⟨fun _ _ => by kernel_rfl⟩
instance : FAddr Tryz.prog 355 2 2 := ⟨fun _ _ => by kernel_rfl⟩
instance : FAddr Tryz.prog 355 3 3 := ⟨fun _ _ => by kernel_rfl⟩
instance : FAddr Tryz.prog 355 4 6 := ⟨fun _ _ => by kernel_rfl⟩
instance : FAddr Tryz.prog 355 5 7 := ⟨fun _ _ => by kernel_rfl⟩
instance : BuildT Tryz.prog 355 (fun i => #[(0, 1), (1, 1), (2, 1), (3, 3), (6, 1), (7, 11)][i]?) #[Value.slice none 0 0, Value.bool false, Value.bool false, Value.string { data := #[] }, Value.string { data := #[] }, Value.int IntKind.i64 0, Value.slice none 0 0, Value.int IntKind.i64 0, Value.int IntKind.i64 0, Value.int IntKind.i64 0, Value.int IntKind.i64 0, Value.string { data := #[] }, Value.int IntKind.i64 0, Value.bool false, Value.string { data := #[] }, Value.slice none 0 0, Value.slice none 0 0, Value.bool false] := ⟨fun _ => by kernel_rfl⟩
instance : ZeroT Tryz.prog 355 (Value.agg #[Value.slice none 0 0, Value.bool false, Value.bool false, Value.string { data := #[] }, Value.string { data := #[] }, Value.int IntKind.i64 0, Value.slice none 0 0, Value.int IntKind.i64 0, Value.int IntKind.i64 0, Value.int IntKind.i64 0, Value.int IntKind.i64 0, Value.string { data := #[] }, Value.int IntKind.i64 0, Value.bool false, Value.string { data := #[] }, Value.slice none 0 0, Value.slice none 0 0, Value.bool false]) := ⟨Tryz.zeroValue355⟩
instance : AggT Tryz.prog 356 18 := ⟨Tryz.isAgg356, Tryz.sizeOf356⟩
instance : FAddr Tryz.prog 356 0 0 := ⟨fun _ _ => by kernel_rfl⟩
instance : FAddr Tryz.prog 356 1 1 := ⟨fun _ _ => by kernel_rfl⟩
instance : FAddr Tryz.prog 356 2 2 := ⟨fun _ _ => by kernel_rfl⟩
instance : FAddr Tryz.prog 356 3 3 := ⟨fun _ _ => by kernel_rfl⟩
instance : FAddr Tryz.prog 356 4 6 := ⟨fun _ _ => by kernel_rfl⟩
instance : FAddr Tryz.prog 356 5 7 := ⟨fun _ _ => by kernel_rfl⟩
instance : BuildT Tryz.prog 356 (fun i => #[(0, 1), (1, 1), (2, 1), (3, 3), (6, 1), (7, 11)][i]?) #[Value.slice none 0 0, Value.bool false, Value.bool false, Value.string { data := #[] }, Value.string { data := #[] }, Value.int IntKind.i64 0, Value.slice none 0 0, Value.int IntKind.i64 0, Value.int IntKind.i64 0, Value.int IntKind.i64 0, Value.int IntKind.i64 0, Value.string { data := #[] }, Value.int IntKind.i64 0, Value.bool false, Value.string { data := #[] }, Value.slice none 0 0, Value.slice none 0 0, Value.bool false] := ⟨fun _ => by kernel_rfl⟩
instance : ZeroT Tryz.prog 356 (Value.agg #[Value.slice none 0 0, Value.bool false, Value.bool false, Value.string { data := #[] }, Value.string { data := #[] }, Value.int IntKind.i64 0, Value.slice none 0 0, Value.int IntKind.i64 0, Value.int IntKind.i64 0, Value.int IntKind.i64 0, Value.int IntKind.i64 0, Value.string { data := #[] }, Value.int IntKind.i64 0, Value.bool false, Value.string { data := #[] }, Value.slice none 0 0, Value.slice none 0 0, Value.bool false]) := ⟨Tryz.zeroValue356⟩
instance : OneT Tryz.prog 357 := ⟨Tryz.isAgg357, Tryz.sizeOf357⟩
instance : ZeroT Tryz.prog 357 Value.nilFunc := ⟨Tryz.zeroValue357⟩
instance : UnderT Tryz.prog 358 (TypeDesc.array 20 248) := ⟨Tryz.underlying358⟩
instance : AggT Tryz.prog 358 20 := ⟨Tryz.isAgg358, Tryz.sizeOf358⟩
instance : BuildT Tryz.prog 358 (fun i => some (i * 1, 1)) #[Value.int IntKind.u64 0, Value.int IntKind.u64 0, Value.int IntKind.u64 0, Value.int IntKind.u64 0, Value.int IntKind.u64 0, Value.int IntKind.u64 0, Value.int IntKind.u64 0, Value.int IntKind.u64 0, Value.int IntKind.u64 0, Value.int IntKind.u64 0, Value.int IntKind.u64 0, Value.int IntKind.u64 0, Value.int IntKind.u64 0, Value.int IntKind.u64 0, Value.int IntKind.u64 0, Value.int IntKind.u64 0, Value.int IntKind.u64 0, Value.int IntKind.u64 0, Value.int IntKind.u64 0, Value.int IntKind.u64 0] := ⟨fun _ => by kernel_rfl⟩
instance : ArrT Tryz.prog 358 20 248 1 := ⟨Tryz.underlying358, Tryz.sizeOf248⟩
instance : ZeroT Tryz.prog 358 (Value.agg #[Value.int IntKind.u64 0, Value.int IntKind.u64 0, Value.int IntKind.u64 0, Value.int IntKind.u64 0, Value.int IntKind.u64 0, Value.int IntKind.u64 0, Value.int IntKind.u64 0, Value.int IntKind.u64 0, Value.int IntKind.u64 0, Value.int IntKind.u64 0, Value.int IntKind.u64 0, Value.int IntKind.u64 0, Value.int IntKind.u64 0, Value.int IntKind.u64 0, Value.int IntKind.u64 0, Value.int IntKind.u64 0, Value.int IntKind.u64 0, Value.int IntKind.u64 0, Value.int IntKind.u64 0, Value.int IntKind.u64 0]) := ⟨Tryz.zeroValue358⟩
instance : UnderT Tryz.prog 359 (TypeDesc.array 65 5) := ⟨Tryz.underlying359⟩
instance : AggT Tryz.prog 359 65 := ⟨Tryz.isAgg359, Tryz.sizeOf359⟩
instance : ArrT Tryz.prog 359 65 5 1 := ⟨Tryz.underlying359, Tryz.sizeOf5⟩
instance : ZeroT Tryz.prog 359 (Value.agg ([Value.int IntKind.u8 0, Value.int IntKind.u8 0, Value.int IntKind.u8 0, Value.int IntKind.u8 0, Value.int IntKind.u8 0, Value.int IntKind.u8 0, Value.int IntKind.u8 0, Value.int IntKind.u8 0, Value.int IntKind.u8 0, Value.int IntKind.u8 0, Value.int IntKind.u8 0, Value.int IntKind.u8 0, Value.int IntKind.u8 0, Value.int IntKind.u8 0, Value.int IntKind.u8 0, Value.int IntKind.u8 0, Value.int IntKind.u8 0, Value.int IntKind.u8 0, Value.int IntKind.u8 0, Value.int IntKind.u8 0, Value.int IntKind.u8 0, Value.int IntKind.u8 0, Value.int IntKind.u8 0, Value.int IntKind.u8 0, Value.int IntKind.u8 0, Value.int IntKind.u8 0, Value.int IntKind.u8 0, Value.int IntKind.u8 0, Value.int IntKind.u8 0, Value.int IntKind.u8 0, Value.int IntKind.u8 0, Value.int IntKind.u8 0].append [Value.int IntKind.u8 0, Value.int IntKind.u8 0, Value.int IntKind.u8 0, Value.int IntKind.u8 0, Value.int IntKind.u8 0, Value.int IntKind.u8 0, Value.int IntKind.u8 0, Value.int IntKind.u8 0, Value.int IntKind.u8 0, Value.int IntKind.u8 0, Value.int IntKind.u8 0, Value.int IntKind.u8 0, Value.int IntKind.u8 0, Value.int IntKind.u8 0, Value.int IntKind.u8 0, Value.int IntKind.u8 0, Value.int IntKind.u8 0, Value.int IntKind.u8 0, Value.int IntKind.u8 0, Value.int IntKind.u8 0, Value.int IntKind.u8 0, Value.int IntKind.u8 0, Value.int IntKind.u8 0, Value.int IntKind.u8 0, Value.int IntKind.u8 0, Value.int IntKind.u8 0, Value.int IntKind.u8 0, Value.int IntKind.u8 0, Value.int IntKind.u8 0, Value.int IntKind.u8 0, Value.int IntKind.u8 0, Value.int IntKind.u8 0, Value.int IntKind.u8 0]).toArray) := ⟨Tryz.zeroValue359⟩
instance : UnderT Tryz.prog 360 (TypeDesc.array 32 5) := ⟨Tryz.underlying360⟩
instance : AggT Tryz.prog 360 32 := ⟨Tryz.isAgg360, Tryz.sizeOf360⟩
instance : BuildT Tryz.prog 360 (fun i => some (i * 1, 1)) #[Value.int IntKind.u8 0, Value.int IntKind.u8 0, Value.int IntKind.u8 0, Value.int IntKind.u8 0, Value.int IntKind.u8 0, Value.int IntKind.u8 0, Value.int IntKind.u8 0, Value.int IntKind.u8 0, Value.int IntKind.u8 0, Value.int IntKind.u8 0, Value.int IntKind.u8 0, Value.int IntKind.u8 0, Value.int IntKind.u8 0, Value.int IntKind.u8 0, Value.int IntKind.u8 0, Value.int IntKind.u8 0, Value.int IntKind.u8 0, Value.int IntKind.u8 0, Value.int IntKind.u8 0, Value.int IntKind.u8 0, Value.int IntKind.u8 0, Value.int IntKind.u8 0, Value.int IntKind.u8 0, Value.int IntKind.u8 0, Value.int IntKind.u8 0, Value.int IntKind.u8 0, Value.int IntKind.u8 0, Value.int IntKind.u8 0, Value.int IntKind.u8 0, Value.int IntKind.u8 0, Value.int IntKind.u8 0, Value.int IntKind.u8 0] := ⟨fun _ => by kernel_rfl⟩
instance : ArrT Tryz.prog 360 32 5 1 := ⟨Tryz.underlying360, Tryz.sizeOf5⟩
instance : ZeroT Tryz.prog 360 (Value.agg #[Value.int IntKind.u8 0, Value.int IntKind.u8 0, Value.int IntKind.u8 0, Value.int IntKind.u8 0, Value.int IntKind.u8 0, Value.int IntKind.u8 0, Value.int IntKind.u8 0, Value.int IntKind.u8 0, Value.int IntKind.u8 0, Value.int IntKind.u8 0, Value.int IntKind.u8 0, Value.int IntKind.u8 0, Value.int IntKind.u8 0, Value.int IntKind.u8 0, Value.int IntKind.u8 0, Value.int IntKind.u8 0, Value.int IntKind.u8 0, Value.int IntKind.u8 0, Value.int IntKind.u8 0, Value.int IntKind.u8 0, Value.int IntKind.u8 0, Value.int IntKind.u8 0, Value.int IntKind.u8 0, Value.int IntKind.u8 0, Value.int IntKind.u8 0, Value.int IntKind.u8 0, Value.int IntKind.u8 0, Value.int IntKind.u8 0, Value.int IntKind.u8 0, Value.int IntKind.u8 0, Value.int IntKind.u8 0, Value.int IntKind.u8 0]) := ⟨Tryz.zeroValue360⟩
instance : UnderT Tryz.prog 361 (TypeDesc.slice 409) := ⟨Tryz.underlying361⟩
instance : OneT Tryz.prog 361 := ⟨Tryz.isAgg361, Tryz.sizeOf361⟩
instance : ZeroT Tryz.prog 361 (Value.slice none 0 0) := ⟨Tryz.zeroValue361⟩
instance : SliceT Tryz.prog 361 409 2 32 (Value.agg #[Value.int IntKind.i64 0, Value.slice none 0 0]) := ⟨Tryz.underlying361, ⟨Tryz.t409, by kernel_rfl, rfl, rfl, rfl⟩, rfl⟩
instance : AggT Tryz.prog 362 38 := ⟨Tryz.isAgg362, Tryz.sizeOf362⟩
instance : FAddr Tryz.prog 362 0 0 := ⟨fun _ _ => by kernel_rfl⟩
instance : FAddr Tryz.prog 362 1 1 := ⟨fun _ _ => by kernel_rfl⟩
instance : FAddr Tryz.prog 362 2 33 := ⟨fun _ _ => by kernel_rfl⟩
instance : FAddr Tryz.prog 362 3 34 := ⟨fun _ _ => by kernel_rfl⟩
instance : FAddr Tryz.prog 362 4 35 := ⟨fun _ _ => by kernel_rfl⟩
instance : FAddr Tryz.prog 362 5 36 := ⟨fun _ _ => by kernel_rfl⟩
instance : FAddr Tryz.prog 362 6 37 := ⟨fun _ _ => by kernel_rfl⟩
instance : BuildT Tryz.prog 362 (fun i => #[(0, 1), (1, 32), (33, 1), (34, 1), (35, 1), (36, 1), (37, 1)][i]?) #[Value.int IntKind.i64 0, Value.int IntKind.u8 0, Value.int IntKind.u8 0, Value.int IntKind.u8 0, Value.int IntKind.u8 0, Value.int IntKind.u8 0, Value.int IntKind.u8 0, Value.int IntKind.u8 0, Value.int IntKind.u8 0, Value.int IntKind.u8 0, Value.int IntKind.u8 0, Value.int IntKind.u8 0, Value.int IntKind.u8 0, Value.int IntKind.u8 0, Value.int IntKind.u8 0, Value.int IntKind.u8 0, Value.int IntKind.u8 0, Value.int IntKind.u8 0, Value.int IntKind.u8 0, Value.int IntKind.u8 0, Value.int IntKind.u8 0, Value.int IntKind.u8 0, Value.int IntKind.u8 0, Value.int IntKind.u8 0, Value.int IntKind.u8 0, Value.int IntKind.u8 0, Value.int IntKind.u8 0, Value.int IntKind.u8 0, Value.int IntKind.u8 0, Value.int IntKind.u8 0, Value.int IntKind.u8 0, Value.int IntKind.u8 0, Value.int IntKind.u8 0, Value.slice none 0 0, Value.slice none 0 0, Value.slice none 0 0, Value.bool false, Value.slice none 0 0] := ⟨fun _ => by kernel_rfl⟩
instance : ZeroT Tryz.prog 362 (Value.agg #[Value.int IntKind.i64 0, Value.int IntKind.u8 0, Value.int IntKind.u8 0, Value.int IntKind.u8 0, Value.int IntKind.u8 0, Value.int IntKind.u8 0, Value.int IntKind.u8 0, Value.int IntKind.u8 0, Value.int IntKind.u8 0, Value.int IntKind.u8 0, Value.int IntKind.u8 0, Value.int IntKind.u8 0, Value.int IntKind.u8 0, Value.int IntKind.u8 0, Value.int IntKind.u8 0, Value.int IntKind.u8 0, Value.int IntKind.u8 0, Value.int IntKind.u8 0, Value.int IntKind.u8 0, Value.int IntKind.u8 0, Value.int IntKind.u8 0, Value.int IntKind.u8 0, Value.int IntKind.u8 0, Value.int IntKind.u8 0, Value.int IntKind.u8 0, Value.int IntKind.u8 0, Value.int IntKind.u8 0, Value.int IntKind.u8 0, Value.int IntKind.u8 0, Value.int IntKind.u8 0, Value.int IntKind.u8 0, Value.int IntKind.u8 0, Value.int IntKind.u8 0, Value.slice none 0 0, Value.slice none 0 0, Value.slice none 0 0, Value.bool false, Value.slice none 0 0]) := ⟨Tryz.zeroValue362⟩
instance : AggT Tryz.prog 363 38 := ⟨Tryz.isAgg363, Tryz.sizeOf363⟩
instance : FAddr Tryz.prog 363 0 0 := ⟨fun _ _ => by kernel_rfl⟩
instance : FAddr Tryz.prog 363 1 1 := ⟨fun _ _ => by kernel_rfl⟩
instance : FAddr Tryz.prog 363 2 33 := ⟨fun _ _ => by kernel_rfl⟩
instance : FAddr Tryz.prog 363 3 34 := ⟨fun _ _ => by kernel_rfl⟩
instance : FAddr Tryz.prog 363 4 35 := ⟨fun _ _ => by kernel_rfl⟩
instance : FAddr Tryz.prog 363 5 36 := ⟨fun _ _ => by kernel_rfl⟩
instance : FAddr Tryz.prog 363 6 37 := ⟨fun _ _ => by kernel_rfl⟩
instance : BuildT Tryz.prog 363 (fun i => #[(0, 1), (1, 32), (33, 1), (34, 1), (35, 1), (36, 1), (37, 1)][i]?) #[Value.int IntKind.i64 0, Value.int IntKind.u8 0, Value.int IntKind.u8 0, Value.int IntKind.u8 0, Value.int IntKind.u8 0, Value.int IntKind.u8 0, Value.int IntKind.u8 0, Value.int IntKind.u8 0, Value.int IntKind.u8 0, Value.int IntKind.u8 0, Value.int IntKind.u8 0, Value.int IntKind.u8 0, Value.int IntKind.u8 0, Value.int IntKind.u8 0, Value.int IntKind.u8 0, Value.int IntKind.u8 0, Value.int IntKind.u8 0, Value.int IntKind.u8 0, Value.int IntKind.u8 0, Value.int IntKind.u8 0, Value.int IntKind.u8 0, Value.int IntKind.u8 0, Value.int IntKind.u8 0, Value.int IntKind.u8 0, Value.int IntKind.u8 0, Value.int IntKind.u8 0, Value.int IntKind.u8 0, Value.int IntKind.u8 0, Value.int IntKind.u8 0, Value.int IntKind.u8 0, Value.int IntKind.u8 0, Value.int IntKind.u8 0, Value.int IntKind.u8 0, Value.slice none 0 0, Value.slice none 0 0, Value.slice none 0 0, Value.bool false, Value.slice none 0 0] := ⟨fun _ => by kernel_rfl⟩
instance : ZeroT Tryz.prog 363 (Value.agg #[Value.int IntKind.i64 0, Value.int IntKind.u8 0, Value.int IntKind.u8 0, Value.int IntKind.u8 0, Value.int IntKind.u8 0, Value.int IntKind.u8 0, Value.int IntKind.u8 0, Value.int IntKind.u8 0, Value.int IntKind.u8 0, Value.int IntKind.u8 0, Value.int IntKind.u8 0, Value.int IntKind.u8 0, Value.int IntKind.u8 0, Value.int IntKind.u8 0, Value.int IntKind.u8 0, Value.int IntKind.u8 0, Value.int IntKind.u8 0, Value.int IntKind.u8 0, Value.int IntKind.u8 0, Value.int IntKind.u8 0, Value.int IntKind.u8 0, Value.int IntKind.u8 0, Value.int IntKind.u8 0, Value.int IntKind.u8 0, Value.int IntKind.u8 0, Value.int IntKind.u8 0, Value.int IntKind.u8 0, Value.int IntKind.u8 0, Value.int IntKind.u8 0, Value.int IntKind.u8 0, Value.int IntKind.u8 0, Value.int IntKind.u8 0, Value.int IntKind.u8 0, Value.slice none 0 0, Value.slice none 0 0, Value.slice none 0 0, Value.bool false, Value.slice none 0 0]) := ⟨Tryz.zeroValue363⟩
instance : OneT Tryz.prog 365 := ⟨Tryz.isAgg365, Tryz.sizeOf365⟩
instance : ZeroT Tryz.prog 365 Value.nilFunc := ⟨Tryz.zeroValue365⟩
instance : OneT Tryz.prog 367 := ⟨Tryz.isAgg367, Tryz.sizeOf367⟩
instance : ZeroT Tryz.prog 367 Value.nilFunc := ⟨Tryz.zeroValue367⟩
instance : OneT Tryz.prog 369 := ⟨Tryz.isAgg369, Tryz.sizeOf369⟩
instance : ZeroT Tryz.prog 369 Value.nilFunc := ⟨Tryz.zeroValue369⟩
instance : OneT Tryz.prog 370 := ⟨Tryz.isAgg370, Tryz.sizeOf370⟩
instance : ZeroT Tryz.prog 370 Value.nilFunc := ⟨Tryz.zeroValue370⟩
instance : UnderT Tryz.prog 371 (TypeDesc.int IntKind.i64) := ⟨Tryz.underlying371⟩
instance : OneT Tryz.prog 371 := ⟨Tryz.isAgg371, Tryz.sizeOf371⟩
instance : ZeroT Tryz.prog 371 (Value.int IntKind.i64 0) := ⟨Tryz.zeroValue371⟩
instance : AggT Tryz.prog 372 4 := ⟨Tryz.isAgg372, Tryz.sizeOf372⟩
instance : FAddr Tryz.prog 372 0 0 := ⟨fun _ _ => by kernel_rfl⟩
instance : FAddr Tryz.prog 372 1 1 := ⟨fun _ _ => by kernel_rfl⟩
instance : FAddr Tryz.prog 372 2 2 := ⟨fun _ _ => by kernel_rfl⟩
instance : FAddr Tryz.prog 372 3 3 := ⟨fun _ _ => by kernel_rfl⟩
instance : BuildT Tryz.prog 372 (fun i => #[(0, 1), (1, 1), (2, 1), (3, 1)][i]?) #[Value.int IntKind.i64 0, Value.int IntKind.i64 0, Value.int IntKind.i64 0, Value.int IntKind.i64 0] := ⟨fun _ => by kernel_rfl⟩
instance : ZeroT Tryz.prog 372 (Value.agg #[Value.int IntKind.i64 0, Value.int IntKind.i64 0, Value.int IntKind.i64 0, Value.int IntKind.i64 0]) := ⟨Tryz.zeroValue372⟩
instance : AggT Tryz.prog 373 4 := ⟨Tryz.isAgg373, Tryz.sizeOf373⟩
instance : FAddr Tryz.prog 373 0 0 := ⟨fun _ _ => by kernel_rfl⟩
instance : FAddr Tryz.prog 373 1 1 := ⟨fun _ _ => by kernel_rfl⟩
instance : FAddr Tryz.prog 373 2 2 := ⟨fun _ _ => by kernel_rfl⟩
instance : FAddr Tryz.prog 373 3 3 := ⟨fun _ _ => by kernel_rfl⟩
instance : BuildT Tryz.prog 373 (fun i => #[(0, 1), (1, 1), (2, 1), (3, 1)][i]?) #[Value.int IntKind.i64 0, Value.int IntKind.i64 0, Value.int IntKind.i64 0, Value.int IntKind.i64 0] := ⟨fun _ => by kernel_rfl⟩
instance : ZeroT Tryz.prog 373 (Value.agg #[Value.int IntKind.i64 0, Value.int IntKind.i64 0, Value.int IntKind.i64 0, Value.int IntKind.i64 0]) := ⟨Tryz.zeroValue373⟩
instance : AggT Tryz.prog 374 4 := ⟨Tryz.isAgg374, Tryz.sizeOf374⟩
instance : FAddr Tryz.prog 374 0 0 := ⟨fun _ _ => by kernel_rfl⟩
instance : FAddr Tryz.prog 374 1 1 := ⟨fun _ _ => by kernel_rfl⟩
instance : FAddr Tryz.prog 374 2 2 := ⟨fun _ _ => by kernel_rfl⟩
instance : FAddr Tryz.prog 374 3 3 := ⟨fun _ _ => by kernel_rfl⟩
instance : BuildT Tryz.prog 374 (fun i => #[(0, 1), (1, 1), (2, 1), (3, 1)][i]?) #[Value.int IntKind.i64 0, Value.int IntKind.i64 0, Value.slice none 0 0, Value.int IntKind.i64 0] := ⟨fun _ => by kernel_rfl⟩
instance : ZeroT Tryz.prog 374 (Value.agg #[Value.int IntKind.i64 0, Value.int IntKind.i64 0, Value.slice none 0 0, Value.int IntKind.i64 0]) := ⟨Tryz.zeroValue374⟩
instance : AggT Tryz.prog 375 4 := ⟨Tryz.isAgg375, Tryz.sizeOf375⟩
instance : FAddr Tryz.prog 375 0 0 := ⟨fun _ _ => by kernel_rfl⟩
instance : FAddr Tryz.prog 375 1 1 := ⟨fun _ _ => by kernel_rfl⟩
instance : FAddr Tryz.prog 375 2 2 := ⟨fun _ _ => by kernel_rfl⟩
instance : FAddr Tryz.prog 375 3 3 := ⟨fun _ _ => by kernel_rfl⟩
instance : BuildT Tryz.prog 375 (fun i => #[(0, 1), (1, 1), (2, 1), (3, 1)][i]?) #[Value.int IntKind.i64 0, Value.int IntKind.i64 0, Value.slice none 0 0, Value.int IntKind.i64 0] := ⟨fun _ => by kernel_rfl⟩
instance : ZeroT Tryz.prog 375 (Value.agg #[Value.int IntKind.i64 0, Value.int IntKind.i64 0, Value.slice none 0 0, Value.int IntKind.i64 0]) := ⟨Tryz.zeroValue375⟩
instance : OneT Tryz.prog 377 := ⟨Tryz.isAgg377, Tryz.sizeOf377⟩
instance : ZeroT Tryz.prog 377 Value.nilFunc := ⟨Tryz.zeroValue377⟩
instance : OneT Tryz.prog 378 := ⟨Tryz.isAgg378, Tryz.sizeOf378⟩
instance : ZeroT Tryz.prog 378 Value.nilFunc := ⟨Tryz.zeroValue378⟩
instance : OneT Tryz.prog 379 := ⟨Tryz.isAgg379, Tryz.sizeOf379⟩
instance : ZeroT Tryz.prog 379 Value.nilFunc := ⟨Tryz.zeroValue379⟩
instance : OneT Tryz.prog 380 := ⟨Tryz.isAgg380, Tryz.sizeOf380⟩
instance : ZeroT Tryz.prog 380 Value.nilFunc := ⟨Tryz.zeroValue380⟩
instance : OneT Tryz.prog 382 := ⟨Tryz.isAgg382, Tryz.sizeOf382⟩
instance : ZeroT Tryz.prog 382 Value.nilFunc := ⟨Tryz.zeroValue382⟩
instance : OneT Tryz.prog 384 := ⟨Tryz.isAgg384, Tryz.sizeOf384⟩
instance : ZeroT Tryz.prog 384 Value.nilFunc := ⟨Tryz.zeroValue384⟩
instance : OneT Tryz.prog 386 := ⟨Tryz.isAgg386, Tryz.sizeOf386⟩
instance : ZeroT Tryz.prog 386 Value.nilFunc := ⟨Tryz.zeroValue386⟩
instance : OneT Tryz.prog 387 := ⟨Tryz.isAgg387, Tryz.sizeOf387⟩
instance : ZeroT Tryz.prog 387 Value.nilFunc := ⟨Tryz.zeroValue387⟩
instance : OneT Tryz.prog 388 := ⟨Tryz.isAgg388, Tryz.sizeOf388⟩
instance : ZeroT Tryz.prog 388 Value.nilFunc := ⟨Tryz.zeroValue388⟩
instance : OneT Tryz.prog 389 := ⟨Tryz.isAgg389, Tryz.sizeOf389⟩
instance : ZeroT Tryz.prog 389 Value.nilFunc := ⟨Tryz.zeroValue389⟩
instance : UnderT Tryz.prog 390 (TypeDesc.int IntKind.i64) := ⟨Tryz.underlying390⟩
instance : OneT Tryz.prog 390 := ⟨Tryz.isAgg390, Tryz.sizeOf390⟩
instance : ZeroT Tryz.prog 390 (Value.int IntKind.i64 0) := ⟨Tryz.zeroValue390⟩
instance : OneT Tryz.prog 392 := ⟨Tryz.isAgg392, Tryz.sizeOf392⟩
instance : ZeroT Tryz.prog 392 Value.nilFunc := ⟨Tryz.zeroValue392⟩
instance : UnderT Tryz.prog 393 (TypeDesc.pointer 415) := ⟨Tryz.underlying393⟩
instance : OneT Tryz.prog 393 := ⟨Tryz.isAgg393, Tryz.sizeOf393⟩
instance : ZeroT Tryz.prog 393 (Value.pointer none) := ⟨Tryz.zeroValue393⟩
instance : OneT Tryz.prog 394 := ⟨Tryz.isAgg394, Tryz.sizeOf394⟩
instance : ZeroT Tryz.prog 394 Value.nilFunc := ⟨Tryz.zeroValue394⟩
instance : OneT Tryz.prog 395 := ⟨Tryz.isAgg395, Tryz.sizeOf395⟩
instance : ZeroT Tryz.prog 395 Value.nilFunc := ⟨Tryz.zeroValue395⟩
instance : OneT Tryz.prog 397 := ⟨Tryz.isAgg397, Tryz.sizeOf397⟩
instance : ZeroT Tryz.prog 397 Value.nilFunc := ⟨Tryz.zeroValue397⟩
instance : UnderT Tryz.prog 398 (TypeDesc.array 256 5) := ⟨Tryz.underlying398⟩
instance : AggT Tryz.prog 398 256 := ⟨Tryz.isAgg398, Tryz.sizeOf398⟩
instance : AggT Tryz.prog 399 2 := ⟨Tryz.isAgg399, Tryz.sizeOf399⟩
instance : FAddr Tryz.prog 399 0 0 := ⟨fun _ _ => by kernel_rfl⟩
instance : FAddr Tryz.prog 399 1 1 := ⟨fun _ _ => by kernel_rfl⟩
instance : BuildT Tryz.prog 399 (fun i => #[(0, 1), (1, 1)][i]?) #[Value.int IntKind.u8 0, Value.int IntKind.u8 0] := ⟨fun _ => by kernel_rfl⟩
instance : ZeroT Tryz.prog 399 (Value.agg #[Value.int IntKind.u8 0, Value.int IntKind.u8 0]) := ⟨Tryz.zeroValue399⟩
instance : AggT Tryz.prog 400 2 := ⟨Tryz.isAgg400, Tryz.sizeOf400⟩
instance : FAddr Tryz.prog 400 0 0 := ⟨fun _ _ => by kernel_rfl⟩
instance : FAddr Tryz.prog 400 1 1 := ⟨fun _ _ => by kernel_rfl⟩
instance : BuildT Tryz.prog 400 (fun i => #[(0, 1), (1, 1)][i]?) #[Value.int IntKind.u8 0, Value.int IntKind.u8 0] := ⟨fun _ => by kernel_rfl⟩
instance : ZeroT Tryz.prog 400 (Value.agg #[Value.int IntKind.u8 0, Value.int IntKind.u8 0]) := ⟨Tryz.zeroValue400⟩
instance : UnderT Tryz.prog 401 (TypeDesc.array 16 400) := ⟨Tryz.underlying401⟩
instance : AggT Tryz.prog 401 32 := ⟨Tryz.isAgg401, Tryz.sizeOf401⟩
instance : BuildT Tryz.prog 401 (fun i => some (i * 2, 2)) #[Value.int IntKind.u8 0, Value.int IntKind.u8 0, Value.int IntKind.u8 0, Value.int IntKind.u8 0, Value.int IntKind.u8 0, Value.int IntKind.u8 0, Value.int IntKind.u8 0, Value.int IntKind.u8 0, Value.int IntKind.u8 0, Value.int IntKind.u8 0, Value.int IntKind.u8 0, Value.int IntKind.u8 0, Value.int IntKind.u8 0, Value.int IntKind.u8 0, Value.int IntKind.u8 0, Value.int IntKind.u8 0, Value.int IntKind.u8 0, Value.int IntKind.u8 0, Value.int IntKind.u8 0, Value.int IntKind.u8 0, Value.int IntKind.u8 0, Value.int IntKind.u8 0, Value.int IntKind.u8 0, Value.int IntKind.u8 0, Value.int IntKind.u8 0, Value.int IntKind.u8 0, Value.int IntKind.u8 0, Value.int IntKind.u8 0, Value.int IntKind.u8 0, Value.int IntKind.u8 0, Value.int IntKind.u8 0, Value.int IntKind.u8 0] := ⟨fun _ => by kernel_rfl⟩
instance : ArrT Tryz.prog 401 16 400 2 := ⟨Tryz.underlying401, Tryz.sizeOf400⟩
instance : ZeroT Tryz.prog 401 (Value.agg #[Value.int IntKind.u8 0, Value.int IntKind.u8 0, Value.int IntKind.u8 0, Value.int IntKind.u8 0, Value.int IntKind.u8 0, Value.int IntKind.u8 0, Value.int IntKind.u8 0, Value.int IntKind.u8 0, Value.int IntKind.u8 0, Value.int IntKind.u8 0, Value.int IntKind.u8 0, Value.int IntKind.u8 0, Value.int IntKind.u8 0, Value.int IntKind.u8 0, Value.int IntKind.u8 0, Value.int IntKind.u8 0, Value.int IntKind.u8 0, Value.int IntKind.u8 0, Value.int IntKind.u8 0, Value.int IntKind.u8 0, Value.int IntKind.u8 0, Value.int IntKind.u8 0, Value.int IntKind.u8 0, Value.int IntKind.u8 0, Value.int IntKind.u8 0, Value.int IntKind.u8 0, Value.int IntKind.u8 0, Value.int IntKind.u8 0, Value.int IntKind.u8 0, Value.int IntKind.u8 0, Value.int IntKind.u8 0, Value.int IntKind.u8 0]) := ⟨Tryz.zeroValue401⟩
instance : UnderT Tryz.prog 402 (TypeDesc.array 64 5) := ⟨Tryz.underlying402⟩
instance : AggT Tryz.prog 402 64 := ⟨Tryz.isAgg402, Tryz.sizeOf402⟩
instance : BuildT Tryz.prog 402 (fun i => some (i * 1, 1)) #[Value.int IntKind.u8 0, Value.int IntKind.u8 0, Value.int IntKind.u8 0, Value.int IntKind.u8 0, Value.int IntKind.u8 0, Value.int IntKind.u8 0, Value.int IntKind.u8 0, Value.int IntKind.u8 0, Value.int IntKind.u8 0, Value.int IntKind.u8 0, Value.int IntKind.u8 0, Value.int IntKind.u8 0, Value.int IntKind.u8 0, Value.int IntKind.u8 0, Value.int IntKind.u8 0, Value.int IntKind.u8 0, Value.int IntKind.u8 0, Value.int IntKind.u8 0, Value.int IntKind.u8 0, Value.int IntKind.u8 0, Value.int IntKind.u8 0, Value.int IntKind.u8 0, Value.int IntKind.u8 0, Value.int IntKind.u8 0, Value.int IntKind.u8 0, Value.int IntKind.u8 0, Value.int IntKind.u8 0, Value.int IntKind.u8 0, Value.int IntKind.u8 0, Value.int IntKind.u8 0, Value.int IntKind.u8 0, Value.int IntKind.u8 0, Value.int IntKind.u8 0, Value.int IntKind.u8 0, Value.int IntKind.u8 0, Value.int IntKind.u8 0, Value.int IntKind.u8 0, Value.int IntKind.u8 0, Value.int IntKind.u8 0, Value.int IntKind.u8 0, Value.int IntKind.u8 0, Value.int IntKind.u8 0, Value.int IntKind.u8 0, Value.int IntKind.u8 0, Value.int IntKind.u8 0, Value.int IntKind.u8 0, Value.int IntKind.u8 0, Value.int IntKind.u8 0, Value.int IntKind.u8 0, Value.int IntKind.u8 0, Value.int IntKind.u8 0, Value.int IntKind.u8 0, Value.int IntKind.u8 0, Value.int IntKind.u8 0, Value.int IntKind.u8 0, Value.int IntKind.u8 0, Value.int IntKind.u8 0, Value.int IntKind.u8 0, Value.int IntKind.u8 0, Value.int IntKind.u8 0, Value.int IntKind.u8 0, Value.int IntKind.u8 0, Value.int IntKind.u8 0, Value.int IntKind.u8 0] := ⟨fun _ => by kernel_rfl⟩
instance : ArrT Tryz.prog 402 64 5 1 := ⟨Tryz.underlying402, Tryz.sizeOf5⟩
instance : ZeroT Tryz.prog 402 (Value.agg #[Value.int IntKind.u8 0, Value.int IntKind.u8 0, Value.int IntKind.u8 0, Value.int IntKind.u8 0, Value.int IntKind.u8 0, Value.int IntKind.u8 0, Value.int IntKind.u8 0, Value.int IntKind.u8 0, Value.int IntKind.u8 0, Value.int IntKind.u8 0, Value.int IntKind.u8 0, Value.int IntKind.u8 0, Value.int IntKind.u8 0, Value.int IntKind.u8 0, Value.int IntKind.u8 0, Value.int IntKind.u8 0, Value.int IntKind.u8 0, Value.int IntKind.u8 0, Value.int IntKind.u8 0, Value.int IntKind.u8 0, Value.int IntKind.u8 0, Value.int IntKind.u8 0, Value.int IntKind.u8 0, Value.int IntKind.u8 0, Value.int IntKind.u8 0, Value.int IntKind.u8 0, Value.int IntKind.u8 0, Value.int IntKind.u8 0, Value.int IntKind.u8 0, Value.int IntKind.u8 0, Value.int IntKind.u8 0, Value.int IntKind.u8 0, Value.int IntKind.u8 0, Value.int IntKind.u8 0, Value.int IntKind.u8 0, Value.int IntKind.u8 0, Value.int IntKind.u8 0, Value.int IntKind.u8 0, Value.int IntKind.u8 0, Value.int IntKind.u8 0, Value.int IntKind.u8 0, Value.int IntKind.u8 0, Value.int IntKind.u8 0, Value.int IntKind.u8 0, Value.int IntKind.u8 0, Value.int IntKind.u8 0, Value.int IntKind.u8 0, Value.int IntKind.u8 0, Value.int IntKind.u8 0, Value.int IntKind.u8 0, Value.int IntKind.u8 0, Value.int IntKind.u8 0, Value.int IntKind.u8 0, Value.int IntKind.u8 0, Value.int IntKind.u8 0, Value.int IntKind.u8 0, Value.int IntKind.u8 0, Value.int IntKind.u8 0, Value.int IntKind.u8 0, Value.int IntKind.u8 0, Value.int IntKind.u8 0, Value.int IntKind.u8 0, Value.int IntKind.u8 0, Value.int IntKind.u8 0]) := ⟨Tryz.zeroValue402⟩
instance : UnderT Tryz.prog 403 (TypeDesc.pointer 405) := ⟨Tryz.underlying403⟩
instance : OneT Tryz.prog 403 := ⟨Tryz.isAgg403, Tryz.sizeOf403⟩
instance : ZeroT Tryz.prog 403 (Value.pointer none) := ⟨Tryz.zeroValue403⟩
instance : AggT Tryz.prog 404 3 := ⟨Tryz.isAgg404, Tryz.sizeOf404⟩
instance : FAddr Tryz.prog 404 0 0 := ⟨fun _ _ => by kernel_rfl⟩
instance : FAddr Tryz.prog 404 1 1 := ⟨fun _ _ => by kernel_rfl⟩
instance : FAddr Tryz.prog 404 2 2 := ⟨fun _ _ => by kernel_rfl⟩
instance : BuildT Tryz.prog 404 (fun i => #[(0, 1), (1, 1), (2, 1)][i]?) #[Value.slice none 0 0, Value.int IntKind.i64 0, Value.bool false] := ⟨fun _ => by kernel_rfl⟩
instance : ZeroT Tryz.prog 404 (Value.agg #[Value.slice none 0 0, Value.int IntKind.i64 0, Value.bool false]) := ⟨Tryz.zeroValue404⟩
instance : AggT Tryz.prog 405 3 := ⟨Tryz.isAgg405, Tryz.sizeOf405⟩
instance : FAddr Tryz.prog 405 0 0 := ⟨fun _ _ => by kernel_rfl⟩
instance : FAddr Tryz.prog 405 1 1 := ⟨fun _ _ => by kernel_rfl⟩
instance : FAddr Tryz.prog 405 2 2 := ⟨fun _ _ => by kernel_rfl⟩
instance : BuildT Tryz.prog 405 (fun i => #[(0, 1), (1, 1), (2, 1)][i]?) #[Value.slice none 0 0, Value.int IntKind.i64 0, Value.bool false] := ⟨fun _ => by kernel_rfl⟩
instance : ZeroT Tryz.prog 405 (Value.agg #[Value.slice none 0 0, Value.int IntKind.i64 0, Value.bool false]) := ⟨Tryz.zeroValue405⟩
instance : OneT Tryz.prog 407 := ⟨Tryz.isAgg407, Tryz.sizeOf407⟩
instance : ZeroT Tryz.prog 407 Value.nilFunc := ⟨Tryz.zeroValue407⟩
instance : AggT Tryz.prog 408 2 := ⟨Tryz.isAgg408, Tryz.sizeOf408⟩
instance : FAddr Tryz.prog 408 0 0 := ⟨fun _ _ => by kernel_rfl⟩
instance : FAddr Tryz.prog 408 1 1 := ⟨fun _ _ => by kernel_rfl⟩
instance : BuildT Tryz.prog 408 (fun i => #[(0, 1), (1, 1)][i]?) #[Value.int IntKind.i64 0, Value.slice none 0 0] := ⟨fun _ => by kernel_rfl⟩
instance : ZeroT Tryz.prog 408 (Value.agg #[Value.int IntKind.i64 0, Value.slice none 0 0]) := ⟨Tryz.zeroValue408⟩
instance : AggT Tryz.prog 409 2 := ⟨Tryz.isAgg409, Tryz.sizeOf409⟩
instance : FAddr Tryz.prog 409 0 0 := ⟨fun _ _ => by kernel_rfl⟩
instance : FAddr Tryz.prog 409 1 1 := ⟨fun _ _ => by kernel_rfl⟩
instance : BuildT Tryz.prog 409 (fun i => #[(0, 1), (1, 1)][i]?) #[Value.int IntKind.i64 0, Value.slice none 0 0] := ⟨fun _ => by kernel_rfl⟩
instance : ZeroT Tryz.prog 409 (Value.agg #[Value.int IntKind.i64 0, Value.slice none 0 0]) := ⟨Tryz.zeroValue409⟩
instance : OneT Tryz.prog 411 := ⟨Tryz.isAgg411, Tryz.sizeOf411⟩
instance : ZeroT Tryz.prog 411 Value.nilFunc := ⟨Tryz.zeroValue411⟩
instance : OneT Tryz.prog 413 := ⟨Tryz.isAgg413, Tryz.sizeOf413⟩
instance : ZeroT Tryz.prog 413 Value.nilFunc := ⟨Tryz.zeroValue413⟩
instance : AggT Tryz.prog 414 3 := ⟨Tryz.isAgg414, Tryz.sizeOf414⟩
instance : FAddr Tryz.prog 414 0 0 := ⟨fun _ _ => by kernel_rfl⟩
instance : FAddr Tryz.prog 414 1 1 := ⟨fun _ _ => by kernel_rfl⟩
instance : FAddr Tryz.prog 414 2 2 := ⟨fun _ _ => by kernel_rfl⟩
instance : BuildT Tryz.prog 414 (fun i => #[(0, 1), (1, 1), (2, 1)][i]?) #[Value.string { data := #[] }, Value.string { data := #[] }, Value.nilIface] := ⟨fun _ => by kernel_rfl⟩
instance : ZeroT Tryz.prog 414 (Value.agg #[Value.string { data := #[] }, Value.string { data := #[] }, Value.nilIface]) := ⟨Tryz.zeroValue414⟩
instance : AggT Tryz.prog 415 3 := ⟨Tryz.isAgg415, Tryz.sizeOf415⟩
instance : FAddr Tryz.prog 415 0 0 := ⟨fun _ _ => by kernel_rfl⟩
instance : FAddr Tryz.prog 415 1 1 := ⟨fun _ _ => by kernel_rfl⟩
instance : FAddr Tryz.prog 415 2 2 := ⟨fun _ _ => by kernel_rfl⟩
instance : BuildT Tryz.prog 415 (fun i => #[(0, 1), (1, 1), (2, 1)][i]?) #[Value.string { data := #[] }, Value.string { data := #[] }, Value.nilIface] := ⟨fun _ => by kernel_rfl⟩
instance : ZeroT Tryz.prog 415 (Value.agg #[Value.string { data := #[] }, Value.string { data := #[] }, Value.nilIface]) := ⟨Tryz.zeroValue415⟩
instance : OneT Tryz.prog 416 := ⟨Tryz.isAgg416, Tryz.sizeOf416⟩
instance : ZeroT Tryz.prog 416 Value.nilFunc := ⟨Tryz.zeroValue416⟩
instance : OneT Tryz.prog 417 := ⟨Tryz.isAgg417, Tryz.sizeOf417⟩
instance : ZeroT Tryz.prog 417 Value.nilFunc := ⟨Tryz.zeroValue417⟩
instance : OneT Tryz.prog 419 := ⟨Tryz.isAgg419, Tryz.sizeOf419⟩
instance : ZeroT Tryz.prog 419 Value.nilFunc := ⟨Tryz.zeroValue419⟩
instance : UnderT Tryz.prog 420 (TypeDesc.pointer 422) := ⟨Tryz.underlying420⟩
instance : OneT Tryz.prog 420 := ⟨Tryz.isAgg420, Tryz.sizeOf420⟩
instance : ZeroT Tryz.prog 420 (Value.pointer none) := ⟨Tryz.zeroValue420⟩
instance : AggT Tryz.prog 421 1 := ⟨Tryz.isAgg421, Tryz.sizeOf421⟩
instance : FAddr Tryz.prog 421 0 0 := ⟨fun _ _ => by kernel_rfl⟩
instance : BuildT Tryz.prog 421 (fun i => #[(0, 1)][i]?) #[Value.string { data := #[] }] := ⟨fun _ => by kernel_rfl⟩
instance : ZeroT Tryz.prog 421 (Value.agg #[Value.string { data := #[] }]) := ⟨Tryz.zeroValue421⟩
instance : AggT Tryz.prog 422 1 := ⟨Tryz.isAgg422, Tryz.sizeOf422⟩
instance : FAddr Tryz.prog 422 0 0 := ⟨fun _ _ => by kernel_rfl⟩
instance : BuildT Tryz.prog 422 (fun i => #[(0, 1)][i]?) #[Value.string { data := #[] }] := ⟨fun _ => by kernel_rfl⟩
instance : ZeroT Tryz.prog 422 (Value.agg #[Value.string { data := #[] }]) := ⟨Tryz.zeroValue422⟩
instance : AggT Tryz.prog 423 4 := ⟨Tryz.isAgg423, Tryz.sizeOf423⟩
instance : FAddr Tryz.prog 423 0 0 := ⟨fun _ _ => by kernel_rfl⟩
instance : FAddr Tryz.prog 423 1 1 := ⟨fun _ _ => by kernel_rfl⟩
instance : FAddr Tryz.prog 423 2 2 := ⟨fun _ _ => by kernel_rfl⟩
instance : FAddr Tryz.prog 423 3 3 := ⟨fun _ _ => by kernel_rfl⟩
instance : BuildT Tryz.prog 423 (fun i => #[(0, 1), (1, 1), (2, 1), (3, 1)][i]?) #[Value.pointer none, Value.pointer none, Value.pointer none, Value.string { data := #[] }] := ⟨fun _ => by kernel_rfl⟩
instance : ZeroT Tryz.prog 423 (Value.agg #[Value.pointer none, Value.pointer none, Value.pointer none, Value.string { data := #[] }]) := ⟨Tryz.zeroValue423⟩
instance : AggT Tryz.prog 424 4 := ⟨Tryz.isAgg424, Tryz.sizeOf424⟩
instance : FAddr Tryz.prog 424 0 0 := ⟨fun _ _ => by kernel_rfl⟩
instance : FAddr Tryz.prog 424 1 1 := ⟨fun _ _ => by kernel_rfl⟩
instance : FAddr Tryz.prog 424 2 2 := ⟨fun _ _ => by kernel_rfl⟩
instance : FAddr Tryz.prog 424 3 3 := ⟨fun _ _ => by kernel_rfl⟩
instance : BuildT Tryz.prog 424 (fun i => #[(0, 1), (1, 1), (2, 1), (3, 1)][i]?) #[Value.pointer none, Value.pointer none, Value.pointer none, Value.string { data := #[] }] := ⟨fun _ => by kernel_rfl⟩
instance : ZeroT Tryz.prog 424 (Value.agg #[Value.pointer none, Value.pointer none, Value.pointer none, Value.string { data := #[] }]) := ⟨Tryz.zeroValue424⟩
instance : UnderT Tryz.prog 425 (TypeDesc.array 0 16) := ⟨Tryz.underlying425⟩
instance : AggT Tryz.prog 425 0 := ⟨Tryz.isAgg425, Tryz.sizeOf425⟩
instance : BuildT Tryz.prog 425 (fun i => some (i * 1, 1)) #[] := ⟨fun _ => by kernel_rfl⟩
instance : ArrT Tryz.prog 425 0 16 1 := ⟨Tryz.underlying425, Tryz.sizeOf16⟩
instance : ZeroT Tryz.prog 425 (Value.agg #[]) := ⟨Tryz.zeroValue425⟩
instance : AggT Tryz.prog 426 0 := ⟨Tryz.isAgg426, Tryz.sizeOf426⟩
instance : BuildT Tryz.prog 426 (fun i => #[(0, 0)][i]?) #[] := ⟨fun _ => by kernel_rfl⟩
instance : ZeroT Tryz.prog 426 (Value.agg #[]) := ⟨Tryz.zeroValue426⟩
instance : AggT Tryz.prog 427 0 := ⟨Tryz.isAgg427, Tryz.sizeOf427⟩
instance : BuildT Tryz.prog 427 (fun i => #[(0, 0)][i]?) #[] := ⟨fun _ => by kernel_rfl⟩
instance : ZeroT Tryz.prog 427 (Value.agg #[]) := ⟨Tryz.zeroValue427⟩
instance : UnderT Tryz.prog 428 (TypeDesc.int IntKind.u8) := ⟨Tryz.underlying428⟩
instance : OneT Tryz.prog 428 := ⟨Tryz.isAgg428, Tryz.sizeOf428⟩
instance : ZeroT Tryz.prog 428 (Value.int IntKind.u8 0) := ⟨Tryz.zeroValue428⟩
instance : UnderT Tryz.prog 429 (TypeDesc.int IntKind.u8) := ⟨Tryz.underlying429⟩
instance : OneT Tryz.prog 429 := ⟨Tryz.isAgg429, Tryz.sizeOf429⟩
instance : ZeroT Tryz.prog 429 (Value.int IntKind.u8 0) := ⟨Tryz.zeroValue429⟩
instance : OneT Tryz.prog 430 := ⟨Tryz.isAgg430, Tryz.sizeOf430⟩
instance : ZeroT Tryz.prog 430 Value.nilFunc := ⟨Tryz.zeroValue430⟩
instance : UnderT Tryz.prog 431 (TypeDesc.int IntKind.i32) := ⟨Tryz.underlying431⟩
instance : OneT Tryz.prog 431 := ⟨Tryz.isAgg431, Tryz.sizeOf431⟩
instance : ZeroT Tryz.prog 431 (Value.int IntKind.i32 0) := ⟨Tryz.zeroValue431⟩
instance : UnderT Tryz.prog 432 (TypeDesc.int IntKind.i32) := ⟨Tryz.underlying432⟩
instance : OneT Tryz.prog 432 := ⟨Tryz.isAgg432, Tryz.sizeOf432⟩
instance : ZeroT Tryz.prog 432 (Value.int IntKind.i32 0) := ⟨Tryz.zeroValue432⟩
instance : AggT Tryz.prog 433 11 := ⟨Tryz.isAgg433, Tryz.sizeOf433⟩
instance : FAddr Tryz.prog 433 0 0 := ⟨fun _ _ => by kernel_rfl⟩
instance : FAddr Tryz.prog 433 1 1 := ⟨fun _ _ => by kernel_rfl⟩
instance : FAddr Tryz.prog 433 2 2 := ⟨fun _ _ => by kernel_rfl⟩
instance : FAddr Tryz.prog 433 3 3 := ⟨fun _ _ => by kernel_rfl⟩
instance : FAddr Tryz.prog 433 4 4 := ⟨fun _ _ => by kernel_rfl⟩
instance : FAddr Tryz.prog 433 5 5 := ⟨fun _ _ => by kernel_rfl⟩
instance : FAddr Tryz.prog 433 6 6 := ⟨fun _ _ => by kernel_rfl⟩
instance : FAddr Tryz.prog 433 7 7 := ⟨fun _ _ => by kernel_rfl⟩
instance : FAddr Tryz.prog 433 8 8 := ⟨fun _ _ => by kernel_rfl⟩
instance : FAddr Tryz.prog 433 9 9 := ⟨fun _ _ => by kernel_rfl⟩
instance : FAddr Tryz.prog 433 10 10 := ⟨fun _ _ => by kernel_rfl⟩
instance : BuildT Tryz.prog 433 (fun i => #[(0, 1), (1, 1), (2, 1), (3, 1), (4, 1), (5, 1), (6, 1), (7, 1), (8, 1), (9, 1), (10, 1)][i]?) #[Value.int IntKind.u64 0, Value.int IntKind.u64 0, Value.int IntKind.u32 0, Value.int IntKind.u8 0, Value.int IntKind.u8 0, Value.int IntKind.u8 0, Value.int IntKind.u8 0, Value.nilFunc, Value.pointer none, Value.int IntKind.i32 0, Value.int IntKind.i32 0] := ⟨fun _ => by kernel_rfl⟩
instance : ZeroT Tryz.prog 433 (Value.agg #[Value.int IntKind.u64 0, Value.int IntKind.u64 0, Value.int IntKind.u32 0, Value.int IntKind.u8 0, Value.int IntKind.u8 0, Value.int IntKind.u8 0, Value.int IntKind.u8 0, Value.nilFunc, Value.pointer none, Value.int IntKind.i32 0, Value.int IntKind.i32 0]) := ⟨Tryz.zeroValue433⟩
instance : AggT Tryz.prog 434 11 := ⟨Tryz.isAgg434, Tryz.sizeOf434⟩
instance : FAddr Tryz.prog 434 0 0 := ⟨fun _ _ => by kernel_rfl⟩
instance : FAddr Tryz.prog 434 1 1 := ⟨fun _ _ => by kernel_rfl⟩
instance : FAddr Tryz.prog 434 2 2 := ⟨fun _ _ => by kernel_rfl⟩
instance : FAddr Tryz.prog 434 3 3 := ⟨fun _ _ => by kernel_rfl⟩
instance : FAddr Tryz.prog 434 4 4 := ⟨fun _ _ => by kernel_rfl⟩
instance : FAddr Tryz.prog 434 5 5 := ⟨fun _ _ => by kernel_rfl⟩
instance : FAddr Tryz.prog 434 6 6 := ⟨fun _ _ => by kernel_rfl⟩
instance : FAddr Tryz.prog 434 7 7 := ⟨fun _ _ => by kernel_rfl⟩
instance : FAddr Tryz.prog 434 8 8 := ⟨fun _ _ => by kernel_rfl⟩
instance : FAddr Tryz.prog 434 9 9 := ⟨fun _ _ => by kernel_rfl⟩
instance : FAddr Tryz.prog 434 10 10 := ⟨fun _ _ => by kernel_rfl⟩
instance : BuildT Tryz.prog 434 (fun i => #[(0, 1), (1, 1), (2, 1), (3, 1), (4, 1), (5, 1), (6, 1), (7, 1), (8, 1), (9, 1), (10, 1)][i]?) #[Value.int IntKind.u64 0, Value.int IntKind.u64 0, Value.int IntKind.u32 0, Value.int IntKind.u8 0, Value.int IntKind.u8 0, Value.int IntKind.u8 0, Value.int IntKind.u8 0, Value.nilFunc, Value.pointer none, Value.int IntKind.i32 0, Value.int IntKind.i32 0] := ⟨fun _ => by kernel_rfl⟩
instance : ZeroT Tryz.prog 434 (Value.agg #[Value.int IntKind.u64 0, Value.int IntKind.u64 0, Value.int IntKind.u32 0, Value.int IntKind.u8 0, Value.int IntKind.u8 0, Value.int IntKind.u8 0, Value.int IntKind.u8 0, Value.nilFunc, Value.pointer none, Value.int IntKind.i32 0, Value.int IntKind.i32 0]) := ⟨Tryz.zeroValue434⟩
instance : OneT Tryz.prog 435 := ⟨Tryz.isAgg435, Tryz.sizeOf435⟩
instance : ZeroT Tryz.prog 435 Value.nilFunc := ⟨Tryz.zeroValue435⟩
instance : OneT Tryz.prog 436 := ⟨Tryz.isAgg436, Tryz.sizeOf436⟩
instance : ZeroT Tryz.prog 436 Value.nilFunc := ⟨Tryz.zeroValue436⟩
instance : OneT Tryz.prog 438 := ⟨Tryz.isAgg438, Tryz.sizeOf438⟩
instance : ZeroT Tryz.prog 438 Value.nilFunc := ⟨Tryz.zeroValue438⟩
instance : OneT Tryz.prog 439 := ⟨Tryz.isAgg439, Tryz.sizeOf439⟩
instance : ZeroT Tryz.prog 439 Value.nilFunc := ⟨Tryz.zeroValue439⟩
instance : UnderT Tryz.prog 440 (TypeDesc.pointer 447) := ⟨Tryz.underlying440⟩
instance : OneT Tryz.prog 440 := ⟨Tryz.isAgg440, Tryz.sizeOf440⟩
instance : ZeroT Tryz.prog 440 (Value.pointer none) := ⟨Tryz.zeroValue440⟩
instance : OneT Tryz.prog 441 := ⟨Tryz.isAgg441, Tryz.sizeOf441⟩
instance : ZeroT Tryz.prog 441 Value.nilFunc := ⟨Tryz.zeroValue441⟩
instance : OneT Tryz.prog 442 := ⟨Tryz.isAgg442, Tryz.sizeOf442⟩
instance : ZeroT Tryz.prog 442 Value.nilFunc := ⟨Tryz.zeroValue442⟩
instance : OneT Tryz.prog 443 := ⟨Tryz.isAgg443, Tryz.sizeOf443⟩
instance : ZeroT Tryz.prog 443 Value.nilFunc := ⟨Tryz.zeroValue443⟩
instance : OneT Tryz.prog 444 := ⟨Tryz.isAgg444, Tryz.sizeOf444⟩
instance : ZeroT Tryz.prog 444 Value.nilFunc := ⟨Tryz.zeroValue444⟩
instance : UnderT Tryz.prog 445 (TypeDesc.array 3 47) := ⟨Tryz.underlying445⟩
instance : AggT Tryz.prog 445 3 := ⟨Tryz.isAgg445, Tryz.sizeOf445⟩
instance : BuildT Tryz.prog 445 (fun i => some (i * 1, 1)) #[Value.int IntKind.i64 0, Value.int IntKind.i64 0, Value.int IntKind.i64 0] := ⟨fun _ => by kernel_rfl⟩
instance : ArrT Tryz.prog 445 3 47 1 := ⟨Tryz.underlying445, Tryz.sizeOf47⟩
instance : ZeroT Tryz.prog 445 (Value.agg #[Value.int IntKind.i64 0, Value.int IntKind.i64 0, Value.int IntKind.i64 0]) := ⟨Tryz.zeroValue445⟩
instance : AggT Tryz.prog 446 2 := ⟨Tryz.isAgg446, Tryz.sizeOf446⟩
instance : FAddr Tryz.prog 446 0 0 := ⟨fun _ _ => by kernel_rfl⟩
instance : FAddr Tryz.prog 446 1 1 := ⟨fun _ _ => by kernel_rfl⟩
instance : BuildT Tryz.prog 446 (fun i => #[(0, 1), (1, 1)][i]?) #[Value.slice none 0 0, Value.bool false] := ⟨fun _ => by kernel_rfl⟩
instance : ZeroT Tryz.prog 446 (Value.agg #[Value.slice none 0 0, Value.bool false]) := ⟨Tryz.zeroValue446⟩
instance : AggT Tryz.prog 447 2 := ⟨Tryz.isAgg447, Tryz.sizeOf447⟩
instance : FAddr Tryz.prog 447 0 0 := ⟨fun _ _ => by kernel_rfl⟩
instance : FAddr Tryz.prog 447 1 1 := ⟨fun _ _ => by kernel_rfl⟩
instance : BuildT Tryz.prog 447 (fun i => #[(0, 1), (1, 1)][i]?) #[Value.slice none 0 0, Value.bool false] := ⟨fun _ => by kernel_rfl⟩
instance : ZeroT Tryz.prog 447 (Value.agg #[Value.slice none 0 0, Value.bool false]) := ⟨Tryz.zeroValue447⟩
instance : OneT Tryz.prog 448 := ⟨Tryz.isAgg448, Tryz.sizeOf448⟩
instance : ZeroT Tryz.prog 448 Value.nilFunc := ⟨Tryz.zeroValue448⟩
instance : OneT Tryz.prog 449 := ⟨Tryz.isAgg449, Tryz.sizeOf449⟩
instance : ZeroT Tryz.prog 449 Value.nilFunc := ⟨Tryz.zeroValue449⟩
instance : OneT Tryz.prog 450 := ⟨Tryz.isAgg450, Tryz.sizeOf450⟩
instance : ZeroT Tryz.prog 450 Value.nilFunc := ⟨Tryz.zeroValue450⟩
instance : OneT Tryz.prog 451 := ⟨Tryz.isAgg451, Tryz.sizeOf451⟩
instance : ZeroT Tryz.prog 451 Value.nilFunc := ⟨Tryz.zeroValue451⟩
instance : OneT Tryz.prog 452 := ⟨Tryz.isAgg452, Tryz.sizeOf452⟩
instance : ZeroT Tryz.prog 452 Value.nilFunc := ⟨Tryz.zeroValue452⟩
instance : OneT Tryz.prog 454 := ⟨Tryz.isAgg454, Tryz.sizeOf454⟩
instance : ZeroT Tryz.prog 454 Value.nilFunc := ⟨Tryz.zeroValue454⟩
instance : OneT Tryz.prog 455 := ⟨Tryz.isAgg455, Tryz.sizeOf455⟩
instance : ZeroT Tryz.prog 455 Value.nilFunc := ⟨Tryz.zeroValue455⟩
instance : OneT Tryz.prog 456 := ⟨Tryz.isAgg456, Tryz.sizeOf456⟩
instance : ZeroT Tryz.prog 456 Value.nilFunc := ⟨Tryz.zeroValue456⟩
instance : UnderT Tryz.prog 457 (TypeDesc.map 3 3) := ⟨Tryz.underlying457⟩
instance : OneT Tryz.prog 457 := ⟨Tryz.isAgg457, Tryz.sizeOf457⟩
instance : ZeroT Tryz.prog 457 (Value.map none) := ⟨Tryz.zeroValue457⟩
instance : OneT Tryz.prog 458 := ⟨Tryz.isAgg458, Tryz.sizeOf458⟩
instance : ZeroT Tryz.prog 458 Value.nilFunc := ⟨Tryz.zeroValue458⟩
instance : OneT Tryz.prog 459 := ⟨Tryz.isAgg459, Tryz.sizeOf459⟩
instance : ZeroT Tryz.prog 459 Value.nilFunc := ⟨Tryz.zeroValue459⟩
instance : OneT Tryz.prog 460 := ⟨Tryz.isAgg460, Tryz.sizeOf460⟩
instance : ZeroT Tryz.prog 460 Value.nilFunc := ⟨Tryz.zeroValue460⟩
instance : UnderT Tryz.prog 461 (TypeDesc.array 256 4) := ⟨Tryz.underlying461⟩
instance : AggT Tryz.prog 461 256 := ⟨Tryz.isAgg461, Tryz.sizeOf461⟩
instance : UnderT Tryz.prog 462 (TypeDesc.array 256 4) := ⟨Tryz.underlying462⟩
instance : AggT Tryz.prog 462 256 := ⟨Tryz.isAgg462, Tryz.sizeOf462⟩
instance : OneT Tryz.prog 464 := ⟨Tryz.isAgg464, Tryz.sizeOf464⟩
instance : ZeroT Tryz.prog 464 Value.nilFunc := ⟨Tryz.zeroValue464⟩
instance : OneT Tryz.prog 465 := ⟨Tryz.isAgg465, Tryz.sizeOf465⟩
instance : ZeroT Tryz.prog 465 Value.nilFunc := ⟨Tryz.zeroValue465⟩
instance : OneT Tryz.prog 466 := ⟨Tryz.isAgg466, Tryz.sizeOf466⟩
instance : ZeroT Tryz.prog 466 Value.nilFunc := ⟨Tryz.zeroValue466⟩
instance : UnderT Tryz.prog 467 (TypeDesc.pointer 462) := ⟨Tryz.underlying467⟩
instance : OneT Tryz.prog 467 := ⟨Tryz.isAgg467, Tryz.sizeOf467⟩
instance : ZeroT Tryz.prog 467 (Value.pointer none) := ⟨Tryz.zeroValue467⟩
instance : OneT Tryz.prog 468 := ⟨Tryz.isAgg468, Tryz.sizeOf468⟩
instance : ZeroT Tryz.prog 468 Value.nilFunc := ⟨Tryz.zeroValue468⟩
instance : CallF Tryz.prog 2 := ⟨Tryz.call2⟩
instance : CallF Tryz.prog 3 := ⟨Tryz.call3⟩
instance : CallF Tryz.prog 4 := ⟨Tryz.call4⟩
instance : CallF Tryz.prog 5 := ⟨Tryz.call5⟩
instance : CallF Tryz.prog 6 := ⟨Tryz.call6⟩
instance : CallF Tryz.prog 7 := ⟨Tryz.call7⟩
instance : CallF Tryz.prog 8 := ⟨Tryz.call8⟩
instance : CallF Tryz.prog 9 := ⟨Tryz.call9⟩
instance : CallF Tryz.prog 10 := ⟨Tryz.call10⟩
instance : CallF Tryz.prog 11 := ⟨Tryz.call11⟩
instance : CallF Tryz.prog 12 := ⟨Tryz.call12⟩
instance : CallF Tryz.prog 13 := ⟨Tryz.call13⟩
instance : CallF Tryz.prog 14 := ⟨Tryz.call14⟩
instance : CallF Tryz.prog 15 := ⟨Tryz.call15⟩
instance : CallF Tryz.prog 16 := ⟨Tryz.call16⟩
instance : CallF Tryz.prog 17 := ⟨Tryz.call17⟩
instance : CallF Tryz.prog 18 := ⟨Tryz.call18⟩
instance : CallF Tryz.prog 19 := ⟨Tryz.call19⟩
instance : CallF Tryz.prog 20 := ⟨Tryz.call20⟩
instance : CallF Tryz.prog 21 := ⟨Tryz.call21⟩
instance : CallF Tryz.prog 22 := ⟨Tryz.call22⟩
instance : CallF Tryz.prog 23 := ⟨Tryz.call23⟩
instance : CallF Tryz.prog 24 := ⟨Tryz.call24⟩
instance : CallF Tryz.prog 25 := ⟨Tryz.call25⟩
instance : CallF Tryz.prog 26 := ⟨Tryz.call26⟩
instance : CallF Tryz.prog 27 := ⟨Tryz.call27⟩
instance : CallF Tryz.prog 28 := ⟨Tryz.call28⟩
instance : CallF Tryz.prog 29 := ⟨Tryz.call29⟩
instance : CallF Tryz.prog 30 := ⟨Tryz.call30⟩
instance : CallF Tryz.prog 31 := ⟨Tryz.call31⟩
instance : CallF Tryz.prog 32 := ⟨Tryz.call32⟩
instance : CallF Tryz.prog 33 := ⟨Tryz.call33⟩
instance : CallF Tryz.prog 34 := ⟨Tryz.call34⟩
instance : CallF Tryz.prog 35 := ⟨Tryz.call35⟩
instance : CallF Tryz.prog 36 := ⟨Tryz.call36⟩
instance : CallF Tryz.prog 37 := ⟨Tryz.call37⟩
instance : CallF Tryz.prog 38 := ⟨Tryz.call38⟩
instance : CallF Tryz.prog 39 := ⟨Tryz.call39⟩
instance : CallF Tryz.prog 40 := ⟨Tryz.call40⟩
instance : CallF Tryz.prog 41 := ⟨Tryz.call41⟩
instance : CallF Tryz.prog 42 := ⟨Tryz.call42⟩
instance : CallF Tryz.prog 43 := ⟨Tryz.call43⟩
instance : CallF Tryz.prog 44 := ⟨Tryz.call44⟩
instance : CallF Tryz.prog 45 := ⟨Tryz.call45⟩
instance : CallF Tryz.prog 46 := ⟨Tryz.call46⟩
instance : CallF Tryz.prog 47 := ⟨Tryz.call47⟩
instance : CallF Tryz.prog 48 := ⟨Tryz.call48⟩
instance : CallF Tryz.prog 49 := ⟨Tryz.call49⟩
instance : CallF Tryz.prog 50 := ⟨Tryz.call50⟩
instance : CallF Tryz.prog 51 := ⟨Tryz.call51⟩
instance : CallF Tryz.prog 52 := ⟨Tryz.call52⟩
instance : CallF Tryz.prog 53 := ⟨Tryz.call53⟩
instance : CallF Tryz.prog 54 := ⟨Tryz.call54⟩
instance : CallF Tryz.prog 55 := ⟨Tryz.call55⟩
instance : CallF Tryz.prog 56 := ⟨Tryz.call56⟩
instance : CallF Tryz.prog 57 := ⟨Tryz.call57⟩
instance : CallF Tryz.prog 58 := ⟨Tryz.call58⟩
instance : CallF Tryz.prog 59 := ⟨Tryz.call59⟩
instance : CallF Tryz.prog 60 := ⟨Tryz.call60⟩
instance : CallF Tryz.prog 61 := ⟨Tryz.call61⟩
instance : CallF Tryz.prog 62 := ⟨Tryz.call62⟩
instance : CallF Tryz.prog 63 := ⟨Tryz.call63⟩
instance : CallF Tryz.prog 64 := ⟨Tryz.call64⟩
instance : CallF Tryz.prog 65 := ⟨Tryz.call65⟩
instance : CallF Tryz.prog 66 := ⟨Tryz.call66⟩
instance : CallF Tryz.prog 67 := ⟨Tryz.call67⟩
instance : CallF Tryz.prog 68 := ⟨Tryz.call68⟩
instance : CallF Tryz.prog 69 := ⟨Tryz.call69⟩
instance : CallF Tryz.prog 70 := ⟨Tryz.call70⟩
instance : CallF Tryz.prog 71 := ⟨Tryz.call71⟩
instance : CallF Tryz.prog 72 := ⟨Tryz.call72⟩
instance : CallF Tryz.prog 73 := ⟨Tryz.call73⟩
instance : CallF Tryz.prog 74 := ⟨Tryz.call74⟩
instance : CallF Tryz.prog 75 := ⟨Tryz.call75⟩
instance : CallF Tryz.prog 76 := ⟨Tryz.call76⟩
instance : CallF Tryz.prog 77 := ⟨Tryz.call77⟩
instance : CallF Tryz.prog 78 := ⟨Tryz.call78⟩
instance : CallF Tryz.prog 79 := ⟨Tryz.call79⟩
instance : CallF Tryz.prog 80 := ⟨Tryz.call80⟩
instance : CallF Tryz.prog 81 := ⟨Tryz.call81⟩
instance : CallF Tryz.prog 82 := ⟨Tryz.call82⟩
instance : CallF Tryz.prog 83 := ⟨Tryz.call83⟩
instance : CallF Tryz.prog 84 := ⟨Tryz.call84⟩
instance : CallF Tryz.prog 85 := ⟨Tryz.call85⟩
instance : CallF Tryz.prog 86 := ⟨Tryz.call86⟩
instance : CallF Tryz.prog 87 := ⟨Tryz.call87⟩
instance : CallF Tryz.prog 88 := ⟨Tryz.call88⟩
instance : CallF Tryz.prog 89 := ⟨Tryz.call89⟩
instance : CallF Tryz.prog 90 := ⟨Tryz.call90⟩
instance : CallF Tryz.prog 91 := ⟨Tryz.call91⟩
instance : CallF Tryz.prog 92 := ⟨Tryz.call92⟩
instance : CallF Tryz.prog 93 := ⟨Tryz.call93⟩
instance : CallF Tryz.prog 94 := ⟨Tryz.call94⟩
instance : CallF Tryz.prog 95 := ⟨Tryz.call95⟩
instance : CallF Tryz.prog 96 := ⟨Tryz.call96⟩
instance : CallF Tryz.prog 97 := ⟨Tryz.call97⟩
instance : CallF Tryz.prog 98 := ⟨Tryz.call98⟩
instance : CallF Tryz.prog 99 := ⟨Tryz.call99⟩
instance : CallF Tryz.prog 100 := ⟨Tryz.call100⟩
instance : CallF Tryz.prog 101 := ⟨Tryz.call101⟩
instance : CallF Tryz.prog 102 := ⟨Tryz.call102⟩
instance : CallF Tryz.prog 103 := ⟨Tryz.call103⟩
instance : CallF Tryz.prog 104 := ⟨Tryz.call104⟩
instance : CallF Tryz.prog 105 := ⟨Tryz.call105⟩
instance : CallF Tryz.prog 106 := ⟨Tryz.call106⟩
instance : CallF Tryz.prog 107 := ⟨Tryz.call107⟩
instance : CallF Tryz.prog 108 := ⟨Tryz.call108⟩
instance : CallF Tryz.prog 109 := ⟨Tryz.call109⟩
instance : CallF Tryz.prog 110 := ⟨Tryz.call110⟩
instance : CallF Tryz.prog 111 := ⟨Tryz.call111⟩
instance : CallF Tryz.prog 112 := ⟨Tryz.call112⟩
instance : CallF Tryz.prog 113 := ⟨Tryz.call113⟩
instance : CallF Tryz.prog 114 := ⟨Tryz.call114⟩
instance : CallF Tryz.prog 115 := ⟨Tryz.call115⟩
instance : CallF Tryz.prog 116 := ⟨Tryz.call116⟩
instance : CallF Tryz.prog 117 := ⟨Tryz.call117⟩
instance : CallF Tryz.prog 118 := ⟨Tryz.call118⟩
instance : CallF Tryz.prog 119 := ⟨Tryz.call119⟩
instance : CallF Tryz.prog 120 := ⟨Tryz.call120⟩
instance : CallF Tryz.prog 121 := ⟨Tryz.call121⟩
instance : CallF Tryz.prog 122 := ⟨Tryz.call122⟩
instance : CallF Tryz.prog 123 := ⟨Tryz.call123⟩
instance : CallF Tryz.prog 124 := ⟨Tryz.call124⟩
instance : CallF Tryz.prog 125 := ⟨Tryz.call125⟩
instance : CallF Tryz.prog 126 := ⟨Tryz.call126⟩
instance : CallF Tryz.prog 127 := ⟨Tryz.call127⟩
instance : CallF Tryz.prog 128 := ⟨Tryz.call128⟩
instance : CallF Tryz.prog 129 := ⟨Tryz.call129⟩
instance : CallF Tryz.prog 130 := ⟨Tryz.call130⟩
instance : CallF Tryz.prog 131 := ⟨Tryz.call131⟩
instance : CallF Tryz.prog 132 := ⟨Tryz.call132⟩
instance : CallF Tryz.prog 133 := ⟨Tryz.call133⟩
instance : CallF Tryz.prog 134 := ⟨Tryz.call134⟩
instance : CallF Tryz.prog 135 := ⟨Tryz.call135⟩
instance : CallF Tryz.prog 136 := ⟨Tryz.call136⟩
instance : CallF Tryz.prog 137 := ⟨Tryz.call137⟩
instance : CallF Tryz.prog 138 := ⟨Tryz.call138⟩
instance : CallF Tryz.prog 139 := ⟨Tryz.call139⟩
instance : CallF Tryz.prog 140 := ⟨Tryz.call140⟩
instance : CallF Tryz.prog 141 := ⟨Tryz.call141⟩
instance : CallF Tryz.prog 142 := ⟨Tryz.call142⟩
instance : CallF Tryz.prog 143 := ⟨Tryz.call143⟩
instance : CallF Tryz.prog 144 := ⟨Tryz.call144⟩
instance : CallF Tryz.prog 145 := ⟨Tryz.call145⟩
instance : CallF Tryz.prog 146 := ⟨Tryz.call146⟩
instance : CallF Tryz.prog 147 := ⟨Tryz.call147⟩
instance : CallF Tryz.prog 148 := ⟨Tryz.call148⟩
instance : CallF Tryz.prog 149 := ⟨Tryz.call149⟩
instance : CallF Tryz.prog 150 := ⟨Tryz.call150⟩
instance : CallF Tryz.prog 151 := ⟨Tryz.call151⟩
instance : CallF Tryz.prog 152 := ⟨Tryz.call152⟩
instance : CallF Tryz.prog 153 := ⟨Tryz.call153⟩
instance : CallF Tryz.prog 154 := ⟨Tryz.call154⟩
instance : CallF Tryz.prog 155 := ⟨Tryz.call155⟩
instance : CallF Tryz.prog 156 := ⟨Tryz.call156⟩
instance : CallF Tryz.prog 157 := ⟨Tryz.call157⟩
instance : CallF Tryz.prog 158 := ⟨Tryz.call158⟩
instance : CallF Tryz.prog 159 := ⟨Tryz.call159⟩
instance : CallF Tryz.prog 160 := ⟨Tryz.call160⟩
instance : CallF Tryz.prog 161 := ⟨Tryz.call161⟩
instance : CallF Tryz.prog 162 := ⟨Tryz.call162⟩
instance : CallF Tryz.prog 163 := ⟨Tryz.call163⟩
instance : CallF Tryz.prog 164 := ⟨Tryz.call164⟩
instance : CallF Tryz.prog 165 := ⟨Tryz.call165⟩
instance : CallF Tryz.prog 166 := ⟨Tryz.call166⟩
instance : CallF Tryz.prog 167 := ⟨Tryz.call167⟩
instance : CallF Tryz.prog 168 := ⟨Tryz.call168⟩
instance : CallF Tryz.prog 169 := ⟨Tryz.call169⟩
instance : CallF Tryz.prog 170 := ⟨Tryz.call170⟩
instance : CallF Tryz.prog 171 := ⟨Tryz.call171⟩
instance : CallF Tryz.prog 172 := ⟨Tryz.call172⟩
instance : CallF Tryz.prog 173 := ⟨Tryz.call173⟩
instance : CallF Tryz.prog 174 := ⟨Tryz.call174⟩
instance : CallF Tryz.prog 175 := ⟨Tryz.call175⟩
instance : CallF Tryz.prog 176 := ⟨Tryz.call176⟩
instance : CallF Tryz.prog 177 := ⟨Tryz.call177⟩
instance : CallF Tryz.prog 178 := ⟨Tryz.call178⟩
instance : CallF Tryz.prog 179 := ⟨Tryz.call179⟩
instance : CallF Tryz.prog 180 := ⟨Tryz.call180⟩
instance : CallF Tryz.prog 181 := ⟨Tryz.call181⟩
instance : CallF Tryz.prog 182 := ⟨Tryz.call182⟩
instance : CallF Tryz.prog 183 := ⟨Tryz.call183⟩
instance : CallF Tryz.prog 184 := ⟨Tryz.call184⟩
instance : CallF Tryz.prog 185 := ⟨Tryz.call185⟩
instance : CallF Tryz.prog 186 := ⟨Tryz.call186⟩
instance : CallF Tryz.prog 187 := ⟨Tryz.call187⟩
instance : CallF Tryz.prog 188 := ⟨Tryz.call188⟩
instance : CallF Tryz.prog 189 := ⟨Tryz.call189⟩
instance : CallF Tryz.prog 190 := ⟨Tryz.call190⟩
instance : CallF Tryz.prog 191 := ⟨Tryz.call191⟩
instance : CallF Tryz.prog 192 := ⟨Tryz.call192⟩
instance : CallF Tryz.prog 193 := ⟨Tryz.call193⟩
instance : CallF Tryz.prog 194 := ⟨Tryz.call194⟩
instance : CallF Tryz.prog 195 := ⟨Tryz.call195⟩
instance : CallF Tryz.prog 196 := ⟨Tryz.call196⟩
instance : CallF Tryz.prog 197 := ⟨Tryz.call197⟩
instance : CallF Tryz.prog 198 := ⟨Tryz.call198⟩
instance : CallF Tryz.prog 199 := ⟨Tryz.call199⟩
instance : CallF Tryz.prog 200 := ⟨Tryz.call200⟩
instance : CallF Tryz.prog 201 := ⟨Tryz.call201⟩
instance : CallF Tryz.prog 202 := ⟨Tryz.call202⟩
instance : CallF Tryz.prog 203 := ⟨Tryz.call203⟩
instance : CallF Tryz.prog 204 := ⟨Tryz.call204⟩
instance : CallF Tryz.prog 205 := ⟨Tryz.call205⟩
instance : CallF Tryz.prog 206 := ⟨Tryz.call206⟩
instance : CallF Tryz.prog 207 := ⟨Tryz.call207⟩
instance : CallF Tryz.prog 208 := ⟨Tryz.call208⟩
instance : CallF Tryz.prog 209 := ⟨Tryz.call209⟩
instance : CallF Tryz.prog 210 := ⟨Tryz.call210⟩
instance : CallF Tryz.prog 211 := ⟨Tryz.call211⟩
instance : CallF Tryz.prog 212 := ⟨Tryz.call212⟩
instance : CallF Tryz.prog 213 := ⟨Tryz.call213⟩
instance : CallF Tryz.prog 214 := ⟨Tryz.call214⟩
instance : CallF Tryz.prog 215 := ⟨Tryz.call215⟩
instance : CallF Tryz.prog 216 := ⟨Tryz.call216⟩
instance : CallF Tryz.prog 217 := ⟨Tryz.call217⟩
instance : CallF Tryz.prog 218 := ⟨Tryz.call218⟩
instance : CallF Tryz.prog 219 := ⟨Tryz.call219⟩
instance : CallF Tryz.prog 220 := ⟨Tryz.call220⟩
instance : CallF Tryz.prog 221 := ⟨Tryz.call221⟩
instance : CallF Tryz.prog 222 := ⟨Tryz.call222⟩
instance : CallF Tryz.prog 223 := ⟨Tryz.call223⟩
instance : CallF Tryz.prog 224 := ⟨Tryz.call224⟩
instance : CallF Tryz.prog 225 := ⟨Tryz.call225⟩
instance : CallF Tryz.prog 226 := ⟨Tryz.call226⟩
instance : CallF Tryz.prog 227 := ⟨Tryz.call227⟩
instance : CallF Tryz.prog 228 := ⟨Tryz.call228⟩
instance : CallF Tryz.prog 229 := ⟨Tryz.call229⟩
instance : CallF Tryz.prog 230 := ⟨Tryz.call230⟩
instance : CallF Tryz.prog 231 := ⟨Tryz.call231⟩
instance : CallF Tryz.prog 232 := ⟨Tryz.call232⟩
instance : CallF Tryz.prog 233 := ⟨Tryz.call233⟩
instance : CallF Tryz.prog 234 := ⟨Tryz.call234⟩
instance : CallF Tryz.prog 235 := ⟨Tryz.call235⟩
instance : CallF Tryz.prog 236 := ⟨Tryz.call236⟩
instance : CallF Tryz.prog 237 := ⟨Tryz.call237⟩
instance : CallF Tryz.prog 238 := ⟨Tryz.call238⟩
instance : CallF Tryz.prog 239 := ⟨Tryz.call239⟩
instance : CallF Tryz.prog 240 := ⟨Tryz.call240⟩
instance : CallF Tryz.prog 241 := ⟨Tryz.call241⟩
instance : CallF Tryz.prog 242 := ⟨Tryz.call242⟩
instance : CallF Tryz.prog 243 := ⟨Tryz.call243⟩
instance : CallF Tryz.prog 244 := ⟨Tryz.call244⟩
instance : CallF Tryz.prog 245 := ⟨Tryz.call245⟩
instance : CallF Tryz.prog 246 := ⟨Tryz.call246⟩
instance : CallF Tryz.prog 247 := ⟨Tryz.call247⟩
instance : CallF Tryz.prog 248 := ⟨Tryz.call248⟩
instance : CallF Tryz.prog 249 := ⟨Tryz.call249⟩
instance : CallF Tryz.prog 250 := ⟨Tryz.call250⟩
instance : CallF Tryz.prog 251 := ⟨Tryz.call251⟩
instance : CallF Tryz.prog 252 := ⟨Tryz.call252⟩
instance : CallF Tryz.prog 253 := ⟨Tryz.call253⟩
instance : CallF Tryz.prog 254 := ⟨Tryz.call254⟩
instance : CallF Tryz.prog 255 := ⟨Tryz.call255⟩
instance : CallF Tryz.prog 256 := ⟨Tryz.call256⟩
instance : CallF Tryz.prog 257 := ⟨Tryz.call257⟩
instance : CallF Tryz.prog 258 := ⟨Tryz.call258⟩
instance : CallF Tryz.prog 259 := ⟨Tryz.call259⟩
instance : CallF Tryz.prog 260 := ⟨Tryz.call260⟩
instance : CallF Tryz.prog 261 := ⟨Tryz.call261⟩
instance : CallF Tryz.prog 262 := ⟨Tryz.call262⟩
instance : CallF Tryz.prog 263 := ⟨Tryz.call263⟩
instance : CallF Tryz.prog 264 := ⟨Tryz.call264⟩
instance : CallF Tryz.prog 265 := ⟨Tryz.call265⟩
instance : CallF Tryz.prog 266 := ⟨Tryz.call266⟩
instance : CallF Tryz.prog 267 := ⟨Tryz.call267⟩
instance : CallF Tryz.prog 268 := ⟨Tryz.call268⟩
instance : CallF Tryz.prog 269 := ⟨Tryz.call269⟩
instance : CallF Tryz.prog 270 := ⟨Tryz.call270⟩
instance : CallF Tryz.prog 273 := ⟨Tryz.call273⟩
instance : CallF Tryz.prog 274 := ⟨Tryz.call274⟩
instance : CallF Tryz.prog 275 := ⟨Tryz.call275⟩
instance : CallF Tryz.prog 276 := ⟨Tryz.call276⟩
instance : CallF Tryz.prog 277 := ⟨Tryz.call277⟩
instance : CallF Tryz.prog 278 := ⟨Tryz.call278⟩
instance : CallF Tryz.prog 279 := ⟨Tryz.call279⟩
instance : CallF Tryz.prog 280 := ⟨Tryz.call280⟩
instance : CallF Tryz.prog 281 := ⟨Tryz.call281⟩
instance : CallF Tryz.prog 282 := ⟨Tryz.call282⟩
instance : CallF Tryz.prog 283 := ⟨Tryz.call283⟩
instance : CallF Tryz.prog 284 := ⟨Tryz.call284⟩
instance : CallF Tryz.prog 285 := ⟨Tryz.call285⟩
instance : CallF Tryz.prog 286 := ⟨Tryz.call286⟩
instance : CallF Tryz.prog 287 := ⟨Tryz.call287⟩
instance : CallF Tryz.prog 288 := ⟨Tryz.call288⟩
instance : CallF Tryz.prog 289 := ⟨Tryz.call289⟩
instance : CallF Tryz.prog 290 := ⟨Tryz.call290⟩
instance : CallF Tryz.prog 291 := ⟨Tryz.call291⟩
instance : CallF Tryz.prog 293 := ⟨Tryz.call293⟩
instance : CallF Tryz.prog 294 := ⟨Tryz.call294⟩
instance : CallF Tryz.prog 295 := ⟨Tryz.call295⟩
instance : CallF Tryz.prog 296 := ⟨Tryz.call296⟩
instance : CallF Tryz.prog 297 := ⟨Tryz.call297⟩
instance : CallF Tryz.prog 298 := ⟨Tryz.call298⟩
instance : CallF Tryz.prog 299 := ⟨Tryz.call299⟩
instance : CallF Tryz.prog 300 := ⟨Tryz.call300⟩
instance : CallF Tryz.prog 301 := ⟨Tryz.call301⟩
instance : CallF Tryz.prog 302 := ⟨Tryz.call302⟩
instance : CallF Tryz.prog 303 := ⟨Tryz.call303⟩
instance : CallF Tryz.prog 304 := ⟨Tryz.call304⟩
instance : CallF Tryz.prog 305 := ⟨Tryz.call305⟩
instance : CallF Tryz.prog 306 := ⟨Tryz.call306⟩
instance : CallF Tryz.prog 307 := ⟨Tryz.call307⟩
instance : CallF Tryz.prog 308 := ⟨Tryz.call308⟩
instance : CallF Tryz.prog 309 := ⟨Tryz.call309⟩
instance : CallF Tryz.prog 311 := ⟨Tryz.call311⟩
instance : CallF Tryz.prog 312 := ⟨Tryz.call312⟩
instance : CallF Tryz.prog 313 := ⟨Tryz.call313⟩
instance : CallF Tryz.prog 314 := ⟨Tryz.call314⟩
instance : CallF Tryz.prog 315 := ⟨Tryz.call315⟩
instance : CallF Tryz.prog 316 := ⟨Tryz.call316⟩
instance : CallF Tryz.prog 317 := ⟨Tryz.call317⟩
instance : CallF Tryz.prog 318 := ⟨Tryz.call318⟩
instance : CallF Tryz.prog 319 := ⟨Tryz.call319⟩
instance : CallF Tryz.prog 320 := ⟨Tryz.call320⟩
instance : CallF Tryz.prog 321 := ⟨Tryz.call321⟩
instance : CallF Tryz.prog 322 := ⟨Tryz.call322⟩
instance : CallF Tryz.prog 323 := ⟨Tryz.call323⟩
instance : CallF Tryz.prog 324 := ⟨Tryz.call324⟩
instance : CallF Tryz.prog 325 := ⟨Tryz.call325⟩
instance : CallF Tryz.prog 326 := ⟨Tryz.call326⟩
instance : CallF Tryz.prog 327 := ⟨Tryz.call327⟩
instance : CallF Tryz.prog 328 := ⟨Tryz.call328⟩
instance : CallF Tryz.prog 329 := ⟨Tryz.call329⟩
instance : CallF Tryz.prog 330 := ⟨Tryz.call330⟩
instance : CallF Tryz.prog 331 := ⟨Tryz.call331⟩
instance : CallF Tryz.prog 332 := ⟨Tryz.call332⟩
instance : CallF Tryz.prog 333 := ⟨Tryz.call333⟩
instance : CallF Tryz.prog 335 := ⟨Tryz.call335⟩
instance : CallF Tryz.prog 336 := ⟨Tryz.call336⟩
instance : CallF Tryz.prog 337 := ⟨Tryz.call337⟩
instance : CallF Tryz.prog 338 := ⟨Tryz.call338⟩
instance : CallF Tryz.prog 339 := ⟨Tryz.call339⟩
instance : CallF Tryz.prog 340 := ⟨Tryz.call340⟩
instance : CallF Tryz.prog 341 := ⟨Tryz.call341⟩
instance : CallF Tryz.prog 342 := ⟨Tryz.call342⟩
instance : CallF Tryz.prog 343 := ⟨Tryz.call343⟩
instance : CallF Tryz.prog 344 := ⟨Tryz.call344⟩
instance : CallF Tryz.prog 345 := ⟨Tryz.call345⟩
instance : CallF Tryz.prog 346 := ⟨Tryz.call346⟩
instance : CallF Tryz.prog 347 := ⟨Tryz.call347⟩
instance : CallF Tryz.prog 348 := ⟨Tryz.call348⟩
instance : CallF Tryz.prog 349 := ⟨Tryz.call349⟩
instance : CallF Tryz.prog 368 := ⟨Tryz.call368⟩
instance : CallF Tryz.prog 369 := ⟨Tryz.call369⟩
instance : CallF Tryz.prog 370 := ⟨Tryz.call370⟩
instance : CallF Tryz.prog 371 := ⟨Tryz.call371⟩
instance : CallF Tryz.prog 372 := ⟨Tryz.call372⟩
instance : CallF Tryz.prog 373 := ⟨Tryz.call373⟩
instance : CallF Tryz.prog 374 := ⟨Tryz.call374⟩
instance : CallF Tryz.prog 375 := ⟨Tryz.call375⟩
instance : CallF Tryz.prog 376 := ⟨Tryz.call376⟩
instance : CallF Tryz.prog 377 := ⟨Tryz.call377⟩
instance : CallF Tryz.prog 378 := ⟨Tryz.call378⟩
instance : CallF Tryz.prog 379 := ⟨Tryz.call379⟩
instance : CallF Tryz.prog 380 := ⟨Tryz.call380⟩
instance : CallF Tryz.prog 381 := ⟨Tryz.call381⟩
instance : CallF Tryz.prog 382 := ⟨Tryz.call382⟩
instance : CallF Tryz.prog 383 := ⟨Tryz.call383⟩
instance : CallF Tryz.prog 384 := ⟨Tryz.call384⟩
instance : CallF Tryz.prog 385 := ⟨Tryz.call385⟩
instance : CallF Tryz.prog 386 := ⟨Tryz.call386⟩
instance : CallF Tryz.prog 387 := ⟨Tryz.call387⟩
instance : CallF Tryz.prog 388 := ⟨Tryz.call388⟩
instance : CallF Tryz.prog 389 := ⟨Tryz.call389⟩
instance : CallF Tryz.prog 390 := ⟨Tryz.call390⟩
instance : CallF Tryz.prog 391 := ⟨Tryz.call391⟩
instance : CallF Tryz.prog 392 := ⟨Tryz.call392⟩
instance : CallF Tryz.prog 393 := ⟨Tryz.call393⟩
instance : CallF Tryz.prog 394 := ⟨Tryz.call394⟩
instance : CallF Tryz.prog 395 := ⟨Tryz.call395⟩
instance : CallF Tryz.prog 396 := ⟨Tryz.call396⟩
instance : CallF Tryz.prog 397 := ⟨Tryz.call397⟩
instance : CallF Tryz.prog 398 := ⟨Tryz.call398⟩
instance : CallF Tryz.prog 399 := ⟨Tryz.call399⟩
instance : CallF Tryz.prog 400 := ⟨Tryz.call400⟩
instance : CallF Tryz.prog 401 := ⟨Tryz.call401⟩
instance : CallF Tryz.prog 402 := ⟨Tryz.call402⟩
instance : CallF Tryz.prog 403 := ⟨Tryz.call403⟩
instance : CallF Tryz.prog 404 := ⟨Tryz.call404⟩
instance : CallF Tryz.prog 405 := ⟨Tryz.call405⟩
instance : CallF Tryz.prog 406 := ⟨Tryz.call406⟩
instance : CallF Tryz.prog 407 := ⟨Tryz.call407⟩
instance : CallF Tryz.prog 408 := ⟨Tryz.call408⟩
instance : CallF Tryz.prog 409 := ⟨Tryz.call409⟩
instance : CallF Tryz.prog 410 := ⟨Tryz.call410⟩
instance : CallF Tryz.prog 411 := ⟨Tryz.call411⟩
instance : CallF Tryz.prog 412 := ⟨Tryz.call412⟩
instance : CallF Tryz.prog 413 := ⟨Tryz.call413⟩
instance : CallF Tryz.prog 414 := ⟨Tryz.call414⟩
instance : CallF Tryz.prog 415 := ⟨Tryz.call415⟩
instance : CallF Tryz.prog 416 := ⟨Tryz.call416⟩
instance : CallF Tryz.prog 417 := ⟨Tryz.call417⟩
instance : CallF Tryz.prog 418 := ⟨Tryz.call418⟩
instance : CallF Tryz.prog 419 := ⟨Tryz.call419⟩
instance : CallF Tryz.prog 420 := ⟨Tryz.call420⟩
instance : CallF Tryz.prog 421 := ⟨Tryz.call421⟩
instance : CallF Tryz.prog 422 := ⟨Tryz.call422⟩
instance : CallF Tryz.prog 423 := ⟨Tryz.call423⟩
instance : CallF Tryz.prog 424 := ⟨Tryz.call424⟩
instance : CallF Tryz.prog 425 := ⟨Tryz.call425⟩
instance : CallF Tryz.prog 426 := ⟨Tryz.call426⟩
instance : CallF Tryz.prog 427 := ⟨Tryz.call427⟩
instance : CallF Tryz.prog 428 := ⟨Tryz.call428⟩
instance : CallF Tryz.prog 429 := ⟨Tryz.call429⟩
instance : CallF Tryz.prog 430 := ⟨Tryz.call430⟩
instance : CallF Tryz.prog 431 := ⟨Tryz.call431⟩
instance : CallF Tryz.prog 432 := ⟨Tryz.call432⟩
instance : CallF Tryz.prog 433 := ⟨Tryz.call433⟩
instance : CallF Tryz.prog 434 := ⟨Tryz.call434⟩
instance : CallF Tryz.prog 435 := ⟨Tryz.call435⟩
instance : CallF Tryz.prog 436 := ⟨Tryz.call436⟩
instance : CallF Tryz.prog 437 := ⟨Tryz.call437⟩
instance : CallF Tryz.prog 438 := ⟨Tryz.call438⟩
instance : CallF Tryz.prog 439 := ⟨Tryz.call439⟩
instance : CallF Tryz.prog 458 := ⟨Tryz.call458⟩
end Go.Own
