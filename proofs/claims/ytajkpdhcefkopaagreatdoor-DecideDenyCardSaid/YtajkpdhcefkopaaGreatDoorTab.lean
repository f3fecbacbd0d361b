/-
  THE TABLES OF THE PROGRAM, as instances (printed by wip/tab.py out of the loaded program).
-/
import Derived.Test.YtajkpdhcefkopaaGreatDoorProg
import Derived.Test.YtajkpdhcefkopaaGreatDoorOwnC
import Derived.KernelRfl
namespace Go.Own
open Go.Proofs

instance : OneT Tryz.prog 1 := ⟨Tryz.isAgg1, Tryz.sizeOf1⟩
instance : ZeroT Tryz.prog 1 Value.nilFunc := ⟨Tryz.zeroValue1⟩
instance : UnderT Tryz.prog 2 (TypeDesc.int IntKind.i64) := ⟨Tryz.underlying2⟩
instance : OneT Tryz.prog 2 := ⟨Tryz.isAgg2, Tryz.sizeOf2⟩
instance : ZeroT Tryz.prog 2 (Value.int IntKind.i64 0) := ⟨Tryz.zeroValue2⟩
instance : UnderT Tryz.prog 3 (TypeDesc.int IntKind.i64) := ⟨Tryz.underlying3⟩
instance : OneT Tryz.prog 3 := ⟨Tryz.isAgg3, Tryz.sizeOf3⟩
instance : ZeroT Tryz.prog 3 (Value.int IntKind.i64 0) := ⟨Tryz.zeroValue3⟩
instance : UnderT Tryz.prog 4 (TypeDesc.bool) := ⟨Tryz.underlying4⟩
instance : OneT Tryz.prog 4 := ⟨Tryz.isAgg4, Tryz.sizeOf4⟩
instance : ZeroT Tryz.prog 4 (Value.bool false) := ⟨Tryz.zeroValue4⟩
instance : UnderT Tryz.prog 5 (TypeDesc.int IntKind.u8) := ⟨Tryz.underlying5⟩
instance : OneT Tryz.prog 5 := ⟨Tryz.isAgg5, Tryz.sizeOf5⟩
instance : ZeroT Tryz.prog 5 (Value.int IntKind.u8 0) := ⟨Tryz.zeroValue5⟩
instance : UnderT Tryz.prog 6 (TypeDesc.int IntKind.u8) := ⟨Tryz.underlying6⟩
instance : OneT Tryz.prog 6 := ⟨Tryz.isAgg6, Tryz.sizeOf6⟩
instance : ZeroT Tryz.prog 6 (Value.int IntKind.u8 0) := ⟨Tryz.zeroValue6⟩
instance : AggT Tryz.prog 7 4 := ⟨Tryz.isAgg7, Tryz.sizeOf7⟩
instance : FAddr Tryz.prog 7 0 0 := ⟨fun _ _ => by kernel_rfl⟩
instance : FAddr Tryz.prog 7 1 1 := ⟨fun _ _ => by kernel_rfl⟩
instance : FAddr Tryz.prog 7 2 2 := ⟨fun _ _ => by kernel_rfl⟩
instance : FAddr Tryz.prog 7 3 3 := ⟨fun _ _ => by kernel_rfl⟩
instance : BuildT Tryz.prog 7 (fun i => #[(0, 1), (1, 1), (2, 1), (3, 1)][i]?) #[Value.int IntKind.i64 0, Value.int IntKind.i64 0, Value.bool false, Value.int IntKind.u8 0] := ⟨fun _ => by kernel_rfl⟩
instance : ZeroT Tryz.prog 7 (Value.agg #[Value.int IntKind.i64 0, Value.int IntKind.i64 0, Value.bool false, Value.int IntKind.u8 0]) := ⟨Tryz.zeroValue7⟩
instance : AggT Tryz.prog 8 4 := ⟨Tryz.isAgg8, Tryz.sizeOf8⟩
instance : FAddr Tryz.prog 8 0 0 := ⟨fun _ _ => by kernel_rfl⟩
instance : FAddr Tryz.prog 8 1 1 := ⟨fun _ _ => by kernel_rfl⟩
instance : FAddr Tryz.prog 8 2 2 := ⟨fun _ _ => by kernel_rfl⟩
instance : FAddr Tryz.prog 8 3 3 := ⟨fun _ _ => by kernel_rfl⟩
instance : BuildT Tryz.prog 8 (fun i => #[(0, 1), (1, 1), (2, 1), (3, 1)][i]?) #[Value.int IntKind.i64 0, Value.int IntKind.i64 0, Value.bool false, Value.int IntKind.u8 0] := ⟨fun _ => by kernel_rfl⟩
instance : ZeroT Tryz.prog 8 (Value.agg #[Value.int IntKind.i64 0, Value.int IntKind.i64 0, Value.bool false, Value.int IntKind.u8 0]) := ⟨Tryz.zeroValue8⟩
instance : UnderT Tryz.prog 9 (TypeDesc.string) := ⟨Tryz.underlying9⟩
instance : OneT Tryz.prog 9 := ⟨Tryz.isAgg9, Tryz.sizeOf9⟩
instance : ZeroT Tryz.prog 9 (Value.string { data := #[] }) := ⟨Tryz.zeroValue9⟩
instance : UnderT Tryz.prog 10 (TypeDesc.string) := ⟨Tryz.underlying10⟩
instance : OneT Tryz.prog 10 := ⟨Tryz.isAgg10, Tryz.sizeOf10⟩
instance : ZeroT Tryz.prog 10 (Value.string { data := #[] }) := ⟨Tryz.zeroValue10⟩
instance : UnderT Tryz.prog 11 (TypeDesc.string) := ⟨Tryz.underlying11⟩
instance : OneT Tryz.prog 11 := ⟨Tryz.isAgg11, Tryz.sizeOf11⟩
instance : ZeroT Tryz.prog 11 (Value.string { data := #[] }) := ⟨Tryz.zeroValue11⟩
instance : UnderT Tryz.prog 12 (TypeDesc.int IntKind.u64) := ⟨Tryz.underlying12⟩
instance : OneT Tryz.prog 12 := ⟨Tryz.isAgg12, Tryz.sizeOf12⟩
instance : ZeroT Tryz.prog 12 (Value.int IntKind.u64 0) := ⟨Tryz.zeroValue12⟩
instance : AggT Tryz.prog 13 2 := ⟨Tryz.isAgg13, Tryz.sizeOf13⟩
instance : FAddr Tryz.prog 13 0 0 := ⟨fun _ _ => by kernel_rfl⟩
instance : FAddr Tryz.prog 13 1 1 := ⟨fun _ _ => by kernel_rfl⟩
instance : BuildT Tryz.prog 13 (fun i => #[(0, 1), (1, 1)][i]?) #[Value.string { data := #[] }, Value.int IntKind.u64 0] := ⟨fun _ => by kernel_rfl⟩
instance : ZeroT Tryz.prog 13 (Value.agg #[Value.string { data := #[] }, Value.int IntKind.u64 0]) := ⟨Tryz.zeroValue13⟩
instance : AggT Tryz.prog 14 2 := ⟨Tryz.isAgg14, Tryz.sizeOf14⟩
instance : FAddr Tryz.prog 14 0 0 := ⟨fun _ _ => by kernel_rfl⟩
instance : FAddr Tryz.prog 14 1 1 := ⟨fun _ _ => by kernel_rfl⟩
instance : BuildT Tryz.prog 14 (fun i => #[(0, 1), (1, 1)][i]?) #[Value.string { data := #[] }, Value.int IntKind.u64 0] := ⟨fun _ => by kernel_rfl⟩
instance : ZeroT Tryz.prog 14 (Value.agg #[Value.string { data := #[] }, Value.int IntKind.u64 0]) := ⟨Tryz.zeroValue14⟩
instance : UnderT Tryz.prog 15 (TypeDesc.pointer 269) := ⟨Tryz.underlying15⟩
instance : OneT Tryz.prog 15 := ⟨Tryz.isAgg15, Tryz.sizeOf15⟩
instance : ZeroT Tryz.prog 15 (Value.pointer none) := ⟨Tryz.zeroValue15⟩
instance : UnderT Tryz.prog 16 (TypeDesc.pointer 272) := ⟨Tryz.underlying16⟩
instance : OneT Tryz.prog 16 := ⟨Tryz.isAgg16, Tryz.sizeOf16⟩
instance : ZeroT Tryz.prog 16 (Value.pointer none) := ⟨Tryz.zeroValue16⟩
instance : UnderT Tryz.prog 17 (TypeDesc.pointer 279) := ⟨Tryz.underlying17⟩
instance : OneT Tryz.prog 17 := ⟨Tryz.isAgg17, Tryz.sizeOf17⟩
instance : ZeroT Tryz.prog 17 (Value.pointer none) := ⟨Tryz.zeroValue17⟩
instance : AggT Tryz.prog 18 1 := ⟨Tryz.isAgg18, Tryz.sizeOf18⟩
instance : FAddr Tryz.prog 18 0 0 := ⟨fun _ _ => by kernel_rfl⟩
instance : BuildT Tryz.prog 18 (fun i => #[(0, 1)][i]?) #[Value.pointer none] := ⟨fun _ => by kernel_rfl⟩
instance : ZeroT Tryz.prog 18 (Value.agg #[Value.pointer none]) := ⟨Tryz.zeroValue18⟩
instance : AggT Tryz.prog 19 1 := ⟨Tryz.isAgg19, Tryz.sizeOf19⟩
instance : FAddr Tryz.prog 19 0 0 := ⟨fun _ _ => by kernel_rfl⟩
instance : BuildT Tryz.prog 19 (fun i => #[(0, 1)][i]?) #[Value.pointer none] := ⟨fun _ => by kernel_rfl⟩
instance : ZeroT Tryz.prog 19 (Value.agg #[Value.pointer none]) := ⟨Tryz.zeroValue19⟩
instance : UnderT Tryz.prog 20 (TypeDesc.interface #[]) := ⟨Tryz.underlying20⟩
instance : OneT Tryz.prog 20 := ⟨Tryz.isAgg20, Tryz.sizeOf20⟩
instance : ZeroT Tryz.prog 20 Value.nilIface := ⟨Tryz.zeroValue20⟩
instance : UnderT Tryz.prog 21 (TypeDesc.int IntKind.i32) := ⟨Tryz.underlying21⟩
instance : OneT Tryz.prog 21 := ⟨Tryz.isAgg21, Tryz.sizeOf21⟩
instance : ZeroT Tryz.prog 21 (Value.int IntKind.i32 0) := ⟨Tryz.zeroValue21⟩
instance : UnderT Tryz.prog 22 (TypeDesc.slice 35) := ⟨Tryz.underlying22⟩
instance : OneT Tryz.prog 22 := ⟨Tryz.isAgg22, Tryz.sizeOf22⟩
instance : ZeroT Tryz.prog 22 (Value.slice none 0 0) := ⟨Tryz.zeroValue22⟩
instance : SliceT Tryz.prog 22 35 19 48 (Value.agg #[Value.string { data := #[] }, Value.int IntKind.u8 0, Value.int IntKind.u8 0, Value.int IntKind.u8 0, Value.int IntKind.u8 0, Value.int IntKind.u8 0, Value.int IntKind.u8 0, Value.int IntKind.u8 0, Value.int IntKind.u8 0, Value.int IntKind.u8 0, Value.int IntKind.u8 0, Value.int IntKind.u8 0, Value.int IntKind.u8 0, Value.int IntKind.u8 0, Value.int IntKind.u8 0, Value.int IntKind.u8 0, Value.int IntKind.u8 0, Value.int IntKind.i64 0, Value.int IntKind.i64 0]) := ⟨Tryz.underlying22, ⟨Tryz.t35, by kernel_rfl, rfl, rfl, rfl⟩, rfl⟩
instance : UnderT Tryz.prog 23 (TypeDesc.array 16 5) := ⟨Tryz.underlying23⟩
instance : AggT Tryz.prog 23 16 := ⟨Tryz.isAgg23, Tryz.sizeOf23⟩
instance : BuildT Tryz.prog 23 (fun i => some (i * 1, 1)) #[Value.int IntKind.u8 0, Value.int IntKind.u8 0, Value.int IntKind.u8 0, Value.int IntKind.u8 0, Value.int IntKind.u8 0, Value.int IntKind.u8 0, Value.int IntKind.u8 0, Value.int IntKind.u8 0, Value.int IntKind.u8 0, Value.int IntKind.u8 0, Value.int IntKind.u8 0, Value.int IntKind.u8 0, Value.int IntKind.u8 0, Value.int IntKind.u8 0, Value.int IntKind.u8 0, Value.int IntKind.u8 0] := ⟨fun _ => by kernel_rfl⟩
instance : ArrT Tryz.prog 23 16 5 1 := ⟨Tryz.underlying23, Tryz.sizeOf5⟩
instance : ZeroT Tryz.prog 23 (Value.agg #[Value.int IntKind.u8 0, Value.int IntKind.u8 0, Value.int IntKind.u8 0, Value.int IntKind.u8 0, Value.int IntKind.u8 0, Value.int IntKind.u8 0, Value.int IntKind.u8 0, Value.int IntKind.u8 0, Value.int IntKind.u8 0, Value.int IntKind.u8 0, Value.int IntKind.u8 0, Value.int IntKind.u8 0, Value.int IntKind.u8 0, Value.int IntKind.u8 0, Value.int IntKind.u8 0, Value.int IntKind.u8 0]) := ⟨Tryz.zeroValue23⟩
instance : UnderT Tryz.prog 24 (TypeDesc.array 16 5) := ⟨Tryz.underlying24⟩
instance : AggT Tryz.prog 24 16 := ⟨Tryz.isAgg24, Tryz.sizeOf24⟩
instance : BuildT Tryz.prog 24 (fun i => some (i * 1, 1)) #[Value.int IntKind.u8 0, Value.int IntKind.u8 0, Value.int IntKind.u8 0, Value.int IntKind.u8 0, Value.int IntKind.u8 0, Value.int IntKind.u8 0, Value.int IntKind.u8 0, Value.int IntKind.u8 0, Value.int IntKind.u8 0, Value.int IntKind.u8 0, Value.int IntKind.u8 0, Value.int IntKind.u8 0, Value.int IntKind.u8 0, Value.int IntKind.u8 0, Value.int IntKind.u8 0, Value.int IntKind.u8 0] := ⟨fun _ => by kernel_rfl⟩
instance : ArrT Tryz.prog 24 16 5 1 := ⟨Tryz.underlying24, Tryz.sizeOf5⟩
instance : ZeroT Tryz.prog 24 (Value.agg #[Value.int IntKind.u8 0, Value.int IntKind.u8 0, Value.int IntKind.u8 0, Value.int IntKind.u8 0, Value.int IntKind.u8 0, Value.int IntKind.u8 0, Value.int IntKind.u8 0, Value.int IntKind.u8 0, Value.int IntKind.u8 0, Value.int IntKind.u8 0, Value.int IntKind.u8 0, Value.int IntKind.u8 0, Value.int IntKind.u8 0, Value.int IntKind.u8 0, Value.int IntKind.u8 0, Value.int IntKind.u8 0]) := ⟨Tryz.zeroValue24⟩
instance : OneT Tryz.prog 25 := ⟨Tryz.isAgg25, Tryz.sizeOf25⟩
instance : ZeroT Tryz.prog 25 Value.nilFunc := ⟨Tryz.zeroValue25⟩
instance : OneT Tryz.prog 26 := ⟨Tryz.isAgg26, Tryz.sizeOf26⟩
instance : ZeroT Tryz.prog 26 Value.nilFunc := ⟨Tryz.zeroValue26⟩
instance : UnderT Tryz.prog 27 (TypeDesc.pointer 82) := ⟨Tryz.underlying27⟩
instance : OneT Tryz.prog 27 := ⟨Tryz.isAgg27, Tryz.sizeOf27⟩
instance : ZeroT Tryz.prog 27 (Value.pointer none) := ⟨Tryz.zeroValue27⟩
instance : OneT Tryz.prog 28 := ⟨Tryz.isAgg28, Tryz.sizeOf28⟩
instance : ZeroT Tryz.prog 28 Value.nilFunc := ⟨Tryz.zeroValue28⟩
instance : UnderT Tryz.prog 29 (TypeDesc.pointer 38) := ⟨Tryz.underlying29⟩
instance : OneT Tryz.prog 29 := ⟨Tryz.isAgg29, Tryz.sizeOf29⟩
instance : ZeroT Tryz.prog 29 (Value.pointer none) := ⟨Tryz.zeroValue29⟩
instance : OneT Tryz.prog 30 := ⟨Tryz.isAgg30, Tryz.sizeOf30⟩
instance : ZeroT Tryz.prog 30 Value.nilFunc := ⟨Tryz.zeroValue30⟩
instance : OneT Tryz.prog 31 := ⟨Tryz.isAgg31, Tryz.sizeOf31⟩
instance : ZeroT Tryz.prog 31 Value.nilFunc := ⟨Tryz.zeroValue31⟩
instance : AggT Tryz.prog 32 17 := ⟨Tryz.isAgg32, Tryz.sizeOf32⟩
instance : FAddr Tryz.prog 32 0 0 := ⟨fun _ _ => by kernel_rfl⟩
instance : FAddr Tryz.prog 32 1 16 := ⟨fun _ _ => by kernel_rfl⟩
instance : BuildT Tryz.prog 32 (fun i => #[(0, 16), (16, 1)][i]?) #[Value.int IntKind.u8 0, Value.int IntKind.u8 0, Value.int IntKind.u8 0, Value.int IntKind.u8 0, Value.int IntKind.u8 0, Value.int IntKind.u8 0, Value.int IntKind.u8 0, Value.int IntKind.u8 0, Value.int IntKind.u8 0, Value.int IntKind.u8 0, Value.int IntKind.u8 0, Value.int IntKind.u8 0, Value.int IntKind.u8 0, Value.int IntKind.u8 0, Value.int IntKind.u8 0, Value.int IntKind.u8 0, Value.int IntKind.i64 0] := ⟨fun _ => by kernel_rfl⟩
instance : ZeroT Tryz.prog 32 (Value.agg #[Value.int IntKind.u8 0, Value.int IntKind.u8 0, Value.int IntKind.u8 0, Value.int IntKind.u8 0, Value.int IntKind.u8 0, Value.int IntKind.u8 0, Value.int IntKind.u8 0, Value.int IntKind.u8 0, Value.int IntKind.u8 0, Value.int IntKind.u8 0, Value.int IntKind.u8 0, Value.int IntKind.u8 0, Value.int IntKind.u8 0, Value.int IntKind.u8 0, Value.int IntKind.u8 0, Value.int IntKind.u8 0, Value.int IntKind.i64 0]) := ⟨Tryz.zeroValue32⟩
instance : AggT Tryz.prog 33 17 := ⟨Tryz.isAgg33, Tryz.sizeOf33⟩
instance : FAddr Tryz.prog 33 0 0 := ⟨fun _ _ => by kernel_rfl⟩
instance : FAddr Tryz.prog 33 1 16 := ⟨fun _ _ => by kernel_rfl⟩
instance : BuildT Tryz.prog 33 (fun i => #[(0, 16), (16, 1)][i]?) #[Value.int IntKind.u8 0, Value.int IntKind.u8 0, Value.int IntKind.u8 0, Value.int IntKind.u8 0, Value.int IntKind.u8 0, Value.int IntKind.u8 0, Value.int IntKind.u8 0, Value.int IntKind.u8 0, Value.int IntKind.u8 0, Value.int IntKind.u8 0, Value.int IntKind.u8 0, Value.int IntKind.u8 0, Value.int IntKind.u8 0, Value.int IntKind.u8 0, Value.int IntKind.u8 0, Value.int IntKind.u8 0, Value.int IntKind.i64 0] := ⟨fun _ => by kernel_rfl⟩
instance : ZeroT Tryz.prog 33 (Value.agg #[Value.int IntKind.u8 0, Value.int IntKind.u8 0, Value.int IntKind.u8 0, Value.int IntKind.u8 0, Value.int IntKind.u8 0, Value.int IntKind.u8 0, Value.int IntKind.u8 0, Value.int IntKind.u8 0, Value.int IntKind.u8 0, Value.int IntKind.u8 0, Value.int IntKind.u8 0, Value.int IntKind.u8 0, Value.int IntKind.u8 0, Value.int IntKind.u8 0, Value.int IntKind.u8 0, Value.int IntKind.u8 0, Value.int IntKind.i64 0]) := ⟨Tryz.zeroValue33⟩
instance : AggT Tryz.prog 34 19 := ⟨Tryz.isAgg34, Tryz.sizeOf34⟩
instance : FAddr Tryz.prog 34 0 0 := ⟨fun _ _ => by kernel_rfl⟩
instance : FAddr Tryz.prog 34 1 1 := ⟨fun _ _ => by kernel_rfl⟩
instance : FAddr Tryz.prog 34 2 18 := ⟨fun _ _ => by kernel_rfl⟩
instance : BuildT Tryz.prog 34 (fun i => #[(0, 1), (1, 17), (18, 1)][i]?) #[Value.string { data := #[] }, Value.int IntKind.u8 0, Value.int IntKind.u8 0, Value.int IntKind.u8 0, Value.int IntKind.u8 0, Value.int IntKind.u8 0, Value.int IntKind.u8 0, Value.int IntKind.u8 0, Value.int IntKind.u8 0, Value.int IntKind.u8 0, Value.int IntKind.u8 0, Value.int IntKind.u8 0, Value.int IntKind.u8 0, Value.int IntKind.u8 0, Value.int IntKind.u8 0, Value.int IntKind.u8 0, Value.int IntKind.u8 0, Value.int IntKind.i64 0, Value.int IntKind.i64 0] := ⟨fun _ => by kernel_rfl⟩
instance : ZeroT Tryz.prog 34 (Value.agg #[Value.string { data := #[] }, Value.int IntKind.u8 0, Value.int IntKind.u8 0, Value.int IntKind.u8 0, Value.int IntKind.u8 0, Value.int IntKind.u8 0, Value.int IntKind.u8 0, Value.int IntKind.u8 0, Value.int IntKind.u8 0, Value.int IntKind.u8 0, Value.int IntKind.u8 0, Value.int IntKind.u8 0, Value.int IntKind.u8 0, Value.int IntKind.u8 0, Value.int IntKind.u8 0, Value.int IntKind.u8 0, Value.int IntKind.u8 0, Value.int IntKind.i64 0, Value.int IntKind.i64 0]) := ⟨Tryz.zeroValue34⟩
instance : AggT Tryz.prog 35 19 := ⟨Tryz.isAgg35, Tryz.sizeOf35⟩
instance : FAddr Tryz.prog 35 0 0 := ⟨fun _ _ => by kernel_rfl⟩
instance : FAddr Tryz.prog 35 1 1 := ⟨fun _ _ => by kernel_rfl⟩
instance : FAddr Tryz.prog 35 2 18 := ⟨fun _ _ => by kernel_rfl⟩
instance : BuildT Tryz.prog 35 (fun i => #[(0, 1), (1, 17), (18, 1)][i]?) #[Value.string { data := #[] }, Value.int IntKind.u8 0, Value.int IntKind.u8 0, Value.int IntKind.u8 0, Value.int IntKind.u8 0, Value.int IntKind.u8 0, Value.int IntKind.u8 0, Value.int IntKind.u8 0, Value.int IntKind.u8 0, Value.int IntKind.u8 0, Value.int IntKind.u8 0, Value.int IntKind.u8 0, Value.int IntKind.u8 0, Value.int IntKind.u8 0, Value.int IntKind.u8 0, Value.int IntKind.u8 0, Value.int IntKind.u8 0, Value.int IntKind.i64 0, Value.int IntKind.i64 0] := ⟨fun _ => by kernel_rfl⟩
instance : ZeroT Tryz.prog 35 (Value.agg #[Value.string { data := #[] }, Value.int IntKind.u8 0, Value.int IntKind.u8 0, Value.int IntKind.u8 0, Value.int IntKind.u8 0, Value.int IntKind.u8 0, Value.int IntKind.u8 0, Value.int IntKind.u8 0, Value.int IntKind.u8 0, Value.int IntKind.u8 0, Value.int IntKind.u8 0, Value.int IntKind.u8 0, Value.int IntKind.u8 0, Value.int IntKind.u8 0, Value.int IntKind.u8 0, Value.int IntKind.u8 0, Value.int IntKind.u8 0, Value.int IntKind.i64 0, Value.int IntKind.i64 0]) := ⟨Tryz.zeroValue35⟩
instance : OneT Tryz.prog 36 := ⟨Tryz.isAgg36, Tryz.sizeOf36⟩
instance : ZeroT Tryz.prog 36 Value.nilFunc := ⟨Tryz.zeroValue36⟩
instance : AggT Tryz.prog 37 1 := ⟨Tryz.isAgg37, Tryz.sizeOf37⟩
instance : FAddr Tryz.prog 37 0 0 := ⟨fun _ _ => by kernel_rfl⟩
instance : BuildT Tryz.prog 37 (fun i => #[(0, 1)][i]?) #[Value.slice none 0 0] := ⟨fun _ => by kernel_rfl⟩
instance : ZeroT Tryz.prog 37 (Value.agg #[Value.slice none 0 0]) := ⟨Tryz.zeroValue37⟩
instance : AggT Tryz.prog 38 1 := ⟨Tryz.isAgg38, Tryz.sizeOf38⟩
instance : FAddr Tryz.prog 38 0 0 := ⟨fun _ _ => by kernel_rfl⟩
instance : BuildT Tryz.prog 38 (fun i => #[(0, 1)][i]?) #[Value.slice none 0 0] := ⟨fun _ => by kernel_rfl⟩
instance : ZeroT Tryz.prog 38 (Value.agg #[Value.slice none 0 0]) := ⟨Tryz.zeroValue38⟩
instance : OneT Tryz.prog 39 := ⟨Tryz.isAgg39, Tryz.sizeOf39⟩
instance : ZeroT Tryz.prog 39 Value.nilFunc := ⟨Tryz.zeroValue39⟩
instance : UnderT Tryz.prog 40 (TypeDesc.slice 33) := ⟨Tryz.underlying40⟩
instance : OneT Tryz.prog 40 := ⟨Tryz.isAgg40, Tryz.sizeOf40⟩
instance : ZeroT Tryz.prog 40 (Value.slice none 0 0) := ⟨Tryz.zeroValue40⟩
instance : SliceT Tryz.prog 40 33 17 24 (Value.agg #[Value.int IntKind.u8 0, Value.int IntKind.u8 0, Value.int IntKind.u8 0, Value.int IntKind.u8 0, Value.int IntKind.u8 0, Value.int IntKind.u8 0, Value.int IntKind.u8 0, Value.int IntKind.u8 0, Value.int IntKind.u8 0, Value.int IntKind.u8 0, Value.int IntKind.u8 0, Value.int IntKind.u8 0, Value.int IntKind.u8 0, Value.int IntKind.u8 0, Value.int IntKind.u8 0, Value.int IntKind.u8 0, Value.int IntKind.i64 0]) := ⟨Tryz.underlying40, ⟨Tryz.t33, by kernel_rfl, rfl, rfl, rfl⟩, rfl⟩
instance : OneT Tryz.prog 41 := ⟨Tryz.isAgg41, Tryz.sizeOf41⟩
instance : ZeroT Tryz.prog 41 Value.nilFunc := ⟨Tryz.zeroValue41⟩
instance : OneT Tryz.prog 42 := ⟨Tryz.isAgg42, Tryz.sizeOf42⟩
instance : ZeroT Tryz.prog 42 Value.nilFunc := ⟨Tryz.zeroValue42⟩
instance : OneT Tryz.prog 43 := ⟨Tryz.isAgg43, Tryz.sizeOf43⟩
instance : ZeroT Tryz.prog 43 Value.nilFunc := ⟨Tryz.zeroValue43⟩
instance : OneT Tryz.prog 44 := ⟨Tryz.isAgg44, Tryz.sizeOf44⟩
instance : ZeroT Tryz.prog 44 Value.nilFunc := ⟨Tryz.zeroValue44⟩
instance : OneT Tryz.prog 45 := ⟨Tryz.isAgg45, Tryz.sizeOf45⟩
instance : ZeroT Tryz.prog 45 Value.nilFunc := ⟨Tryz.zeroValue45⟩
instance : OneT Tryz.prog 46 := ⟨Tryz.isAgg46, Tryz.sizeOf46⟩
instance : ZeroT Tryz.prog 46 Value.nilFunc := ⟨Tryz.zeroValue46⟩
instance : UnderT Tryz.prog 47 (TypeDesc.slice 69) := ⟨Tryz.underlying47⟩
instance : OneT Tryz.prog 47 := ⟨Tryz.isAgg47, Tryz.sizeOf47⟩
instance : ZeroT Tryz.prog 47 (Value.slice none 0 0) := ⟨Tryz.zeroValue47⟩
instance : SliceT Tryz.prog 47 69 5 56 (Value.agg #[Value.bool false, Value.int IntKind.i64 0, Value.string { data := #[] }, Value.int IntKind.i64 0, Value.string { data := #[] }]) := ⟨Tryz.underlying47, ⟨Tryz.t69, by kernel_rfl, rfl, rfl, rfl⟩, rfl⟩
instance : AggT Tryz.prog 48 3 := ⟨Tryz.isAgg48, Tryz.sizeOf48⟩
instance : FAddr Tryz.prog 48 0 0 := ⟨fun _ _ => by kernel_rfl⟩
instance : FAddr Tryz.prog 48 1 1 := ⟨fun _ _ => by kernel_rfl⟩
instance : FAddr Tryz.prog 48 2 2 := ⟨fun _ _ => by kernel_rfl⟩
instance : BuildT Tryz.prog 48 (fun i => #[(0, 1), (1, 1), (2, 1)][i]?) #[Value.bool false, Value.slice none 0 0, Value.slice none 0 0] := ⟨fun _ => by kernel_rfl⟩
instance : ZeroT Tryz.prog 48 (Value.agg #[Value.bool false, Value.slice none 0 0, Value.slice none 0 0]) := ⟨Tryz.zeroValue48⟩
instance : AggT Tryz.prog 49 3 := ⟨Tryz.isAgg49, Tryz.sizeOf49⟩
instance : FAddr Tryz.prog 49 0 0 := ⟨fun _ _ => by kernel_rfl⟩
instance : FAddr Tryz.prog 49 1 1 := ⟨fun _ _ => by kernel_rfl⟩
instance : FAddr Tryz.prog 49 2 2 := ⟨fun _ _ => by kernel_rfl⟩
instance : BuildT Tryz.prog 49 (fun i => #[(0, 1), (1, 1), (2, 1)][i]?) #[Value.bool false, Value.slice none 0 0, Value.slice none 0 0] := ⟨fun _ => by kernel_rfl⟩
instance : ZeroT Tryz.prog 49 (Value.agg #[Value.bool false, Value.slice none 0 0, Value.slice none 0 0]) := ⟨Tryz.zeroValue49⟩
instance : UnderT Tryz.prog 50 (TypeDesc.int IntKind.i64) := ⟨Tryz.underlying50⟩
instance : OneT Tryz.prog 50 := ⟨Tryz.isAgg50, Tryz.sizeOf50⟩
instance : ZeroT Tryz.prog 50 (Value.int IntKind.i64 0) := ⟨Tryz.zeroValue50⟩
instance : UnderT Tryz.prog 51 (TypeDesc.slice 9) := ⟨Tryz.underlying51⟩
instance : OneT Tryz.prog 51 := ⟨Tryz.isAgg51, Tryz.sizeOf51⟩
instance : ZeroT Tryz.prog 51 (Value.slice none 0 0) := ⟨Tryz.zeroValue51⟩
instance : SliceT Tryz.prog 51 9 1 16 (Value.string { data := #[] }) := ⟨Tryz.underlying51, ⟨Tryz.t9, by kernel_rfl, rfl, rfl, rfl⟩, rfl⟩
instance : UnderT Tryz.prog 52 (TypeDesc.slice 3) := ⟨Tryz.underlying52⟩
instance : OneT Tryz.prog 52 := ⟨Tryz.isAgg52, Tryz.sizeOf52⟩
instance : ZeroT Tryz.prog 52 (Value.slice none 0 0) := ⟨Tryz.zeroValue52⟩
instance : SliceT Tryz.prog 52 3 1 8 (Value.int IntKind.i64 0) := ⟨Tryz.underlying52, ⟨Tryz.t3, by kernel_rfl, rfl, rfl, rfl⟩, rfl⟩
instance : AggT Tryz.prog 53 5 := ⟨Tryz.isAgg53, Tryz.sizeOf53⟩
instance : FAddr Tryz.prog 53 0 0 := ⟨fun _ _ => by kernel_rfl⟩
instance : FAddr Tryz.prog 53 1 1 := ⟨fun _ _ => by kernel_rfl⟩
instance : FAddr Tryz.prog 53 2 2 := ⟨fun _ _ => by kernel_rfl⟩
instance : FAddr Tryz.prog 53 3 3 := ⟨fun _ _ => by kernel_rfl⟩
instance : FAddr Tryz.prog 53 4 4 := ⟨fun _ _ => by kernel_rfl⟩
instance : BuildT Tryz.prog 53 (fun i => #[(0, 1), (1, 1), (2, 1), (3, 1), (4, 1)][i]?) #[Value.bool false, Value.string { data := #[] }, Value.slice none 0 0, Value.slice none 0 0, Value.bool false] := ⟨fun _ => by kernel_rfl⟩
instance : ZeroT Tryz.prog 53 (Value.agg #[Value.bool false, Value.string { data := #[] }, Value.slice none 0 0, Value.slice none 0 0, Value.bool false]) := ⟨Tryz.zeroValue53⟩
instance : AggT Tryz.prog 54 5 := ⟨Tryz.isAgg54, Tryz.sizeOf54⟩
instance : FAddr Tryz.prog 54 0 0 := ⟨fun _ _ => by kernel_rfl⟩
instance : FAddr Tryz.prog 54 1 1 := ⟨fun _ _ => by kernel_rfl⟩
instance : FAddr Tryz.prog 54 2 2 := ⟨fun _ _ => by kernel_rfl⟩
instance : FAddr Tryz.prog 54 3 3 := ⟨fun _ _ => by kernel_rfl⟩
instance : FAddr Tryz.prog 54 4 4 := ⟨fun _ _ => by kernel_rfl⟩
instance : BuildT Tryz.prog 54 (fun i => #[(0, 1), (1, 1), (2, 1), (3, 1), (4, 1)][i]?) #[Value.bool false, Value.string { data := #[] }, Value.slice none 0 0, Value.slice none 0 0, Value.bool false] := ⟨fun _ => by kernel_rfl⟩
instance : ZeroT Tryz.prog 54 (Value.agg #[Value.bool false, Value.string { data := #[] }, Value.slice none 0 0, Value.slice none 0 0, Value.bool false]) := ⟨Tryz.zeroValue54⟩
instance : AggT Tryz.prog 55 11 := ⟨Tryz.isAgg55, Tryz.sizeOf55⟩
instance : FAddr Tryz.prog 55 0 0 := ⟨fun _ _ => by kernel_rfl⟩
instance : FAddr Tryz.prog 55 1 1 := ⟨fun _ _ => by kernel_rfl⟩
instance : FAddr Tryz.prog 55 2 2 := ⟨fun _ _ => by kernel_rfl⟩
instance : FAddr Tryz.prog 55 3 3 := ⟨fun _ _ => by kernel_rfl⟩
instance : FAddr Tryz.prog 55 4 4 := ⟨fun _ _ => by kernel_rfl⟩
instance : FAddr Tryz.prog 55 5 5 := ⟨fun _ _ => by kernel_rfl⟩
instance : FAddr Tryz.prog 55 6 6 := ⟨fun _ _ => by kernel_rfl⟩
instance : BuildT Tryz.prog 55 (fun i => #[(0, 1), (1, 1), (2, 1), (3, 1), (4, 1), (5, 1), (6, 5)][i]?) #[Value.int IntKind.i64 0, Value.int IntKind.i64 0, Value.int IntKind.i64 0, Value.int IntKind.i64 0, Value.string { data := #[] }, Value.int IntKind.i64 0, Value.bool false, Value.string { data := #[] }, Value.slice none 0 0, Value.slice none 0 0, Value.bool false] := ⟨fun _ => by kernel_rfl⟩
instance : ZeroT Tryz.prog 55 (Value.agg #[Value.int IntKind.i64 0, Value.int IntKind.i64 0, Value.int IntKind.i64 0, Value.int IntKind.i64 0, Value.string { data := #[] }, Value.int IntKind.i64 0, Value.bool false, Value.string { data := #[] }, Value.slice none 0 0, Value.slice none 0 0, Value.bool false]) := ⟨Tryz.zeroValue55⟩
instance : AggT Tryz.prog 56 11 := ⟨Tryz.isAgg56, Tryz.sizeOf56⟩
instance : FAddr Tryz.prog 56 0 0 := ⟨fun _ _ => by kernel_rfl⟩
instance : FAddr Tryz.prog 56 1 1 := ⟨fun _ _ => by kernel_rfl⟩
instance : FAddr Tryz.prog 56 2 2 := ⟨fun _ _ => by kernel_rfl⟩
instance : FAddr Tryz.prog 56 3 3 := ⟨fun _ _ => by kernel_rfl⟩
instance : FAddr Tryz.prog 56 4 4 := ⟨fun _ _ => by kernel_rfl⟩
instance : FAddr Tryz.prog 56 5 5 := ⟨fun _ _ => by kernel_rfl⟩
instance : FAddr Tryz.prog 56 6 6 := ⟨fun _ _ => by kernel_rfl⟩
instance : BuildT Tryz.prog 56 (fun i => #[(0, 1), (1, 1), (2, 1), (3, 1), (4, 1), (5, 1), (6, 5)][i]?) #[Value.int IntKind.i64 0, Value.int IntKind.i64 0, Value.int IntKind.i64 0, Value.int IntKind.i64 0, Value.string { data := #[] }, Value.int IntKind.i64 0, Value.bool false, Value.string { data := #[] }, Value.slice none 0 0, Value.slice none 0 0, Value.bool false] := ⟨fun _ => by kernel_rfl⟩
instance : ZeroT Tryz.prog 56 (Value.agg #[Value.int IntKind.i64 0, Value.int IntKind.i64 0, Value.int IntKind.i64 0, Value.int IntKind.i64 0, Value.string { data := #[] }, Value.int IntKind.i64 0, Value.bool false, Value.string { data := #[] }, Value.slice none 0 0, Value.slice none 0 0, Value.bool false]) := ⟨Tryz.zeroValue56⟩
instance : AggT Tryz.prog 57 17 := ⟨Tryz.isAgg57, Tryz.sizeOf57⟩
instance : FAddr Tryz.prog 57 0 0 := ⟨fun _ _ => by kernel_rfl⟩
instance : FAddr Tryz.prog 57 1 16 := ⟨fun _ _ => by kernel_rfl⟩
instance : BuildT Tryz.prog 57 (fun i => #[(0, 16), (16, 1)][i]?) #[Value.int IntKind.u8 0, Value.int IntKind.u8 0, Value.int IntKind.u8 0, Value.int IntKind.u8 0, Value.int IntKind.u8 0, Value.int IntKind.u8 0, Value.int IntKind.u8 0, Value.int IntKind.u8 0, Value.int IntKind.u8 0, Value.int IntKind.u8 0, Value.int IntKind.u8 0, Value.int IntKind.u8 0, Value.int IntKind.u8 0, Value.int IntKind.u8 0, Value.int IntKind.u8 0, Value.int IntKind.u8 0, Value.int IntKind.i64 0] := ⟨fun _ => by kernel_rfl⟩
instance : ZeroT Tryz.prog 57 (Value.agg #[Value.int IntKind.u8 0, Value.int IntKind.u8 0, Value.int IntKind.u8 0, Value.int IntKind.u8 0, Value.int IntKind.u8 0, Value.int IntKind.u8 0, Value.int IntKind.u8 0, Value.int IntKind.u8 0, Value.int IntKind.u8 0, Value.int IntKind.u8 0, Value.int IntKind.u8 0, Value.int IntKind.u8 0, Value.int IntKind.u8 0, Value.int IntKind.u8 0, Value.int IntKind.u8 0, Value.int IntKind.u8 0, Value.int IntKind.i64 0]) := ⟨Tryz.zeroValue57⟩
instance : AggT Tryz.prog 58 17 := ⟨Tryz.isAgg58, Tryz.sizeOf58⟩
instance : FAddr Tryz.prog 58 0 0 := ⟨fun _ _ => by kernel_rfl⟩
instance : FAddr Tryz.prog 58 1 16 := ⟨fun _ _ => by kernel_rfl⟩
instance : BuildT Tryz.prog 58 (fun i => #[(0, 16), (16, 1)][i]?) #[Value.int IntKind.u8 0, Value.int IntKind.u8 0, Value.int IntKind.u8 0, Value.int IntKind.u8 0, Value.int IntKind.u8 0, Value.int IntKind.u8 0, Value.int IntKind.u8 0, Value.int IntKind.u8 0, Value.int IntKind.u8 0, Value.int IntKind.u8 0, Value.int IntKind.u8 0, Value.int IntKind.u8 0, Value.int IntKind.u8 0, Value.int IntKind.u8 0, Value.int IntKind.u8 0, Value.int IntKind.u8 0, Value.int IntKind.i64 0] := ⟨fun _ => by kernel_rfl⟩
instance : ZeroT Tryz.prog 58 (Value.agg #[Value.int IntKind.u8 0, Value.int IntKind.u8 0, Value.int IntKind.u8 0, Value.int IntKind.u8 0, Value.int IntKind.u8 0, Value.int IntKind.u8 0, Value.int IntKind.u8 0, Value.int IntKind.u8 0, Value.int IntKind.u8 0, Value.int IntKind.u8 0, Value.int IntKind.u8 0, Value.int IntKind.u8 0, Value.int IntKind.u8 0, Value.int IntKind.u8 0, Value.int IntKind.u8 0, Value.int IntKind.u8 0, Value.int IntKind.i64 0]) := ⟨Tryz.zeroValue58⟩
instance : OneT Tryz.prog 59 := ⟨Tryz.isAgg59, Tryz.sizeOf59⟩
instance : ZeroT Tryz.prog 59 Value.nilFunc := ⟨Tryz.zeroValue59⟩
instance : UnderT Tryz.prog 60 (TypeDesc.pointer 99) := ⟨Tryz.underlying60⟩
instance : OneT Tryz.prog 60 := ⟨Tryz.isAgg60, Tryz.sizeOf60⟩
instance : ZeroT Tryz.prog 60 (Value.pointer none) := ⟨Tryz.zeroValue60⟩
instance : OneT Tryz.prog 62 := ⟨Tryz.isAgg62, Tryz.sizeOf62⟩
instance : ZeroT Tryz.prog 62 Value.nilFunc := ⟨Tryz.zeroValue62⟩
instance : UnderT Tryz.prog 63 (TypeDesc.pointer 105) := ⟨Tryz.underlying63⟩
instance : OneT Tryz.prog 63 := ⟨Tryz.isAgg63, Tryz.sizeOf63⟩
instance : ZeroT Tryz.prog 63 (Value.pointer none) := ⟨Tryz.zeroValue63⟩
instance : OneT Tryz.prog 65 := ⟨Tryz.isAgg65, Tryz.sizeOf65⟩
instance : ZeroT Tryz.prog 65 Value.nilFunc := ⟨Tryz.zeroValue65⟩
instance : OneT Tryz.prog 66 := ⟨Tryz.isAgg66, Tryz.sizeOf66⟩
instance : ZeroT Tryz.prog 66 Value.nilFunc := ⟨Tryz.zeroValue66⟩
instance : OneT Tryz.prog 67 := ⟨Tryz.isAgg67, Tryz.sizeOf67⟩
instance : ZeroT Tryz.prog 67 Value.nilFunc := ⟨Tryz.zeroValue67⟩
instance : AggT Tryz.prog 68 5 := ⟨Tryz.isAgg68, Tryz.sizeOf68⟩
instance : FAddr Tryz.prog 68 0 0 := ⟨fun _ _ => by kernel_rfl⟩
instance : FAddr Tryz.prog 68 1 1 := ⟨fun _ _ => by kernel_rfl⟩
instance : FAddr Tryz.prog 68 2 2 := ⟨fun _ _ => by kernel_rfl⟩
instance : FAddr Tryz.prog 68 3 3 := ⟨fun _ _ => by kernel_rfl⟩
instance : FAddr Tryz.prog 68 4 4 := ⟨fun _ _ => by kernel_rfl⟩
instance : BuildT Tryz.prog 68 (fun i => #[(0, 1), (1, 1), (2, 1), (3, 1), (4, 1)][i]?) #[Value.bool false, Value.int IntKind.i64 0, Value.string { data := #[] }, Value.int IntKind.i64 0, Value.string { data := #[] }] := ⟨fun _ => by kernel_rfl⟩
instance : ZeroT Tryz.prog 68 (Value.agg #[Value.bool false, Value.int IntKind.i64 0, Value.string { data := #[] }, Value.int IntKind.i64 0, Value.string { data := #[] }]) := ⟨Tryz.zeroValue68⟩
instance : AggT Tryz.prog 69 5 := ⟨Tryz.isAgg69, Tryz.sizeOf69⟩
instance : FAddr Tryz.prog 69 0 0 := ⟨fun _ _ => by kernel_rfl⟩
instance : FAddr Tryz.prog 69 1 1 := ⟨fun _ _ => by kernel_rfl⟩
instance : FAddr Tryz.prog 69 2 2 := ⟨fun _ _ => by kernel_rfl⟩
instance : FAddr Tryz.prog 69 3 3 := ⟨fun _ _ => by kernel_rfl⟩
instance : FAddr Tryz.prog 69 4 4 := ⟨fun _ _ => by kernel_rfl⟩
instance : BuildT Tryz.prog 69 (fun i => #[(0, 1), (1, 1), (2, 1), (3, 1), (4, 1)][i]?) #[Value.bool false, Value.int IntKind.i64 0, Value.string { data := #[] }, Value.int IntKind.i64 0, Value.string { data := #[] }] := ⟨fun _ => by kernel_rfl⟩
instance : ZeroT Tryz.prog 69 (Value.agg #[Value.bool false, Value.int IntKind.i64 0, Value.string { data := #[] }, Value.int IntKind.i64 0, Value.string { data := #[] }]) := ⟨Tryz.zeroValue69⟩
instance : AggT Tryz.prog 70 3 := ⟨Tryz.isAgg70, Tryz.sizeOf70⟩
instance : FAddr Tryz.prog 70 0 0 := ⟨fun _ _ => by kernel_rfl⟩
instance : FAddr Tryz.prog 70 1 1 := ⟨fun _ _ => by kernel_rfl⟩
instance : FAddr Tryz.prog 70 2 2 := ⟨fun _ _ => by kernel_rfl⟩
instance : BuildT Tryz.prog 70 (fun i => #[(0, 1), (1, 1), (2, 1)][i]?) #[Value.bool false, Value.int IntKind.i64 0, Value.int IntKind.i64 0] := ⟨fun _ => by kernel_rfl⟩
instance : ZeroT Tryz.prog 70 (Value.agg #[Value.bool false, Value.int IntKind.i64 0, Value.int IntKind.i64 0]) := ⟨Tryz.zeroValue70⟩
instance : AggT Tryz.prog 71 3 := ⟨Tryz.isAgg71, Tryz.sizeOf71⟩
instance : FAddr Tryz.prog 71 0 0 := ⟨fun _ _ => by kernel_rfl⟩
instance : FAddr Tryz.prog 71 1 1 := ⟨fun _ _ => by kernel_rfl⟩
instance : FAddr Tryz.prog 71 2 2 := ⟨fun _ _ => by kernel_rfl⟩
instance : BuildT Tryz.prog 71 (fun i => #[(0, 1), (1, 1), (2, 1)][i]?) #[Value.bool false, Value.int IntKind.i64 0, Value.int IntKind.i64 0] := ⟨fun _ => by kernel_rfl⟩
instance : ZeroT Tryz.prog 71 (Value.agg #[Value.bool false, Value.int IntKind.i64 0, Value.int IntKind.i64 0]) := ⟨Tryz.zeroValue71⟩
instance : OneT Tryz.prog 72 := ⟨Tryz.isAgg72, Tryz.sizeOf72⟩
instance : ZeroT Tryz.prog 72 Value.nilFunc := ⟨Tryz.zeroValue72⟩
instance : OneT Tryz.prog 73 := ⟨Tryz.isAgg73, Tryz.sizeOf73⟩
instance : ZeroT Tryz.prog 73 Value.nilFunc := ⟨Tryz.zeroValue73⟩
instance : OneT Tryz.prog 74 := ⟨Tryz.isAgg74, Tryz.sizeOf74⟩
instance : ZeroT Tryz.prog 74 Value.nilFunc := ⟨Tryz.zeroValue74⟩
instance : OneT Tryz.prog 75 := ⟨Tryz.isAgg75, Tryz.sizeOf75⟩
instance : ZeroT Tryz.prog 75 Value.nilFunc := ⟨Tryz.zeroValue75⟩
instance : OneT Tryz.prog 76 := ⟨Tryz.isAgg76, Tryz.sizeOf76⟩
instance : ZeroT Tryz.prog 76 Value.nilFunc := ⟨Tryz.zeroValue76⟩
instance : OneT Tryz.prog 77 := ⟨Tryz.isAgg77, Tryz.sizeOf77⟩
instance : ZeroT Tryz.prog 77 Value.nilFunc := ⟨Tryz.zeroValue77⟩
instance : UnderT Tryz.prog 78 (TypeDesc.array 4 5) := ⟨Tryz.underlying78⟩
instance : AggT Tryz.prog 78 4 := ⟨Tryz.isAgg78, Tryz.sizeOf78⟩
instance : BuildT Tryz.prog 78 (fun i => some (i * 1, 1)) #[Value.int IntKind.u8 0, Value.int IntKind.u8 0, Value.int IntKind.u8 0, Value.int IntKind.u8 0] := ⟨fun _ => by kernel_rfl⟩
instance : ArrT Tryz.prog 78 4 5 1 := ⟨Tryz.underlying78, Tryz.sizeOf5⟩
instance : ZeroT Tryz.prog 78 (Value.agg #[Value.int IntKind.u8 0, Value.int IntKind.u8 0, Value.int IntKind.u8 0, Value.int IntKind.u8 0]) := ⟨Tryz.zeroValue78⟩
instance : UnderT Tryz.prog 79 (TypeDesc.map 85 3) := ⟨Tryz.underlying79⟩
instance : OneT Tryz.prog 79 := ⟨Tryz.isAgg79, Tryz.sizeOf79⟩
instance : ZeroT Tryz.prog 79 (Value.map none) := ⟨Tryz.zeroValue79⟩
instance : UnderT Tryz.prog 80 (TypeDesc.map 9 3) := ⟨Tryz.underlying80⟩
instance : OneT Tryz.prog 80 := ⟨Tryz.isAgg80, Tryz.sizeOf80⟩
instance : ZeroT Tryz.prog 80 (Value.map none) := ⟨Tryz.zeroValue80⟩
instance : AggT Tryz.prog 81 2 := ⟨Tryz.isAgg81, Tryz.sizeOf81⟩
instance : FAddr Tryz.prog 81 0 0 := ⟨fun _ _ => by kernel_rfl⟩
instance : FAddr Tryz.prog 81 1 1 := ⟨fun _ _ => by kernel_rfl⟩
instance : BuildT Tryz.prog 81 (fun i => #[(0, 1), (1, 1)][i]?) #[Value.map none, Value.map none] := ⟨fun _ => by kernel_rfl⟩
instance : ZeroT Tryz.prog 81 (Value.agg #[Value.map none, Value.map none]) := ⟨Tryz.zeroValue81⟩
instance : AggT Tryz.prog 82 2 := ⟨Tryz.isAgg82, Tryz.sizeOf82⟩
instance : FAddr Tryz.prog 82 0 0 := ⟨fun _ _ => by kernel_rfl⟩
instance : FAddr Tryz.prog 82 1 1 := ⟨fun _ _ => by kernel_rfl⟩
instance : BuildT Tryz.prog 82 (fun i => #[(0, 1), (1, 1)][i]?) #[Value.map none, Value.map none] := ⟨fun _ => by kernel_rfl⟩
instance : ZeroT Tryz.prog 82 (Value.agg #[Value.map none, Value.map none]) := ⟨Tryz.zeroValue82⟩
instance : OneT Tryz.prog 83 := ⟨Tryz.isAgg83, Tryz.sizeOf83⟩
instance : ZeroT Tryz.prog 83 Value.nilFunc := ⟨Tryz.zeroValue83⟩
instance : AggT Tryz.prog 84 18 := ⟨Tryz.isAgg84, Tryz.sizeOf84⟩
instance : FAddr Tryz.prog 84 0 0 := ⟨fun _ _ => by kernel_rfl⟩
instance : FAddr Tryz.prog 84 1 1 := ⟨fun _ _ => by kernel_rfl⟩
instance : BuildT Tryz.prog 84 (fun i => #[(0, 1), (1, 17)][i]?) #[Value.string { data := #[] }, Value.int IntKind.u8 0, Value.int IntKind.u8 0, Value.int IntKind.u8 0, Value.int IntKind.u8 0, Value.int IntKind.u8 0, Value.int IntKind.u8 0, Value.int IntKind.u8 0, Value.int IntKind.u8 0, Value.int IntKind.u8 0, Value.int IntKind.u8 0, Value.int IntKind.u8 0, Value.int IntKind.u8 0, Value.int IntKind.u8 0, Value.int IntKind.u8 0, Value.int IntKind.u8 0, Value.int IntKind.u8 0, Value.int IntKind.i64 0] := ⟨fun _ => by kernel_rfl⟩
instance : ZeroT Tryz.prog 84 (Value.agg #[Value.string { data := #[] }, Value.int IntKind.u8 0, Value.int IntKind.u8 0, Value.int IntKind.u8 0, Value.int IntKind.u8 0, Value.int IntKind.u8 0, Value.int IntKind.u8 0, Value.int IntKind.u8 0, Value.int IntKind.u8 0, Value.int IntKind.u8 0, Value.int IntKind.u8 0, Value.int IntKind.u8 0, Value.int IntKind.u8 0, Value.int IntKind.u8 0, Value.int IntKind.u8 0, Value.int IntKind.u8 0, Value.int IntKind.u8 0, Value.int IntKind.i64 0]) := ⟨Tryz.zeroValue84⟩
instance : AggT Tryz.prog 85 18 := ⟨Tryz.isAgg85, Tryz.sizeOf85⟩
instance : FAddr Tryz.prog 85 0 0 := ⟨fun _ _ => by kernel_rfl⟩
instance : FAddr Tryz.prog 85 1 1 := ⟨fun _ _ => by kernel_rfl⟩
instance : BuildT Tryz.prog 85 (fun i => #[(0, 1), (1, 17)][i]?) #[Value.string { data := #[] }, Value.int IntKind.u8 0, Value.int IntKind.u8 0, Value.int IntKind.u8 0, Value.int IntKind.u8 0, Value.int IntKind.u8 0, Value.int IntKind.u8 0, Value.int IntKind.u8 0, Value.int IntKind.u8 0, Value.int IntKind.u8 0, Value.int IntKind.u8 0, Value.int IntKind.u8 0, Value.int IntKind.u8 0, Value.int IntKind.u8 0, Value.int IntKind.u8 0, Value.int IntKind.u8 0, Value.int IntKind.u8 0, Value.int IntKind.i64 0] := ⟨fun _ => by kernel_rfl⟩
instance : ZeroT Tryz.prog 85 (Value.agg #[Value.string { data := #[] }, Value.int IntKind.u8 0, Value.int IntKind.u8 0, Value.int IntKind.u8 0, Value.int IntKind.u8 0, Value.int IntKind.u8 0, Value.int IntKind.u8 0, Value.int IntKind.u8 0, Value.int IntKind.u8 0, Value.int IntKind.u8 0, Value.int IntKind.u8 0, Value.int IntKind.u8 0, Value.int IntKind.u8 0, Value.int IntKind.u8 0, Value.int IntKind.u8 0, Value.int IntKind.u8 0, Value.int IntKind.u8 0, Value.int IntKind.i64 0]) := ⟨Tryz.zeroValue85⟩
instance : OneT Tryz.prog 87 := ⟨Tryz.isAgg87, Tryz.sizeOf87⟩
instance : ZeroT Tryz.prog 87 Value.nilFunc := ⟨Tryz.zeroValue87⟩
instance : OneT Tryz.prog 88 := ⟨Tryz.isAgg88, Tryz.sizeOf88⟩
instance : ZeroT Tryz.prog 88 Value.nilFunc := ⟨Tryz.zeroValue88⟩
instance : OneT Tryz.prog 89 := ⟨Tryz.isAgg89, Tryz.sizeOf89⟩
instance : ZeroT Tryz.prog 89 Value.nilFunc := ⟨Tryz.zeroValue89⟩
instance : UnderT Tryz.prog 90 (TypeDesc.pointer 127) := ⟨Tryz.underlying90⟩
instance : OneT Tryz.prog 90 := ⟨Tryz.isAgg90, Tryz.sizeOf90⟩
instance : ZeroT Tryz.prog 90 (Value.pointer none) := ⟨Tryz.zeroValue90⟩
instance : OneT Tryz.prog 91 := ⟨Tryz.isAgg91, Tryz.sizeOf91⟩
instance : ZeroT Tryz.prog 91 Value.nilFunc := ⟨Tryz.zeroValue91⟩
instance : OneT Tryz.prog 92 := ⟨Tryz.isAgg92, Tryz.sizeOf92⟩
instance : ZeroT Tryz.prog 92 Value.nilFunc := ⟨Tryz.zeroValue92⟩
instance : OneT Tryz.prog 93 := ⟨Tryz.isAgg93, Tryz.sizeOf93⟩
instance : ZeroT Tryz.prog 93 Value.nilFunc := ⟨Tryz.zeroValue93⟩
instance : OneT Tryz.prog 94 := ⟨Tryz.isAgg94, Tryz.sizeOf94⟩
instance : ZeroT Tryz.prog 94 Value.nilFunc := ⟨Tryz.zeroValue94⟩
instance : UnderT Tryz.prog 95 (TypeDesc.pointer 138) := ⟨Tryz.underlying95⟩
instance : OneT Tryz.prog 95 := ⟨Tryz.isAgg95, Tryz.sizeOf95⟩
instance : ZeroT Tryz.prog 95 (Value.pointer none) := ⟨Tryz.zeroValue95⟩
instance : OneT Tryz.prog 96 := ⟨Tryz.isAgg96, Tryz.sizeOf96⟩
instance : ZeroT Tryz.prog 96 Value.nilFunc := ⟨Tryz.zeroValue96⟩
instance : OneT Tryz.prog 97 := ⟨Tryz.isAgg97, Tryz.sizeOf97⟩
instance : ZeroT Tryz.prog 97 Value.nilFunc := ⟨Tryz.zeroValue97⟩
instance : AggT Tryz.prog 98 4 := ⟨Tryz.isAgg98, Tryz.sizeOf98⟩
instance : FAddr Tryz.prog 98 0 0 := ⟨fun _ _ => by kernel_rfl⟩
instance : FAddr Tryz.prog 98 1 1 := ⟨fun _ _ => by kernel_rfl⟩
instance : FAddr Tryz.prog 98 2 2 := ⟨fun _ _ => by kernel_rfl⟩
instance : FAddr Tryz.prog 98 3 3 := ⟨fun _ _ => by kernel_rfl⟩
instance : BuildT Tryz.prog 98 (fun i => #[(0, 1), (1, 1), (2, 1), (3, 1)][i]?) #[Value.pointer none, Value.pointer none, Value.bool false, Value.slice none 0 0] := ⟨fun _ => by kernel_rfl⟩
instance : ZeroT Tryz.prog 98 (Value.agg #[Value.pointer none, Value.pointer none, Value.bool false, Value.slice none 0 0]) := ⟨Tryz.zeroValue98⟩
instance : AggT Tryz.prog 99 4 := ⟨Tryz.isAgg99, Tryz.sizeOf99⟩
instance : FAddr Tryz.prog 99 0 0 := ⟨fun _ _ => by kernel_rfl⟩
instance : FAddr Tryz.prog 99 1 1 := ⟨fun _ _ => by kernel_rfl⟩
instance : FAddr Tryz.prog 99 2 2 := ⟨fun _ _ => by kernel_rfl⟩
instance : FAddr Tryz.prog 99 3 3 := ⟨fun _ _ => by kernel_rfl⟩
instance : BuildT Tryz.prog 99 (fun i => #[(0, 1), (1, 1), (2, 1), (3, 1)][i]?) #[Value.pointer none, Value.pointer none, Value.bool false, Value.slice none 0 0] := ⟨fun _ => by kernel_rfl⟩
instance : ZeroT Tryz.prog 99 (Value.agg #[Value.pointer none, Value.pointer none, Value.bool false, Value.slice none 0 0]) := ⟨Tryz.zeroValue99⟩
instance : OneT Tryz.prog 100 := ⟨Tryz.isAgg100, Tryz.sizeOf100⟩
instance : ZeroT Tryz.prog 100 Value.nilFunc := ⟨Tryz.zeroValue100⟩
instance : UnderT Tryz.prog 101 (TypeDesc.pointer 103) := ⟨Tryz.underlying101⟩
instance : OneT Tryz.prog 101 := ⟨Tryz.isAgg101, Tryz.sizeOf101⟩
instance : ZeroT Tryz.prog 101 (Value.pointer none) := ⟨Tryz.zeroValue101⟩
instance : AggT Tryz.prog 102 1 := ⟨Tryz.isAgg102, Tryz.sizeOf102⟩
instance : FAddr Tryz.prog 102 0 0 := ⟨fun _ _ => by kernel_rfl⟩
instance : BuildT Tryz.prog 102 (fun i => #[(0, 1)][i]?) #[Value.slice none 0 0] := ⟨fun _ => by kernel_rfl⟩
instance : ZeroT Tryz.prog 102 (Value.agg #[Value.slice none 0 0]) := ⟨Tryz.zeroValue102⟩
instance : AggT Tryz.prog 103 1 := ⟨Tryz.isAgg103, Tryz.sizeOf103⟩
instance : FAddr Tryz.prog 103 0 0 := ⟨fun _ _ => by kernel_rfl⟩
instance : BuildT Tryz.prog 103 (fun i => #[(0, 1)][i]?) #[Value.slice none 0 0] := ⟨fun _ => by kernel_rfl⟩
instance : ZeroT Tryz.prog 103 (Value.agg #[Value.slice none 0 0]) := ⟨Tryz.zeroValue103⟩
instance : AggT Tryz.prog 104 5 := ⟨Tryz.isAgg104, Tryz.sizeOf104⟩
instance : FAddr Tryz.prog 104 0 0 := ⟨fun _ _ => by kernel_rfl⟩
instance : FAddr Tryz.prog 104 1 3 := ⟨fun _ _ => by kernel_rfl⟩
instance : FAddr Tryz.prog 104 2 4 := ⟨fun _ _ => by kernel_rfl⟩
instance : BuildT Tryz.prog 104 (fun i => #[(0, 3), (3, 1), (4, 1)][i]?) #[Value.bool false, Value.slice none 0 0, Value.slice none 0 0, Value.pointer none, Value.pointer none] := ⟨fun _ => by kernel_rfl⟩
instance : ZeroT Tryz.prog 104 (Value.agg #[Value.bool false, Value.slice none 0 0, Value.slice none 0 0, Value.pointer none, Value.pointer none]) := ⟨Tryz.zeroValue104⟩
instance : AggT Tryz.prog 105 5 := ⟨Tryz.isAgg105, Tryz.sizeOf105⟩
instance : FAddr Tryz.prog 105 0 0 := ⟨fun _ _ => by kernel_rfl⟩
instance : FAddr Tryz.prog 105 1 3 := ⟨fun _ _ => by kernel_rfl⟩
instance : FAddr Tryz.prog 105 2 4 := ⟨fun _ _ => by kernel_rfl⟩
instance : BuildT Tryz.prog 105 (fun i => #[(0, 3), (3, 1), (4, 1)][i]?) #[Value.bool false, Value.slice none 0 0, Value.slice none 0 0, Value.pointer none, Value.pointer none] := ⟨fun _ => by kernel_rfl⟩
instance : ZeroT Tryz.prog 105 (Value.agg #[Value.bool false, Value.slice none 0 0, Value.slice none 0 0, Value.pointer none, Value.pointer none]) := ⟨Tryz.zeroValue105⟩
instance : OneT Tryz.prog 106 := ⟨Tryz.isAgg106, Tryz.sizeOf106⟩
instance : ZeroT Tryz.prog 106 Value.nilFunc := ⟨Tryz.zeroValue106⟩
instance : OneT Tryz.prog 107 := ⟨Tryz.isAgg107, Tryz.sizeOf107⟩
instance : ZeroT Tryz.prog 107 Value.nilFunc := ⟨Tryz.zeroValue107⟩
instance : OneT Tryz.prog 108 := ⟨Tryz.isAgg108, Tryz.sizeOf108⟩
instance : ZeroT Tryz.prog 108 Value.nilFunc := ⟨Tryz.zeroValue108⟩
instance : OneT Tryz.prog 110 := ⟨Tryz.isAgg110, Tryz.sizeOf110⟩
instance : ZeroT Tryz.prog 110 Value.nilFunc := ⟨Tryz.zeroValue110⟩
instance : OneT Tryz.prog 112 := ⟨Tryz.isAgg112, Tryz.sizeOf112⟩
instance : ZeroT Tryz.prog 112 Value.nilFunc := ⟨Tryz.zeroValue112⟩
instance : OneT Tryz.prog 113 := ⟨Tryz.isAgg113, Tryz.sizeOf113⟩
instance : ZeroT Tryz.prog 113 Value.nilFunc := ⟨Tryz.zeroValue113⟩
instance : OneT Tryz.prog 114 := ⟨Tryz.isAgg114, Tryz.sizeOf114⟩
instance : ZeroT Tryz.prog 114 Value.nilFunc := ⟨Tryz.zeroValue114⟩
instance : UnderT Tryz.prog 115 (TypeDesc.slice 5) := ⟨Tryz.underlying115⟩
instance : OneT Tryz.prog 115 := ⟨Tryz.isAgg115, Tryz.sizeOf115⟩
instance : ZeroT Tryz.prog 115 (Value.slice none 0 0) := ⟨Tryz.zeroValue115⟩
instance : SliceT Tryz.prog 115 5 1 1 (Value.int IntKind.u8 0) := ⟨Tryz.underlying115, ⟨Tryz.t5, by kernel_rfl, rfl, rfl, rfl⟩, rfl⟩
instance : UnderT Tryz.prog 116 (TypeDesc.array 12 5) := ⟨Tryz.underlying116⟩
instance : AggT Tryz.prog 116 12 := ⟨Tryz.isAgg116, Tryz.sizeOf116⟩
instance : BuildT Tryz.prog 116 (fun i => some (i * 1, 1)) #[Value.int IntKind.u8 0, Value.int IntKind.u8 0, Value.int IntKind.u8 0, Value.int IntKind.u8 0, Value.int IntKind.u8 0, Value.int IntKind.u8 0, Value.int IntKind.u8 0, Value.int IntKind.u8 0, Value.int IntKind.u8 0, Value.int IntKind.u8 0, Value.int IntKind.u8 0, Value.int IntKind.u8 0] := ⟨fun _ => by kernel_rfl⟩
instance : ArrT Tryz.prog 116 12 5 1 := ⟨Tryz.underlying116, Tryz.sizeOf5⟩
instance : ZeroT Tryz.prog 116 (Value.agg #[Value.int IntKind.u8 0, Value.int IntKind.u8 0, Value.int IntKind.u8 0, Value.int IntKind.u8 0, Value.int IntKind.u8 0, Value.int IntKind.u8 0, Value.int IntKind.u8 0, Value.int IntKind.u8 0, Value.int IntKind.u8 0, Value.int IntKind.u8 0, Value.int IntKind.u8 0, Value.int IntKind.u8 0]) := ⟨Tryz.zeroValue116⟩
instance : UnderT Tryz.prog 117 (TypeDesc.pointer 121) := ⟨Tryz.underlying117⟩
instance : OneT Tryz.prog 117 := ⟨Tryz.isAgg117, Tryz.sizeOf117⟩
instance : ZeroT Tryz.prog 117 (Value.pointer none) := ⟨Tryz.zeroValue117⟩
instance : OneT Tryz.prog 118 := ⟨Tryz.isAgg118, Tryz.sizeOf118⟩
instance : ZeroT Tryz.prog 118 Value.nilFunc := ⟨Tryz.zeroValue118⟩
instance : UnderT Tryz.prog 119 (TypeDesc.map 150 3) := ⟨Tryz.underlying119⟩
instance : OneT Tryz.prog 119 := ⟨Tryz.isAgg119, Tryz.sizeOf119⟩
instance : ZeroT Tryz.prog 119 (Value.map none) := ⟨Tryz.zeroValue119⟩
instance : AggT Tryz.prog 120 2 := ⟨Tryz.isAgg120, Tryz.sizeOf120⟩
instance : FAddr Tryz.prog 120 0 0 := ⟨fun _ _ => by kernel_rfl⟩
instance : FAddr Tryz.prog 120 1 1 := ⟨fun _ _ => by kernel_rfl⟩
instance : BuildT Tryz.prog 120 (fun i => #[(0, 1), (1, 1)][i]?) #[Value.pointer none, Value.map none] := ⟨fun _ => by kernel_rfl⟩
instance : ZeroT Tryz.prog 120 (Value.agg #[Value.pointer none, Value.map none]) := ⟨Tryz.zeroValue120⟩
instance : AggT Tryz.prog 121 2 := ⟨Tryz.isAgg121, Tryz.sizeOf121⟩
instance : FAddr Tryz.prog 121 0 0 := ⟨fun _ _ => by kernel_rfl⟩
instance : FAddr Tryz.prog 121 1 1 := ⟨fun _ _ => by kernel_rfl⟩
instance : BuildT Tryz.prog 121 (fun i => #[(0, 1), (1, 1)][i]?) #[Value.pointer none, Value.map none] := ⟨fun _ => by kernel_rfl⟩
instance : ZeroT Tryz.prog 121 (Value.agg #[Value.pointer none, Value.map none]) := ⟨Tryz.zeroValue121⟩
instance : OneT Tryz.prog 122 := ⟨Tryz.isAgg122, Tryz.sizeOf122⟩
instance : ZeroT Tryz.prog 122 Value.nilFunc := ⟨Tryz.zeroValue122⟩
instance : OneT Tryz.prog 123 := ⟨Tryz.isAgg123, Tryz.sizeOf123⟩
instance : ZeroT Tryz.prog 123 Value.nilFunc := ⟨Tryz.zeroValue123⟩
instance : OneT Tryz.prog 124 := ⟨Tryz.isAgg124, Tryz.sizeOf124⟩
instance : ZeroT Tryz.prog 124 Value.nilFunc := ⟨Tryz.zeroValue124⟩
instance : UnderT Tryz.prog 125 (TypeDesc.map 33 3) := ⟨Tryz.underlying125⟩
instance : OneT Tryz.prog 125 := ⟨Tryz.isAgg125, Tryz.sizeOf125⟩
instance : ZeroT Tryz.prog 125 (Value.map none) := ⟨Tryz.zeroValue125⟩
instance : AggT Tryz.prog 126 1 := ⟨Tryz.isAgg126, Tryz.sizeOf126⟩
instance : FAddr Tryz.prog 126 0 0 := ⟨fun _ _ => by kernel_rfl⟩
instance : BuildT Tryz.prog 126 (fun i => #[(0, 1)][i]?) #[Value.map none] := ⟨fun _ => by kernel_rfl⟩
instance : ZeroT Tryz.prog 126 (Value.agg #[Value.map none]) := ⟨Tryz.zeroValue126⟩
instance : AggT Tryz.prog 127 1 := ⟨Tryz.isAgg127, Tryz.sizeOf127⟩
instance : FAddr Tryz.prog 127 0 0 := ⟨fun _ _ => by kernel_rfl⟩
instance : BuildT Tryz.prog 127 (fun i => #[(0, 1)][i]?) #[Value.map none] := ⟨fun _ => by kernel_rfl⟩
instance : ZeroT Tryz.prog 127 (Value.agg #[Value.map none]) := ⟨Tryz.zeroValue127⟩
instance : OneT Tryz.prog 128 := ⟨Tryz.isAgg128, Tryz.sizeOf128⟩
instance : ZeroT Tryz.prog 128 Value.nilFunc := ⟨Tryz.zeroValue128⟩
instance : OneT Tryz.prog 129 := ⟨Tryz.isAgg129, Tryz.sizeOf129⟩
instance : ZeroT Tryz.prog 129 Value.nilFunc := ⟨Tryz.zeroValue129⟩
instance : OneT Tryz.prog 130 := ⟨Tryz.isAgg130, Tryz.sizeOf130⟩
instance : ZeroT Tryz.prog 130 Value.nilFunc := ⟨Tryz.zeroValue130⟩
instance : OneT Tryz.prog 131 := ⟨Tryz.isAgg131, Tryz.sizeOf131⟩
instance : ZeroT Tryz.prog 131 Value.nilFunc := ⟨Tryz.zeroValue131⟩
instance : OneT Tryz.prog 132 := ⟨Tryz.isAgg132, Tryz.sizeOf132⟩
instance : ZeroT Tryz.prog 132 Value.nilFunc := ⟨Tryz.zeroValue132⟩
instance : UnderT Tryz.prog 133 (TypeDesc.map 69 3) := ⟨Tryz.underlying133⟩
instance : OneT Tryz.prog 133 := ⟨Tryz.isAgg133, Tryz.sizeOf133⟩
instance : ZeroT Tryz.prog 133 (Value.map none) := ⟨Tryz.zeroValue133⟩
instance : UnderT Tryz.prog 134 (TypeDesc.map 9 156) := ⟨Tryz.underlying134⟩
instance : OneT Tryz.prog 134 := ⟨Tryz.isAgg134, Tryz.sizeOf134⟩
instance : ZeroT Tryz.prog 134 (Value.map none) := ⟨Tryz.zeroValue134⟩
instance : AggT Tryz.prog 135 3 := ⟨Tryz.isAgg135, Tryz.sizeOf135⟩
instance : FAddr Tryz.prog 135 0 0 := ⟨fun _ _ => by kernel_rfl⟩
instance : FAddr Tryz.prog 135 1 1 := ⟨fun _ _ => by kernel_rfl⟩
instance : FAddr Tryz.prog 135 2 2 := ⟨fun _ _ => by kernel_rfl⟩
instance : BuildT Tryz.prog 135 (fun i => #[(0, 1), (1, 1), (2, 1)][i]?) #[Value.slice none 0 0, Value.slice none 0 0, Value.map none] := ⟨fun _ => by kernel_rfl⟩
instance : ZeroT Tryz.prog 135 (Value.agg #[Value.slice none 0 0, Value.slice none 0 0, Value.map none]) := ⟨Tryz.zeroValue135⟩
instance : AggT Tryz.prog 136 3 := ⟨Tryz.isAgg136, Tryz.sizeOf136⟩
instance : FAddr Tryz.prog 136 0 0 := ⟨fun _ _ => by kernel_rfl⟩
instance : FAddr Tryz.prog 136 1 1 := ⟨fun _ _ => by kernel_rfl⟩
instance : FAddr Tryz.prog 136 2 2 := ⟨fun _ _ => by kernel_rfl⟩
instance : BuildT Tryz.prog 136 (fun i => #[(0, 1), (1, 1), (2, 1)][i]?) #[Value.slice none 0 0, Value.slice none 0 0, Value.map none] := ⟨fun _ => by kernel_rfl⟩
instance : ZeroT Tryz.prog 136 (Value.agg #[Value.slice none 0 0, Value.slice none 0 0, Value.map none]) := ⟨Tryz.zeroValue136⟩
instance : AggT Tryz.prog 137 6 := ⟨Tryz.isAgg137, Tryz.sizeOf137⟩
instance : FAddr Tryz.prog 137 0 0 := ⟨fun _ _ => by kernel_rfl⟩
instance : FAddr Tryz.prog 137 1 1 := ⟨fun _ _ => by kernel_rfl⟩
instance : FAddr Tryz.prog 137 2 2 := ⟨fun _ _ => by kernel_rfl⟩
instance : FAddr Tryz.prog 137 3 5 := ⟨fun _ _ => by kernel_rfl⟩
instance : BuildT Tryz.prog 137 (fun i => #[(0, 1), (1, 1), (2, 3), (5, 1)][i]?) #[Value.slice none 0 0, Value.slice none 0 0, Value.slice none 0 0, Value.slice none 0 0, Value.map none, Value.map none] := ⟨fun _ => by kernel_rfl⟩
instance : ZeroT Tryz.prog 137 (Value.agg #[Value.slice none 0 0, Value.slice none 0 0, Value.slice none 0 0, Value.slice none 0 0, Value.map none, Value.map none]) := ⟨Tryz.zeroValue137⟩
instance : AggT Tryz.prog 138 6 := ⟨Tryz.isAgg138, Tryz.sizeOf138⟩
instance : FAddr Tryz.prog 138 0 0 := ⟨fun _ _ => by kernel_rfl⟩
instance : FAddr Tryz.prog 138 1 1 := ⟨fun _ _ => by kernel_rfl⟩
instance : FAddr Tryz.prog 138 2 2 := ⟨fun _ _ => by kernel_rfl⟩
instance : FAddr Tryz.prog 138 3 5 := ⟨fun _ _ => by kernel_rfl⟩
instance : BuildT Tryz.prog 138 (fun i => #[(0, 1), (1, 1), (2, 3), (5, 1)][i]?) #[Value.slice none 0 0, Value.slice none 0 0, Value.slice none 0 0, Value.slice none 0 0, Value.map none, Value.map none] := ⟨fun _ => by kernel_rfl⟩
instance : ZeroT Tryz.prog 138 (Value.agg #[Value.slice none 0 0, Value.slice none 0 0, Value.slice none 0 0, Value.slice none 0 0, Value.map none, Value.map none]) := ⟨Tryz.zeroValue138⟩
instance : OneT Tryz.prog 139 := ⟨Tryz.isAgg139, Tryz.sizeOf139⟩
instance : ZeroT Tryz.prog 139 Value.nilFunc := ⟨Tryz.zeroValue139⟩
instance : OneT Tryz.prog 140 := ⟨Tryz.isAgg140, Tryz.sizeOf140⟩
instance : ZeroT Tryz.prog 140 Value.nilFunc := ⟨Tryz.zeroValue140⟩
instance : OneT Tryz.prog 141 := ⟨Tryz.isAgg141, Tryz.sizeOf141⟩
instance : ZeroT Tryz.prog 141 Value.nilFunc := ⟨Tryz.zeroValue141⟩
instance : UnderT Tryz.prog 142 (TypeDesc.slice 52) := ⟨Tryz.underlying142⟩
instance : OneT Tryz.prog 142 := ⟨Tryz.isAgg142, Tryz.sizeOf142⟩
instance : ZeroT Tryz.prog 142 (Value.slice none 0 0) := ⟨Tryz.zeroValue142⟩
instance : SliceT Tryz.prog 142 52 1 24 (Value.slice none 0 0) := ⟨Tryz.underlying142, ⟨Tryz.t52, by kernel_rfl, rfl, rfl, rfl⟩, rfl⟩
instance : OneT Tryz.prog 143 := ⟨Tryz.isAgg143, Tryz.sizeOf143⟩
instance : ZeroT Tryz.prog 143 Value.nilFunc := ⟨Tryz.zeroValue143⟩
instance : OneT Tryz.prog 144 := ⟨Tryz.isAgg144, Tryz.sizeOf144⟩
instance : ZeroT Tryz.prog 144 Value.nilFunc := ⟨Tryz.zeroValue144⟩
instance : OneT Tryz.prog 145 := ⟨Tryz.isAgg145, Tryz.sizeOf145⟩
instance : ZeroT Tryz.prog 145 Value.nilFunc := ⟨Tryz.zeroValue145⟩
instance : OneT Tryz.prog 146 := ⟨Tryz.isAgg146, Tryz.sizeOf146⟩
instance : ZeroT Tryz.prog 146 Value.nilFunc := ⟨Tryz.zeroValue146⟩
instance : OneT Tryz.prog 148 := ⟨Tryz.isAgg148, Tryz.sizeOf148⟩
instance : ZeroT Tryz.prog 148 Value.nilFunc := ⟨Tryz.zeroValue148⟩
instance : AggT Tryz.prog 149 18 := ⟨Tryz.isAgg149, Tryz.sizeOf149⟩
instance : FAddr Tryz.prog 149 0 0 := ⟨fun _ _ => by kernel_rfl⟩
instance : FAddr Tryz.prog 149 1 1 := ⟨fun _ _ => by kernel_rfl⟩
instance : BuildT Tryz.prog 149 (fun i => #[(0, 1), (1, 17)][i]?) #[Value.string { data := #[] }, Value.int IntKind.u8 0, Value.int IntKind.u8 0, Value.int IntKind.u8 0, Value.int IntKind.u8 0, Value.int IntKind.u8 0, Value.int IntKind.u8 0, Value.int IntKind.u8 0, Value.int IntKind.u8 0, Value.int IntKind.u8 0, Value.int IntKind.u8 0, Value.int IntKind.u8 0, Value.int IntKind.u8 0, Value.int IntKind.u8 0, Value.int IntKind.u8 0, Value.int IntKind.u8 0, Value.int IntKind.u8 0, Value.int IntKind.i64 0] := ⟨fun _ => by kernel_rfl⟩
instance : ZeroT Tryz.prog 149 (Value.agg #[Value.string { data := #[] }, Value.int IntKind.u8 0, Value.int IntKind.u8 0, Value.int IntKind.u8 0, Value.int IntKind.u8 0, Value.int IntKind.u8 0, Value.int IntKind.u8 0, Value.int IntKind.u8 0, Value.int IntKind.u8 0, Value.int IntKind.u8 0, Value.int IntKind.u8 0, Value.int IntKind.u8 0, Value.int IntKind.u8 0, Value.int IntKind.u8 0, Value.int IntKind.u8 0, Value.int IntKind.u8 0, Value.int IntKind.u8 0, Value.int IntKind.i64 0]) := ⟨Tryz.zeroValue149⟩
instance : AggT Tryz.prog 150 18 := ⟨Tryz.isAgg150, Tryz.sizeOf150⟩
instance : FAddr Tryz.prog 150 0 0 := ⟨fun _ _ => by kernel_rfl⟩
instance : FAddr Tryz.prog 150 1 1 := ⟨fun _ _ => by kernel_rfl⟩
instance : BuildT Tryz.prog 150 (fun i => #[(0, 1), (1, 17)][i]?) #[Value.string { data := #[] }, Value.int IntKind.u8 0, Value.int IntKind.u8 0, Value.int IntKind.u8 0, Value.int IntKind.u8 0, Value.int IntKind.u8 0, Value.int IntKind.u8 0, Value.int IntKind.u8 0, Value.int IntKind.u8 0, Value.int IntKind.u8 0, Value.int IntKind.u8 0, Value.int IntKind.u8 0, Value.int IntKind.u8 0, Value.int IntKind.u8 0, Value.int IntKind.u8 0, Value.int IntKind.u8 0, Value.int IntKind.u8 0, Value.int IntKind.i64 0] := ⟨fun _ => by kernel_rfl⟩
instance : ZeroT Tryz.prog 150 (Value.agg #[Value.string { data := #[] }, Value.int IntKind.u8 0, Value.int IntKind.u8 0, Value.int IntKind.u8 0, Value.int IntKind.u8 0, Value.int IntKind.u8 0, Value.int IntKind.u8 0, Value.int IntKind.u8 0, Value.int IntKind.u8 0, Value.int IntKind.u8 0, Value.int IntKind.u8 0, Value.int IntKind.u8 0, Value.int IntKind.u8 0, Value.int IntKind.u8 0, Value.int IntKind.u8 0, Value.int IntKind.u8 0, Value.int IntKind.u8 0, Value.int IntKind.i64 0]) := ⟨Tryz.zeroValue150⟩
instance : UnderT Tryz.prog 151 (TypeDesc.int IntKind.u64) := ⟨Tryz.underlying151⟩
instance : OneT Tryz.prog 151 := ⟨Tryz.isAgg151, Tryz.sizeOf151⟩
instance : ZeroT Tryz.prog 151 (Value.int IntKind.u64 0) := ⟨Tryz.zeroValue151⟩
instance : OneT Tryz.prog 152 := ⟨Tryz.isAgg152, Tryz.sizeOf152⟩
instance : ZeroT Tryz.prog 152 Value.nilFunc := ⟨Tryz.zeroValue152⟩
instance : OneT Tryz.prog 153 := ⟨Tryz.isAgg153, Tryz.sizeOf153⟩
instance : ZeroT Tryz.prog 153 Value.nilFunc := ⟨Tryz.zeroValue153⟩
instance : OneT Tryz.prog 154 := ⟨Tryz.isAgg154, Tryz.sizeOf154⟩
instance : ZeroT Tryz.prog 154 Value.nilFunc := ⟨Tryz.zeroValue154⟩
instance : OneT Tryz.prog 155 := ⟨Tryz.isAgg155, Tryz.sizeOf155⟩
instance : ZeroT Tryz.prog 155 Value.nilFunc := ⟨Tryz.zeroValue155⟩
instance : UnderT Tryz.prog 156 (TypeDesc.pointer 136) := ⟨Tryz.underlying156⟩
instance : OneT Tryz.prog 156 := ⟨Tryz.isAgg156, Tryz.sizeOf156⟩
instance : ZeroT Tryz.prog 156 (Value.pointer none) := ⟨Tryz.zeroValue156⟩
instance : OneT Tryz.prog 158 := ⟨Tryz.isAgg158, Tryz.sizeOf158⟩
instance : ZeroT Tryz.prog 158 Value.nilFunc := ⟨Tryz.zeroValue158⟩
instance : OneT Tryz.prog 159 := ⟨Tryz.isAgg159, Tryz.sizeOf159⟩
instance : ZeroT Tryz.prog 159 Value.nilFunc := ⟨Tryz.zeroValue159⟩
instance : OneT Tryz.prog 161 := ⟨Tryz.isAgg161, Tryz.sizeOf161⟩
instance : ZeroT Tryz.prog 161 Value.nilFunc := ⟨Tryz.zeroValue161⟩
instance : OneT Tryz.prog 162 := ⟨Tryz.isAgg162, Tryz.sizeOf162⟩
instance : ZeroT Tryz.prog 162 Value.nilFunc := ⟨Tryz.zeroValue162⟩
instance : OneT Tryz.prog 163 := ⟨Tryz.isAgg163, Tryz.sizeOf163⟩
instance : ZeroT Tryz.prog 163 Value.nilFunc := ⟨Tryz.zeroValue163⟩
instance : OneT Tryz.prog 164 := ⟨Tryz.isAgg164, Tryz.sizeOf164⟩
instance : ZeroT Tryz.prog 164 Value.nilFunc := ⟨Tryz.zeroValue164⟩
instance : OneT Tryz.prog 165 := ⟨Tryz.isAgg165, Tryz.sizeOf165⟩
instance : ZeroT Tryz.prog 165 Value.nilFunc := ⟨Tryz.zeroValue165⟩
instance : OneT Tryz.prog 166 := ⟨Tryz.isAgg166, Tryz.sizeOf166⟩
instance : ZeroT Tryz.prog 166 Value.nilFunc := ⟨Tryz.zeroValue166⟩
instance : OneT Tryz.prog 167 := ⟨Tryz.isAgg167, Tryz.sizeOf167⟩
instance : ZeroT Tryz.prog 167 Value.nilFunc := ⟨Tryz.zeroValue167⟩
instance : OneT Tryz.prog 168 := ⟨Tryz.isAgg168, Tryz.sizeOf168⟩
instance : ZeroT Tryz.prog 168 Value.nilFunc := ⟨Tryz.zeroValue168⟩
instance : OneT Tryz.prog 169 := ⟨Tryz.isAgg169, Tryz.sizeOf169⟩
instance : ZeroT Tryz.prog 169 Value.nilFunc := ⟨Tryz.zeroValue169⟩
instance : OneT Tryz.prog 170 := ⟨Tryz.isAgg170, Tryz.sizeOf170⟩
instance : ZeroT Tryz.prog 170 Value.nilFunc := ⟨Tryz.zeroValue170⟩
instance : OneT Tryz.prog 171 := ⟨Tryz.isAgg171, Tryz.sizeOf171⟩
instance : ZeroT Tryz.prog 171 Value.nilFunc := ⟨Tryz.zeroValue171⟩
instance : UnderT Tryz.prog 172 (TypeDesc.int IntKind.i64) := ⟨Tryz.underlying172⟩
instance : OneT Tryz.prog 172 := ⟨Tryz.isAgg172, Tryz.sizeOf172⟩
instance : ZeroT Tryz.prog 172 (Value.int IntKind.i64 0) := ⟨Tryz.zeroValue172⟩
instance : OneT Tryz.prog 174 := ⟨Tryz.isAgg174, Tryz.sizeOf174⟩
instance : ZeroT Tryz.prog 174 Value.nilFunc := ⟨Tryz.zeroValue174⟩
instance : OneT Tryz.prog 175 := ⟨Tryz.isAgg175, Tryz.sizeOf175⟩
instance : ZeroT Tryz.prog 175 Value.nilFunc := ⟨Tryz.zeroValue175⟩
instance : OneT Tryz.prog 176 := ⟨Tryz.isAgg176, Tryz.sizeOf176⟩
instance : ZeroT Tryz.prog 176 Value.nilFunc := ⟨Tryz.zeroValue176⟩
instance : OneT Tryz.prog 177 := ⟨Tryz.isAgg177, Tryz.sizeOf177⟩
instance : ZeroT Tryz.prog 177 Value.nilFunc := ⟨Tryz.zeroValue177⟩
instance : OneT Tryz.prog 178 := ⟨Tryz.isAgg178, Tryz.sizeOf178⟩
instance : ZeroT Tryz.prog 178 Value.nilFunc := ⟨Tryz.zeroValue178⟩
instance : UnderT Tryz.prog 179 (TypeDesc.int IntKind.u32) := ⟨Tryz.underlying179⟩
instance : OneT Tryz.prog 179 := ⟨Tryz.isAgg179, Tryz.sizeOf179⟩
instance : ZeroT Tryz.prog 179 (Value.int IntKind.u32 0) := ⟨Tryz.zeroValue179⟩
instance : OneT Tryz.prog 180 := ⟨Tryz.isAgg180, Tryz.sizeOf180⟩
instance : ZeroT Tryz.prog 180 Value.nilFunc := ⟨Tryz.zeroValue180⟩
instance : UnderT Tryz.prog 181 (TypeDesc.int IntKind.u64) := ⟨Tryz.underlying181⟩
instance : OneT Tryz.prog 181 := ⟨Tryz.isAgg181, Tryz.sizeOf181⟩
instance : ZeroT Tryz.prog 181 (Value.int IntKind.u64 0) := ⟨Tryz.zeroValue181⟩
instance : OneT Tryz.prog 182 := ⟨Tryz.isAgg182, Tryz.sizeOf182⟩
instance : ZeroT Tryz.prog 182 Value.nilFunc := ⟨Tryz.zeroValue182⟩
instance : OneT Tryz.prog 184 := ⟨Tryz.isAgg184, Tryz.sizeOf184⟩
instance : ZeroT Tryz.prog 184 Value.nilFunc := ⟨Tryz.zeroValue184⟩
instance : OneT Tryz.prog 186 := ⟨Tryz.isAgg186, Tryz.sizeOf186⟩
instance : ZeroT Tryz.prog 186 Value.nilFunc := ⟨Tryz.zeroValue186⟩
instance : OneT Tryz.prog 188 := ⟨Tryz.isAgg188, Tryz.sizeOf188⟩
instance : ZeroT Tryz.prog 188 Value.nilFunc := ⟨Tryz.zeroValue188⟩
instance : OneT Tryz.prog 189 := ⟨Tryz.isAgg189, Tryz.sizeOf189⟩
instance : ZeroT Tryz.prog 189 Value.nilFunc := ⟨Tryz.zeroValue189⟩
instance : OneT Tryz.prog 190 := ⟨Tryz.isAgg190, Tryz.sizeOf190⟩
instance : ZeroT Tryz.prog 190 Value.nilFunc := ⟨Tryz.zeroValue190⟩
instance : OneT Tryz.prog 191 := ⟨Tryz.isAgg191, Tryz.sizeOf191⟩
instance : ZeroT Tryz.prog 191 Value.nilFunc := ⟨Tryz.zeroValue191⟩
instance : OneT Tryz.prog 192 := ⟨Tryz.isAgg192, Tryz.sizeOf192⟩
instance : ZeroT Tryz.prog 192 Value.nilFunc := ⟨Tryz.zeroValue192⟩
instance : OneT Tryz.prog 193 := ⟨Tryz.isAgg193, Tryz.sizeOf193⟩
instance : ZeroT Tryz.prog 193 Value.nilFunc := ⟨Tryz.zeroValue193⟩
instance : UnderT Tryz.prog 194 (TypeDesc.int IntKind.u16) := ⟨Tryz.underlying194⟩
instance : OneT Tryz.prog 194 := ⟨Tryz.isAgg194, Tryz.sizeOf194⟩
instance : ZeroT Tryz.prog 194 (Value.int IntKind.u16 0) := ⟨Tryz.zeroValue194⟩
instance : UnderT Tryz.prog 195 (TypeDesc.array 8 194) := ⟨Tryz.underlying195⟩
instance : AggT Tryz.prog 195 8 := ⟨Tryz.isAgg195, Tryz.sizeOf195⟩
instance : BuildT Tryz.prog 195 (fun i => some (i * 1, 1)) #[Value.int IntKind.u16 0, Value.int IntKind.u16 0, Value.int IntKind.u16 0, Value.int IntKind.u16 0, Value.int IntKind.u16 0, Value.int IntKind.u16 0, Value.int IntKind.u16 0, Value.int IntKind.u16 0] := ⟨fun _ => by kernel_rfl⟩
instance : ArrT Tryz.prog 195 8 194 1 := ⟨Tryz.underlying195, Tryz.sizeOf194⟩
instance : ZeroT Tryz.prog 195 (Value.agg #[Value.int IntKind.u16 0, Value.int IntKind.u16 0, Value.int IntKind.u16 0, Value.int IntKind.u16 0, Value.int IntKind.u16 0, Value.int IntKind.u16 0, Value.int IntKind.u16 0, Value.int IntKind.u16 0]) := ⟨Tryz.zeroValue195⟩
instance : UnderT Tryz.prog 196 (TypeDesc.slice 194) := ⟨Tryz.underlying196⟩
instance : OneT Tryz.prog 196 := ⟨Tryz.isAgg196, Tryz.sizeOf196⟩
instance : ZeroT Tryz.prog 196 (Value.slice none 0 0) := ⟨Tryz.zeroValue196⟩
instance : SliceT Tryz.prog 196 194 1 2 (Value.int IntKind.u16 0) := ⟨Tryz.underlying196, ⟨Tryz.t194, by kernel_rfl, rfl, rfl, rfl⟩, rfl⟩
instance : OneT Tryz.prog 197 := ⟨Tryz.isAgg197, Tryz.sizeOf197⟩
instance : ZeroT Tryz.prog 197 Value.nilFunc := ⟨Tryz.zeroValue197⟩
instance : OneT Tryz.prog 198 := ⟨Tryz.isAgg198, Tryz.sizeOf198⟩
instance : ZeroT Tryz.prog 198 Value.nilFunc := ⟨Tryz.zeroValue198⟩
instance : OneT Tryz.prog 200 := ⟨Tryz.isAgg200, Tryz.sizeOf200⟩
instance : ZeroT Tryz.prog 200 Value.nilFunc := ⟨Tryz.zeroValue200⟩
instance : OneT Tryz.prog 201 := ⟨Tryz.isAgg201, Tryz.sizeOf201⟩
instance : ZeroT Tryz.prog 201 Value.nilFunc := ⟨Tryz.zeroValue201⟩
instance : OneT Tryz.prog 202 := ⟨Tryz.isAgg202, Tryz.sizeOf202⟩
instance : ZeroT Tryz.prog 202 Value.nilFunc := ⟨Tryz.zeroValue202⟩
instance : OneT Tryz.prog 203 := ⟨Tryz.isAgg203, Tryz.sizeOf203⟩
instance : ZeroT Tryz.prog 203 Value.nilFunc := ⟨Tryz.zeroValue203⟩
instance : OneT Tryz.prog 204 := ⟨Tryz.isAgg204, Tryz.sizeOf204⟩
instance : ZeroT Tryz.prog 204 Value.nilFunc := ⟨Tryz.zeroValue204⟩
instance : OneT Tryz.prog 205 := ⟨Tryz.isAgg205, Tryz.sizeOf205⟩
instance : ZeroT Tryz.prog 205 Value.nilFunc := ⟨Tryz.zeroValue205⟩
instance : UnderT Tryz.prog 206 (TypeDesc.int IntKind.u64) := ⟨Tryz.underlying206⟩
instance : OneT Tryz.prog 206 := ⟨Tryz.isAgg206, Tryz.sizeOf206⟩
instance : ZeroT Tryz.prog 206 (Value.int IntKind.u64 0) := ⟨Tryz.zeroValue206⟩
instance : OneT Tryz.prog 207 := ⟨Tryz.isAgg207, Tryz.sizeOf207⟩
instance : ZeroT Tryz.prog 207 Value.nilFunc := ⟨Tryz.zeroValue207⟩
instance : OneT Tryz.prog 208 := ⟨Tryz.isAgg208, Tryz.sizeOf208⟩
instance : ZeroT Tryz.prog 208 Value.nilFunc := ⟨Tryz.zeroValue208⟩
instance : OneT Tryz.prog 209 := ⟨Tryz.isAgg209, Tryz.sizeOf209⟩
instance : ZeroT Tryz.prog 209 Value.nilFunc := ⟨Tryz.zeroValue209⟩
instance : UnderT Tryz.prog 210 (TypeDesc.pointer 3) := ⟨Tryz.underlying210⟩
instance : OneT Tryz.prog 210 := ⟨Tryz.isAgg210, Tryz.sizeOf210⟩
instance : ZeroT Tryz.prog 210 (Value.pointer none) := ⟨Tryz.zeroValue210⟩
instance : OneT Tryz.prog 211 := ⟨Tryz.isAgg211, Tryz.sizeOf211⟩
instance : ZeroT Tryz.prog 211 Value.nilFunc := ⟨Tryz.zeroValue211⟩
instance : OneT Tryz.prog 212 := ⟨Tryz.isAgg212, Tryz.sizeOf212⟩
instance : ZeroT Tryz.prog 212 Value.nilFunc := ⟨Tryz.zeroValue212⟩
instance : OneT Tryz.prog 213 := ⟨Tryz.isAgg213, Tryz.sizeOf213⟩
instance : ZeroT Tryz.prog 213 Value.nilFunc := ⟨Tryz.zeroValue213⟩
instance : OneT Tryz.prog 214 := ⟨Tryz.isAgg214, Tryz.sizeOf214⟩
instance : ZeroT Tryz.prog 214 Value.nilFunc := ⟨Tryz.zeroValue214⟩
instance : OneT Tryz.prog 215 := ⟨Tryz.isAgg215, Tryz.sizeOf215⟩
instance : ZeroT Tryz.prog 215 Value.nilFunc := ⟨Tryz.zeroValue215⟩
instance : UnderT Tryz.prog 216 (TypeDesc.pointer 218) := ⟨Tryz.underlying216⟩
instance : OneT Tryz.prog 216 := ⟨Tryz.isAgg216, Tryz.sizeOf216⟩
instance : ZeroT Tryz.prog 216 (Value.pointer none) := ⟨Tryz.zeroValue216⟩
instance : AggT Tryz.prog 217 2 := ⟨Tryz.isAgg217, Tryz.sizeOf217⟩
instance : FAddr Tryz.prog 217 0 0 := ⟨fun _ _ => by kernel_rfl⟩
instance : FAddr Tryz.prog 217 1 1 := ⟨fun _ _ => by kernel_rfl⟩
instance : BuildT Tryz.prog 217 (fun i => #[(0, 1), (1, 1)][i]?) #[Value.pointer none, Value.slice none 0 0] := ⟨fun _ => by kernel_rfl⟩
instance : ZeroT Tryz.prog 217 (Value.agg #[Value.pointer none, Value.slice none 0 0]) := ⟨Tryz.zeroValue217⟩
instance : AggT Tryz.prog 218 2 := ⟨Tryz.isAgg218, Tryz.sizeOf218⟩
instance : FAddr Tryz.prog 218 0 0 := ⟨fun _ _ => by kernel_rfl⟩
instance : FAddr Tryz.prog 218 1 1 := ⟨fun _ _ => by kernel_rfl⟩
instance : BuildT Tryz.prog 218 (fun i => #[(0, 1), (1, 1)][i]?) #[Value.pointer none, Value.slice none 0 0] := ⟨fun _ => by kernel_rfl⟩
instance : ZeroT Tryz.prog 218 (Value.agg #[Value.pointer none, Value.slice none 0 0]) := ⟨Tryz.zeroValue218⟩
instance : OneT Tryz.prog 219 := ⟨Tryz.isAgg219, Tryz.sizeOf219⟩
instance : ZeroT Tryz.prog 219 Value.nilFunc := ⟨Tryz.zeroValue219⟩
instance : UnderT Tryz.prog 220 (TypeDesc.interface #[("Error", 224)]) := ⟨Tryz.underlying220⟩
instance : OneT Tryz.prog 220 := ⟨Tryz.isAgg220, Tryz.sizeOf220⟩
instance : ZeroT Tryz.prog 220 Value.nilIface := ⟨Tryz.zeroValue220⟩
instance : UnderT Tryz.prog 221 (TypeDesc.interface #[("Error", 224)]) := ⟨Tryz.underlying221⟩
instance : OneT Tryz.prog 221 := ⟨Tryz.isAgg221, Tryz.sizeOf221⟩
instance : ZeroT Tryz.prog 221 Value.nilIface := ⟨Tryz.zeroValue221⟩
instance : OneT Tryz.prog 223 := ⟨Tryz.isAgg223, Tryz.sizeOf223⟩
instance : ZeroT Tryz.prog 223 Value.nilFunc := ⟨Tryz.zeroValue223⟩
instance : OneT Tryz.prog 224 := ⟨Tryz.isAgg224, Tryz.sizeOf224⟩
instance : ZeroT Tryz.prog 224 Value.nilFunc := ⟨Tryz.zeroValue224⟩
instance : OneT Tryz.prog 225 := ⟨Tryz.isAgg225, Tryz.sizeOf225⟩
instance : ZeroT Tryz.prog 225 Value.nilFunc := ⟨Tryz.zeroValue225⟩
instance : UnderT Tryz.prog 226 (TypeDesc.pointer 206) := ⟨Tryz.underlying226⟩
instance : OneT Tryz.prog 226 := ⟨Tryz.isAgg226, Tryz.sizeOf226⟩
instance : ZeroT Tryz.prog 226 (Value.pointer none) := ⟨Tryz.zeroValue226⟩
instance : OneT Tryz.prog 227 := ⟨Tryz.isAgg227, Tryz.sizeOf227⟩
instance : ZeroT Tryz.prog 227 Value.nilFunc := ⟨Tryz.zeroValue227⟩
instance : OneT Tryz.prog 228 := ⟨Tryz.isAgg228, Tryz.sizeOf228⟩
instance : ZeroT Tryz.prog 228 Value.nilFunc := ⟨Tryz.zeroValue228⟩
instance : OneT Tryz.prog 230 := ⟨Tryz.isAgg230, Tryz.sizeOf230⟩
instance : ZeroT Tryz.prog 230 Value.nilFunc := ⟨Tryz.zeroValue230⟩
instance : OneT Tryz.prog 231 := ⟨Tryz.isAgg231, Tryz.sizeOf231⟩
instance : ZeroT Tryz.prog 231 Value.nilFunc := ⟨Tryz.zeroValue231⟩
instance : OneT Tryz.prog 232 := ⟨Tryz.isAgg232, Tryz.sizeOf232⟩
instance : ZeroT Tryz.prog 232 Value.nilFunc := ⟨Tryz.zeroValue232⟩
instance : UnderT Tryz.prog 233 (TypeDesc.pointer 5) := ⟨Tryz.underlying233⟩
instance : OneT Tryz.prog 233 := ⟨Tryz.isAgg233, Tryz.sizeOf233⟩
instance : ZeroT Tryz.prog 233 (Value.pointer none) := ⟨Tryz.zeroValue233⟩
instance : UnderT Tryz.prog 234 (TypeDesc.array 24 5) := ⟨Tryz.underlying234⟩
instance : AggT Tryz.prog 234 24 := ⟨Tryz.isAgg234, Tryz.sizeOf234⟩
instance : BuildT Tryz.prog 234 (fun i => some (i * 1, 1)) #[Value.int IntKind.u8 0, Value.int IntKind.u8 0, Value.int IntKind.u8 0, Value.int IntKind.u8 0, Value.int IntKind.u8 0, Value.int IntKind.u8 0, Value.int IntKind.u8 0, Value.int IntKind.u8 0, Value.int IntKind.u8 0, Value.int IntKind.u8 0, Value.int IntKind.u8 0, Value.int IntKind.u8 0, Value.int IntKind.u8 0, Value.int IntKind.u8 0, Value.int IntKind.u8 0, Value.int IntKind.u8 0, Value.int IntKind.u8 0, Value.int IntKind.u8 0, Value.int IntKind.u8 0, Value.int IntKind.u8 0, Value.int IntKind.u8 0, Value.int IntKind.u8 0, Value.int IntKind.u8 0, Value.int IntKind.u8 0] := ⟨fun _ => by kernel_rfl⟩
instance : ArrT Tryz.prog 234 24 5 1 := ⟨Tryz.underlying234, Tryz.sizeOf5⟩
instance : ZeroT Tryz.prog 234 (Value.agg #[Value.int IntKind.u8 0, Value.int IntKind.u8 0, Value.int IntKind.u8 0, Value.int IntKind.u8 0, Value.int IntKind.u8 0, Value.int IntKind.u8 0, Value.int IntKind.u8 0, Value.int IntKind.u8 0, Value.int IntKind.u8 0, Value.int IntKind.u8 0, Value.int IntKind.u8 0, Value.int IntKind.u8 0, Value.int IntKind.u8 0, Value.int IntKind.u8 0, Value.int IntKind.u8 0, Value.int IntKind.u8 0, Value.int IntKind.u8 0, Value.int IntKind.u8 0, Value.int IntKind.u8 0, Value.int IntKind.u8 0, Value.int IntKind.u8 0, Value.int IntKind.u8 0, Value.int IntKind.u8 0, Value.int IntKind.u8 0]) := ⟨Tryz.zeroValue234⟩
instance : OneT Tryz.prog 235 := ⟨Tryz.isAgg235, Tryz.sizeOf235⟩
instance : ZeroT Tryz.prog 235 Value.nilFunc := ⟨Tryz.zeroValue235⟩
instance : OneT Tryz.prog 237 := ⟨Tryz.isAgg237, Tryz.sizeOf237⟩
instance : ZeroT Tryz.prog 237 Value.nilFunc := ⟨Tryz.zeroValue237⟩
instance : OneT Tryz.prog 238 := ⟨Tryz.isAgg238, Tryz.sizeOf238⟩
instance : ZeroT Tryz.prog 238 Value.nilFunc := ⟨Tryz.zeroValue238⟩
instance : OneT Tryz.prog 239 := ⟨Tryz.isAgg239, Tryz.sizeOf239⟩
instance : ZeroT Tryz.prog 239 Value.nilFunc := ⟨Tryz.zeroValue239⟩
instance : OneT Tryz.prog 240 := ⟨Tryz.isAgg240, Tryz.sizeOf240⟩
instance : ZeroT Tryz.prog 240 (Value.pointer none) := ⟨Tryz.zeroValue240⟩
instance : OneT Tryz.prog 241 := ⟨Tryz.isAgg241, Tryz.sizeOf241⟩
instance : ZeroT Tryz.prog 241 Value.nilFunc := ⟨Tryz.zeroValue241⟩
instance : OneT Tryz.prog 242 := ⟨Tryz.isAgg242, Tryz.sizeOf242⟩
instance : ZeroT Tryz.prog 242 Value.nilFunc := ⟨Tryz.zeroValue242⟩
instance : OneT Tryz.prog 243 := ⟨Tryz.isAgg243, Tryz.sizeOf243⟩
instance : ZeroT Tryz.prog 243 Value.nilFunc := ⟨Tryz.zeroValue243⟩
instance : UnderT Tryz.prog 244 (TypeDesc.array 20 181) := ⟨Tryz.underlying244⟩
instance : AggT Tryz.prog 244 20 := ⟨Tryz.isAgg244, Tryz.sizeOf244⟩
instance : BuildT Tryz.prog 244 (fun i => some (i * 1, 1)) #[Value.int IntKind.u64 0, Value.int IntKind.u64 0, Value.int IntKind.u64 0, Value.int IntKind.u64 0, Value.int IntKind.u64 0, Value.int IntKind.u64 0, Value.int IntKind.u64 0, Value.int IntKind.u64 0, Value.int IntKind.u64 0, Value.int IntKind.u64 0, Value.int IntKind.u64 0, Value.int IntKind.u64 0, Value.int IntKind.u64 0, Value.int IntKind.u64 0, Value.int IntKind.u64 0, Value.int IntKind.u64 0, Value.int IntKind.u64 0, Value.int IntKind.u64 0, Value.int IntKind.u64 0, Value.int IntKind.u64 0] := ⟨fun _ => by kernel_rfl⟩
instance : ArrT Tryz.prog 244 20 181 1 := ⟨Tryz.underlying244, Tryz.sizeOf181⟩
instance : ZeroT Tryz.prog 244 (Value.agg #[Value.int IntKind.u64 0, Value.int IntKind.u64 0, Value.int IntKind.u64 0, Value.int IntKind.u64 0, Value.int IntKind.u64 0, Value.int IntKind.u64 0, Value.int IntKind.u64 0, Value.int IntKind.u64 0, Value.int IntKind.u64 0, Value.int IntKind.u64 0, Value.int IntKind.u64 0, Value.int IntKind.u64 0, Value.int IntKind.u64 0, Value.int IntKind.u64 0, Value.int IntKind.u64 0, Value.int IntKind.u64 0, Value.int IntKind.u64 0, Value.int IntKind.u64 0, Value.int IntKind.u64 0, Value.int IntKind.u64 0]) := ⟨Tryz.zeroValue244⟩
instance : UnderT Tryz.prog 245 (TypeDesc.array 65 5) := ⟨Tryz.underlying245⟩
instance : AggT Tryz.prog 245 65 := ⟨Tryz.isAgg245, Tryz.sizeOf245⟩
instance : ArrT Tryz.prog 245 65 5 1 := ⟨Tryz.underlying245, Tryz.sizeOf5⟩
instance : ZeroT Tryz.prog 245 (Value.agg ([Value.int IntKind.u8 0, Value.int IntKind.u8 0, Value.int IntKind.u8 0, Value.int IntKind.u8 0, Value.int IntKind.u8 0, Value.int IntKind.u8 0, Value.int IntKind.u8 0, Value.int IntKind.u8 0, Value.int IntKind.u8 0, Value.int IntKind.u8 0, Value.int IntKind.u8 0, Value.int IntKind.u8 0, Value.int IntKind.u8 0, Value.int IntKind.u8 0, Value.int IntKind.u8 0, Value.int IntKind.u8 0, Value.int IntKind.u8 0, Value.int IntKind.u8 0, Value.int IntKind.u8 0, Value.int IntKind.u8 0, Value.int IntKind.u8 0, Value.int IntKind.u8 0, Value.int IntKind.u8 0, Value.int IntKind.u8 0, Value.int IntKind.u8 0, Value.int IntKind.u8 0, Value.int IntKind.u8 0, Value.int IntKind.u8 0, Value.int IntKind.u8 0, Value.int IntKind.u8 0, Value.int IntKind.u8 0, Value.int IntKind.u8 0].append [Value.int IntKind.u8 0, Value.int IntKind.u8 0, Value.int IntKind.u8 0, Value.int IntKind.u8 0, Value.int IntKind.u8 0, Value.int IntKind.u8 0, Value.int IntKind.u8 0, Value.int IntKind.u8 0, Value.int IntKind.u8 0, Value.int IntKind.u8 0, Value.int IntKind.u8 0, Value.int IntKind.u8 0, Value.int IntKind.u8 0, Value.int IntKind.u8 0, Value.int IntKind.u8 0, Value.int IntKind.u8 0, Value.int IntKind.u8 0, Value.int IntKind.u8 0, Value.int IntKind.u8 0, Value.int IntKind.u8 0, Value.int IntKind.u8 0, Value.int IntKind.u8 0, Value.int IntKind.u8 0, Value.int IntKind.u8 0, Value.int IntKind.u8 0, Value.int IntKind.u8 0, Value.int IntKind.u8 0, Value.int IntKind.u8 0, Value.int IntKind.u8 0, Value.int IntKind.u8 0, Value.int IntKind.u8 0, Value.int IntKind.u8 0, Value.int IntKind.u8 0]).toArray) := ⟨Tryz.zeroValue245⟩
instance : UnderT Tryz.prog 246 (TypeDesc.int IntKind.i64) := ⟨Tryz.underlying246⟩
instance : OneT Tryz.prog 246 := ⟨Tryz.isAgg246, Tryz.sizeOf246⟩
instance : ZeroT Tryz.prog 246 (Value.int IntKind.i64 0) := ⟨Tryz.zeroValue246⟩
instance : OneT Tryz.prog 248 := ⟨Tryz.isAgg248, Tryz.sizeOf248⟩
instance : ZeroT Tryz.prog 248 Value.nilFunc := ⟨Tryz.zeroValue248⟩
instance : UnderT Tryz.prog 249 (TypeDesc.pointer 261) := ⟨Tryz.underlying249⟩
instance : OneT Tryz.prog 249 := ⟨Tryz.isAgg249, Tryz.sizeOf249⟩
instance : ZeroT Tryz.prog 249 (Value.pointer none) := ⟨Tryz.zeroValue249⟩
instance : OneT Tryz.prog 250 := ⟨Tryz.isAgg250, Tryz.sizeOf250⟩
instance : ZeroT Tryz.prog 250 Value.nilFunc := ⟨Tryz.zeroValue250⟩
instance : OneT Tryz.prog 251 := ⟨Tryz.isAgg251, Tryz.sizeOf251⟩
instance : ZeroT Tryz.prog 251 Value.nilFunc := ⟨Tryz.zeroValue251⟩
instance : OneT Tryz.prog 253 := ⟨Tryz.isAgg253, Tryz.sizeOf253⟩
instance : ZeroT Tryz.prog 253 Value.nilFunc := ⟨Tryz.zeroValue253⟩
instance : UnderT Tryz.prog 254 (TypeDesc.array 256 5) := ⟨Tryz.underlying254⟩
instance : AggT Tryz.prog 254 256 := ⟨Tryz.isAgg254, Tryz.sizeOf254⟩
instance : AggT Tryz.prog 255 2 := ⟨Tryz.isAgg255, Tryz.sizeOf255⟩
instance : FAddr Tryz.prog 255 0 0 := ⟨fun _ _ => by kernel_rfl⟩
instance : FAddr Tryz.prog 255 1 1 := ⟨fun _ _ => by kernel_rfl⟩
instance : BuildT Tryz.prog 255 (fun i => #[(0, 1), (1, 1)][i]?) #[Value.int IntKind.u8 0, Value.int IntKind.u8 0] := ⟨fun _ => by kernel_rfl⟩
instance : ZeroT Tryz.prog 255 (Value.agg #[Value.int IntKind.u8 0, Value.int IntKind.u8 0]) := ⟨Tryz.zeroValue255⟩
instance : AggT Tryz.prog 256 2 := ⟨Tryz.isAgg256, Tryz.sizeOf256⟩
instance : FAddr Tryz.prog 256 0 0 := ⟨fun _ _ => by kernel_rfl⟩
instance : FAddr Tryz.prog 256 1 1 := ⟨fun _ _ => by kernel_rfl⟩
instance : BuildT Tryz.prog 256 (fun i => #[(0, 1), (1, 1)][i]?) #[Value.int IntKind.u8 0, Value.int IntKind.u8 0] := ⟨fun _ => by kernel_rfl⟩
instance : ZeroT Tryz.prog 256 (Value.agg #[Value.int IntKind.u8 0, Value.int IntKind.u8 0]) := ⟨Tryz.zeroValue256⟩
instance : UnderT Tryz.prog 257 (TypeDesc.array 16 256) := ⟨Tryz.underlying257⟩
instance : AggT Tryz.prog 257 32 := ⟨Tryz.isAgg257, Tryz.sizeOf257⟩
instance : BuildT Tryz.prog 257 (fun i => some (i * 2, 2)) #[Value.int IntKind.u8 0, Value.int IntKind.u8 0, Value.int IntKind.u8 0, Value.int IntKind.u8 0, Value.int IntKind.u8 0, Value.int IntKind.u8 0, Value.int IntKind.u8 0, Value.int IntKind.u8 0, Value.int IntKind.u8 0, Value.int IntKind.u8 0, Value.int IntKind.u8 0, Value.int IntKind.u8 0, Value.int IntKind.u8 0, Value.int IntKind.u8 0, Value.int IntKind.u8 0, Value.int IntKind.u8 0, Value.int IntKind.u8 0, Value.int IntKind.u8 0, Value.int IntKind.u8 0, Value.int IntKind.u8 0, Value.int IntKind.u8 0, Value.int IntKind.u8 0, Value.int IntKind.u8 0, Value.int IntKind.u8 0, Value.int IntKind.u8 0, Value.int IntKind.u8 0, Value.int IntKind.u8 0, Value.int IntKind.u8 0, Value.int IntKind.u8 0, Value.int IntKind.u8 0, Value.int IntKind.u8 0, Value.int IntKind.u8 0] := ⟨fun _ => by kernel_rfl⟩
instance : ArrT Tryz.prog 257 16 256 2 := ⟨Tryz.underlying257, Tryz.sizeOf256⟩
instance : ZeroT Tryz.prog 257 (Value.agg #[Value.int IntKind.u8 0, Value.int IntKind.u8 0, Value.int IntKind.u8 0, Value.int IntKind.u8 0, Value.int IntKind.u8 0, Value.int IntKind.u8 0, Value.int IntKind.u8 0, Value.int IntKind.u8 0, Value.int IntKind.u8 0, Value.int IntKind.u8 0, Value.int IntKind.u8 0, Value.int IntKind.u8 0, Value.int IntKind.u8 0, Value.int IntKind.u8 0, Value.int IntKind.u8 0, Value.int IntKind.u8 0, Value.int IntKind.u8 0, Value.int IntKind.u8 0, Value.int IntKind.u8 0, Value.int IntKind.u8 0, Value.int IntKind.u8 0, Value.int IntKind.u8 0, Value.int IntKind.u8 0, Value.int IntKind.u8 0, Value.int IntKind.u8 0, Value.int IntKind.u8 0, Value.int IntKind.u8 0, Value.int IntKind.u8 0, Value.int IntKind.u8 0, Value.int IntKind.u8 0, Value.int IntKind.u8 0, Value.int IntKind.u8 0]) := ⟨Tryz.zeroValue257⟩
instance : OneT Tryz.prog 259 := ⟨Tryz.isAgg259, Tryz.sizeOf259⟩
instance : ZeroT Tryz.prog 259 Value.nilFunc := ⟨Tryz.zeroValue259⟩
instance : AggT Tryz.prog 260 3 := ⟨Tryz.isAgg260, Tryz.sizeOf260⟩
instance : FAddr Tryz.prog 260 0 0 := ⟨fun _ _ => by kernel_rfl⟩
instance : FAddr Tryz.prog 260 1 1 := ⟨fun _ _ => by kernel_rfl⟩
instance : FAddr Tryz.prog 260 2 2 := ⟨fun _ _ => by kernel_rfl⟩
instance : BuildT Tryz.prog 260 (fun i => #[(0, 1), (1, 1), (2, 1)][i]?) #[Value.string { data := #[] }, Value.string { data := #[] }, Value.nilIface] := ⟨fun _ => by kernel_rfl⟩
instance : ZeroT Tryz.prog 260 (Value.agg #[Value.string { data := #[] }, Value.string { data := #[] }, Value.nilIface]) := ⟨Tryz.zeroValue260⟩
instance : AggT Tryz.prog 261 3 := ⟨Tryz.isAgg261, Tryz.sizeOf261⟩
instance : FAddr Tryz.prog 261 0 0 := ⟨fun _ _ => by kernel_rfl⟩
instance : FAddr Tryz.prog 261 1 1 := ⟨fun _ _ => by kernel_rfl⟩
instance : FAddr Tryz.prog 261 2 2 := ⟨fun _ _ => by kernel_rfl⟩
instance : BuildT Tryz.prog 261 (fun i => #[(0, 1), (1, 1), (2, 1)][i]?) #[Value.string { data := #[] }, Value.string { data := #[] }, Value.nilIface] := ⟨fun _ => by kernel_rfl⟩
instance : ZeroT Tryz.prog 261 (Value.agg #[Value.string { data := #[] }, Value.string { data := #[] }, Value.nilIface]) := ⟨Tryz.zeroValue261⟩
instance : OneT Tryz.prog 262 := ⟨Tryz.isAgg262, Tryz.sizeOf262⟩
instance : ZeroT Tryz.prog 262 Value.nilFunc := ⟨Tryz.zeroValue262⟩
instance : UnderT Tryz.prog 263 (TypeDesc.array 32 5) := ⟨Tryz.underlying263⟩
instance : AggT Tryz.prog 263 32 := ⟨Tryz.isAgg263, Tryz.sizeOf263⟩
instance : BuildT Tryz.prog 263 (fun i => some (i * 1, 1)) #[Value.int IntKind.u8 0, Value.int IntKind.u8 0, Value.int IntKind.u8 0, Value.int IntKind.u8 0, Value.int IntKind.u8 0, Value.int IntKind.u8 0, Value.int IntKind.u8 0, Value.int IntKind.u8 0, Value.int IntKind.u8 0, Value.int IntKind.u8 0, Value.int IntKind.u8 0, Value.int IntKind.u8 0, Value.int IntKind.u8 0, Value.int IntKind.u8 0, Value.int IntKind.u8 0, Value.int IntKind.u8 0, Value.int IntKind.u8 0, Value.int IntKind.u8 0, Value.int IntKind.u8 0, Value.int IntKind.u8 0, Value.int IntKind.u8 0, Value.int IntKind.u8 0, Value.int IntKind.u8 0, Value.int IntKind.u8 0, Value.int IntKind.u8 0, Value.int IntKind.u8 0, Value.int IntKind.u8 0, Value.int IntKind.u8 0, Value.int IntKind.u8 0, Value.int IntKind.u8 0, Value.int IntKind.u8 0, Value.int IntKind.u8 0] := ⟨fun _ => by kernel_rfl⟩
instance : ArrT Tryz.prog 263 32 5 1 := ⟨Tryz.underlying263, Tryz.sizeOf5⟩
instance : ZeroT Tryz.prog 263 (Value.agg #[Value.int IntKind.u8 0, Value.int IntKind.u8 0, Value.int IntKind.u8 0, Value.int IntKind.u8 0, Value.int IntKind.u8 0, Value.int IntKind.u8 0, Value.int IntKind.u8 0, Value.int IntKind.u8 0, Value.int IntKind.u8 0, Value.int IntKind.u8 0, Value.int IntKind.u8 0, Value.int IntKind.u8 0, Value.int IntKind.u8 0, Value.int IntKind.u8 0, Value.int IntKind.u8 0, Value.int IntKind.u8 0, Value.int IntKind.u8 0, Value.int IntKind.u8 0, Value.int IntKind.u8 0, Value.int IntKind.u8 0, Value.int IntKind.u8 0, Value.int IntKind.u8 0, Value.int IntKind.u8 0, Value.int IntKind.u8 0, Value.int IntKind.u8 0, Value.int IntKind.u8 0, Value.int IntKind.u8 0, Value.int IntKind.u8 0, Value.int IntKind.u8 0, Value.int IntKind.u8 0, Value.int IntKind.u8 0, Value.int IntKind.u8 0]) := ⟨Tryz.zeroValue263⟩
instance : UnderT Tryz.prog 264 (TypeDesc.array 64 5) := ⟨Tryz.underlying264⟩
instance : AggT Tryz.prog 264 64 := ⟨Tryz.isAgg264, Tryz.sizeOf264⟩
instance : BuildT Tryz.prog 264 (fun i => some (i * 1, 1)) #[Value.int IntKind.u8 0, Value.int IntKind.u8 0, Value.int IntKind.u8 0, Value.int IntKind.u8 0, Value.int IntKind.u8 0, Value.int IntKind.u8 0, Value.int IntKind.u8 0, Value.int IntKind.u8 0, Value.int IntKind.u8 0, Value.int IntKind.u8 0, Value.int IntKind.u8 0, Value.int IntKind.u8 0, Value.int IntKind.u8 0, Value.int IntKind.u8 0, Value.int IntKind.u8 0, Value.int IntKind.u8 0, Value.int IntKind.u8 0, Value.int IntKind.u8 0, Value.int IntKind.u8 0, Value.int IntKind.u8 0, Value.int IntKind.u8 0, Value.int IntKind.u8 0, Value.int IntKind.u8 0, Value.int IntKind.u8 0, Value.int IntKind.u8 0, Value.int IntKind.u8 0, Value.int IntKind.u8 0, Value.int IntKind.u8 0, Value.int IntKind.u8 0, Value.int IntKind.u8 0, Value.int IntKind.u8 0, Value.int IntKind.u8 0, Value.int IntKind.u8 0, Value.int IntKind.u8 0, Value.int IntKind.u8 0, Value.int IntKind.u8 0, Value.int IntKind.u8 0, Value.int IntKind.u8 0, Value.int IntKind.u8 0, Value.int IntKind.u8 0, Value.int IntKind.u8 0, Value.int IntKind.u8 0, Value.int IntKind.u8 0, Value.int IntKind.u8 0, Value.int IntKind.u8 0, Value.int IntKind.u8 0, Value.int IntKind.u8 0, Value.int IntKind.u8 0, Value.int IntKind.u8 0, Value.int IntKind.u8 0, Value.int IntKind.u8 0, Value.int IntKind.u8 0, Value.int IntKind.u8 0, Value.int IntKind.u8 0, Value.int IntKind.u8 0, Value.int IntKind.u8 0, Value.int IntKind.u8 0, Value.int IntKind.u8 0, Value.int IntKind.u8 0, Value.int IntKind.u8 0, Value.int IntKind.u8 0, Value.int IntKind.u8 0, Value.int IntKind.u8 0, Value.int IntKind.u8 0] := ⟨fun _ => by kernel_rfl⟩
instance : ArrT Tryz.prog 264 64 5 1 := ⟨Tryz.underlying264, Tryz.sizeOf5⟩
instance : ZeroT Tryz.prog 264 (Value.agg #[Value.int IntKind.u8 0, Value.int IntKind.u8 0, Value.int IntKind.u8 0, Value.int IntKind.u8 0, Value.int IntKind.u8 0, Value.int IntKind.u8 0, Value.int IntKind.u8 0, Value.int IntKind.u8 0, Value.int IntKind.u8 0, Value.int IntKind.u8 0, Value.int IntKind.u8 0, Value.int IntKind.u8 0, Value.int IntKind.u8 0, Value.int IntKind.u8 0, Value.int IntKind.u8 0, Value.int IntKind.u8 0, Value.int IntKind.u8 0, Value.int IntKind.u8 0, Value.int IntKind.u8 0, Value.int IntKind.u8 0, Value.int IntKind.u8 0, Value.int IntKind.u8 0, Value.int IntKind.u8 0, Value.int IntKind.u8 0, Value.int IntKind.u8 0, Value.int IntKind.u8 0, Value.int IntKind.u8 0, Value.int IntKind.u8 0, Value.int IntKind.u8 0, Value.int IntKind.u8 0, Value.int IntKind.u8 0, Value.int IntKind.u8 0, Value.int IntKind.u8 0, Value.int IntKind.u8 0, Value.int IntKind.u8 0, Value.int IntKind.u8 0, Value.int IntKind.u8 0, Value.int IntKind.u8 0, Value.int IntKind.u8 0, Value.int IntKind.u8 0, Value.int IntKind.u8 0, Value.int IntKind.u8 0, Value.int IntKind.u8 0, Value.int IntKind.u8 0, Value.int IntKind.u8 0, Value.int IntKind.u8 0, Value.int IntKind.u8 0, Value.int IntKind.u8 0, Value.int IntKind.u8 0, Value.int IntKind.u8 0, Value.int IntKind.u8 0, Value.int IntKind.u8 0, Value.int IntKind.u8 0, Value.int IntKind.u8 0, Value.int IntKind.u8 0, Value.int IntKind.u8 0, Value.int IntKind.u8 0, Value.int IntKind.u8 0, Value.int IntKind.u8 0, Value.int IntKind.u8 0, Value.int IntKind.u8 0, Value.int IntKind.u8 0, Value.int IntKind.u8 0, Value.int IntKind.u8 0]) := ⟨Tryz.zeroValue264⟩
instance : UnderT Tryz.prog 265 (TypeDesc.pointer 267) := ⟨Tryz.underlying265⟩
instance : OneT Tryz.prog 265 := ⟨Tryz.isAgg265, Tryz.sizeOf265⟩
instance : ZeroT Tryz.prog 265 (Value.pointer none) := ⟨Tryz.zeroValue265⟩
instance : AggT Tryz.prog 266 1 := ⟨Tryz.isAgg266, Tryz.sizeOf266⟩
instance : FAddr Tryz.prog 266 0 0 := ⟨fun _ _ => by kernel_rfl⟩
instance : BuildT Tryz.prog 266 (fun i => #[(0, 1)][i]?) #[Value.string { data := #[] }] := ⟨fun _ => by kernel_rfl⟩
instance : ZeroT Tryz.prog 266 (Value.agg #[Value.string { data := #[] }]) := ⟨Tryz.zeroValue266⟩
instance : AggT Tryz.prog 267 1 := ⟨Tryz.isAgg267, Tryz.sizeOf267⟩
instance : FAddr Tryz.prog 267 0 0 := ⟨fun _ _ => by kernel_rfl⟩
instance : BuildT Tryz.prog 267 (fun i => #[(0, 1)][i]?) #[Value.string { data := #[] }] := ⟨fun _ => by kernel_rfl⟩
instance : ZeroT Tryz.prog 267 (Value.agg #[Value.string { data := #[] }]) := ⟨Tryz.zeroValue267⟩
instance : AggT Tryz.prog 268 4 := ⟨Tryz.isAgg268, Tryz.sizeOf268⟩
instance : FAddr Tryz.prog 268 0 0 := ⟨fun _ _ => by kernel_rfl⟩
instance : FAddr Tryz.prog 268 1 1 := ⟨fun _ _ => by kernel_rfl⟩
instance : FAddr Tryz.prog 268 2 2 := ⟨fun _ _ => by kernel_rfl⟩
instance : FAddr Tryz.prog 268 3 3 := ⟨fun _ _ => by kernel_rfl⟩
instance : BuildT Tryz.prog 268 (fun i => #[(0, 1), (1, 1), (2, 1), (3, 1)][i]?) #[Value.pointer none, Value.pointer none, Value.pointer none, Value.string { data := #[] }] := ⟨fun _ => by kernel_rfl⟩
instance : ZeroT Tryz.prog 268 (Value.agg #[Value.pointer none, Value.pointer none, Value.pointer none, Value.string { data := #[] }]) := ⟨Tryz.zeroValue268⟩
instance : AggT Tryz.prog 269 4 := ⟨Tryz.isAgg269, Tryz.sizeOf269⟩
instance : FAddr Tryz.prog 269 0 0 := ⟨fun _ _ => by kernel_rfl⟩
instance : FAddr Tryz.prog 269 1 1 := ⟨fun _ _ => by kernel_rfl⟩
instance : FAddr Tryz.prog 269 2 2 := ⟨fun _ _ => by kernel_rfl⟩
instance : FAddr Tryz.prog 269 3 3 := ⟨fun _ _ => by kernel_rfl⟩
instance : BuildT Tryz.prog 269 (fun i => #[(0, 1), (1, 1), (2, 1), (3, 1)][i]?) #[Value.pointer none, Value.pointer none, Value.pointer none, Value.string { data := #[] }] := ⟨fun _ => by kernel_rfl⟩
instance : ZeroT Tryz.prog 269 (Value.agg #[Value.pointer none, Value.pointer none, Value.pointer none, Value.string { data := #[] }]) := ⟨Tryz.zeroValue269⟩
instance : UnderT Tryz.prog 270 (TypeDesc.array 0 16) := ⟨Tryz.underlying270⟩
instance : AggT Tryz.prog 270 0 := ⟨Tryz.isAgg270, Tryz.sizeOf270⟩
instance : BuildT Tryz.prog 270 (fun i => some (i * 1, 1)) #[] := ⟨fun _ => by kernel_rfl⟩
instance : ArrT Tryz.prog 270 0 16 1 := ⟨Tryz.underlying270, Tryz.sizeOf16⟩
instance : ZeroT Tryz.prog 270 (Value.agg #[]) := ⟨Tryz.zeroValue270⟩
instance : AggT Tryz.prog 271 0 := ⟨Tryz.isAgg271, Tryz.sizeOf271⟩
instance : BuildT Tryz.prog 271 (fun i => #[(0, 0)][i]?) #[] := ⟨fun _ => by kernel_rfl⟩
instance : ZeroT Tryz.prog 271 (Value.agg #[]) := ⟨Tryz.zeroValue271⟩
instance : AggT Tryz.prog 272 0 := ⟨Tryz.isAgg272, Tryz.sizeOf272⟩
instance : BuildT Tryz.prog 272 (fun i => #[(0, 0)][i]?) #[] := ⟨fun _ => by kernel_rfl⟩
instance : ZeroT Tryz.prog 272 (Value.agg #[]) := ⟨Tryz.zeroValue272⟩
instance : UnderT Tryz.prog 273 (TypeDesc.int IntKind.u8) := ⟨Tryz.underlying273⟩
instance : OneT Tryz.prog 273 := ⟨Tryz.isAgg273, Tryz.sizeOf273⟩
instance : ZeroT Tryz.prog 273 (Value.int IntKind.u8 0) := ⟨Tryz.zeroValue273⟩
instance : UnderT Tryz.prog 274 (TypeDesc.int IntKind.u8) := ⟨Tryz.underlying274⟩
instance : OneT Tryz.prog 274 := ⟨Tryz.isAgg274, Tryz.sizeOf274⟩
instance : ZeroT Tryz.prog 274 (Value.int IntKind.u8 0) := ⟨Tryz.zeroValue274⟩
instance : OneT Tryz.prog 275 := ⟨Tryz.isAgg275, Tryz.sizeOf275⟩
instance : ZeroT Tryz.prog 275 Value.nilFunc := ⟨Tryz.zeroValue275⟩
instance : UnderT Tryz.prog 276 (TypeDesc.int IntKind.i32) := ⟨Tryz.underlying276⟩
instance : OneT Tryz.prog 276 := ⟨Tryz.isAgg276, Tryz.sizeOf276⟩
instance : ZeroT Tryz.prog 276 (Value.int IntKind.i32 0) := ⟨Tryz.zeroValue276⟩
instance : UnderT Tryz.prog 277 (TypeDesc.int IntKind.i32) := ⟨Tryz.underlying277⟩
instance : OneT Tryz.prog 277 := ⟨Tryz.isAgg277, Tryz.sizeOf277⟩
instance : ZeroT Tryz.prog 277 (Value.int IntKind.i32 0) := ⟨Tryz.zeroValue277⟩
instance : AggT Tryz.prog 278 11 := ⟨Tryz.isAgg278, Tryz.sizeOf278⟩
instance : FAddr Tryz.prog 278 0 0 := ⟨fun _ _ => by kernel_rfl⟩
instance : FAddr Tryz.prog 278 1 1 := ⟨fun _ _ => by kernel_rfl⟩
instance : FAddr Tryz.prog 278 2 2 := ⟨fun _ _ => by kernel_rfl⟩
instance : FAddr Tryz.prog 278 3 3 := ⟨fun _ _ => by kernel_rfl⟩
instance : FAddr Tryz.prog 278 4 4 := ⟨fun _ _ => by kernel_rfl⟩
instance : FAddr Tryz.prog 278 5 5 := ⟨fun _ _ => by kernel_rfl⟩
instance : FAddr Tryz.prog 278 6 6 := ⟨fun _ _ => by kernel_rfl⟩
instance : FAddr Tryz.prog 278 7 7 := ⟨fun _ _ => by kernel_rfl⟩
instance : FAddr Tryz.prog 278 8 8 := ⟨fun _ _ => by kernel_rfl⟩
instance : FAddr Tryz.prog 278 9 9 := ⟨fun _ _ => by kernel_rfl⟩
instance : FAddr Tryz.prog 278 10 10 := ⟨fun _ _ => by kernel_rfl⟩
instance : BuildT Tryz.prog 278 (fun i => #[(0, 1), (1, 1), (2, 1), (3, 1), (4, 1), (5, 1), (6, 1), (7, 1), (8, 1), (9, 1), (10, 1)][i]?) #[Value.int IntKind.u64 0, Value.int IntKind.u64 0, Value.int IntKind.u32 0, Value.int IntKind.u8 0, Value.int IntKind.u8 0, Value.int IntKind.u8 0, Value.int IntKind.u8 0, Value.nilFunc, Value.pointer none, Value.int IntKind.i32 0, Value.int IntKind.i32 0] := ⟨fun _ => by kernel_rfl⟩
instance : ZeroT Tryz.prog 278 (Value.agg #[Value.int IntKind.u64 0, Value.int IntKind.u64 0, Value.int IntKind.u32 0, Value.int IntKind.u8 0, Value.int IntKind.u8 0, Value.int IntKind.u8 0, Value.int IntKind.u8 0, Value.nilFunc, Value.pointer none, Value.int IntKind.i32 0, Value.int IntKind.i32 0]) := ⟨Tryz.zeroValue278⟩
instance : AggT Tryz.prog 279 11 := ⟨Tryz.isAgg279, Tryz.sizeOf279⟩
instance : FAddr Tryz.prog 279 0 0 := ⟨fun _ _ => by kernel_rfl⟩
instance : FAddr Tryz.prog 279 1 1 := ⟨fun _ _ => by kernel_rfl⟩
instance : FAddr Tryz.prog 279 2 2 := ⟨fun _ _ => by kernel_rfl⟩
instance : FAddr Tryz.prog 279 3 3 := ⟨fun _ _ => by kernel_rfl⟩
instance : FAddr Tryz.prog 279 4 4 := ⟨fun _ _ => by kernel_rfl⟩
instance : FAddr Tryz.prog 279 5 5 := ⟨fun _ _ => by kernel_rfl⟩
instance : FAddr Tryz.prog 279 6 6 := ⟨fun _ _ => by kernel_rfl⟩
instance : FAddr Tryz.prog 279 7 7 := ⟨fun _ _ => by kernel_rfl⟩
instance : FAddr Tryz.prog 279 8 8 := ⟨fun _ _ => by kernel_rfl⟩
instance : FAddr Tryz.prog 279 9 9 := ⟨fun _ _ => by kernel_rfl⟩
instance : FAddr Tryz.prog 279 10 10 := ⟨fun _ _ => by kernel_rfl⟩
instance : BuildT Tryz.prog 279 (fun i => #[(0, 1), (1, 1), (2, 1), (3, 1), (4, 1), (5, 1), (6, 1), (7, 1), (8, 1), (9, 1), (10, 1)][i]?) #[Value.int IntKind.u64 0, Value.int IntKind.u64 0, Value.int IntKind.u32 0, Value.int IntKind.u8 0, Value.int IntKind.u8 0, Value.int IntKind.u8 0, Value.int IntKind.u8 0, Value.nilFunc, Value.pointer none, Value.int IntKind.i32 0, Value.int IntKind.i32 0] := ⟨fun _ => by kernel_rfl⟩
instance : ZeroT Tryz.prog 279 (Value.agg #[Value.int IntKind.u64 0, Value.int IntKind.u64 0, Value.int IntKind.u32 0, Value.int IntKind.u8 0, Value.int IntKind.u8 0, Value.int IntKind.u8 0, Value.int IntKind.u8 0, Value.nilFunc, Value.pointer none, Value.int IntKind.i32 0, Value.int IntKind.i32 0]) := ⟨Tryz.zeroValue279⟩
instance : CallF Tryz.prog 2 := ⟨Tryz.call2⟩
instance : CallF Tryz.prog 3 := ⟨Tryz.call3⟩
instance : CallF Tryz.prog 4 := ⟨Tryz.call4⟩
instance : CallF Tryz.prog 5 := ⟨Tryz.call5⟩
instance : CallF Tryz.prog 6 := ⟨Tryz.call6⟩
instance : CallF Tryz.prog 7 := ⟨Tryz.call7⟩
instance : CallF Tryz.prog 8 := ⟨Tryz.call8⟩
instance : CallF Tryz.prog 9 := ⟨Tryz.call9⟩
instance : CallF Tryz.prog 10 := ⟨Tryz.call10⟩
instance : CallF Tryz.prog 11 := ⟨Tryz.call11⟩
instance : CallF Tryz.prog 12 := ⟨Tryz.call12⟩
instance : CallF Tryz.prog 13 := ⟨Tryz.call13⟩
instance : CallF Tryz.prog 14 := ⟨Tryz.call14⟩
instance : CallF Tryz.prog 15 := ⟨Tryz.call15⟩
instance : CallF Tryz.prog 16 := ⟨Tryz.call16⟩
instance : CallF Tryz.prog 17 := ⟨Tryz.call17⟩
instance : CallF Tryz.prog 18 := ⟨Tryz.call18⟩
instance : CallF Tryz.prog 19 := ⟨Tryz.call19⟩
instance : CallF Tryz.prog 20 := ⟨Tryz.call20⟩
instance : CallF Tryz.prog 21 := ⟨Tryz.call21⟩
instance : CallF Tryz.prog 22 := ⟨Tryz.call22⟩
instance : CallF Tryz.prog 23 := ⟨Tryz.call23⟩
instance : CallF Tryz.prog 24 := ⟨Tryz.call24⟩
instance : CallF Tryz.prog 25 := ⟨Tryz.call25⟩
instance : CallF Tryz.prog 26 := ⟨Tryz.call26⟩
instance : CallF Tryz.prog 27 := ⟨Tryz.call27⟩
instance : CallF Tryz.prog 28 := ⟨Tryz.call28⟩
instance : CallF Tryz.prog 29 := ⟨Tryz.call29⟩
instance : CallF Tryz.prog 30 := ⟨Tryz.call30⟩
instance : CallF Tryz.prog 31 := ⟨Tryz.call31⟩
instance : CallF Tryz.prog 32 := ⟨Tryz.call32⟩
instance : CallF Tryz.prog 33 := ⟨Tryz.call33⟩
instance : CallF Tryz.prog 34 := ⟨Tryz.call34⟩
instance : CallF Tryz.prog 35 := ⟨Tryz.call35⟩
instance : CallF Tryz.prog 36 := ⟨Tryz.call36⟩
instance : CallF Tryz.prog 37 := ⟨Tryz.call37⟩
instance : CallF Tryz.prog 38 := ⟨Tryz.call38⟩
instance : CallF Tryz.prog 39 := ⟨Tryz.call39⟩
instance : CallF Tryz.prog 40 := ⟨Tryz.call40⟩
instance : CallF Tryz.prog 41 := ⟨Tryz.call41⟩
instance : CallF Tryz.prog 42 := ⟨Tryz.call42⟩
instance : CallF Tryz.prog 43 := ⟨Tryz.call43⟩
instance : CallF Tryz.prog 44 := ⟨Tryz.call44⟩
instance : CallF Tryz.prog 45 := ⟨Tryz.call45⟩
instance : CallF Tryz.prog 46 := ⟨Tryz.call46⟩
instance : CallF Tryz.prog 47 := ⟨Tryz.call47⟩
instance : CallF Tryz.prog 48 := ⟨Tryz.call48⟩
instance : CallF Tryz.prog 49 := ⟨Tryz.call49⟩
instance : CallF Tryz.prog 50 := ⟨Tryz.call50⟩
instance : CallF Tryz.prog 51 := ⟨Tryz.call51⟩
instance : CallF Tryz.prog 52 := ⟨Tryz.call52⟩
instance : CallF Tryz.prog 53 := ⟨Tryz.call53⟩
instance : CallF Tryz.prog 54 := ⟨Tryz.call54⟩
instance : CallF Tryz.prog 55 := ⟨Tryz.call55⟩
instance : CallF Tryz.prog 56 := ⟨Tryz.call56⟩
instance : CallF Tryz.prog 57 := ⟨Tryz.call57⟩
instance : CallF Tryz.prog 58 := ⟨Tryz.call58⟩
instance : CallF Tryz.prog 59 := ⟨Tryz.call59⟩
instance : CallF Tryz.prog 60 := ⟨Tryz.call60⟩
instance : CallF Tryz.prog 61 := ⟨Tryz.call61⟩
instance : CallF Tryz.prog 62 := ⟨Tryz.call62⟩
instance : CallF Tryz.prog 63 := ⟨Tryz.call63⟩
instance : CallF Tryz.prog 64 := ⟨Tryz.call64⟩
instance : CallF Tryz.prog 65 := ⟨Tryz.call65⟩
instance : CallF Tryz.prog 66 := ⟨Tryz.call66⟩
instance : CallF Tryz.prog 67 := ⟨Tryz.call67⟩
instance : CallF Tryz.prog 68 := ⟨Tryz.call68⟩
instance : CallF Tryz.prog 69 := ⟨Tryz.call69⟩
instance : CallF Tryz.prog 70 := ⟨Tryz.call70⟩
instance : CallF Tryz.prog 71 := ⟨Tryz.call71⟩
instance : CallF Tryz.prog 72 := ⟨Tryz.call72⟩
instance : CallF Tryz.prog 73 := ⟨Tryz.call73⟩
instance : CallF Tryz.prog 74 := ⟨Tryz.call74⟩
instance : CallF Tryz.prog 75 := ⟨Tryz.call75⟩
instance : CallF Tryz.prog 76 := ⟨Tryz.call76⟩
instance : CallF Tryz.prog 77 := ⟨Tryz.call77⟩
instance : CallF Tryz.prog 78 := ⟨Tryz.call78⟩
instance : CallF Tryz.prog 79 := ⟨Tryz.call79⟩
instance : CallF Tryz.prog 80 := ⟨Tryz.call80⟩
instance : CallF Tryz.prog 81 := ⟨Tryz.call81⟩
instance : CallF Tryz.prog 82 := ⟨Tryz.call82⟩
instance : CallF Tryz.prog 83 := ⟨Tryz.call83⟩
instance : CallF Tryz.prog 84 := ⟨Tryz.call84⟩
instance : CallF Tryz.prog 85 := ⟨Tryz.call85⟩
instance : CallF Tryz.prog 86 := ⟨Tryz.call86⟩
instance : CallF Tryz.prog 87 := ⟨Tryz.call87⟩
instance : CallF Tryz.prog 88 := ⟨Tryz.call88⟩
instance : CallF Tryz.prog 89 := ⟨Tryz.call89⟩
instance : CallF Tryz.prog 90 := ⟨Tryz.call90⟩
instance : CallF Tryz.prog 91 := ⟨Tryz.call91⟩
instance : CallF Tryz.prog 92 := ⟨Tryz.call92⟩
instance : CallF Tryz.prog 93 := ⟨Tryz.call93⟩
instance : CallF Tryz.prog 94 := ⟨Tryz.call94⟩
instance : CallF Tryz.prog 95 := ⟨Tryz.call95⟩
instance : CallF Tryz.prog 96 := ⟨Tryz.call96⟩
instance : CallF Tryz.prog 97 := ⟨Tryz.call97⟩
instance : CallF Tryz.prog 98 := ⟨Tryz.call98⟩
instance : CallF Tryz.prog 99 := ⟨Tryz.call99⟩
instance : CallF Tryz.prog 100 := ⟨Tryz.call100⟩
instance : CallF Tryz.prog 101 := ⟨Tryz.call101⟩
instance : CallF Tryz.prog 102 := ⟨Tryz.call102⟩
instance : CallF Tryz.prog 103 := ⟨Tryz.call103⟩
instance : CallF Tryz.prog 104 := ⟨Tryz.call104⟩
instance : CallF Tryz.prog 105 := ⟨Tryz.call105⟩
instance : CallF Tryz.prog 106 := ⟨Tryz.call106⟩
instance : CallF Tryz.prog 107 := ⟨Tryz.call107⟩
instance : CallF Tryz.prog 108 := ⟨Tryz.call108⟩
instance : CallF Tryz.prog 109 := ⟨Tryz.call109⟩
instance : CallF Tryz.prog 110 := ⟨Tryz.call110⟩
instance : CallF Tryz.prog 111 := ⟨Tryz.call111⟩
instance : CallF Tryz.prog 112 := ⟨Tryz.call112⟩
instance : CallF Tryz.prog 113 := ⟨Tryz.call113⟩
instance : CallF Tryz.prog 114 := ⟨Tryz.call114⟩
instance : CallF Tryz.prog 115 := ⟨Tryz.call115⟩
instance : CallF Tryz.prog 116 := ⟨Tryz.call116⟩
instance : CallF Tryz.prog 117 := ⟨Tryz.call117⟩
instance : CallF Tryz.prog 118 := ⟨Tryz.call118⟩
instance : CallF Tryz.prog 119 := ⟨Tryz.call119⟩
instance : CallF Tryz.prog 120 := ⟨Tryz.call120⟩
instance : CallF Tryz.prog 121 := ⟨Tryz.call121⟩
instance : CallF Tryz.prog 122 := ⟨Tryz.call122⟩
instance : CallF Tryz.prog 123 := ⟨Tryz.call123⟩
instance : CallF Tryz.prog 124 := ⟨Tryz.call124⟩
instance : CallF Tryz.prog 125 := ⟨Tryz.call125⟩
instance : CallF Tryz.prog 126 := ⟨Tryz.call126⟩
instance : CallF Tryz.prog 127 := ⟨Tryz.call127⟩
instance : CallF Tryz.prog 128 := ⟨Tryz.call128⟩
instance : CallF Tryz.prog 129 := ⟨Tryz.call129⟩
instance : CallF Tryz.prog 130 := ⟨Tryz.call130⟩
instance : CallF Tryz.prog 131 := ⟨Tryz.call131⟩
instance : CallF Tryz.prog 132 := ⟨Tryz.call132⟩
instance : CallF Tryz.prog 133 := ⟨Tryz.call133⟩
instance : CallF Tryz.prog 134 := ⟨Tryz.call134⟩
instance : CallF Tryz.prog 135 := ⟨Tryz.call135⟩
instance : CallF Tryz.prog 136 := ⟨Tryz.call136⟩
instance : CallF Tryz.prog 137 := ⟨Tryz.call137⟩
instance : CallF Tryz.prog 138 := ⟨Tryz.call138⟩
instance : CallF Tryz.prog 139 := ⟨Tryz.call139⟩
instance : CallF Tryz.prog 140 := ⟨Tryz.call140⟩
instance : CallF Tryz.prog 141 := ⟨Tryz.call141⟩
instance : CallF Tryz.prog 142 := ⟨Tryz.call142⟩
instance : CallF Tryz.prog 143 := ⟨Tryz.call143⟩
instance : CallF Tryz.prog 144 := ⟨Tryz.call144⟩
instance : CallF Tryz.prog 145 := ⟨Tryz.call145⟩
instance : CallF Tryz.prog 146 := ⟨Tryz.call146⟩
instance : CallF Tryz.prog 147 := ⟨Tryz.call147⟩
instance : CallF Tryz.prog 148 := ⟨Tryz.call148⟩
instance : CallF Tryz.prog 149 := ⟨Tryz.call149⟩
instance : CallF Tryz.prog 150 := ⟨Tryz.call150⟩
instance : CallF Tryz.prog 151 := ⟨Tryz.call151⟩
instance : CallF Tryz.prog 152 := ⟨Tryz.call152⟩
instance : CallF Tryz.prog 153 := ⟨Tryz.call153⟩
instance : CallF Tryz.prog 154 := ⟨Tryz.call154⟩
instance : CallF Tryz.prog 155 := ⟨Tryz.call155⟩
instance : CallF Tryz.prog 156 := ⟨Tryz.call156⟩
instance : CallF Tryz.prog 157 := ⟨Tryz.call157⟩
instance : CallF Tryz.prog 158 := ⟨Tryz.call158⟩
instance : CallF Tryz.prog 159 := ⟨Tryz.call159⟩
instance : CallF Tryz.prog 160 := ⟨Tryz.call160⟩
instance : CallF Tryz.prog 161 := ⟨Tryz.call161⟩
instance : CallF Tryz.prog 162 := ⟨Tryz.call162⟩
instance : CallF Tryz.prog 163 := ⟨Tryz.call163⟩
instance : CallF Tryz.prog 164 := ⟨Tryz.call164⟩
instance : CallF Tryz.prog 165 := ⟨Tryz.call165⟩
instance : CallF Tryz.prog 166 := ⟨Tryz.call166⟩
instance : CallF Tryz.prog 167 := ⟨Tryz.call167⟩
instance : CallF Tryz.prog 168 := ⟨Tryz.call168⟩
instance : CallF Tryz.prog 169 := ⟨Tryz.call169⟩
instance : CallF Tryz.prog 170 := ⟨Tryz.call170⟩
instance : CallF Tryz.prog 171 := ⟨Tryz.call171⟩
instance : CallF Tryz.prog 172 := ⟨Tryz.call172⟩
instance : CallF Tryz.prog 173 := ⟨Tryz.call173⟩
instance : CallF Tryz.prog 174 := ⟨Tryz.call174⟩
instance : CallF Tryz.prog 175 := ⟨Tryz.call175⟩
instance : CallF Tryz.prog 176 := ⟨Tryz.call176⟩
instance : CallF Tryz.prog 177 := ⟨Tryz.call177⟩
instance : CallF Tryz.prog 178 := ⟨Tryz.call178⟩
instance : CallF Tryz.prog 179 := ⟨Tryz.call179⟩
instance : CallF Tryz.prog 180 := ⟨Tryz.call180⟩
instance : CallF Tryz.prog 181 := ⟨Tryz.call181⟩
instance : CallF Tryz.prog 182 := ⟨Tryz.call182⟩
instance : CallF Tryz.prog 184 := ⟨Tryz.call184⟩
instance : CallF Tryz.prog 185 := ⟨Tryz.call185⟩
instance : CallF Tryz.prog 186 := ⟨Tryz.call186⟩
instance : CallF Tryz.prog 187 := ⟨Tryz.call187⟩
instance : CallF Tryz.prog 188 := ⟨Tryz.call188⟩
instance : CallF Tryz.prog 189 := ⟨Tryz.call189⟩
instance : CallF Tryz.prog 190 := ⟨Tryz.call190⟩
instance : CallF Tryz.prog 191 := ⟨Tryz.call191⟩
instance : CallF Tryz.prog 192 := ⟨Tryz.call192⟩
instance : CallF Tryz.prog 193 := ⟨Tryz.call193⟩
instance : CallF Tryz.prog 195 := ⟨Tryz.call195⟩
instance : CallF Tryz.prog 196 := ⟨Tryz.call196⟩
instance : CallF Tryz.prog 197 := ⟨Tryz.call197⟩
instance : CallF Tryz.prog 198 := ⟨Tryz.call198⟩
instance : CallF Tryz.prog 199 := ⟨Tryz.call199⟩
instance : CallF Tryz.prog 202 := ⟨Tryz.call202⟩
instance : CallF Tryz.prog 203 := ⟨Tryz.call203⟩
instance : CallF Tryz.prog 204 := ⟨Tryz.call204⟩
instance : CallF Tryz.prog 205 := ⟨Tryz.call205⟩
instance : CallF Tryz.prog 206 := ⟨Tryz.call206⟩
instance : CallF Tryz.prog 207 := ⟨Tryz.call207⟩
instance : CallF Tryz.prog 208 := ⟨Tryz.call208⟩
instance : CallF Tryz.prog 209 := ⟨Tryz.call209⟩
instance : CallF Tryz.prog 210 := ⟨Tryz.call210⟩
instance : CallF Tryz.prog 212 := ⟨Tryz.call212⟩
instance : CallF Tryz.prog 213 := ⟨Tryz.call213⟩
instance : CallF Tryz.prog 214 := ⟨Tryz.call214⟩
instance : CallF Tryz.prog 215 := ⟨Tryz.call215⟩
instance : CallF Tryz.prog 216 := ⟨Tryz.call216⟩
instance : CallF Tryz.prog 217 := ⟨Tryz.call217⟩
instance : CallF Tryz.prog 218 := ⟨Tryz.call218⟩
instance : CallF Tryz.prog 219 := ⟨Tryz.call219⟩
instance : CallF Tryz.prog 252 := ⟨Tryz.call252⟩
end Go.Own
