/-
  THE TABLES OF THE PROGRAM, as instances (printed by wip/tab.py out of the loaded program).
-/
import Derived.Test.YtabkbpckehdiaaaGreatDoorProg
import Derived.Test.YtabkbpckehdiaaaGreatDoorOwnC
import Derived.KernelRfl
namespace Go.Own
open Go.Proofs

instance : OneT Tryz.prog 1 := ⟨Tryz.isAgg1, Tryz.sizeOf1⟩
instance : ZeroT Tryz.prog 1 Value.nilFunc := ⟨Tryz.zeroValue1⟩
instance : UnderT Tryz.prog 2 (TypeDesc.int IntKind.i64) := ⟨Tryz.underlying2⟩
instance : OneT Tryz.prog 2 := ⟨Tryz.isAgg2, Tryz.sizeOf2⟩
instance : ZeroT Tryz.prog 2 (Value.int IntKind.i64 0) := ⟨Tryz.zeroValue2⟩
instance : UnderT Tryz.prog 3 (TypeDesc.int IntKind.i64) := ⟨Tryz.underlying3⟩
instance : OneT Tryz.prog 3 := ⟨Tryz.isAgg3, Tryz.sizeOf3⟩
instance : ZeroT Tryz.prog 3 (Value.int IntKind.i64 0) := ⟨Tryz.zeroValue3⟩
instance : UnderT Tryz.prog 4 (TypeDesc.bool) := ⟨Tryz.underlying4⟩
instance : OneT Tryz.prog 4 := ⟨Tryz.isAgg4, Tryz.sizeOf4⟩
instance : ZeroT Tryz.prog 4 (Value.bool false) := ⟨Tryz.zeroValue4⟩
instance : UnderT Tryz.prog 5 (TypeDesc.int IntKind.u8) := ⟨Tryz.underlying5⟩
instance : OneT Tryz.prog 5 := ⟨Tryz.isAgg5, Tryz.sizeOf5⟩
instance : ZeroT Tryz.prog 5 (Value.int IntKind.u8 0) := ⟨Tryz.zeroValue5⟩
instance : UnderT Tryz.prog 6 (TypeDesc.int IntKind.u8) := ⟨Tryz.underlying6⟩
instance : OneT Tryz.prog 6 := ⟨Tryz.isAgg6, Tryz.sizeOf6⟩
instance : ZeroT Tryz.prog 6 (Value.int IntKind.u8 0) := ⟨Tryz.zeroValue6⟩
instance : AggT Tryz.prog 7 4 := ⟨Tryz.isAgg7, Tryz.sizeOf7⟩
instance : FAddr Tryz.prog 7 0 0 := ⟨fun _ _ => by kernel_rfl⟩
instance : FAddr Tryz.prog 7 1 1 := ⟨fun _ _ => by kernel_rfl⟩
instance : FAddr Tryz.prog 7 2 2 := ⟨fun _ _ => by kernel_rfl⟩
instance : FAddr Tryz.prog 7 3 3 := ⟨fun _ _ => by kernel_rfl⟩
instance : BuildT Tryz.prog 7 (fun i => #[(0, 1), (1, 1), (2, 1), (3, 1)][i]?) #[Value.int IntKind.i64 0, Value.int IntKind.i64 0, Value.bool false, Value.int IntKind.u8 0] := ⟨fun _ => by kernel_rfl⟩
instance : ZeroT Tryz.prog 7 (Value.agg #[Value.int IntKind.i64 0, Value.int IntKind.i64 0, Value.bool false, Value.int IntKind.u8 0]) := ⟨Tryz.zeroValue7⟩
instance : AggT Tryz.prog 8 4 := ⟨Tryz.isAgg8, Tryz.sizeOf8⟩
instance : FAddr Tryz.prog 8 0 0 := ⟨fun _ _ => by kernel_rfl⟩
instance : FAddr Tryz.prog 8 1 1 := ⟨fun _ _ => by kernel_rfl⟩
instance : FAddr Tryz.prog 8 2 2 := ⟨fun _ _ => by kernel_rfl⟩
instance : FAddr Tryz.prog 8 3 3 := ⟨fun _ _ => by kernel_rfl⟩
instance : BuildT Tryz.prog 8 (fun i => #[(0, 1), (1, 1), (2, 1), (3, 1)][i]?) #[Value.int IntKind.i64 0, Value.int IntKind.i64 0, Value.bool false, Value.int IntKind.u8 0] := ⟨fun _ => by kernel_rfl⟩
instance : ZeroT Tryz.prog 8 (Value.agg #[Value.int IntKind.i64 0, Value.int IntKind.i64 0, Value.bool false, Value.int IntKind.u8 0]) := ⟨Tryz.zeroValue8⟩
instance : UnderT Tryz.prog 9 (TypeDesc.string) := ⟨Tryz.underlying9⟩
instance : OneT Tryz.prog 9 := ⟨Tryz.isAgg9, Tryz.sizeOf9⟩
instance : ZeroT Tryz.prog 9 (Value.string { data := #[] }) := ⟨Tryz.zeroValue9⟩
instance : UnderT Tryz.prog 10 (TypeDesc.string) := ⟨Tryz.underlying10⟩
instance : OneT Tryz.prog 10 := ⟨Tryz.isAgg10, Tryz.sizeOf10⟩
instance : ZeroT Tryz.prog 10 (Value.string { data := #[] }) := ⟨Tryz.zeroValue10⟩
instance : UnderT Tryz.prog 11 (TypeDesc.string) := ⟨Tryz.underlying11⟩
instance : OneT Tryz.prog 11 := ⟨Tryz.isAgg11, Tryz.sizeOf11⟩
instance : ZeroT Tryz.prog 11 (Value.string { data := #[] }) := ⟨Tryz.zeroValue11⟩
instance : UnderT Tryz.prog 12 (TypeDesc.int IntKind.u64) := ⟨Tryz.underlying12⟩
instance : OneT Tryz.prog 12 := ⟨Tryz.isAgg12, Tryz.sizeOf12⟩
instance : ZeroT Tryz.prog 12 (Value.int IntKind.u64 0) := ⟨Tryz.zeroValue12⟩
instance : AggT Tryz.prog 13 2 := ⟨Tryz.isAgg13, Tryz.sizeOf13⟩
instance : FAddr Tryz.prog 13 0 0 := ⟨fun _ _ => by kernel_rfl⟩
instance : FAddr Tryz.prog 13 1 1 := ⟨fun _ _ => by kernel_rfl⟩
instance : BuildT Tryz.prog 13 (fun i => #[(0, 1), (1, 1)][i]?) #[Value.string { data := #[] }, Value.int IntKind.u64 0] := ⟨fun _ => by kernel_rfl⟩
instance : ZeroT Tryz.prog 13 (Value.agg #[Value.string { data := #[] }, Value.int IntKind.u64 0]) := ⟨Tryz.zeroValue13⟩
instance : AggT Tryz.prog 14 2 := ⟨Tryz.isAgg14, Tryz.sizeOf14⟩
instance : FAddr Tryz.prog 14 0 0 := ⟨fun _ _ => by kernel_rfl⟩
instance : FAddr Tryz.prog 14 1 1 := ⟨fun _ _ => by kernel_rfl⟩
instance : BuildT Tryz.prog 14 (fun i => #[(0, 1), (1, 1)][i]?) #[Value.string { data := #[] }, Value.int IntKind.u64 0] := ⟨fun _ => by kernel_rfl⟩
instance : ZeroT Tryz.prog 14 (Value.agg #[Value.string { data := #[] }, Value.int IntKind.u64 0]) := ⟨Tryz.zeroValue14⟩
instance : UnderT Tryz.prog 15 (TypeDesc.pointer 173) := ⟨Tryz.underlying15⟩
instance : OneT Tryz.prog 15 := ⟨Tryz.isAgg15, Tryz.sizeOf15⟩
instance : ZeroT Tryz.prog 15 (Value.pointer none) := ⟨Tryz.zeroValue15⟩
instance : UnderT Tryz.prog 16 (TypeDesc.pointer 176) := ⟨Tryz.underlying16⟩
instance : OneT Tryz.prog 16 := ⟨Tryz.isAgg16, Tryz.sizeOf16⟩
instance : ZeroT Tryz.prog 16 (Value.pointer none) := ⟨Tryz.zeroValue16⟩
instance : UnderT Tryz.prog 17 (TypeDesc.pointer 184) := ⟨Tryz.underlying17⟩
instance : OneT Tryz.prog 17 := ⟨Tryz.isAgg17, Tryz.sizeOf17⟩
instance : ZeroT Tryz.prog 17 (Value.pointer none) := ⟨Tryz.zeroValue17⟩
instance : AggT Tryz.prog 18 1 := ⟨Tryz.isAgg18, Tryz.sizeOf18⟩
instance : FAddr Tryz.prog 18 0 0 := ⟨fun _ _ => by kernel_rfl⟩
instance : BuildT Tryz.prog 18 (fun i => #[(0, 1)][i]?) #[Value.pointer none] := ⟨fun _ => by kernel_rfl⟩
instance : ZeroT Tryz.prog 18 (Value.agg #[Value.pointer none]) := ⟨Tryz.zeroValue18⟩
instance : AggT Tryz.prog 19 1 := ⟨Tryz.isAgg19, Tryz.sizeOf19⟩
instance : FAddr Tryz.prog 19 0 0 := ⟨fun _ _ => by kernel_rfl⟩
instance : BuildT Tryz.prog 19 (fun i => #[(0, 1)][i]?) #[Value.pointer none] := ⟨fun _ => by kernel_rfl⟩
instance : ZeroT Tryz.prog 19 (Value.agg #[Value.pointer none]) := ⟨Tryz.zeroValue19⟩
instance : UnderT Tryz.prog 20 (TypeDesc.interface #[]) := ⟨Tryz.underlying20⟩
instance : OneT Tryz.prog 20 := ⟨Tryz.isAgg20, Tryz.sizeOf20⟩
instance : ZeroT Tryz.prog 20 Value.nilIface := ⟨Tryz.zeroValue20⟩
instance : UnderT Tryz.prog 21 (TypeDesc.int IntKind.i32) := ⟨Tryz.underlying21⟩
instance : OneT Tryz.prog 21 := ⟨Tryz.isAgg21, Tryz.sizeOf21⟩
instance : ZeroT Tryz.prog 21 (Value.int IntKind.i32 0) := ⟨Tryz.zeroValue21⟩
instance : OneT Tryz.prog 22 := ⟨Tryz.isAgg22, Tryz.sizeOf22⟩
instance : ZeroT Tryz.prog 22 Value.nilFunc := ⟨Tryz.zeroValue22⟩
instance : UnderT Tryz.prog 23 (TypeDesc.int IntKind.i64) := ⟨Tryz.underlying23⟩
instance : OneT Tryz.prog 23 := ⟨Tryz.isAgg23, Tryz.sizeOf23⟩
instance : ZeroT Tryz.prog 23 (Value.int IntKind.i64 0) := ⟨Tryz.zeroValue23⟩
instance : OneT Tryz.prog 25 := ⟨Tryz.isAgg25, Tryz.sizeOf25⟩
instance : ZeroT Tryz.prog 25 Value.nilFunc := ⟨Tryz.zeroValue25⟩
instance : OneT Tryz.prog 26 := ⟨Tryz.isAgg26, Tryz.sizeOf26⟩
instance : ZeroT Tryz.prog 26 Value.nilFunc := ⟨Tryz.zeroValue26⟩
instance : UnderT Tryz.prog 27 (TypeDesc.slice 9) := ⟨Tryz.underlying27⟩
instance : OneT Tryz.prog 27 := ⟨Tryz.isAgg27, Tryz.sizeOf27⟩
instance : ZeroT Tryz.prog 27 (Value.slice none 0 0) := ⟨Tryz.zeroValue27⟩
instance : SliceT Tryz.prog 27 9 1 16 (Value.string { data := #[] }) := ⟨Tryz.underlying27, ⟨Tryz.t9, by kernel_rfl, rfl, rfl, rfl⟩, rfl⟩
instance : OneT Tryz.prog 28 := ⟨Tryz.isAgg28, Tryz.sizeOf28⟩
instance : ZeroT Tryz.prog 28 Value.nilFunc := ⟨Tryz.zeroValue28⟩
instance : OneT Tryz.prog 29 := ⟨Tryz.isAgg29, Tryz.sizeOf29⟩
instance : ZeroT Tryz.prog 29 Value.nilFunc := ⟨Tryz.zeroValue29⟩
instance : AggT Tryz.prog 30 5 := ⟨Tryz.isAgg30, Tryz.sizeOf30⟩
instance : FAddr Tryz.prog 30 0 0 := ⟨fun _ _ => by kernel_rfl⟩
instance : FAddr Tryz.prog 30 1 1 := ⟨fun _ _ => by kernel_rfl⟩
instance : FAddr Tryz.prog 30 2 2 := ⟨fun _ _ => by kernel_rfl⟩
instance : FAddr Tryz.prog 30 3 3 := ⟨fun _ _ => by kernel_rfl⟩
instance : FAddr Tryz.prog 30 4 4 := ⟨fun _ _ => by kernel_rfl⟩
instance : BuildT Tryz.prog 30 (fun i => #[(0, 1), (1, 1), (2, 1), (3, 1), (4, 1)][i]?) #[Value.bool false, Value.int IntKind.i64 0, Value.string { data := #[] }, Value.int IntKind.i64 0, Value.string { data := #[] }] := ⟨fun _ => by kernel_rfl⟩
instance : ZeroT Tryz.prog 30 (Value.agg #[Value.bool false, Value.int IntKind.i64 0, Value.string { data := #[] }, Value.int IntKind.i64 0, Value.string { data := #[] }]) := ⟨Tryz.zeroValue30⟩
instance : AggT Tryz.prog 31 5 := ⟨Tryz.isAgg31, Tryz.sizeOf31⟩
instance : FAddr Tryz.prog 31 0 0 := ⟨fun _ _ => by kernel_rfl⟩
instance : FAddr Tryz.prog 31 1 1 := ⟨fun _ _ => by kernel_rfl⟩
instance : FAddr Tryz.prog 31 2 2 := ⟨fun _ _ => by kernel_rfl⟩
instance : FAddr Tryz.prog 31 3 3 := ⟨fun _ _ => by kernel_rfl⟩
instance : FAddr Tryz.prog 31 4 4 := ⟨fun _ _ => by kernel_rfl⟩
instance : BuildT Tryz.prog 31 (fun i => #[(0, 1), (1, 1), (2, 1), (3, 1), (4, 1)][i]?) #[Value.bool false, Value.int IntKind.i64 0, Value.string { data := #[] }, Value.int IntKind.i64 0, Value.string { data := #[] }] := ⟨fun _ => by kernel_rfl⟩
instance : ZeroT Tryz.prog 31 (Value.agg #[Value.bool false, Value.int IntKind.i64 0, Value.string { data := #[] }, Value.int IntKind.i64 0, Value.string { data := #[] }]) := ⟨Tryz.zeroValue31⟩
instance : OneT Tryz.prog 32 := ⟨Tryz.isAgg32, Tryz.sizeOf32⟩
instance : ZeroT Tryz.prog 32 Value.nilFunc := ⟨Tryz.zeroValue32⟩
instance : OneT Tryz.prog 33 := ⟨Tryz.isAgg33, Tryz.sizeOf33⟩
instance : ZeroT Tryz.prog 33 Value.nilFunc := ⟨Tryz.zeroValue33⟩
instance : OneT Tryz.prog 34 := ⟨Tryz.isAgg34, Tryz.sizeOf34⟩
instance : ZeroT Tryz.prog 34 Value.nilFunc := ⟨Tryz.zeroValue34⟩
instance : UnderT Tryz.prog 35 (TypeDesc.slice 31) := ⟨Tryz.underlying35⟩
instance : OneT Tryz.prog 35 := ⟨Tryz.isAgg35, Tryz.sizeOf35⟩
instance : ZeroT Tryz.prog 35 (Value.slice none 0 0) := ⟨Tryz.zeroValue35⟩
instance : SliceT Tryz.prog 35 31 5 56 (Value.agg #[Value.bool false, Value.int IntKind.i64 0, Value.string { data := #[] }, Value.int IntKind.i64 0, Value.string { data := #[] }]) := ⟨Tryz.underlying35, ⟨Tryz.t31, by kernel_rfl, rfl, rfl, rfl⟩, rfl⟩
instance : OneT Tryz.prog 36 := ⟨Tryz.isAgg36, Tryz.sizeOf36⟩
instance : ZeroT Tryz.prog 36 Value.nilFunc := ⟨Tryz.zeroValue36⟩
instance : OneT Tryz.prog 37 := ⟨Tryz.isAgg37, Tryz.sizeOf37⟩
instance : ZeroT Tryz.prog 37 Value.nilFunc := ⟨Tryz.zeroValue37⟩
instance : UnderT Tryz.prog 38 (TypeDesc.pointer 73) := ⟨Tryz.underlying38⟩
instance : OneT Tryz.prog 38 := ⟨Tryz.isAgg38, Tryz.sizeOf38⟩
instance : ZeroT Tryz.prog 38 (Value.pointer none) := ⟨Tryz.zeroValue38⟩
instance : OneT Tryz.prog 39 := ⟨Tryz.isAgg39, Tryz.sizeOf39⟩
instance : ZeroT Tryz.prog 39 Value.nilFunc := ⟨Tryz.zeroValue39⟩
instance : UnderT Tryz.prog 40 (TypeDesc.pointer 42) := ⟨Tryz.underlying40⟩
instance : OneT Tryz.prog 40 := ⟨Tryz.isAgg40, Tryz.sizeOf40⟩
instance : ZeroT Tryz.prog 40 (Value.pointer none) := ⟨Tryz.zeroValue40⟩
instance : AggT Tryz.prog 41 1 := ⟨Tryz.isAgg41, Tryz.sizeOf41⟩
instance : FAddr Tryz.prog 41 0 0 := ⟨fun _ _ => by kernel_rfl⟩
instance : BuildT Tryz.prog 41 (fun i => #[(0, 1)][i]?) #[Value.slice none 0 0] := ⟨fun _ => by kernel_rfl⟩
instance : ZeroT Tryz.prog 41 (Value.agg #[Value.slice none 0 0]) := ⟨Tryz.zeroValue41⟩
instance : AggT Tryz.prog 42 1 := ⟨Tryz.isAgg42, Tryz.sizeOf42⟩
instance : FAddr Tryz.prog 42 0 0 := ⟨fun _ _ => by kernel_rfl⟩
instance : BuildT Tryz.prog 42 (fun i => #[(0, 1)][i]?) #[Value.slice none 0 0] := ⟨fun _ => by kernel_rfl⟩
instance : ZeroT Tryz.prog 42 (Value.agg #[Value.slice none 0 0]) := ⟨Tryz.zeroValue42⟩
instance : OneT Tryz.prog 44 := ⟨Tryz.isAgg44, Tryz.sizeOf44⟩
instance : ZeroT Tryz.prog 44 Value.nilFunc := ⟨Tryz.zeroValue44⟩
instance : OneT Tryz.prog 45 := ⟨Tryz.isAgg45, Tryz.sizeOf45⟩
instance : ZeroT Tryz.prog 45 Value.nilFunc := ⟨Tryz.zeroValue45⟩
instance : OneT Tryz.prog 46 := ⟨Tryz.isAgg46, Tryz.sizeOf46⟩
instance : ZeroT Tryz.prog 46 Value.nilFunc := ⟨Tryz.zeroValue46⟩
instance : OneT Tryz.prog 47 := ⟨Tryz.isAgg47, Tryz.sizeOf47⟩
instance : ZeroT Tryz.prog 47 Value.nilFunc := ⟨Tryz.zeroValue47⟩
instance : OneT Tryz.prog 48 := ⟨Tryz.isAgg48, Tryz.sizeOf48⟩
instance : ZeroT Tryz.prog 48 Value.nilFunc := ⟨Tryz.zeroValue48⟩
instance : OneT Tryz.prog 49 := ⟨Tryz.isAgg49, Tryz.sizeOf49⟩
instance : ZeroT Tryz.prog 49 Value.nilFunc := ⟨Tryz.zeroValue49⟩
instance : UnderT Tryz.prog 50 (TypeDesc.array 16 5) := ⟨Tryz.underlying50⟩
instance : AggT Tryz.prog 50 16 := ⟨Tryz.isAgg50, Tryz.sizeOf50⟩
instance : BuildT Tryz.prog 50 (fun i => some (i * 1, 1)) #[Value.int IntKind.u8 0, Value.int IntKind.u8 0, Value.int IntKind.u8 0, Value.int IntKind.u8 0, Value.int IntKind.u8 0, Value.int IntKind.u8 0, Value.int IntKind.u8 0, Value.int IntKind.u8 0, Value.int IntKind.u8 0, Value.int IntKind.u8 0, Value.int IntKind.u8 0, Value.int IntKind.u8 0, Value.int IntKind.u8 0, Value.int IntKind.u8 0, Value.int IntKind.u8 0, Value.int IntKind.u8 0] := ⟨fun _ => by kernel_rfl⟩
instance : ArrT Tryz.prog 50 16 5 1 := ⟨Tryz.underlying50, Tryz.sizeOf5⟩
instance : ZeroT Tryz.prog 50 (Value.agg #[Value.int IntKind.u8 0, Value.int IntKind.u8 0, Value.int IntKind.u8 0, Value.int IntKind.u8 0, Value.int IntKind.u8 0, Value.int IntKind.u8 0, Value.int IntKind.u8 0, Value.int IntKind.u8 0, Value.int IntKind.u8 0, Value.int IntKind.u8 0, Value.int IntKind.u8 0, Value.int IntKind.u8 0, Value.int IntKind.u8 0, Value.int IntKind.u8 0, Value.int IntKind.u8 0, Value.int IntKind.u8 0]) := ⟨Tryz.zeroValue50⟩
instance : UnderT Tryz.prog 51 (TypeDesc.array 16 5) := ⟨Tryz.underlying51⟩
instance : AggT Tryz.prog 51 16 := ⟨Tryz.isAgg51, Tryz.sizeOf51⟩
instance : BuildT Tryz.prog 51 (fun i => some (i * 1, 1)) #[Value.int IntKind.u8 0, Value.int IntKind.u8 0, Value.int IntKind.u8 0, Value.int IntKind.u8 0, Value.int IntKind.u8 0, Value.int IntKind.u8 0, Value.int IntKind.u8 0, Value.int IntKind.u8 0, Value.int IntKind.u8 0, Value.int IntKind.u8 0, Value.int IntKind.u8 0, Value.int IntKind.u8 0, Value.int IntKind.u8 0, Value.int IntKind.u8 0, Value.int IntKind.u8 0, Value.int IntKind.u8 0] := ⟨fun _ => by kernel_rfl⟩
instance : ArrT Tryz.prog 51 16 5 1 := ⟨Tryz.underlying51, Tryz.sizeOf5⟩
instance : ZeroT Tryz.prog 51 (Value.agg #[Value.int IntKind.u8 0, Value.int IntKind.u8 0, Value.int IntKind.u8 0, Value.int IntKind.u8 0, Value.int IntKind.u8 0, Value.int IntKind.u8 0, Value.int IntKind.u8 0, Value.int IntKind.u8 0, Value.int IntKind.u8 0, Value.int IntKind.u8 0, Value.int IntKind.u8 0, Value.int IntKind.u8 0, Value.int IntKind.u8 0, Value.int IntKind.u8 0, Value.int IntKind.u8 0, Value.int IntKind.u8 0]) := ⟨Tryz.zeroValue51⟩
instance : OneT Tryz.prog 53 := ⟨Tryz.isAgg53, Tryz.sizeOf53⟩
instance : ZeroT Tryz.prog 53 Value.nilFunc := ⟨Tryz.zeroValue53⟩
instance : UnderT Tryz.prog 54 (TypeDesc.slice 5) := ⟨Tryz.underlying54⟩
instance : OneT Tryz.prog 54 := ⟨Tryz.isAgg54, Tryz.sizeOf54⟩
instance : ZeroT Tryz.prog 54 (Value.slice none 0 0) := ⟨Tryz.zeroValue54⟩
instance : SliceT Tryz.prog 54 5 1 1 (Value.int IntKind.u8 0) := ⟨Tryz.underlying54, ⟨Tryz.t5, by kernel_rfl, rfl, rfl, rfl⟩, rfl⟩
instance : OneT Tryz.prog 55 := ⟨Tryz.isAgg55, Tryz.sizeOf55⟩
instance : ZeroT Tryz.prog 55 Value.nilFunc := ⟨Tryz.zeroValue55⟩
instance : OneT Tryz.prog 56 := ⟨Tryz.isAgg56, Tryz.sizeOf56⟩
instance : ZeroT Tryz.prog 56 Value.nilFunc := ⟨Tryz.zeroValue56⟩
instance : OneT Tryz.prog 57 := ⟨Tryz.isAgg57, Tryz.sizeOf57⟩
instance : ZeroT Tryz.prog 57 Value.nilFunc := ⟨Tryz.zeroValue57⟩
instance : OneT Tryz.prog 58 := ⟨Tryz.isAgg58, Tryz.sizeOf58⟩
instance : ZeroT Tryz.prog 58 Value.nilFunc := ⟨Tryz.zeroValue58⟩
instance : OneT Tryz.prog 59 := ⟨Tryz.isAgg59, Tryz.sizeOf59⟩
instance : ZeroT Tryz.prog 59 Value.nilFunc := ⟨Tryz.zeroValue59⟩
instance : OneT Tryz.prog 60 := ⟨Tryz.isAgg60, Tryz.sizeOf60⟩
instance : ZeroT Tryz.prog 60 Value.nilFunc := ⟨Tryz.zeroValue60⟩
instance : OneT Tryz.prog 61 := ⟨Tryz.isAgg61, Tryz.sizeOf61⟩
instance : ZeroT Tryz.prog 61 Value.nilFunc := ⟨Tryz.zeroValue61⟩
instance : OneT Tryz.prog 62 := ⟨Tryz.isAgg62, Tryz.sizeOf62⟩
instance : ZeroT Tryz.prog 62 Value.nilFunc := ⟨Tryz.zeroValue62⟩
instance : OneT Tryz.prog 64 := ⟨Tryz.isAgg64, Tryz.sizeOf64⟩
instance : ZeroT Tryz.prog 64 Value.nilFunc := ⟨Tryz.zeroValue64⟩
instance : OneT Tryz.prog 66 := ⟨Tryz.isAgg66, Tryz.sizeOf66⟩
instance : ZeroT Tryz.prog 66 Value.nilFunc := ⟨Tryz.zeroValue66⟩
instance : UnderT Tryz.prog 67 (TypeDesc.map 31 3) := ⟨Tryz.underlying67⟩
instance : OneT Tryz.prog 67 := ⟨Tryz.isAgg67, Tryz.sizeOf67⟩
instance : ZeroT Tryz.prog 67 (Value.map none) := ⟨Tryz.zeroValue67⟩
instance : UnderT Tryz.prog 68 (TypeDesc.slice 3) := ⟨Tryz.underlying68⟩
instance : OneT Tryz.prog 68 := ⟨Tryz.isAgg68, Tryz.sizeOf68⟩
instance : ZeroT Tryz.prog 68 (Value.slice none 0 0) := ⟨Tryz.zeroValue68⟩
instance : SliceT Tryz.prog 68 3 1 8 (Value.int IntKind.i64 0) := ⟨Tryz.underlying68, ⟨Tryz.t3, by kernel_rfl, rfl, rfl, rfl⟩, rfl⟩
instance : UnderT Tryz.prog 69 (TypeDesc.map 9 107) := ⟨Tryz.underlying69⟩
instance : OneT Tryz.prog 69 := ⟨Tryz.isAgg69, Tryz.sizeOf69⟩
instance : ZeroT Tryz.prog 69 (Value.map none) := ⟨Tryz.zeroValue69⟩
instance : AggT Tryz.prog 70 3 := ⟨Tryz.isAgg70, Tryz.sizeOf70⟩
instance : FAddr Tryz.prog 70 0 0 := ⟨fun _ _ => by kernel_rfl⟩
instance : FAddr Tryz.prog 70 1 1 := ⟨fun _ _ => by kernel_rfl⟩
instance : FAddr Tryz.prog 70 2 2 := ⟨fun _ _ => by kernel_rfl⟩
instance : BuildT Tryz.prog 70 (fun i => #[(0, 1), (1, 1), (2, 1)][i]?) #[Value.slice none 0 0, Value.slice none 0 0, Value.map none] := ⟨fun _ => by kernel_rfl⟩
instance : ZeroT Tryz.prog 70 (Value.agg #[Value.slice none 0 0, Value.slice none 0 0, Value.map none]) := ⟨Tryz.zeroValue70⟩
instance : AggT Tryz.prog 71 3 := ⟨Tryz.isAgg71, Tryz.sizeOf71⟩
instance : FAddr Tryz.prog 71 0 0 := ⟨fun _ _ => by kernel_rfl⟩
instance : FAddr Tryz.prog 71 1 1 := ⟨fun _ _ => by kernel_rfl⟩
instance : FAddr Tryz.prog 71 2 2 := ⟨fun _ _ => by kernel_rfl⟩
instance : BuildT Tryz.prog 71 (fun i => #[(0, 1), (1, 1), (2, 1)][i]?) #[Value.slice none 0 0, Value.slice none 0 0, Value.map none] := ⟨fun _ => by kernel_rfl⟩
instance : ZeroT Tryz.prog 71 (Value.agg #[Value.slice none 0 0, Value.slice none 0 0, Value.map none]) := ⟨Tryz.zeroValue71⟩
instance : AggT Tryz.prog 72 6 := ⟨Tryz.isAgg72, Tryz.sizeOf72⟩
instance : FAddr Tryz.prog 72 0 0 := ⟨fun _ _ => by kernel_rfl⟩
instance : FAddr Tryz.prog 72 1 1 := ⟨fun _ _ => by kernel_rfl⟩
instance : FAddr Tryz.prog 72 2 2 := ⟨fun _ _ => by kernel_rfl⟩
instance : FAddr Tryz.prog 72 3 5 := ⟨fun _ _ => by kernel_rfl⟩
instance : BuildT Tryz.prog 72 (fun i => #[(0, 1), (1, 1), (2, 3), (5, 1)][i]?) #[Value.slice none 0 0, Value.slice none 0 0, Value.slice none 0 0, Value.slice none 0 0, Value.map none, Value.map none] := ⟨fun _ => by kernel_rfl⟩
instance : ZeroT Tryz.prog 72 (Value.agg #[Value.slice none 0 0, Value.slice none 0 0, Value.slice none 0 0, Value.slice none 0 0, Value.map none, Value.map none]) := ⟨Tryz.zeroValue72⟩
instance : AggT Tryz.prog 73 6 := ⟨Tryz.isAgg73, Tryz.sizeOf73⟩
instance : FAddr Tryz.prog 73 0 0 := ⟨fun _ _ => by kernel_rfl⟩
instance : FAddr Tryz.prog 73 1 1 := ⟨fun _ _ => by kernel_rfl⟩
instance : FAddr Tryz.prog 73 2 2 := ⟨fun _ _ => by kernel_rfl⟩
instance : FAddr Tryz.prog 73 3 5 := ⟨fun _ _ => by kernel_rfl⟩
instance : BuildT Tryz.prog 73 (fun i => #[(0, 1), (1, 1), (2, 3), (5, 1)][i]?) #[Value.slice none 0 0, Value.slice none 0 0, Value.slice none 0 0, Value.slice none 0 0, Value.map none, Value.map none] := ⟨fun _ => by kernel_rfl⟩
instance : ZeroT Tryz.prog 73 (Value.agg #[Value.slice none 0 0, Value.slice none 0 0, Value.slice none 0 0, Value.slice none 0 0, Value.map none, Value.map none]) := ⟨Tryz.zeroValue73⟩
instance : OneT Tryz.prog 74 := ⟨Tryz.isAgg74, Tryz.sizeOf74⟩
instance : ZeroT Tryz.prog 74 Value.nilFunc := ⟨Tryz.zeroValue74⟩
instance : UnderT Tryz.prog 75 (TypeDesc.slice 68) := ⟨Tryz.underlying75⟩
instance : OneT Tryz.prog 75 := ⟨Tryz.isAgg75, Tryz.sizeOf75⟩
instance : ZeroT Tryz.prog 75 (Value.slice none 0 0) := ⟨Tryz.zeroValue75⟩
instance : SliceT Tryz.prog 75 68 1 24 (Value.slice none 0 0) := ⟨Tryz.underlying75, ⟨Tryz.t68, by kernel_rfl, rfl, rfl, rfl⟩, rfl⟩
instance : OneT Tryz.prog 76 := ⟨Tryz.isAgg76, Tryz.sizeOf76⟩
instance : ZeroT Tryz.prog 76 Value.nilFunc := ⟨Tryz.zeroValue76⟩
instance : OneT Tryz.prog 77 := ⟨Tryz.isAgg77, Tryz.sizeOf77⟩
instance : ZeroT Tryz.prog 77 Value.nilFunc := ⟨Tryz.zeroValue77⟩
instance : OneT Tryz.prog 78 := ⟨Tryz.isAgg78, Tryz.sizeOf78⟩
instance : ZeroT Tryz.prog 78 Value.nilFunc := ⟨Tryz.zeroValue78⟩
instance : OneT Tryz.prog 79 := ⟨Tryz.isAgg79, Tryz.sizeOf79⟩
instance : ZeroT Tryz.prog 79 Value.nilFunc := ⟨Tryz.zeroValue79⟩
instance : OneT Tryz.prog 80 := ⟨Tryz.isAgg80, Tryz.sizeOf80⟩
instance : ZeroT Tryz.prog 80 Value.nilFunc := ⟨Tryz.zeroValue80⟩
instance : UnderT Tryz.prog 81 (TypeDesc.array 4 5) := ⟨Tryz.underlying81⟩
instance : AggT Tryz.prog 81 4 := ⟨Tryz.isAgg81, Tryz.sizeOf81⟩
instance : BuildT Tryz.prog 81 (fun i => some (i * 1, 1)) #[Value.int IntKind.u8 0, Value.int IntKind.u8 0, Value.int IntKind.u8 0, Value.int IntKind.u8 0] := ⟨fun _ => by kernel_rfl⟩
instance : ArrT Tryz.prog 81 4 5 1 := ⟨Tryz.underlying81, Tryz.sizeOf5⟩
instance : ZeroT Tryz.prog 81 (Value.agg #[Value.int IntKind.u8 0, Value.int IntKind.u8 0, Value.int IntKind.u8 0, Value.int IntKind.u8 0]) := ⟨Tryz.zeroValue81⟩
instance : OneT Tryz.prog 83 := ⟨Tryz.isAgg83, Tryz.sizeOf83⟩
instance : ZeroT Tryz.prog 83 Value.nilFunc := ⟨Tryz.zeroValue83⟩
instance : OneT Tryz.prog 84 := ⟨Tryz.isAgg84, Tryz.sizeOf84⟩
instance : ZeroT Tryz.prog 84 Value.nilFunc := ⟨Tryz.zeroValue84⟩
instance : OneT Tryz.prog 86 := ⟨Tryz.isAgg86, Tryz.sizeOf86⟩
instance : ZeroT Tryz.prog 86 Value.nilFunc := ⟨Tryz.zeroValue86⟩
instance : OneT Tryz.prog 88 := ⟨Tryz.isAgg88, Tryz.sizeOf88⟩
instance : ZeroT Tryz.prog 88 Value.nilFunc := ⟨Tryz.zeroValue88⟩
instance : OneT Tryz.prog 89 := ⟨Tryz.isAgg89, Tryz.sizeOf89⟩
instance : ZeroT Tryz.prog 89 Value.nilFunc := ⟨Tryz.zeroValue89⟩
instance : OneT Tryz.prog 90 := ⟨Tryz.isAgg90, Tryz.sizeOf90⟩
instance : ZeroT Tryz.prog 90 Value.nilFunc := ⟨Tryz.zeroValue90⟩
instance : OneT Tryz.prog 91 := ⟨Tryz.isAgg91, Tryz.sizeOf91⟩
instance : ZeroT Tryz.prog 91 Value.nilFunc := ⟨Tryz.zeroValue91⟩
instance : UnderT Tryz.prog 92 (TypeDesc.int IntKind.u16) := ⟨Tryz.underlying92⟩
instance : OneT Tryz.prog 92 := ⟨Tryz.isAgg92, Tryz.sizeOf92⟩
instance : ZeroT Tryz.prog 92 (Value.int IntKind.u16 0) := ⟨Tryz.zeroValue92⟩
instance : UnderT Tryz.prog 93 (TypeDesc.array 8 92) := ⟨Tryz.underlying93⟩
instance : AggT Tryz.prog 93 8 := ⟨Tryz.isAgg93, Tryz.sizeOf93⟩
instance : BuildT Tryz.prog 93 (fun i => some (i * 1, 1)) #[Value.int IntKind.u16 0, Value.int IntKind.u16 0, Value.int IntKind.u16 0, Value.int IntKind.u16 0, Value.int IntKind.u16 0, Value.int IntKind.u16 0, Value.int IntKind.u16 0, Value.int IntKind.u16 0] := ⟨fun _ => by kernel_rfl⟩
instance : ArrT Tryz.prog 93 8 92 1 := ⟨Tryz.underlying93, Tryz.sizeOf92⟩
instance : ZeroT Tryz.prog 93 (Value.agg #[Value.int IntKind.u16 0, Value.int IntKind.u16 0, Value.int IntKind.u16 0, Value.int IntKind.u16 0, Value.int IntKind.u16 0, Value.int IntKind.u16 0, Value.int IntKind.u16 0, Value.int IntKind.u16 0]) := ⟨Tryz.zeroValue93⟩
instance : UnderT Tryz.prog 94 (TypeDesc.int IntKind.u64) := ⟨Tryz.underlying94⟩
instance : OneT Tryz.prog 94 := ⟨Tryz.isAgg94, Tryz.sizeOf94⟩
instance : ZeroT Tryz.prog 94 (Value.int IntKind.u64 0) := ⟨Tryz.zeroValue94⟩
instance : UnderT Tryz.prog 95 (TypeDesc.slice 92) := ⟨Tryz.underlying95⟩
instance : OneT Tryz.prog 95 := ⟨Tryz.isAgg95, Tryz.sizeOf95⟩
instance : ZeroT Tryz.prog 95 (Value.slice none 0 0) := ⟨Tryz.zeroValue95⟩
instance : SliceT Tryz.prog 95 92 1 2 (Value.int IntKind.u16 0) := ⟨Tryz.underlying95, ⟨Tryz.t92, by kernel_rfl, rfl, rfl, rfl⟩, rfl⟩
instance : OneT Tryz.prog 96 := ⟨Tryz.isAgg96, Tryz.sizeOf96⟩
instance : ZeroT Tryz.prog 96 Value.nilFunc := ⟨Tryz.zeroValue96⟩
instance : UnderT Tryz.prog 97 (TypeDesc.int IntKind.u64) := ⟨Tryz.underlying97⟩
instance : OneT Tryz.prog 97 := ⟨Tryz.isAgg97, Tryz.sizeOf97⟩
instance : ZeroT Tryz.prog 97 (Value.int IntKind.u64 0) := ⟨Tryz.zeroValue97⟩
instance : OneT Tryz.prog 98 := ⟨Tryz.isAgg98, Tryz.sizeOf98⟩
instance : ZeroT Tryz.prog 98 Value.nilFunc := ⟨Tryz.zeroValue98⟩
instance : OneT Tryz.prog 100 := ⟨Tryz.isAgg100, Tryz.sizeOf100⟩
instance : ZeroT Tryz.prog 100 Value.nilFunc := ⟨Tryz.zeroValue100⟩
instance : OneT Tryz.prog 101 := ⟨Tryz.isAgg101, Tryz.sizeOf101⟩
instance : ZeroT Tryz.prog 101 Value.nilFunc := ⟨Tryz.zeroValue101⟩
instance : OneT Tryz.prog 102 := ⟨Tryz.isAgg102, Tryz.sizeOf102⟩
instance : ZeroT Tryz.prog 102 Value.nilFunc := ⟨Tryz.zeroValue102⟩
instance : OneT Tryz.prog 103 := ⟨Tryz.isAgg103, Tryz.sizeOf103⟩
instance : ZeroT Tryz.prog 103 Value.nilFunc := ⟨Tryz.zeroValue103⟩
instance : OneT Tryz.prog 104 := ⟨Tryz.isAgg104, Tryz.sizeOf104⟩
instance : ZeroT Tryz.prog 104 Value.nilFunc := ⟨Tryz.zeroValue104⟩
instance : OneT Tryz.prog 105 := ⟨Tryz.isAgg105, Tryz.sizeOf105⟩
instance : ZeroT Tryz.prog 105 Value.nilFunc := ⟨Tryz.zeroValue105⟩
instance : OneT Tryz.prog 106 := ⟨Tryz.isAgg106, Tryz.sizeOf106⟩
instance : ZeroT Tryz.prog 106 Value.nilFunc := ⟨Tryz.zeroValue106⟩
instance : UnderT Tryz.prog 107 (TypeDesc.pointer 71) := ⟨Tryz.underlying107⟩
instance : OneT Tryz.prog 107 := ⟨Tryz.isAgg107, Tryz.sizeOf107⟩
instance : ZeroT Tryz.prog 107 (Value.pointer none) := ⟨Tryz.zeroValue107⟩
instance : OneT Tryz.prog 108 := ⟨Tryz.isAgg108, Tryz.sizeOf108⟩
instance : ZeroT Tryz.prog 108 Value.nilFunc := ⟨Tryz.zeroValue108⟩
instance : OneT Tryz.prog 109 := ⟨Tryz.isAgg109, Tryz.sizeOf109⟩
instance : ZeroT Tryz.prog 109 Value.nilFunc := ⟨Tryz.zeroValue109⟩
instance : OneT Tryz.prog 111 := ⟨Tryz.isAgg111, Tryz.sizeOf111⟩
instance : ZeroT Tryz.prog 111 Value.nilFunc := ⟨Tryz.zeroValue111⟩
instance : UnderT Tryz.prog 112 (TypeDesc.array 12 5) := ⟨Tryz.underlying112⟩
instance : AggT Tryz.prog 112 12 := ⟨Tryz.isAgg112, Tryz.sizeOf112⟩
instance : BuildT Tryz.prog 112 (fun i => some (i * 1, 1)) #[Value.int IntKind.u8 0, Value.int IntKind.u8 0, Value.int IntKind.u8 0, Value.int IntKind.u8 0, Value.int IntKind.u8 0, Value.int IntKind.u8 0, Value.int IntKind.u8 0, Value.int IntKind.u8 0, Value.int IntKind.u8 0, Value.int IntKind.u8 0, Value.int IntKind.u8 0, Value.int IntKind.u8 0] := ⟨fun _ => by kernel_rfl⟩
instance : ArrT Tryz.prog 112 12 5 1 := ⟨Tryz.underlying112, Tryz.sizeOf5⟩
instance : ZeroT Tryz.prog 112 (Value.agg #[Value.int IntKind.u8 0, Value.int IntKind.u8 0, Value.int IntKind.u8 0, Value.int IntKind.u8 0, Value.int IntKind.u8 0, Value.int IntKind.u8 0, Value.int IntKind.u8 0, Value.int IntKind.u8 0, Value.int IntKind.u8 0, Value.int IntKind.u8 0, Value.int IntKind.u8 0, Value.int IntKind.u8 0]) := ⟨Tryz.zeroValue112⟩
instance : OneT Tryz.prog 113 := ⟨Tryz.isAgg113, Tryz.sizeOf113⟩
instance : ZeroT Tryz.prog 113 Value.nilFunc := ⟨Tryz.zeroValue113⟩
instance : UnderT Tryz.prog 114 (TypeDesc.pointer 116) := ⟨Tryz.underlying114⟩
instance : OneT Tryz.prog 114 := ⟨Tryz.isAgg114, Tryz.sizeOf114⟩
instance : ZeroT Tryz.prog 114 (Value.pointer none) := ⟨Tryz.zeroValue114⟩
instance : AggT Tryz.prog 115 2 := ⟨Tryz.isAgg115, Tryz.sizeOf115⟩
instance : FAddr Tryz.prog 115 0 0 := ⟨fun _ _ => by kernel_rfl⟩
instance : FAddr Tryz.prog 115 1 1 := ⟨fun _ _ => by kernel_rfl⟩
instance : BuildT Tryz.prog 115 (fun i => #[(0, 1), (1, 1)][i]?) #[Value.pointer none, Value.slice none 0 0] := ⟨fun _ => by kernel_rfl⟩
instance : ZeroT Tryz.prog 115 (Value.agg #[Value.pointer none, Value.slice none 0 0]) := ⟨Tryz.zeroValue115⟩
instance : AggT Tryz.prog 116 2 := ⟨Tryz.isAgg116, Tryz.sizeOf116⟩
instance : FAddr Tryz.prog 116 0 0 := ⟨fun _ _ => by kernel_rfl⟩
instance : FAddr Tryz.prog 116 1 1 := ⟨fun _ _ => by kernel_rfl⟩
instance : BuildT Tryz.prog 116 (fun i => #[(0, 1), (1, 1)][i]?) #[Value.pointer none, Value.slice none 0 0] := ⟨fun _ => by kernel_rfl⟩
instance : ZeroT Tryz.prog 116 (Value.agg #[Value.pointer none, Value.slice none 0 0]) := ⟨Tryz.zeroValue116⟩
instance : OneT Tryz.prog 117 := ⟨Tryz.isAgg117, Tryz.sizeOf117⟩
instance : ZeroT Tryz.prog 117 Value.nilFunc := ⟨Tryz.zeroValue117⟩
instance : UnderT Tryz.prog 118 (TypeDesc.interface #[("Error", 122)]) := ⟨Tryz.underlying118⟩
instance : OneT Tryz.prog 118 := ⟨Tryz.isAgg118, Tryz.sizeOf118⟩
instance : ZeroT Tryz.prog 118 Value.nilIface := ⟨Tryz.zeroValue118⟩
instance : UnderT Tryz.prog 119 (TypeDesc.interface #[("Error", 122)]) := ⟨Tryz.underlying119⟩
instance : OneT Tryz.prog 119 := ⟨Tryz.isAgg119, Tryz.sizeOf119⟩
instance : ZeroT Tryz.prog 119 Value.nilIface := ⟨Tryz.zeroValue119⟩
instance : OneT Tryz.prog 121 := ⟨Tryz.isAgg121, Tryz.sizeOf121⟩
instance : ZeroT Tryz.prog 121 Value.nilFunc := ⟨Tryz.zeroValue121⟩
instance : OneT Tryz.prog 122 := ⟨Tryz.isAgg122, Tryz.sizeOf122⟩
instance : ZeroT Tryz.prog 122 Value.nilFunc := ⟨Tryz.zeroValue122⟩
instance : OneT Tryz.prog 123 := ⟨Tryz.isAgg123, Tryz.sizeOf123⟩
instance : ZeroT Tryz.prog 123 Value.nilFunc := ⟨Tryz.zeroValue123⟩
instance : OneT Tryz.prog 124 := ⟨Tryz.isAgg124, Tryz.sizeOf124⟩
instance : ZeroT Tryz.prog 124 Value.nilFunc := ⟨Tryz.zeroValue124⟩
instance : OneT Tryz.prog 125 := ⟨Tryz.isAgg125, Tryz.sizeOf125⟩
instance : ZeroT Tryz.prog 125 Value.nilFunc := ⟨Tryz.zeroValue125⟩
instance : OneT Tryz.prog 126 := ⟨Tryz.isAgg126, Tryz.sizeOf126⟩
instance : ZeroT Tryz.prog 126 Value.nilFunc := ⟨Tryz.zeroValue126⟩
instance : OneT Tryz.prog 127 := ⟨Tryz.isAgg127, Tryz.sizeOf127⟩
instance : ZeroT Tryz.prog 127 Value.nilFunc := ⟨Tryz.zeroValue127⟩
instance : OneT Tryz.prog 128 := ⟨Tryz.isAgg128, Tryz.sizeOf128⟩
instance : ZeroT Tryz.prog 128 Value.nilFunc := ⟨Tryz.zeroValue128⟩
instance : UnderT Tryz.prog 129 (TypeDesc.pointer 5) := ⟨Tryz.underlying129⟩
instance : OneT Tryz.prog 129 := ⟨Tryz.isAgg129, Tryz.sizeOf129⟩
instance : ZeroT Tryz.prog 129 (Value.pointer none) := ⟨Tryz.zeroValue129⟩
instance : UnderT Tryz.prog 130 (TypeDesc.array 24 5) := ⟨Tryz.underlying130⟩
instance : AggT Tryz.prog 130 24 := ⟨Tryz.isAgg130, Tryz.sizeOf130⟩
instance : BuildT Tryz.prog 130 (fun i => some (i * 1, 1)) #[Value.int IntKind.u8 0, Value.int IntKind.u8 0, Value.int IntKind.u8 0, Value.int IntKind.u8 0, Value.int IntKind.u8 0, Value.int IntKind.u8 0, Value.int IntKind.u8 0, Value.int IntKind.u8 0, Value.int IntKind.u8 0, Value.int IntKind.u8 0, Value.int IntKind.u8 0, Value.int IntKind.u8 0, Value.int IntKind.u8 0, Value.int IntKind.u8 0, Value.int IntKind.u8 0, Value.int IntKind.u8 0, Value.int IntKind.u8 0, Value.int IntKind.u8 0, Value.int IntKind.u8 0, Value.int IntKind.u8 0, Value.int IntKind.u8 0, Value.int IntKind.u8 0, Value.int IntKind.u8 0, Value.int IntKind.u8 0] := ⟨fun _ => by kernel_rfl⟩
instance : ArrT Tryz.prog 130 24 5 1 := ⟨Tryz.underlying130, Tryz.sizeOf5⟩
instance : ZeroT Tryz.prog 130 (Value.agg #[Value.int IntKind.u8 0, Value.int IntKind.u8 0, Value.int IntKind.u8 0, Value.int IntKind.u8 0, Value.int IntKind.u8 0, Value.int IntKind.u8 0, Value.int IntKind.u8 0, Value.int IntKind.u8 0, Value.int IntKind.u8 0, Value.int IntKind.u8 0, Value.int IntKind.u8 0, Value.int IntKind.u8 0, Value.int IntKind.u8 0, Value.int IntKind.u8 0, Value.int IntKind.u8 0, Value.int IntKind.u8 0, Value.int IntKind.u8 0, Value.int IntKind.u8 0, Value.int IntKind.u8 0, Value.int IntKind.u8 0, Value.int IntKind.u8 0, Value.int IntKind.u8 0, Value.int IntKind.u8 0, Value.int IntKind.u8 0]) := ⟨Tryz.zeroValue130⟩
instance : OneT Tryz.prog 131 := ⟨Tryz.isAgg131, Tryz.sizeOf131⟩
instance : ZeroT Tryz.prog 131 Value.nilFunc := ⟨Tryz.zeroValue131⟩
instance : OneT Tryz.prog 132 := ⟨Tryz.isAgg132, Tryz.sizeOf132⟩
instance : ZeroT Tryz.prog 132 Value.nilFunc := ⟨Tryz.zeroValue132⟩
instance : OneT Tryz.prog 134 := ⟨Tryz.isAgg134, Tryz.sizeOf134⟩
instance : ZeroT Tryz.prog 134 Value.nilFunc := ⟨Tryz.zeroValue134⟩
instance : OneT Tryz.prog 136 := ⟨Tryz.isAgg136, Tryz.sizeOf136⟩
instance : ZeroT Tryz.prog 136 Value.nilFunc := ⟨Tryz.zeroValue136⟩
instance : OneT Tryz.prog 137 := ⟨Tryz.isAgg137, Tryz.sizeOf137⟩
instance : ZeroT Tryz.prog 137 Value.nilFunc := ⟨Tryz.zeroValue137⟩
instance : OneT Tryz.prog 138 := ⟨Tryz.isAgg138, Tryz.sizeOf138⟩
instance : ZeroT Tryz.prog 138 Value.nilFunc := ⟨Tryz.zeroValue138⟩
instance : OneT Tryz.prog 139 := ⟨Tryz.isAgg139, Tryz.sizeOf139⟩
instance : ZeroT Tryz.prog 139 Value.nilFunc := ⟨Tryz.zeroValue139⟩
instance : OneT Tryz.prog 140 := ⟨Tryz.isAgg140, Tryz.sizeOf140⟩
instance : ZeroT Tryz.prog 140 (Value.pointer none) := ⟨Tryz.zeroValue140⟩
instance : OneT Tryz.prog 141 := ⟨Tryz.isAgg141, Tryz.sizeOf141⟩
instance : ZeroT Tryz.prog 141 Value.nilFunc := ⟨Tryz.zeroValue141⟩
instance : OneT Tryz.prog 142 := ⟨Tryz.isAgg142, Tryz.sizeOf142⟩
instance : ZeroT Tryz.prog 142 Value.nilFunc := ⟨Tryz.zeroValue142⟩
instance : OneT Tryz.prog 143 := ⟨Tryz.isAgg143, Tryz.sizeOf143⟩
instance : ZeroT Tryz.prog 143 Value.nilFunc := ⟨Tryz.zeroValue143⟩
instance : UnderT Tryz.prog 144 (TypeDesc.array 20 97) := ⟨Tryz.underlying144⟩
instance : AggT Tryz.prog 144 20 := ⟨Tryz.isAgg144, Tryz.sizeOf144⟩
instance : BuildT Tryz.prog 144 (fun i => some (i * 1, 1)) #[Value.int IntKind.u64 0, Value.int IntKind.u64 0, Value.int IntKind.u64 0, Value.int IntKind.u64 0, Value.int IntKind.u64 0, Value.int IntKind.u64 0, Value.int IntKind.u64 0, Value.int IntKind.u64 0, Value.int IntKind.u64 0, Value.int IntKind.u64 0, Value.int IntKind.u64 0, Value.int IntKind.u64 0, Value.int IntKind.u64 0, Value.int IntKind.u64 0, Value.int IntKind.u64 0, Value.int IntKind.u64 0, Value.int IntKind.u64 0, Value.int IntKind.u64 0, Value.int IntKind.u64 0, Value.int IntKind.u64 0] := ⟨fun _ => by kernel_rfl⟩
instance : ArrT Tryz.prog 144 20 97 1 := ⟨Tryz.underlying144, Tryz.sizeOf97⟩
instance : ZeroT Tryz.prog 144 (Value.agg #[Value.int IntKind.u64 0, Value.int IntKind.u64 0, Value.int IntKind.u64 0, Value.int IntKind.u64 0, Value.int IntKind.u64 0, Value.int IntKind.u64 0, Value.int IntKind.u64 0, Value.int IntKind.u64 0, Value.int IntKind.u64 0, Value.int IntKind.u64 0, Value.int IntKind.u64 0, Value.int IntKind.u64 0, Value.int IntKind.u64 0, Value.int IntKind.u64 0, Value.int IntKind.u64 0, Value.int IntKind.u64 0, Value.int IntKind.u64 0, Value.int IntKind.u64 0, Value.int IntKind.u64 0, Value.int IntKind.u64 0]) := ⟨Tryz.zeroValue144⟩
instance : UnderT Tryz.prog 145 (TypeDesc.int IntKind.u32) := ⟨Tryz.underlying145⟩
instance : OneT Tryz.prog 145 := ⟨Tryz.isAgg145, Tryz.sizeOf145⟩
instance : ZeroT Tryz.prog 145 (Value.int IntKind.u32 0) := ⟨Tryz.zeroValue145⟩
instance : UnderT Tryz.prog 146 (TypeDesc.array 65 5) := ⟨Tryz.underlying146⟩
instance : AggT Tryz.prog 146 65 := ⟨Tryz.isAgg146, Tryz.sizeOf146⟩
instance : ArrT Tryz.prog 146 65 5 1 := ⟨Tryz.underlying146, Tryz.sizeOf5⟩
instance : ZeroT Tryz.prog 146 (Value.agg ([Value.int IntKind.u8 0, Value.int IntKind.u8 0, Value.int IntKind.u8 0, Value.int IntKind.u8 0, Value.int IntKind.u8 0, Value.int IntKind.u8 0, Value.int IntKind.u8 0, Value.int IntKind.u8 0, Value.int IntKind.u8 0, Value.int IntKind.u8 0, Value.int IntKind.u8 0, Value.int IntKind.u8 0, Value.int IntKind.u8 0, Value.int IntKind.u8 0, Value.int IntKind.u8 0, Value.int IntKind.u8 0, Value.int IntKind.u8 0, Value.int IntKind.u8 0, Value.int IntKind.u8 0, Value.int IntKind.u8 0, Value.int IntKind.u8 0, Value.int IntKind.u8 0, Value.int IntKind.u8 0, Value.int IntKind.u8 0, Value.int IntKind.u8 0, Value.int IntKind.u8 0, Value.int IntKind.u8 0, Value.int IntKind.u8 0, Value.int IntKind.u8 0, Value.int IntKind.u8 0, Value.int IntKind.u8 0, Value.int IntKind.u8 0].append [Value.int IntKind.u8 0, Value.int IntKind.u8 0, Value.int IntKind.u8 0, Value.int IntKind.u8 0, Value.int IntKind.u8 0, Value.int IntKind.u8 0, Value.int IntKind.u8 0, Value.int IntKind.u8 0, Value.int IntKind.u8 0, Value.int IntKind.u8 0, Value.int IntKind.u8 0, Value.int IntKind.u8 0, Value.int IntKind.u8 0, Value.int IntKind.u8 0, Value.int IntKind.u8 0, Value.int IntKind.u8 0, Value.int IntKind.u8 0, Value.int IntKind.u8 0, Value.int IntKind.u8 0, Value.int IntKind.u8 0, Value.int IntKind.u8 0, Value.int IntKind.u8 0, Value.int IntKind.u8 0, Value.int IntKind.u8 0, Value.int IntKind.u8 0, Value.int IntKind.u8 0, Value.int IntKind.u8 0, Value.int IntKind.u8 0, Value.int IntKind.u8 0, Value.int IntKind.u8 0, Value.int IntKind.u8 0, Value.int IntKind.u8 0, Value.int IntKind.u8 0]).toArray) := ⟨Tryz.zeroValue146⟩
instance : OneT Tryz.prog 147 := ⟨Tryz.isAgg147, Tryz.sizeOf147⟩
instance : ZeroT Tryz.prog 147 Value.nilFunc := ⟨Tryz.zeroValue147⟩
instance : OneT Tryz.prog 148 := ⟨Tryz.isAgg148, Tryz.sizeOf148⟩
instance : ZeroT Tryz.prog 148 Value.nilFunc := ⟨Tryz.zeroValue148⟩
instance : UnderT Tryz.prog 149 (TypeDesc.int IntKind.i64) := ⟨Tryz.underlying149⟩
instance : OneT Tryz.prog 149 := ⟨Tryz.isAgg149, Tryz.sizeOf149⟩
instance : ZeroT Tryz.prog 149 (Value.int IntKind.i64 0) := ⟨Tryz.zeroValue149⟩
instance : OneT Tryz.prog 151 := ⟨Tryz.isAgg151, Tryz.sizeOf151⟩
instance : ZeroT Tryz.prog 151 Value.nilFunc := ⟨Tryz.zeroValue151⟩
instance : UnderT Tryz.prog 152 (TypeDesc.pointer 165) := ⟨Tryz.underlying152⟩
instance : OneT Tryz.prog 152 := ⟨Tryz.isAgg152, Tryz.sizeOf152⟩
instance : ZeroT Tryz.prog 152 (Value.pointer none) := ⟨Tryz.zeroValue152⟩
instance : OneT Tryz.prog 153 := ⟨Tryz.isAgg153, Tryz.sizeOf153⟩
instance : ZeroT Tryz.prog 153 Value.nilFunc := ⟨Tryz.zeroValue153⟩
instance : OneT Tryz.prog 154 := ⟨Tryz.isAgg154, Tryz.sizeOf154⟩
instance : ZeroT Tryz.prog 154 Value.nilFunc := ⟨Tryz.zeroValue154⟩
instance : OneT Tryz.prog 156 := ⟨Tryz.isAgg156, Tryz.sizeOf156⟩
instance : ZeroT Tryz.prog 156 Value.nilFunc := ⟨Tryz.zeroValue156⟩
instance : OneT Tryz.prog 157 := ⟨Tryz.isAgg157, Tryz.sizeOf157⟩
instance : ZeroT Tryz.prog 157 Value.nilFunc := ⟨Tryz.zeroValue157⟩
instance : UnderT Tryz.prog 158 (TypeDesc.array 256 5) := ⟨Tryz.underlying158⟩
instance : AggT Tryz.prog 158 256 := ⟨Tryz.isAgg158, Tryz.sizeOf158⟩
instance : AggT Tryz.prog 159 2 := ⟨Tryz.isAgg159, Tryz.sizeOf159⟩
instance : FAddr Tryz.prog 159 0 0 := ⟨fun _ _ => by kernel_rfl⟩
instance : FAddr Tryz.prog 159 1 1 := ⟨fun _ _ => by kernel_rfl⟩
instance : BuildT Tryz.prog 159 (fun i => #[(0, 1), (1, 1)][i]?) #[Value.int IntKind.u8 0, Value.int IntKind.u8 0] := ⟨fun _ => by kernel_rfl⟩
instance : ZeroT Tryz.prog 159 (Value.agg #[Value.int IntKind.u8 0, Value.int IntKind.u8 0]) := ⟨Tryz.zeroValue159⟩
instance : AggT Tryz.prog 160 2 := ⟨Tryz.isAgg160, Tryz.sizeOf160⟩
instance : FAddr Tryz.prog 160 0 0 := ⟨fun _ _ => by kernel_rfl⟩
instance : FAddr Tryz.prog 160 1 1 := ⟨fun _ _ => by kernel_rfl⟩
instance : BuildT Tryz.prog 160 (fun i => #[(0, 1), (1, 1)][i]?) #[Value.int IntKind.u8 0, Value.int IntKind.u8 0] := ⟨fun _ => by kernel_rfl⟩
instance : ZeroT Tryz.prog 160 (Value.agg #[Value.int IntKind.u8 0, Value.int IntKind.u8 0]) := ⟨Tryz.zeroValue160⟩
instance : UnderT Tryz.prog 161 (TypeDesc.array 16 160) := ⟨Tryz.underlying161⟩
instance : AggT Tryz.prog 161 32 := ⟨Tryz.isAgg161, Tryz.sizeOf161⟩
instance : BuildT Tryz.prog 161 (fun i => some (i * 2, 2)) #[Value.int IntKind.u8 0, Value.int IntKind.u8 0, Value.int IntKind.u8 0, Value.int IntKind.u8 0, Value.int IntKind.u8 0, Value.int IntKind.u8 0, Value.int IntKind.u8 0, Value.int IntKind.u8 0, Value.int IntKind.u8 0, Value.int IntKind.u8 0, Value.int IntKind.u8 0, Value.int IntKind.u8 0, Value.int IntKind.u8 0, Value.int IntKind.u8 0, Value.int IntKind.u8 0, Value.int IntKind.u8 0, Value.int IntKind.u8 0, Value.int IntKind.u8 0, Value.int IntKind.u8 0, Value.int IntKind.u8 0, Value.int IntKind.u8 0, Value.int IntKind.u8 0, Value.int IntKind.u8 0, Value.int IntKind.u8 0, Value.int IntKind.u8 0, Value.int IntKind.u8 0, Value.int IntKind.u8 0, Value.int IntKind.u8 0, Value.int IntKind.u8 0, Value.int IntKind.u8 0, Value.int IntKind.u8 0, Value.int IntKind.u8 0] := ⟨fun _ => by kernel_rfl⟩
instance : ArrT Tryz.prog 161 16 160 2 := ⟨Tryz.underlying161, Tryz.sizeOf160⟩
instance : ZeroT Tryz.prog 161 (Value.agg #[Value.int IntKind.u8 0, Value.int IntKind.u8 0, Value.int IntKind.u8 0, Value.int IntKind.u8 0, Value.int IntKind.u8 0, Value.int IntKind.u8 0, Value.int IntKind.u8 0, Value.int IntKind.u8 0, Value.int IntKind.u8 0, Value.int IntKind.u8 0, Value.int IntKind.u8 0, Value.int IntKind.u8 0, Value.int IntKind.u8 0, Value.int IntKind.u8 0, Value.int IntKind.u8 0, Value.int IntKind.u8 0, Value.int IntKind.u8 0, Value.int IntKind.u8 0, Value.int IntKind.u8 0, Value.int IntKind.u8 0, Value.int IntKind.u8 0, Value.int IntKind.u8 0, Value.int IntKind.u8 0, Value.int IntKind.u8 0, Value.int IntKind.u8 0, Value.int IntKind.u8 0, Value.int IntKind.u8 0, Value.int IntKind.u8 0, Value.int IntKind.u8 0, Value.int IntKind.u8 0, Value.int IntKind.u8 0, Value.int IntKind.u8 0]) := ⟨Tryz.zeroValue161⟩
instance : OneT Tryz.prog 163 := ⟨Tryz.isAgg163, Tryz.sizeOf163⟩
instance : ZeroT Tryz.prog 163 Value.nilFunc := ⟨Tryz.zeroValue163⟩
instance : AggT Tryz.prog 164 3 := ⟨Tryz.isAgg164, Tryz.sizeOf164⟩
instance : FAddr Tryz.prog 164 0 0 := ⟨fun _ _ => by kernel_rfl⟩
instance : FAddr Tryz.prog 164 1 1 := ⟨fun _ _ => by kernel_rfl⟩
instance : FAddr Tryz.prog 164 2 2 := ⟨fun _ _ => by kernel_rfl⟩
instance : BuildT Tryz.prog 164 (fun i => #[(0, 1), (1, 1), (2, 1)][i]?) #[Value.string { data := #[] }, Value.string { data := #[] }, Value.nilIface] := ⟨fun _ => by kernel_rfl⟩
instance : ZeroT Tryz.prog 164 (Value.agg #[Value.string { data := #[] }, Value.string { data := #[] }, Value.nilIface]) := ⟨Tryz.zeroValue164⟩
instance : AggT Tryz.prog 165 3 := ⟨Tryz.isAgg165, Tryz.sizeOf165⟩
instance : FAddr Tryz.prog 165 0 0 := ⟨fun _ _ => by kernel_rfl⟩
instance : FAddr Tryz.prog 165 1 1 := ⟨fun _ _ => by kernel_rfl⟩
instance : FAddr Tryz.prog 165 2 2 := ⟨fun _ _ => by kernel_rfl⟩
instance : BuildT Tryz.prog 165 (fun i => #[(0, 1), (1, 1), (2, 1)][i]?) #[Value.string { data := #[] }, Value.string { data := #[] }, Value.nilIface] := ⟨fun _ => by kernel_rfl⟩
instance : ZeroT Tryz.prog 165 (Value.agg #[Value.string { data := #[] }, Value.string { data := #[] }, Value.nilIface]) := ⟨Tryz.zeroValue165⟩
instance : OneT Tryz.prog 166 := ⟨Tryz.isAgg166, Tryz.sizeOf166⟩
instance : ZeroT Tryz.prog 166 Value.nilFunc := ⟨Tryz.zeroValue166⟩
instance : UnderT Tryz.prog 167 (TypeDesc.array 32 5) := ⟨Tryz.underlying167⟩
instance : AggT Tryz.prog 167 32 := ⟨Tryz.isAgg167, Tryz.sizeOf167⟩
instance : BuildT Tryz.prog 167 (fun i => some (i * 1, 1)) #[Value.int IntKind.u8 0, Value.int IntKind.u8 0, Value.int IntKind.u8 0, Value.int IntKind.u8 0, Value.int IntKind.u8 0, Value.int IntKind.u8 0, Value.int IntKind.u8 0, Value.int IntKind.u8 0, Value.int IntKind.u8 0, Value.int IntKind.u8 0, Value.int IntKind.u8 0, Value.int IntKind.u8 0, Value.int IntKind.u8 0, Value.int IntKind.u8 0, Value.int IntKind.u8 0, Value.int IntKind.u8 0, Value.int IntKind.u8 0, Value.int IntKind.u8 0, Value.int IntKind.u8 0, Value.int IntKind.u8 0, Value.int IntKind.u8 0, Value.int IntKind.u8 0, Value.int IntKind.u8 0, Value.int IntKind.u8 0, Value.int IntKind.u8 0, Value.int IntKind.u8 0, Value.int IntKind.u8 0, Value.int IntKind.u8 0, Value.int IntKind.u8 0, Value.int IntKind.u8 0, Value.int IntKind.u8 0, Value.int IntKind.u8 0] := ⟨fun _ => by kernel_rfl⟩
instance : ArrT Tryz.prog 167 32 5 1 := ⟨Tryz.underlying167, Tryz.sizeOf5⟩
instance : ZeroT Tryz.prog 167 (Value.agg #[Value.int IntKind.u8 0, Value.int IntKind.u8 0, Value.int IntKind.u8 0, Value.int IntKind.u8 0, Value.int IntKind.u8 0, Value.int IntKind.u8 0, Value.int IntKind.u8 0, Value.int IntKind.u8 0, Value.int IntKind.u8 0, Value.int IntKind.u8 0, Value.int IntKind.u8 0, Value.int IntKind.u8 0, Value.int IntKind.u8 0, Value.int IntKind.u8 0, Value.int IntKind.u8 0, Value.int IntKind.u8 0, Value.int IntKind.u8 0, Value.int IntKind.u8 0, Value.int IntKind.u8 0, Value.int IntKind.u8 0, Value.int IntKind.u8 0, Value.int IntKind.u8 0, Value.int IntKind.u8 0, Value.int IntKind.u8 0, Value.int IntKind.u8 0, Value.int IntKind.u8 0, Value.int IntKind.u8 0, Value.int IntKind.u8 0, Value.int IntKind.u8 0, Value.int IntKind.u8 0, Value.int IntKind.u8 0, Value.int IntKind.u8 0]) := ⟨Tryz.zeroValue167⟩
instance : UnderT Tryz.prog 168 (TypeDesc.array 64 5) := ⟨Tryz.underlying168⟩
instance : AggT Tryz.prog 168 64 := ⟨Tryz.isAgg168, Tryz.sizeOf168⟩
instance : BuildT Tryz.prog 168 (fun i => some (i * 1, 1)) #[Value.int IntKind.u8 0, Value.int IntKind.u8 0, Value.int IntKind.u8 0, Value.int IntKind.u8 0, Value.int IntKind.u8 0, Value.int IntKind.u8 0, Value.int IntKind.u8 0, Value.int IntKind.u8 0, Value.int IntKind.u8 0, Value.int IntKind.u8 0, Value.int IntKind.u8 0, Value.int IntKind.u8 0, Value.int IntKind.u8 0, Value.int IntKind.u8 0, Value.int IntKind.u8 0, Value.int IntKind.u8 0, Value.int IntKind.u8 0, Value.int IntKind.u8 0, Value.int IntKind.u8 0, Value.int IntKind.u8 0, Value.int IntKind.u8 0, Value.int IntKind.u8 0, Value.int IntKind.u8 0, Value.int IntKind.u8 0, Value.int IntKind.u8 0, Value.int IntKind.u8 0, Value.int IntKind.u8 0, Value.int IntKind.u8 0, Value.int IntKind.u8 0, Value.int IntKind.u8 0, Value.int IntKind.u8 0, Value.int IntKind.u8 0, Value.int IntKind.u8 0, Value.int IntKind.u8 0, Value.int IntKind.u8 0, Value.int IntKind.u8 0, Value.int IntKind.u8 0, Value.int IntKind.u8 0, Value.int IntKind.u8 0, Value.int IntKind.u8 0, Value.int IntKind.u8 0, Value.int IntKind.u8 0, Value.int IntKind.u8 0, Value.int IntKind.u8 0, Value.int IntKind.u8 0, Value.int IntKind.u8 0, Value.int IntKind.u8 0, Value.int IntKind.u8 0, Value.int IntKind.u8 0, Value.int IntKind.u8 0, Value.int IntKind.u8 0, Value.int IntKind.u8 0, Value.int IntKind.u8 0, Value.int IntKind.u8 0, Value.int IntKind.u8 0, Value.int IntKind.u8 0, Value.int IntKind.u8 0, Value.int IntKind.u8 0, Value.int IntKind.u8 0, Value.int IntKind.u8 0, Value.int IntKind.u8 0, Value.int IntKind.u8 0, Value.int IntKind.u8 0, Value.int IntKind.u8 0] := ⟨fun _ => by kernel_rfl⟩
instance : ArrT Tryz.prog 168 64 5 1 := ⟨Tryz.underlying168, Tryz.sizeOf5⟩
instance : ZeroT Tryz.prog 168 (Value.agg #[Value.int IntKind.u8 0, Value.int IntKind.u8 0, Value.int IntKind.u8 0, Value.int IntKind.u8 0, Value.int IntKind.u8 0, Value.int IntKind.u8 0, Value.int IntKind.u8 0, Value.int IntKind.u8 0, Value.int IntKind.u8 0, Value.int IntKind.u8 0, Value.int IntKind.u8 0, Value.int IntKind.u8 0, Value.int IntKind.u8 0, Value.int IntKind.u8 0, Value.int IntKind.u8 0, Value.int IntKind.u8 0, Value.int IntKind.u8 0, Value.int IntKind.u8 0, Value.int IntKind.u8 0, Value.int IntKind.u8 0, Value.int IntKind.u8 0, Value.int IntKind.u8 0, Value.int IntKind.u8 0, Value.int IntKind.u8 0, Value.int IntKind.u8 0, Value.int IntKind.u8 0, Value.int IntKind.u8 0, Value.int IntKind.u8 0, Value.int IntKind.u8 0, Value.int IntKind.u8 0, Value.int IntKind.u8 0, Value.int IntKind.u8 0, Value.int IntKind.u8 0, Value.int IntKind.u8 0, Value.int IntKind.u8 0, Value.int IntKind.u8 0, Value.int IntKind.u8 0, Value.int IntKind.u8 0, Value.int IntKind.u8 0, Value.int IntKind.u8 0, Value.int IntKind.u8 0, Value.int IntKind.u8 0, Value.int IntKind.u8 0, Value.int IntKind.u8 0, Value.int IntKind.u8 0, Value.int IntKind.u8 0, Value.int IntKind.u8 0, Value.int IntKind.u8 0, Value.int IntKind.u8 0, Value.int IntKind.u8 0, Value.int IntKind.u8 0, Value.int IntKind.u8 0, Value.int IntKind.u8 0, Value.int IntKind.u8 0, Value.int IntKind.u8 0, Value.int IntKind.u8 0, Value.int IntKind.u8 0, Value.int IntKind.u8 0, Value.int IntKind.u8 0, Value.int IntKind.u8 0, Value.int IntKind.u8 0, Value.int IntKind.u8 0, Value.int IntKind.u8 0, Value.int IntKind.u8 0]) := ⟨Tryz.zeroValue168⟩
instance : UnderT Tryz.prog 169 (TypeDesc.pointer 171) := ⟨Tryz.underlying169⟩
instance : OneT Tryz.prog 169 := ⟨Tryz.isAgg169, Tryz.sizeOf169⟩
instance : ZeroT Tryz.prog 169 (Value.pointer none) := ⟨Tryz.zeroValue169⟩
instance : AggT Tryz.prog 170 1 := ⟨Tryz.isAgg170, Tryz.sizeOf170⟩
instance : FAddr Tryz.prog 170 0 0 := ⟨fun _ _ => by kernel_rfl⟩
instance : BuildT Tryz.prog 170 (fun i => #[(0, 1)][i]?) #[Value.string { data := #[] }] := ⟨fun _ => by kernel_rfl⟩
instance : ZeroT Tryz.prog 170 (Value.agg #[Value.string { data := #[] }]) := ⟨Tryz.zeroValue170⟩
instance : AggT Tryz.prog 171 1 := ⟨Tryz.isAgg171, Tryz.sizeOf171⟩
instance : FAddr Tryz.prog 171 0 0 := ⟨fun _ _ => by kernel_rfl⟩
instance : BuildT Tryz.prog 171 (fun i => #[(0, 1)][i]?) #[Value.string { data := #[] }] := ⟨fun _ => by kernel_rfl⟩
instance : ZeroT Tryz.prog 171 (Value.agg #[Value.string { data := #[] }]) := ⟨Tryz.zeroValue171⟩
instance : AggT Tryz.prog 172 4 := ⟨Tryz.isAgg172, Tryz.sizeOf172⟩
instance : FAddr Tryz.prog 172 0 0 := ⟨fun _ _ => by kernel_rfl⟩
instance : FAddr Tryz.prog 172 1 1 := ⟨fun _ _ => by kernel_rfl⟩
instance : FAddr Tryz.prog 172 2 2 := ⟨fun _ _ => by kernel_rfl⟩
instance : FAddr Tryz.prog 172 3 3 := ⟨fun _ _ => by kernel_rfl⟩
instance : BuildT Tryz.prog 172 (fun i => #[(0, 1), (1, 1), (2, 1), (3, 1)][i]?) #[Value.pointer none, Value.pointer none, Value.pointer none, Value.string { data := #[] }] := ⟨fun _ => by kernel_rfl⟩
instance : ZeroT Tryz.prog 172 (Value.agg #[Value.pointer none, Value.pointer none, Value.pointer none, Value.string { data := #[] }]) := ⟨Tryz.zeroValue172⟩
instance : AggT Tryz.prog 173 4 := ⟨Tryz.isAgg173, Tryz.sizeOf173⟩
instance : FAddr Tryz.prog 173 0 0 := ⟨fun _ _ => by kernel_rfl⟩
instance : FAddr Tryz.prog 173 1 1 := ⟨fun _ _ => by kernel_rfl⟩
instance : FAddr Tryz.prog 173 2 2 := ⟨fun _ _ => by kernel_rfl⟩
instance : FAddr Tryz.prog 173 3 3 := ⟨fun _ _ => by kernel_rfl⟩
instance : BuildT Tryz.prog 173 (fun i => #[(0, 1), (1, 1), (2, 1), (3, 1)][i]?) #[Value.pointer none, Value.pointer none, Value.pointer none, Value.string { data := #[] }] := ⟨fun _ => by kernel_rfl⟩
instance : ZeroT Tryz.prog 173 (Value.agg #[Value.pointer none, Value.pointer none, Value.pointer none, Value.string { data := #[] }]) := ⟨Tryz.zeroValue173⟩
instance : UnderT Tryz.prog 174 (TypeDesc.array 0 16) := ⟨Tryz.underlying174⟩
instance : AggT Tryz.prog 174 0 := ⟨Tryz.isAgg174, Tryz.sizeOf174⟩
instance : BuildT Tryz.prog 174 (fun i => some (i * 1, 1)) #[] := ⟨fun _ => by kernel_rfl⟩
instance : ArrT Tryz.prog 174 0 16 1 := ⟨Tryz.underlying174, Tryz.sizeOf16⟩
instance : ZeroT Tryz.prog 174 (Value.agg #[]) := ⟨Tryz.zeroValue174⟩
instance : AggT Tryz.prog 175 0 := ⟨Tryz.isAgg175, Tryz.sizeOf175⟩
instance : BuildT Tryz.prog 175 (fun i => #[(0, 0)][i]?) #[] := ⟨fun _ => by kernel_rfl⟩
instance : ZeroT Tryz.prog 175 (Value.agg #[]) := ⟨Tryz.zeroValue175⟩
instance : AggT Tryz.prog 176 0 := ⟨Tryz.isAgg176, Tryz.sizeOf176⟩
instance : BuildT Tryz.prog 176 (fun i => #[(0, 0)][i]?) #[] := ⟨fun _ => by kernel_rfl⟩
instance : ZeroT Tryz.prog 176 (Value.agg #[]) := ⟨Tryz.zeroValue176⟩
instance : OneT Tryz.prog 177 := ⟨Tryz.isAgg177, Tryz.sizeOf177⟩
instance : ZeroT Tryz.prog 177 Value.nilFunc := ⟨Tryz.zeroValue177⟩
instance : UnderT Tryz.prog 178 (TypeDesc.int IntKind.u8) := ⟨Tryz.underlying178⟩
instance : OneT Tryz.prog 178 := ⟨Tryz.isAgg178, Tryz.sizeOf178⟩
instance : ZeroT Tryz.prog 178 (Value.int IntKind.u8 0) := ⟨Tryz.zeroValue178⟩
instance : UnderT Tryz.prog 179 (TypeDesc.int IntKind.u8) := ⟨Tryz.underlying179⟩
instance : OneT Tryz.prog 179 := ⟨Tryz.isAgg179, Tryz.sizeOf179⟩
instance : ZeroT Tryz.prog 179 (Value.int IntKind.u8 0) := ⟨Tryz.zeroValue179⟩
instance : OneT Tryz.prog 180 := ⟨Tryz.isAgg180, Tryz.sizeOf180⟩
instance : ZeroT Tryz.prog 180 Value.nilFunc := ⟨Tryz.zeroValue180⟩
instance : UnderT Tryz.prog 181 (TypeDesc.int IntKind.i32) := ⟨Tryz.underlying181⟩
instance : OneT Tryz.prog 181 := ⟨Tryz.isAgg181, Tryz.sizeOf181⟩
instance : ZeroT Tryz.prog 181 (Value.int IntKind.i32 0) := ⟨Tryz.zeroValue181⟩
instance : UnderT Tryz.prog 182 (TypeDesc.int IntKind.i32) := ⟨Tryz.underlying182⟩
instance : OneT Tryz.prog 182 := ⟨Tryz.isAgg182, Tryz.sizeOf182⟩
instance : ZeroT Tryz.prog 182 (Value.int IntKind.i32 0) := ⟨Tryz.zeroValue182⟩
instance : AggT Tryz.prog 183 11 := ⟨Tryz.isAgg183, Tryz.sizeOf183⟩
instance : FAddr Tryz.prog 183 0 0 := ⟨fun _ _ => by kernel_rfl⟩
instance : FAddr Tryz.prog 183 1 1 := ⟨fun _ _ => by kernel_rfl⟩
instance : FAddr Tryz.prog 183 2 2 := ⟨fun _ _ => by kernel_rfl⟩
instance : FAddr Tryz.prog 183 3 3 := ⟨fun _ _ => by kernel_rfl⟩
instance : FAddr Tryz.prog 183 4 4 := ⟨fun _ _ => by kernel_rfl⟩
instance : FAddr Tryz.prog 183 5 5 := ⟨fun _ _ => by kernel_rfl⟩
instance : FAddr Tryz.prog 183 6 6 := ⟨fun _ _ => by kernel_rfl⟩
instance : FAddr Tryz.prog 183 7 7 := ⟨fun _ _ => by kernel_rfl⟩
instance : FAddr Tryz.prog 183 8 8 := ⟨fun _ _ => by kernel_rfl⟩
instance : FAddr Tryz.prog 183 9 9 := ⟨fun _ _ => by kernel_rfl⟩
instance : FAddr Tryz.prog 183 10 10 := ⟨fun _ _ => by kernel_rfl⟩
instance : BuildT Tryz.prog 183 (fun i => #[(0, 1), (1, 1), (2, 1), (3, 1), (4, 1), (5, 1), (6, 1), (7, 1), (8, 1), (9, 1), (10, 1)][i]?) #[Value.int IntKind.u64 0, Value.int IntKind.u64 0, Value.int IntKind.u32 0, Value.int IntKind.u8 0, Value.int IntKind.u8 0, Value.int IntKind.u8 0, Value.int IntKind.u8 0, Value.nilFunc, Value.pointer none, Value.int IntKind.i32 0, Value.int IntKind.i32 0] := ⟨fun _ => by kernel_rfl⟩
instance : ZeroT Tryz.prog 183 (Value.agg #[Value.int IntKind.u64 0, Value.int IntKind.u64 0, Value.int IntKind.u32 0, Value.int IntKind.u8 0, Value.int IntKind.u8 0, Value.int IntKind.u8 0, Value.int IntKind.u8 0, Value.nilFunc, Value.pointer none, Value.int IntKind.i32 0, Value.int IntKind.i32 0]) := ⟨Tryz.zeroValue183⟩
instance : AggT Tryz.prog 184 11 := ⟨Tryz.isAgg184, Tryz.sizeOf184⟩
instance : FAddr Tryz.prog 184 0 0 := ⟨fun _ _ => by kernel_rfl⟩
instance : FAddr Tryz.prog 184 1 1 := ⟨fun _ _ => by kernel_rfl⟩
instance : FAddr Tryz.prog 184 2 2 := ⟨fun _ _ => by kernel_rfl⟩
instance : FAddr Tryz.prog 184 3 3 := ⟨fun _ _ => by kernel_rfl⟩
instance : FAddr Tryz.prog 184 4 4 := ⟨fun _ _ => by kernel_rfl⟩
instance : FAddr Tryz.prog 184 5 5 := ⟨fun _ _ => by kernel_rfl⟩
instance : FAddr Tryz.prog 184 6 6 := ⟨fun _ _ => by kernel_rfl⟩
instance : FAddr Tryz.prog 184 7 7 := ⟨fun _ _ => by kernel_rfl⟩
instance : FAddr Tryz.prog 184 8 8 := ⟨fun _ _ => by kernel_rfl⟩
instance : FAddr Tryz.prog 184 9 9 := ⟨fun _ _ => by kernel_rfl⟩
instance : FAddr Tryz.prog 184 10 10 := ⟨fun _ _ => by kernel_rfl⟩
instance : BuildT Tryz.prog 184 (fun i => #[(0, 1), (1, 1), (2, 1), (3, 1), (4, 1), (5, 1), (6, 1), (7, 1), (8, 1), (9, 1), (10, 1)][i]?) #[Value.int IntKind.u64 0, Value.int IntKind.u64 0, Value.int IntKind.u32 0, Value.int IntKind.u8 0, Value.int IntKind.u8 0, Value.int IntKind.u8 0, Value.int IntKind.u8 0, Value.nilFunc, Value.pointer none, Value.int IntKind.i32 0, Value.int IntKind.i32 0] := ⟨fun _ => by kernel_rfl⟩
instance : ZeroT Tryz.prog 184 (Value.agg #[Value.int IntKind.u64 0, Value.int IntKind.u64 0, Value.int IntKind.u32 0, Value.int IntKind.u8 0, Value.int IntKind.u8 0, Value.int IntKind.u8 0, Value.int IntKind.u8 0, Value.nilFunc, Value.pointer none, Value.int IntKind.i32 0, Value.int IntKind.i32 0]) := ⟨Tryz.zeroValue184⟩
instance : CallF Tryz.prog 2 := ⟨Tryz.call2⟩
instance : CallF Tryz.prog 3 := ⟨Tryz.call3⟩
instance : CallF Tryz.prog 4 := ⟨Tryz.call4⟩
instance : CallF Tryz.prog 5 := ⟨Tryz.call5⟩
instance : CallF Tryz.prog 6 := ⟨Tryz.call6⟩
instance : CallF Tryz.prog 7 := ⟨Tryz.call7⟩
instance : CallF Tryz.prog 8 := ⟨Tryz.call8⟩
instance : CallF Tryz.prog 9 := ⟨Tryz.call9⟩
instance : CallF Tryz.prog 10 := ⟨Tryz.call10⟩
instance : CallF Tryz.prog 11 := ⟨Tryz.call11⟩
instance : CallF Tryz.prog 12 := ⟨Tryz.call12⟩
instance : CallF Tryz.prog 13 := ⟨Tryz.call13⟩
instance : CallF Tryz.prog 14 := ⟨Tryz.call14⟩
instance : CallF Tryz.prog 15 := ⟨Tryz.call15⟩
instance : CallF Tryz.prog 16 := ⟨Tryz.call16⟩
instance : CallF Tryz.prog 17 := ⟨Tryz.call17⟩
instance : CallF Tryz.prog 18 := ⟨Tryz.call18⟩
instance : CallF Tryz.prog 19 := ⟨Tryz.call19⟩
instance : CallF Tryz.prog 20 := ⟨Tryz.call20⟩
instance : CallF Tryz.prog 21 := ⟨Tryz.call21⟩
instance : CallF Tryz.prog 22 := ⟨Tryz.call22⟩
instance : CallF Tryz.prog 23 := ⟨Tryz.call23⟩
instance : CallF Tryz.prog 24 := ⟨Tryz.call24⟩
instance : CallF Tryz.prog 25 := ⟨Tryz.call25⟩
instance : CallF Tryz.prog 26 := ⟨Tryz.call26⟩
instance : CallF Tryz.prog 27 := ⟨Tryz.call27⟩
instance : CallF Tryz.prog 28 := ⟨Tryz.call28⟩
instance : CallF Tryz.prog 29 := ⟨Tryz.call29⟩
instance : CallF Tryz.prog 30 := ⟨Tryz.call30⟩
instance : CallF Tryz.prog 31 := ⟨Tryz.call31⟩
instance : CallF Tryz.prog 32 := ⟨Tryz.call32⟩
instance : CallF Tryz.prog 33 := ⟨Tryz.call33⟩
instance : CallF Tryz.prog 34 := ⟨Tryz.call34⟩
instance : CallF Tryz.prog 35 := ⟨Tryz.call35⟩
instance : CallF Tryz.prog 36 := ⟨Tryz.call36⟩
instance : CallF Tryz.prog 37 := ⟨Tryz.call37⟩
instance : CallF Tryz.prog 38 := ⟨Tryz.call38⟩
instance : CallF Tryz.prog 39 := ⟨Tryz.call39⟩
instance : CallF Tryz.prog 40 := ⟨Tryz.call40⟩
instance : CallF Tryz.prog 41 := ⟨Tryz.call41⟩
instance : CallF Tryz.prog 42 := ⟨Tryz.call42⟩
instance : CallF Tryz.prog 43 := ⟨Tryz.call43⟩
instance : CallF Tryz.prog 44 := ⟨Tryz.call44⟩
instance : CallF Tryz.prog 45 := ⟨Tryz.call45⟩
instance : CallF Tryz.prog 46 := ⟨Tryz.call46⟩
instance : CallF Tryz.prog 47 := ⟨Tryz.call47⟩
instance : CallF Tryz.prog 48 := ⟨Tryz.call48⟩
instance : CallF Tryz.prog 49 := ⟨Tryz.call49⟩
instance : CallF Tryz.prog 50 := ⟨Tryz.call50⟩
instance : CallF Tryz.prog 51 := ⟨Tryz.call51⟩
instance : CallF Tryz.prog 52 := ⟨Tryz.call52⟩
instance : CallF Tryz.prog 53 := ⟨Tryz.call53⟩
instance : CallF Tryz.prog 54 := ⟨Tryz.call54⟩
instance : CallF Tryz.prog 55 := ⟨Tryz.call55⟩
instance : CallF Tryz.prog 56 := ⟨Tryz.call56⟩
instance : CallF Tryz.prog 57 := ⟨Tryz.call57⟩
instance : CallF Tryz.prog 58 := ⟨Tryz.call58⟩
instance : CallF Tryz.prog 59 := ⟨Tryz.call59⟩
instance : CallF Tryz.prog 60 := ⟨Tryz.call60⟩
instance : CallF Tryz.prog 61 := ⟨Tryz.call61⟩
instance : CallF Tryz.prog 62 := ⟨Tryz.call62⟩
instance : CallF Tryz.prog 63 := ⟨Tryz.call63⟩
instance : CallF Tryz.prog 64 := ⟨Tryz.call64⟩
instance : CallF Tryz.prog 65 := ⟨Tryz.call65⟩
instance : CallF Tryz.prog 66 := ⟨Tryz.call66⟩
instance : CallF Tryz.prog 67 := ⟨Tryz.call67⟩
instance : CallF Tryz.prog 68 := ⟨Tryz.call68⟩
instance : CallF Tryz.prog 69 := ⟨Tryz.call69⟩
instance : CallF Tryz.prog 70 := ⟨Tryz.call70⟩
instance : CallF Tryz.prog 71 := ⟨Tryz.call71⟩
instance : CallF Tryz.prog 72 := ⟨Tryz.call72⟩
instance : CallF Tryz.prog 73 := ⟨Tryz.call73⟩
instance : CallF Tryz.prog 74 := ⟨Tryz.call74⟩
instance : CallF Tryz.prog 75 := ⟨Tryz.call75⟩
instance : CallF Tryz.prog 76 := ⟨Tryz.call76⟩
instance : CallF Tryz.prog 77 := ⟨Tryz.call77⟩
instance : CallF Tryz.prog 78 := ⟨Tryz.call78⟩
instance : CallF Tryz.prog 79 := ⟨Tryz.call79⟩
instance : CallF Tryz.prog 80 := ⟨Tryz.call80⟩
instance : CallF Tryz.prog 81 := ⟨Tryz.call81⟩
instance : CallF Tryz.prog 82 := ⟨Tryz.call82⟩
instance : CallF Tryz.prog 83 := ⟨Tryz.call83⟩
instance : CallF Tryz.prog 84 := ⟨Tryz.call84⟩
instance : CallF Tryz.prog 85 := ⟨Tryz.call85⟩
instance : CallF Tryz.prog 86 := ⟨Tryz.call86⟩
instance : CallF Tryz.prog 87 := ⟨Tryz.call87⟩
instance : CallF Tryz.prog 88 := ⟨Tryz.call88⟩
instance : CallF Tryz.prog 89 := ⟨Tryz.call89⟩
instance : CallF Tryz.prog 90 := ⟨Tryz.call90⟩
instance : CallF Tryz.prog 91 := ⟨Tryz.call91⟩
instance : CallF Tryz.prog 92 := ⟨Tryz.call92⟩
instance : CallF Tryz.prog 93 := ⟨Tryz.call93⟩
instance : CallF Tryz.prog 94 := ⟨Tryz.call94⟩
instance : CallF Tryz.prog 95 := ⟨Tryz.call95⟩
instance : CallF Tryz.prog 96 := ⟨Tryz.call96⟩
instance : CallF Tryz.prog 97 := ⟨Tryz.call97⟩
instance : CallF Tryz.prog 98 := ⟨Tryz.call98⟩
instance : CallF Tryz.prog 99 := ⟨Tryz.call99⟩
instance : CallF Tryz.prog 100 := ⟨Tryz.call100⟩
instance : CallF Tryz.prog 101 := ⟨Tryz.call101⟩
instance : CallF Tryz.prog 102 := ⟨Tryz.call102⟩
instance : CallF Tryz.prog 103 := ⟨Tryz.call103⟩
instance : CallF Tryz.prog 104 := ⟨Tryz.call104⟩
instance : CallF Tryz.prog 105 := ⟨Tryz.call105⟩
instance : CallF Tryz.prog 106 := ⟨Tryz.call106⟩
instance : CallF Tryz.prog 107 := ⟨Tryz.call107⟩
instance : CallF Tryz.prog 108 := ⟨Tryz.call108⟩
instance : CallF Tryz.prog 109 := ⟨Tryz.call109⟩
instance : CallF Tryz.prog 110 := ⟨Tryz.call110⟩
instance : CallF Tryz.prog 111 := ⟨Tryz.call111⟩
instance : CallF Tryz.prog 112 := ⟨Tryz.call112⟩
instance : CallF Tryz.prog 113 := ⟨Tryz.call113⟩
instance : CallF Tryz.prog 114 := ⟨Tryz.call114⟩
instance : CallF Tryz.prog 115 := ⟨Tryz.call115⟩
instance : CallF Tryz.prog 116 := ⟨Tryz.call116⟩
instance : CallF Tryz.prog 117 := ⟨Tryz.call117⟩
instance : CallF Tryz.prog 118 := ⟨Tryz.call118⟩
instance : CallF Tryz.prog 119 := ⟨Tryz.call119⟩
instance : CallF Tryz.prog 121 := ⟨Tryz.call121⟩
instance : CallF Tryz.prog 122 := ⟨Tryz.call122⟩
instance : CallF Tryz.prog 123 := ⟨Tryz.call123⟩
instance : CallF Tryz.prog 125 := ⟨Tryz.call125⟩
instance : CallF Tryz.prog 126 := ⟨Tryz.call126⟩
instance : CallF Tryz.prog 127 := ⟨Tryz.call127⟩
instance : CallF Tryz.prog 128 := ⟨Tryz.call128⟩
instance : CallF Tryz.prog 131 := ⟨Tryz.call131⟩
instance : CallF Tryz.prog 132 := ⟨Tryz.call132⟩
instance : CallF Tryz.prog 133 := ⟨Tryz.call133⟩
instance : CallF Tryz.prog 134 := ⟨Tryz.call134⟩
instance : CallF Tryz.prog 135 := ⟨Tryz.call135⟩
instance : CallF Tryz.prog 136 := ⟨Tryz.call136⟩
instance : CallF Tryz.prog 137 := ⟨Tryz.call137⟩
instance : CallF Tryz.prog 138 := ⟨Tryz.call138⟩
instance : CallF Tryz.prog 139 := ⟨Tryz.call139⟩
instance : CallF Tryz.prog 140 := ⟨Tryz.call140⟩
instance : CallF Tryz.prog 141 := ⟨Tryz.call141⟩
instance : CallF Tryz.prog 143 := ⟨Tryz.call143⟩
instance : CallF Tryz.prog 144 := ⟨Tryz.call144⟩
instance : CallF Tryz.prog 145 := ⟨Tryz.call145⟩
instance : CallF Tryz.prog 146 := ⟨Tryz.call146⟩
instance : CallF Tryz.prog 147 := ⟨Tryz.call147⟩
instance : CallF Tryz.prog 148 := ⟨Tryz.call148⟩
instance : CallF Tryz.prog 149 := ⟨Tryz.call149⟩
instance : CallF Tryz.prog 150 := ⟨Tryz.call150⟩
instance : CallF Tryz.prog 183 := ⟨Tryz.call183⟩
end Go.Own
