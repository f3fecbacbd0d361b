/-
  THE TABLES OF THE PROGRAM, as instances (printed by wip/tab.py out of the loaded program).
-/
import Derived.Test.YtohblhfdgoigdaaGreatDoorProg
import Derived.Test.YtohblhfdgoigdaaGreatDoorOwnC
import Derived.KernelRfl
namespace Go.Own
open Go.Proofs

instance : OneT Tryz.prog 1 := ⟨Tryz.isAgg1, Tryz.sizeOf1⟩
instance : ZeroT Tryz.prog 1 Value.nilFunc := ⟨Tryz.zeroValue1⟩
instance : UnderT Tryz.prog 2 (TypeDesc.int IntKind.i64) := ⟨Tryz.underlying2⟩
instance : OneT Tryz.prog 2 := ⟨Tryz.isAgg2, Tryz.sizeOf2⟩
instance : ZeroT Tryz.prog 2 (Value.int IntKind.i64 0) := ⟨Tryz.zeroValue2⟩
instance : UnderT Tryz.prog 3 (TypeDesc.int IntKind.i64) := ⟨Tryz.underlying3⟩
instance : OneT Tryz.prog 3 := ⟨Tryz.isAgg3, Tryz.sizeOf3⟩
instance : ZeroT Tryz.prog 3 (Value.int IntKind.i64 0) := ⟨Tryz.zeroValue3⟩
instance : UnderT Tryz.prog 4 (TypeDesc.bool) := ⟨Tryz.underlying4⟩
instance : OneT Tryz.prog 4 := ⟨Tryz.isAgg4, Tryz.sizeOf4⟩
instance : ZeroT Tryz.prog 4 (Value.bool false) := ⟨Tryz.zeroValue4⟩
instance : UnderT Tryz.prog 5 (TypeDesc.int IntKind.u8) := ⟨Tryz.underlying5⟩
instance : OneT Tryz.prog 5 := ⟨Tryz.isAgg5, Tryz.sizeOf5⟩
instance : ZeroT Tryz.prog 5 (Value.int IntKind.u8 0) := ⟨Tryz.zeroValue5⟩
instance : UnderT Tryz.prog 6 (TypeDesc.int IntKind.u8) := ⟨Tryz.underlying6⟩
instance : OneT Tryz.prog 6 := ⟨Tryz.isAgg6, Tryz.sizeOf6⟩
instance : ZeroT Tryz.prog 6 (Value.int IntKind.u8 0) := ⟨Tryz.zeroValue6⟩
instance : AggT Tryz.prog 7 4 := ⟨Tryz.isAgg7, Tryz.sizeOf7⟩
instance : FAddr Tryz.prog 7 0 0 := ⟨fun _ _ => by kernel_rfl⟩
instance : FAddr Tryz.prog 7 1 1 := ⟨fun _ _ => by kernel_rfl⟩
instance : FAddr Tryz.prog 7 2 2 := ⟨fun _ _ => by kernel_rfl⟩
instance : FAddr Tryz.prog 7 3 3 := ⟨fun _ _ => by kernel_rfl⟩
instance : BuildT Tryz.prog 7 (fun i => #[(0, 1), (1, 1), (2, 1), (3, 1)][i]?) #[Value.int IntKind.i64 0, Value.int IntKind.i64 0, Value.bool false, Value.int IntKind.u8 0] := ⟨fun _ => by kernel_rfl⟩
instance : ZeroT Tryz.prog 7 (Value.agg #[Value.int IntKind.i64 0, Value.int IntKind.i64 0, Value.bool false, Value.int IntKind.u8 0]) := ⟨Tryz.zeroValue7⟩
instance : AggT Tryz.prog 8 4 := ⟨Tryz.isAgg8, Tryz.sizeOf8⟩
instance : FAddr Tryz.prog 8 0 0 := ⟨fun _ _ => by kernel_rfl⟩
instance : FAddr Tryz.prog 8 1 1 := ⟨fun _ _ => by kernel_rfl⟩
instance : FAddr Tryz.prog 8 2 2 := ⟨fun _ _ => by kernel_rfl⟩
instance : FAddr Tryz.prog 8 3 3 := ⟨fun _ _ => by kernel_rfl⟩
instance : BuildT Tryz.prog 8 (fun i => #[(0, 1), (1, 1), (2, 1), (3, 1)][i]?) #[Value.int IntKind.i64 0, Value.int IntKind.i64 0, Value.bool false, Value.int IntKind.u8 0] := ⟨fun _ => by kernel_rfl⟩
instance : ZeroT Tryz.prog 8 (Value.agg #[Value.int IntKind.i64 0, Value.int IntKind.i64 0, Value.bool false, Value.int IntKind.u8 0]) := ⟨Tryz.zeroValue8⟩
instance : UnderT Tryz.prog 9 (TypeDesc.string) := ⟨Tryz.underlying9⟩
instance : OneT Tryz.prog 9 := ⟨Tryz.isAgg9, Tryz.sizeOf9⟩
instance : ZeroT Tryz.prog 9 (Value.string { data := #[] }) := ⟨Tryz.zeroValue9⟩
instance : UnderT Tryz.prog 10 (TypeDesc.string) := ⟨Tryz.underlying10⟩
instance : OneT Tryz.prog 10 := ⟨Tryz.isAgg10, Tryz.sizeOf10⟩
instance : ZeroT Tryz.prog 10 (Value.string { data := #[] }) := ⟨Tryz.zeroValue10⟩
instance : UnderT Tryz.prog 11 (TypeDesc.string) := ⟨Tryz.underlying11⟩
instance : OneT Tryz.prog 11 := ⟨Tryz.isAgg11, Tryz.sizeOf11⟩
instance : ZeroT Tryz.prog 11 (Value.string { data := #[] }) := ⟨Tryz.zeroValue11⟩
instance : UnderT Tryz.prog 12 (TypeDesc.int IntKind.u64) := ⟨Tryz.underlying12⟩
instance : OneT Tryz.prog 12 := ⟨Tryz.isAgg12, Tryz.sizeOf12⟩
instance : ZeroT Tryz.prog 12 (Value.int IntKind.u64 0) := ⟨Tryz.zeroValue12⟩
instance : AggT Tryz.prog 13 2 := ⟨Tryz.isAgg13, Tryz.sizeOf13⟩
instance : FAddr Tryz.prog 13 0 0 := ⟨fun _ _ => by kernel_rfl⟩
instance : FAddr Tryz.prog 13 1 1 := ⟨fun _ _ => by kernel_rfl⟩
instance : BuildT Tryz.prog 13 (fun i => #[(0, 1), (1, 1)][i]?) #[Value.string { data := #[] }, Value.int IntKind.u64 0] := ⟨fun _ => by kernel_rfl⟩
instance : ZeroT Tryz.prog 13 (Value.agg #[Value.string { data := #[] }, Value.int IntKind.u64 0]) := ⟨Tryz.zeroValue13⟩
instance : AggT Tryz.prog 14 2 := ⟨Tryz.isAgg14, Tryz.sizeOf14⟩
instance : FAddr Tryz.prog 14 0 0 := ⟨fun _ _ => by kernel_rfl⟩
instance : FAddr Tryz.prog 14 1 1 := ⟨fun _ _ => by kernel_rfl⟩
instance : BuildT Tryz.prog 14 (fun i => #[(0, 1), (1, 1)][i]?) #[Value.string { data := #[] }, Value.int IntKind.u64 0] := ⟨fun _ => by kernel_rfl⟩
instance : ZeroT Tryz.prog 14 (Value.agg #[Value.string { data := #[] }, Value.int IntKind.u64 0]) := ⟨Tryz.zeroValue14⟩
instance : UnderT Tryz.prog 15 (TypeDesc.pointer 234) := ⟨Tryz.underlying15⟩
instance : OneT Tryz.prog 15 := ⟨Tryz.isAgg15, Tryz.sizeOf15⟩
instance : ZeroT Tryz.prog 15 (Value.pointer none) := ⟨Tryz.zeroValue15⟩
instance : UnderT Tryz.prog 16 (TypeDesc.pointer 237) := ⟨Tryz.underlying16⟩
instance : OneT Tryz.prog 16 := ⟨Tryz.isAgg16, Tryz.sizeOf16⟩
instance : ZeroT Tryz.prog 16 (Value.pointer none) := ⟨Tryz.zeroValue16⟩
instance : UnderT Tryz.prog 17 (TypeDesc.pointer 245) := ⟨Tryz.underlying17⟩
instance : OneT Tryz.prog 17 := ⟨Tryz.isAgg17, Tryz.sizeOf17⟩
instance : ZeroT Tryz.prog 17 (Value.pointer none) := ⟨Tryz.zeroValue17⟩
instance : AggT Tryz.prog 18 1 := ⟨Tryz.isAgg18, Tryz.sizeOf18⟩
instance : FAddr Tryz.prog 18 0 0 := ⟨fun _ _ => by kernel_rfl⟩
instance : BuildT Tryz.prog 18 (fun i => #[(0, 1)][i]?) #[Value.pointer none] := ⟨fun _ => by kernel_rfl⟩
instance : ZeroT Tryz.prog 18 (Value.agg #[Value.pointer none]) := ⟨Tryz.zeroValue18⟩
instance : AggT Tryz.prog 19 1 := ⟨Tryz.isAgg19, Tryz.sizeOf19⟩
instance : FAddr Tryz.prog 19 0 0 := ⟨fun _ _ => by kernel_rfl⟩
instance : BuildT Tryz.prog 19 (fun i => #[(0, 1)][i]?) #[Value.pointer none] := ⟨fun _ => by kernel_rfl⟩
instance : ZeroT Tryz.prog 19 (Value.agg #[Value.pointer none]) := ⟨Tryz.zeroValue19⟩
instance : UnderT Tryz.prog 20 (TypeDesc.interface #[]) := ⟨Tryz.underlying20⟩
instance : OneT Tryz.prog 20 := ⟨Tryz.isAgg20, Tryz.sizeOf20⟩
instance : ZeroT Tryz.prog 20 Value.nilIface := ⟨Tryz.zeroValue20⟩
instance : UnderT Tryz.prog 21 (TypeDesc.int IntKind.i32) := ⟨Tryz.underlying21⟩
instance : OneT Tryz.prog 21 := ⟨Tryz.isAgg21, Tryz.sizeOf21⟩
instance : ZeroT Tryz.prog 21 (Value.int IntKind.i32 0) := ⟨Tryz.zeroValue21⟩
instance : UnderT Tryz.prog 22 (TypeDesc.slice 61) := ⟨Tryz.underlying22⟩
instance : OneT Tryz.prog 22 := ⟨Tryz.isAgg22, Tryz.sizeOf22⟩
instance : ZeroT Tryz.prog 22 (Value.slice none 0 0) := ⟨Tryz.zeroValue22⟩
instance : SliceT Tryz.prog 22 61 5 56 (Value.agg #[Value.bool false, Value.int IntKind.i64 0, Value.string { data := #[] }, Value.int IntKind.i64 0, Value.string { data := #[] }]) := ⟨Tryz.underlying22, ⟨Tryz.t61, by kernel_rfl, rfl, rfl, rfl⟩, rfl⟩
instance : UnderT Tryz.prog 23 (TypeDesc.slice 63) := ⟨Tryz.underlying23⟩
instance : OneT Tryz.prog 23 := ⟨Tryz.isAgg23, Tryz.sizeOf23⟩
instance : ZeroT Tryz.prog 23 (Value.slice none 0 0) := ⟨Tryz.zeroValue23⟩
instance : SliceT Tryz.prog 23 63 19 48 (Value.agg #[Value.string { data := #[] }, Value.int IntKind.u8 0, Value.int IntKind.u8 0, Value.int IntKind.u8 0, Value.int IntKind.u8 0, Value.int IntKind.u8 0, Value.int IntKind.u8 0, Value.int IntKind.u8 0, Value.int IntKind.u8 0, Value.int IntKind.u8 0, Value.int IntKind.u8 0, Value.int IntKind.u8 0, Value.int IntKind.u8 0, Value.int IntKind.u8 0, Value.int IntKind.u8 0, Value.int IntKind.u8 0, Value.int IntKind.u8 0, Value.int IntKind.i64 0, Value.int IntKind.i64 0]) := ⟨Tryz.underlying23, ⟨Tryz.t63, by kernel_rfl, rfl, rfl, rfl⟩, rfl⟩
instance : AggT Tryz.prog 24 3 := ⟨Tryz.isAgg24, Tryz.sizeOf24⟩
instance : FAddr Tryz.prog 24 0 0 := ⟨fun _ _ => by kernel_rfl⟩
instance : FAddr Tryz.prog 24 1 1 := ⟨fun _ _ => by kernel_rfl⟩
instance : FAddr Tryz.prog 24 2 2 := ⟨fun _ _ => by kernel_rfl⟩
instance : BuildT Tryz.prog 24 (fun i => #[(0, 1), (1, 1), (2, 1)][i]?) #[Value.bool false, Value.slice none 0 0, Value.slice none 0 0] := ⟨fun _ => by kernel_rfl⟩
instance : ZeroT Tryz.prog 24 (Value.agg #[Value.bool false, Value.slice none 0 0, Value.slice none 0 0]) := ⟨Tryz.zeroValue24⟩
instance : AggT Tryz.prog 25 3 := ⟨Tryz.isAgg25, Tryz.sizeOf25⟩
instance : FAddr Tryz.prog 25 0 0 := ⟨fun _ _ => by kernel_rfl⟩
instance : FAddr Tryz.prog 25 1 1 := ⟨fun _ _ => by kernel_rfl⟩
instance : FAddr Tryz.prog 25 2 2 := ⟨fun _ _ => by kernel_rfl⟩
instance : BuildT Tryz.prog 25 (fun i => #[(0, 1), (1, 1), (2, 1)][i]?) #[Value.bool false, Value.slice none 0 0, Value.slice none 0 0] := ⟨fun _ => by kernel_rfl⟩
instance : ZeroT Tryz.prog 25 (Value.agg #[Value.bool false, Value.slice none 0 0, Value.slice none 0 0]) := ⟨Tryz.zeroValue25⟩
instance : OneT Tryz.prog 26 := ⟨Tryz.isAgg26, Tryz.sizeOf26⟩
instance : ZeroT Tryz.prog 26 Value.nilFunc := ⟨Tryz.zeroValue26⟩
instance : OneT Tryz.prog 27 := ⟨Tryz.isAgg27, Tryz.sizeOf27⟩
instance : ZeroT Tryz.prog 27 Value.nilFunc := ⟨Tryz.zeroValue27⟩
instance : UnderT Tryz.prog 28 (TypeDesc.int IntKind.i64) := ⟨Tryz.underlying28⟩
instance : OneT Tryz.prog 28 := ⟨Tryz.isAgg28, Tryz.sizeOf28⟩
instance : ZeroT Tryz.prog 28 (Value.int IntKind.i64 0) := ⟨Tryz.zeroValue28⟩
instance : OneT Tryz.prog 29 := ⟨Tryz.isAgg29, Tryz.sizeOf29⟩
instance : ZeroT Tryz.prog 29 Value.nilFunc := ⟨Tryz.zeroValue29⟩
instance : OneT Tryz.prog 31 := ⟨Tryz.isAgg31, Tryz.sizeOf31⟩
instance : ZeroT Tryz.prog 31 Value.nilFunc := ⟨Tryz.zeroValue31⟩
instance : OneT Tryz.prog 32 := ⟨Tryz.isAgg32, Tryz.sizeOf32⟩
instance : ZeroT Tryz.prog 32 Value.nilFunc := ⟨Tryz.zeroValue32⟩
instance : OneT Tryz.prog 33 := ⟨Tryz.isAgg33, Tryz.sizeOf33⟩
instance : ZeroT Tryz.prog 33 Value.nilFunc := ⟨Tryz.zeroValue33⟩
instance : OneT Tryz.prog 34 := ⟨Tryz.isAgg34, Tryz.sizeOf34⟩
instance : ZeroT Tryz.prog 34 Value.nilFunc := ⟨Tryz.zeroValue34⟩
instance : OneT Tryz.prog 35 := ⟨Tryz.isAgg35, Tryz.sizeOf35⟩
instance : ZeroT Tryz.prog 35 Value.nilFunc := ⟨Tryz.zeroValue35⟩
instance : OneT Tryz.prog 36 := ⟨Tryz.isAgg36, Tryz.sizeOf36⟩
instance : ZeroT Tryz.prog 36 Value.nilFunc := ⟨Tryz.zeroValue36⟩
instance : OneT Tryz.prog 37 := ⟨Tryz.isAgg37, Tryz.sizeOf37⟩
instance : ZeroT Tryz.prog 37 Value.nilFunc := ⟨Tryz.zeroValue37⟩
instance : UnderT Tryz.prog 38 (TypeDesc.array 16 5) := ⟨Tryz.underlying38⟩
instance : AggT Tryz.prog 38 16 := ⟨Tryz.isAgg38, Tryz.sizeOf38⟩
instance : BuildT Tryz.prog 38 (fun i => some (i * 1, 1)) #[Value.int IntKind.u8 0, Value.int IntKind.u8 0, Value.int IntKind.u8 0, Value.int IntKind.u8 0, Value.int IntKind.u8 0, Value.int IntKind.u8 0, Value.int IntKind.u8 0, Value.int IntKind.u8 0, Value.int IntKind.u8 0, Value.int IntKind.u8 0, Value.int IntKind.u8 0, Value.int IntKind.u8 0, Value.int IntKind.u8 0, Value.int IntKind.u8 0, Value.int IntKind.u8 0, Value.int IntKind.u8 0] := ⟨fun _ => by kernel_rfl⟩
instance : ArrT Tryz.prog 38 16 5 1 := ⟨Tryz.underlying38, Tryz.sizeOf5⟩
instance : ZeroT Tryz.prog 38 (Value.agg #[Value.int IntKind.u8 0, Value.int IntKind.u8 0, Value.int IntKind.u8 0, Value.int IntKind.u8 0, Value.int IntKind.u8 0, Value.int IntKind.u8 0, Value.int IntKind.u8 0, Value.int IntKind.u8 0, Value.int IntKind.u8 0, Value.int IntKind.u8 0, Value.int IntKind.u8 0, Value.int IntKind.u8 0, Value.int IntKind.u8 0, Value.int IntKind.u8 0, Value.int IntKind.u8 0, Value.int IntKind.u8 0]) := ⟨Tryz.zeroValue38⟩
instance : UnderT Tryz.prog 39 (TypeDesc.array 16 5) := ⟨Tryz.underlying39⟩
instance : AggT Tryz.prog 39 16 := ⟨Tryz.isAgg39, Tryz.sizeOf39⟩
instance : BuildT Tryz.prog 39 (fun i => some (i * 1, 1)) #[Value.int IntKind.u8 0, Value.int IntKind.u8 0, Value.int IntKind.u8 0, Value.int IntKind.u8 0, Value.int IntKind.u8 0, Value.int IntKind.u8 0, Value.int IntKind.u8 0, Value.int IntKind.u8 0, Value.int IntKind.u8 0, Value.int IntKind.u8 0, Value.int IntKind.u8 0, Value.int IntKind.u8 0, Value.int IntKind.u8 0, Value.int IntKind.u8 0, Value.int IntKind.u8 0, Value.int IntKind.u8 0] := ⟨fun _ => by kernel_rfl⟩
instance : ArrT Tryz.prog 39 16 5 1 := ⟨Tryz.underlying39, Tryz.sizeOf5⟩
instance : ZeroT Tryz.prog 39 (Value.agg #[Value.int IntKind.u8 0, Value.int IntKind.u8 0, Value.int IntKind.u8 0, Value.int IntKind.u8 0, Value.int IntKind.u8 0, Value.int IntKind.u8 0, Value.int IntKind.u8 0, Value.int IntKind.u8 0, Value.int IntKind.u8 0, Value.int IntKind.u8 0, Value.int IntKind.u8 0, Value.int IntKind.u8 0, Value.int IntKind.u8 0, Value.int IntKind.u8 0, Value.int IntKind.u8 0, Value.int IntKind.u8 0]) := ⟨Tryz.zeroValue39⟩
instance : AggT Tryz.prog 40 17 := ⟨Tryz.isAgg40, Tryz.sizeOf40⟩
instance : FAddr Tryz.prog 40 0 0 := ⟨fun _ _ => by kernel_rfl⟩
instance : FAddr Tryz.prog 40 1 16 := ⟨fun _ _ => by kernel_rfl⟩
instance : BuildT Tryz.prog 40 (fun i => #[(0, 16), (16, 1)][i]?) #[Value.int IntKind.u8 0, Value.int IntKind.u8 0, Value.int IntKind.u8 0, Value.int IntKind.u8 0, Value.int IntKind.u8 0, Value.int IntKind.u8 0, Value.int IntKind.u8 0, Value.int IntKind.u8 0, Value.int IntKind.u8 0, Value.int IntKind.u8 0, Value.int IntKind.u8 0, Value.int IntKind.u8 0, Value.int IntKind.u8 0, Value.int IntKind.u8 0, Value.int IntKind.u8 0, Value.int IntKind.u8 0, Value.int IntKind.i64 0] := ⟨fun _ => by kernel_rfl⟩
instance : ZeroT Tryz.prog 40 (Value.agg #[Value.int IntKind.u8 0, Value.int IntKind.u8 0, Value.int IntKind.u8 0, Value.int IntKind.u8 0, Value.int IntKind.u8 0, Value.int IntKind.u8 0, Value.int IntKind.u8 0, Value.int IntKind.u8 0, Value.int IntKind.u8 0, Value.int IntKind.u8 0, Value.int IntKind.u8 0, Value.int IntKind.u8 0, Value.int IntKind.u8 0, Value.int IntKind.u8 0, Value.int IntKind.u8 0, Value.int IntKind.u8 0, Value.int IntKind.i64 0]) := ⟨Tryz.zeroValue40⟩
instance : AggT Tryz.prog 41 17 := ⟨Tryz.isAgg41, Tryz.sizeOf41⟩
instance : FAddr Tryz.prog 41 0 0 := ⟨fun _ _ => by kernel_rfl⟩
instance : FAddr Tryz.prog 41 1 16 := ⟨fun _ _ => by kernel_rfl⟩
instance : BuildT Tryz.prog 41 (fun i => #[(0, 16), (16, 1)][i]?) #[Value.int IntKind.u8 0, Value.int IntKind.u8 0, Value.int IntKind.u8 0, Value.int IntKind.u8 0, Value.int IntKind.u8 0, Value.int IntKind.u8 0, Value.int IntKind.u8 0, Value.int IntKind.u8 0, Value.int IntKind.u8 0, Value.int IntKind.u8 0, Value.int IntKind.u8 0, Value.int IntKind.u8 0, Value.int IntKind.u8 0, Value.int IntKind.u8 0, Value.int IntKind.u8 0, Value.int IntKind.u8 0, Value.int IntKind.i64 0] := ⟨fun _ => by kernel_rfl⟩
instance : ZeroT Tryz.prog 41 (Value.agg #[Value.int IntKind.u8 0, Value.int IntKind.u8 0, Value.int IntKind.u8 0, Value.int IntKind.u8 0, Value.int IntKind.u8 0, Value.int IntKind.u8 0, Value.int IntKind.u8 0, Value.int IntKind.u8 0, Value.int IntKind.u8 0, Value.int IntKind.u8 0, Value.int IntKind.u8 0, Value.int IntKind.u8 0, Value.int IntKind.u8 0, Value.int IntKind.u8 0, Value.int IntKind.u8 0, Value.int IntKind.u8 0, Value.int IntKind.i64 0]) := ⟨Tryz.zeroValue41⟩
instance : OneT Tryz.prog 43 := ⟨Tryz.isAgg43, Tryz.sizeOf43⟩
instance : ZeroT Tryz.prog 43 Value.nilFunc := ⟨Tryz.zeroValue43⟩
instance : OneT Tryz.prog 44 := ⟨Tryz.isAgg44, Tryz.sizeOf44⟩
instance : ZeroT Tryz.prog 44 Value.nilFunc := ⟨Tryz.zeroValue44⟩
instance : OneT Tryz.prog 45 := ⟨Tryz.isAgg45, Tryz.sizeOf45⟩
instance : ZeroT Tryz.prog 45 Value.nilFunc := ⟨Tryz.zeroValue45⟩
instance : OneT Tryz.prog 46 := ⟨Tryz.isAgg46, Tryz.sizeOf46⟩
instance : ZeroT Tryz.prog 46 Value.nilFunc := ⟨Tryz.zeroValue46⟩
instance : OneT Tryz.prog 47 := ⟨Tryz.isAgg47, Tryz.sizeOf47⟩
instance : ZeroT Tryz.prog 47 Value.nilFunc := ⟨Tryz.zeroValue47⟩
instance : OneT Tryz.prog 48 := ⟨Tryz.isAgg48, Tryz.sizeOf48⟩
instance : ZeroT Tryz.prog 48 Value.nilFunc := ⟨Tryz.zeroValue48⟩
instance : OneT Tryz.prog 49 := ⟨Tryz.isAgg49, Tryz.sizeOf49⟩
instance : ZeroT Tryz.prog 49 Value.nilFunc := ⟨Tryz.zeroValue49⟩
instance : UnderT Tryz.prog 50 (TypeDesc.slice 41) := ⟨Tryz.underlying50⟩
instance : OneT Tryz.prog 50 := ⟨Tryz.isAgg50, Tryz.sizeOf50⟩
instance : ZeroT Tryz.prog 50 (Value.slice none 0 0) := ⟨Tryz.zeroValue50⟩
instance : SliceT Tryz.prog 50 41 17 24 (Value.agg #[Value.int IntKind.u8 0, Value.int IntKind.u8 0, Value.int IntKind.u8 0, Value.int IntKind.u8 0, Value.int IntKind.u8 0, Value.int IntKind.u8 0, Value.int IntKind.u8 0, Value.int IntKind.u8 0, Value.int IntKind.u8 0, Value.int IntKind.u8 0, Value.int IntKind.u8 0, Value.int IntKind.u8 0, Value.int IntKind.u8 0, Value.int IntKind.u8 0, Value.int IntKind.u8 0, Value.int IntKind.u8 0, Value.int IntKind.i64 0]) := ⟨Tryz.underlying50, ⟨Tryz.t41, by kernel_rfl, rfl, rfl, rfl⟩, rfl⟩
instance : UnderT Tryz.prog 51 (TypeDesc.pointer 107) := ⟨Tryz.underlying51⟩
instance : OneT Tryz.prog 51 := ⟨Tryz.isAgg51, Tryz.sizeOf51⟩
instance : ZeroT Tryz.prog 51 (Value.pointer none) := ⟨Tryz.zeroValue51⟩
instance : OneT Tryz.prog 52 := ⟨Tryz.isAgg52, Tryz.sizeOf52⟩
instance : ZeroT Tryz.prog 52 Value.nilFunc := ⟨Tryz.zeroValue52⟩
instance : OneT Tryz.prog 53 := ⟨Tryz.isAgg53, Tryz.sizeOf53⟩
instance : ZeroT Tryz.prog 53 Value.nilFunc := ⟨Tryz.zeroValue53⟩
instance : OneT Tryz.prog 54 := ⟨Tryz.isAgg54, Tryz.sizeOf54⟩
instance : ZeroT Tryz.prog 54 Value.nilFunc := ⟨Tryz.zeroValue54⟩
instance : OneT Tryz.prog 55 := ⟨Tryz.isAgg55, Tryz.sizeOf55⟩
instance : ZeroT Tryz.prog 55 Value.nilFunc := ⟨Tryz.zeroValue55⟩
instance : OneT Tryz.prog 56 := ⟨Tryz.isAgg56, Tryz.sizeOf56⟩
instance : ZeroT Tryz.prog 56 Value.nilFunc := ⟨Tryz.zeroValue56⟩
instance : OneT Tryz.prog 57 := ⟨Tryz.isAgg57, Tryz.sizeOf57⟩
instance : ZeroT Tryz.prog 57 Value.nilFunc := ⟨Tryz.zeroValue57⟩
instance : OneT Tryz.prog 58 := ⟨Tryz.isAgg58, Tryz.sizeOf58⟩
instance : ZeroT Tryz.prog 58 Value.nilFunc := ⟨Tryz.zeroValue58⟩
instance : OneT Tryz.prog 59 := ⟨Tryz.isAgg59, Tryz.sizeOf59⟩
instance : ZeroT Tryz.prog 59 Value.nilFunc := ⟨Tryz.zeroValue59⟩
instance : AggT Tryz.prog 60 5 := ⟨Tryz.isAgg60, Tryz.sizeOf60⟩
instance : FAddr Tryz.prog 60 0 0 := ⟨fun _ _ => by kernel_rfl⟩
instance : FAddr Tryz.prog 60 1 1 := ⟨fun _ _ => by kernel_rfl⟩
instance : FAddr Tryz.prog 60 2 2 := ⟨fun _ _ => by kernel_rfl⟩
instance : FAddr Tryz.prog 60 3 3 := ⟨fun _ _ => by kernel_rfl⟩
instance : FAddr Tryz.prog 60 4 4 := ⟨fun _ _ => by kernel_rfl⟩
instance : BuildT Tryz.prog 60 (fun i => #[(0, 1), (1, 1), (2, 1), (3, 1), (4, 1)][i]?) #[Value.bool false, Value.int IntKind.i64 0, Value.string { data := #[] }, Value.int IntKind.i64 0, Value.string { data := #[] }] := ⟨fun _ => by kernel_rfl⟩
instance : ZeroT Tryz.prog 60 (Value.agg #[Value.bool false, Value.int IntKind.i64 0, Value.string { data := #[] }, Value.int IntKind.i64 0, Value.string { data := #[] }]) := ⟨Tryz.zeroValue60⟩
instance : AggT Tryz.prog 61 5 := ⟨Tryz.isAgg61, Tryz.sizeOf61⟩
instance : FAddr Tryz.prog 61 0 0 := ⟨fun _ _ => by kernel_rfl⟩
instance : FAddr Tryz.prog 61 1 1 := ⟨fun _ _ => by kernel_rfl⟩
instance : FAddr Tryz.prog 61 2 2 := ⟨fun _ _ => by kernel_rfl⟩
instance : FAddr Tryz.prog 61 3 3 := ⟨fun _ _ => by kernel_rfl⟩
instance : FAddr Tryz.prog 61 4 4 := ⟨fun _ _ => by kernel_rfl⟩
instance : BuildT Tryz.prog 61 (fun i => #[(0, 1), (1, 1), (2, 1), (3, 1), (4, 1)][i]?) #[Value.bool false, Value.int IntKind.i64 0, Value.string { data := #[] }, Value.int IntKind.i64 0, Value.string { data := #[] }] := ⟨fun _ => by kernel_rfl⟩
instance : ZeroT Tryz.prog 61 (Value.agg #[Value.bool false, Value.int IntKind.i64 0, Value.string { data := #[] }, Value.int IntKind.i64 0, Value.string { data := #[] }]) := ⟨Tryz.zeroValue61⟩
instance : AggT Tryz.prog 62 19 := ⟨Tryz.isAgg62, Tryz.sizeOf62⟩
instance : FAddr Tryz.prog 62 0 0 := ⟨fun _ _ => by kernel_rfl⟩
instance : FAddr Tryz.prog 62 1 1 := ⟨fun _ _ => by kernel_rfl⟩
instance : FAddr Tryz.prog 62 2 18 := ⟨fun _ _ => by kernel_rfl⟩
instance : BuildT Tryz.prog 62 (fun i => #[(0, 1), (1, 17), (18, 1)][i]?) #[Value.string { data := #[] }, Value.int IntKind.u8 0, Value.int IntKind.u8 0, Value.int IntKind.u8 0, Value.int IntKind.u8 0, Value.int IntKind.u8 0, Value.int IntKind.u8 0, Value.int IntKind.u8 0, Value.int IntKind.u8 0, Value.int IntKind.u8 0, Value.int IntKind.u8 0, Value.int IntKind.u8 0, Value.int IntKind.u8 0, Value.int IntKind.u8 0, Value.int IntKind.u8 0, Value.int IntKind.u8 0, Value.int IntKind.u8 0, Value.int IntKind.i64 0, Value.int IntKind.i64 0] := ⟨fun _ => by kernel_rfl⟩
instance : ZeroT Tryz.prog 62 (Value.agg #[Value.string { data := #[] }, Value.int IntKind.u8 0, Value.int IntKind.u8 0, Value.int IntKind.u8 0, Value.int IntKind.u8 0, Value.int IntKind.u8 0, Value.int IntKind.u8 0, Value.int IntKind.u8 0, Value.int IntKind.u8 0, Value.int IntKind.u8 0, Value.int IntKind.u8 0, Value.int IntKind.u8 0, Value.int IntKind.u8 0, Value.int IntKind.u8 0, Value.int IntKind.u8 0, Value.int IntKind.u8 0, Value.int IntKind.u8 0, Value.int IntKind.i64 0, Value.int IntKind.i64 0]) := ⟨Tryz.zeroValue62⟩
instance : AggT Tryz.prog 63 19 := ⟨Tryz.isAgg63, Tryz.sizeOf63⟩
instance : FAddr Tryz.prog 63 0 0 := ⟨fun _ _ => by kernel_rfl⟩
instance : FAddr Tryz.prog 63 1 1 := ⟨fun _ _ => by kernel_rfl⟩
instance : FAddr Tryz.prog 63 2 18 := ⟨fun _ _ => by kernel_rfl⟩
instance : BuildT Tryz.prog 63 (fun i => #[(0, 1), (1, 17), (18, 1)][i]?) #[Value.string { data := #[] }, Value.int IntKind.u8 0, Value.int IntKind.u8 0, Value.int IntKind.u8 0, Value.int IntKind.u8 0, Value.int IntKind.u8 0, Value.int IntKind.u8 0, Value.int IntKind.u8 0, Value.int IntKind.u8 0, Value.int IntKind.u8 0, Value.int IntKind.u8 0, Value.int IntKind.u8 0, Value.int IntKind.u8 0, Value.int IntKind.u8 0, Value.int IntKind.u8 0, Value.int IntKind.u8 0, Value.int IntKind.u8 0, Value.int IntKind.i64 0, Value.int IntKind.i64 0] := ⟨fun _ => by kernel_rfl⟩
instance : ZeroT Tryz.prog 63 (Value.agg #[Value.string { data := #[] }, Value.int IntKind.u8 0, Value.int IntKind.u8 0, Value.int IntKind.u8 0, Value.int IntKind.u8 0, Value.int IntKind.u8 0, Value.int IntKind.u8 0, Value.int IntKind.u8 0, Value.int IntKind.u8 0, Value.int IntKind.u8 0, Value.int IntKind.u8 0, Value.int IntKind.u8 0, Value.int IntKind.u8 0, Value.int IntKind.u8 0, Value.int IntKind.u8 0, Value.int IntKind.u8 0, Value.int IntKind.u8 0, Value.int IntKind.i64 0, Value.int IntKind.i64 0]) := ⟨Tryz.zeroValue63⟩
instance : OneT Tryz.prog 64 := ⟨Tryz.isAgg64, Tryz.sizeOf64⟩
instance : ZeroT Tryz.prog 64 Value.nilFunc := ⟨Tryz.zeroValue64⟩
instance : UnderT Tryz.prog 65 (TypeDesc.pointer 70) := ⟨Tryz.underlying65⟩
instance : OneT Tryz.prog 65 := ⟨Tryz.isAgg65, Tryz.sizeOf65⟩
instance : ZeroT Tryz.prog 65 (Value.pointer none) := ⟨Tryz.zeroValue65⟩
instance : OneT Tryz.prog 66 := ⟨Tryz.isAgg66, Tryz.sizeOf66⟩
instance : ZeroT Tryz.prog 66 Value.nilFunc := ⟨Tryz.zeroValue66⟩
instance : UnderT Tryz.prog 67 (TypeDesc.pointer 120) := ⟨Tryz.underlying67⟩
instance : OneT Tryz.prog 67 := ⟨Tryz.isAgg67, Tryz.sizeOf67⟩
instance : ZeroT Tryz.prog 67 (Value.pointer none) := ⟨Tryz.zeroValue67⟩
instance : UnderT Tryz.prog 68 (TypeDesc.map 128 3) := ⟨Tryz.underlying68⟩
instance : OneT Tryz.prog 68 := ⟨Tryz.isAgg68, Tryz.sizeOf68⟩
instance : ZeroT Tryz.prog 68 (Value.map none) := ⟨Tryz.zeroValue68⟩
instance : AggT Tryz.prog 69 2 := ⟨Tryz.isAgg69, Tryz.sizeOf69⟩
instance : FAddr Tryz.prog 69 0 0 := ⟨fun _ _ => by kernel_rfl⟩
instance : FAddr Tryz.prog 69 1 1 := ⟨fun _ _ => by kernel_rfl⟩
instance : BuildT Tryz.prog 69 (fun i => #[(0, 1), (1, 1)][i]?) #[Value.pointer none, Value.map none] := ⟨fun _ => by kernel_rfl⟩
instance : ZeroT Tryz.prog 69 (Value.agg #[Value.pointer none, Value.map none]) := ⟨Tryz.zeroValue69⟩
instance : AggT Tryz.prog 70 2 := ⟨Tryz.isAgg70, Tryz.sizeOf70⟩
instance : FAddr Tryz.prog 70 0 0 := ⟨fun _ _ => by kernel_rfl⟩
instance : FAddr Tryz.prog 70 1 1 := ⟨fun _ _ => by kernel_rfl⟩
instance : BuildT Tryz.prog 70 (fun i => #[(0, 1), (1, 1)][i]?) #[Value.pointer none, Value.map none] := ⟨fun _ => by kernel_rfl⟩
instance : ZeroT Tryz.prog 70 (Value.agg #[Value.pointer none, Value.map none]) := ⟨Tryz.zeroValue70⟩
instance : OneT Tryz.prog 71 := ⟨Tryz.isAgg71, Tryz.sizeOf71⟩
instance : ZeroT Tryz.prog 71 Value.nilFunc := ⟨Tryz.zeroValue71⟩
instance : OneT Tryz.prog 72 := ⟨Tryz.isAgg72, Tryz.sizeOf72⟩
instance : ZeroT Tryz.prog 72 Value.nilFunc := ⟨Tryz.zeroValue72⟩
instance : UnderT Tryz.prog 73 (TypeDesc.pointer 75) := ⟨Tryz.underlying73⟩
instance : OneT Tryz.prog 73 := ⟨Tryz.isAgg73, Tryz.sizeOf73⟩
instance : ZeroT Tryz.prog 73 (Value.pointer none) := ⟨Tryz.zeroValue73⟩
instance : AggT Tryz.prog 74 4 := ⟨Tryz.isAgg74, Tryz.sizeOf74⟩
instance : FAddr Tryz.prog 74 0 0 := ⟨fun _ _ => by kernel_rfl⟩
instance : FAddr Tryz.prog 74 1 1 := ⟨fun _ _ => by kernel_rfl⟩
instance : BuildT Tryz.prog 74 (fun i => #[(0, 1), (1, 3)][i]?) #[Value.pointer none, Value.bool false, Value.slice none 0 0, Value.slice none 0 0] := ⟨fun _ => by kernel_rfl⟩
instance : ZeroT Tryz.prog 74 (Value.agg #[Value.pointer none, Value.bool false, Value.slice none 0 0, Value.slice none 0 0]) := ⟨Tryz.zeroValue74⟩
instance : AggT Tryz.prog 75 4 := ⟨Tryz.isAgg75, Tryz.sizeOf75⟩
instance : FAddr Tryz.prog 75 0 0 := ⟨fun _ _ => by kernel_rfl⟩
instance : FAddr Tryz.prog 75 1 1 := ⟨fun _ _ => by kernel_rfl⟩
instance : BuildT Tryz.prog 75 (fun i => #[(0, 1), (1, 3)][i]?) #[Value.pointer none, Value.bool false, Value.slice none 0 0, Value.slice none 0 0] := ⟨fun _ => by kernel_rfl⟩
instance : ZeroT Tryz.prog 75 (Value.agg #[Value.pointer none, Value.bool false, Value.slice none 0 0, Value.slice none 0 0]) := ⟨Tryz.zeroValue75⟩
instance : UnderT Tryz.prog 76 (TypeDesc.slice 9) := ⟨Tryz.underlying76⟩
instance : OneT Tryz.prog 76 := ⟨Tryz.isAgg76, Tryz.sizeOf76⟩
instance : ZeroT Tryz.prog 76 (Value.slice none 0 0) := ⟨Tryz.zeroValue76⟩
instance : SliceT Tryz.prog 76 9 1 16 (Value.string { data := #[] }) := ⟨Tryz.underlying76, ⟨Tryz.t9, by kernel_rfl, rfl, rfl, rfl⟩, rfl⟩
instance : OneT Tryz.prog 77 := ⟨Tryz.isAgg77, Tryz.sizeOf77⟩
instance : ZeroT Tryz.prog 77 Value.nilFunc := ⟨Tryz.zeroValue77⟩
instance : OneT Tryz.prog 78 := ⟨Tryz.isAgg78, Tryz.sizeOf78⟩
instance : ZeroT Tryz.prog 78 Value.nilFunc := ⟨Tryz.zeroValue78⟩
instance : UnderT Tryz.prog 79 (TypeDesc.pointer 82) := ⟨Tryz.underlying79⟩
instance : OneT Tryz.prog 79 := ⟨Tryz.isAgg79, Tryz.sizeOf79⟩
instance : ZeroT Tryz.prog 79 (Value.pointer none) := ⟨Tryz.zeroValue79⟩
instance : UnderT Tryz.prog 80 (TypeDesc.slice 5) := ⟨Tryz.underlying80⟩
instance : OneT Tryz.prog 80 := ⟨Tryz.isAgg80, Tryz.sizeOf80⟩
instance : ZeroT Tryz.prog 80 (Value.slice none 0 0) := ⟨Tryz.zeroValue80⟩
instance : SliceT Tryz.prog 80 5 1 1 (Value.int IntKind.u8 0) := ⟨Tryz.underlying80, ⟨Tryz.t5, by kernel_rfl, rfl, rfl, rfl⟩, rfl⟩
instance : AggT Tryz.prog 81 2 := ⟨Tryz.isAgg81, Tryz.sizeOf81⟩
instance : FAddr Tryz.prog 81 0 0 := ⟨fun _ _ => by kernel_rfl⟩
instance : FAddr Tryz.prog 81 1 1 := ⟨fun _ _ => by kernel_rfl⟩
instance : BuildT Tryz.prog 81 (fun i => #[(0, 1), (1, 1)][i]?) #[Value.pointer none, Value.slice none 0 0] := ⟨fun _ => by kernel_rfl⟩
instance : ZeroT Tryz.prog 81 (Value.agg #[Value.pointer none, Value.slice none 0 0]) := ⟨Tryz.zeroValue81⟩
instance : AggT Tryz.prog 82 2 := ⟨Tryz.isAgg82, Tryz.sizeOf82⟩
instance : FAddr Tryz.prog 82 0 0 := ⟨fun _ _ => by kernel_rfl⟩
instance : FAddr Tryz.prog 82 1 1 := ⟨fun _ _ => by kernel_rfl⟩
instance : BuildT Tryz.prog 82 (fun i => #[(0, 1), (1, 1)][i]?) #[Value.pointer none, Value.slice none 0 0] := ⟨fun _ => by kernel_rfl⟩
instance : ZeroT Tryz.prog 82 (Value.agg #[Value.pointer none, Value.slice none 0 0]) := ⟨Tryz.zeroValue82⟩
instance : UnderT Tryz.prog 83 (TypeDesc.interface #[("Error", 92)]) := ⟨Tryz.underlying83⟩
instance : OneT Tryz.prog 83 := ⟨Tryz.isAgg83, Tryz.sizeOf83⟩
instance : ZeroT Tryz.prog 83 Value.nilIface := ⟨Tryz.zeroValue83⟩
instance : UnderT Tryz.prog 84 (TypeDesc.interface #[("Error", 92)]) := ⟨Tryz.underlying84⟩
instance : OneT Tryz.prog 84 := ⟨Tryz.isAgg84, Tryz.sizeOf84⟩
instance : ZeroT Tryz.prog 84 Value.nilIface := ⟨Tryz.zeroValue84⟩
instance : OneT Tryz.prog 86 := ⟨Tryz.isAgg86, Tryz.sizeOf86⟩
instance : ZeroT Tryz.prog 86 Value.nilFunc := ⟨Tryz.zeroValue86⟩
instance : OneT Tryz.prog 87 := ⟨Tryz.isAgg87, Tryz.sizeOf87⟩
instance : ZeroT Tryz.prog 87 Value.nilFunc := ⟨Tryz.zeroValue87⟩
instance : OneT Tryz.prog 88 := ⟨Tryz.isAgg88, Tryz.sizeOf88⟩
instance : ZeroT Tryz.prog 88 Value.nilFunc := ⟨Tryz.zeroValue88⟩
instance : OneT Tryz.prog 89 := ⟨Tryz.isAgg89, Tryz.sizeOf89⟩
instance : ZeroT Tryz.prog 89 Value.nilFunc := ⟨Tryz.zeroValue89⟩
instance : OneT Tryz.prog 90 := ⟨Tryz.isAgg90, Tryz.sizeOf90⟩
instance : ZeroT Tryz.prog 90 Value.nilFunc := ⟨Tryz.zeroValue90⟩
instance : OneT Tryz.prog 91 := ⟨Tryz.isAgg91, Tryz.sizeOf91⟩
instance : ZeroT Tryz.prog 91 Value.nilFunc := ⟨Tryz.zeroValue91⟩
instance : OneT Tryz.prog 92 := ⟨Tryz.isAgg92, Tryz.sizeOf92⟩
instance : ZeroT Tryz.prog 92 Value.nilFunc := ⟨Tryz.zeroValue92⟩
instance : OneT Tryz.prog 93 := ⟨Tryz.isAgg93, Tryz.sizeOf93⟩
instance : ZeroT Tryz.prog 93 Value.nilFunc := ⟨Tryz.zeroValue93⟩
instance : UnderT Tryz.prog 94 (TypeDesc.array 4 5) := ⟨Tryz.underlying94⟩
instance : AggT Tryz.prog 94 4 := ⟨Tryz.isAgg94, Tryz.sizeOf94⟩
instance : BuildT Tryz.prog 94 (fun i => some (i * 1, 1)) #[Value.int IntKind.u8 0, Value.int IntKind.u8 0, Value.int IntKind.u8 0, Value.int IntKind.u8 0] := ⟨fun _ => by kernel_rfl⟩
instance : ArrT Tryz.prog 94 4 5 1 := ⟨Tryz.underlying94, Tryz.sizeOf5⟩
instance : ZeroT Tryz.prog 94 (Value.agg #[Value.int IntKind.u8 0, Value.int IntKind.u8 0, Value.int IntKind.u8 0, Value.int IntKind.u8 0]) := ⟨Tryz.zeroValue94⟩
instance : OneT Tryz.prog 96 := ⟨Tryz.isAgg96, Tryz.sizeOf96⟩
instance : ZeroT Tryz.prog 96 Value.nilFunc := ⟨Tryz.zeroValue96⟩
instance : OneT Tryz.prog 98 := ⟨Tryz.isAgg98, Tryz.sizeOf98⟩
instance : ZeroT Tryz.prog 98 Value.nilFunc := ⟨Tryz.zeroValue98⟩
instance : OneT Tryz.prog 100 := ⟨Tryz.isAgg100, Tryz.sizeOf100⟩
instance : ZeroT Tryz.prog 100 Value.nilFunc := ⟨Tryz.zeroValue100⟩
instance : OneT Tryz.prog 101 := ⟨Tryz.isAgg101, Tryz.sizeOf101⟩
instance : ZeroT Tryz.prog 101 Value.nilFunc := ⟨Tryz.zeroValue101⟩
instance : OneT Tryz.prog 102 := ⟨Tryz.isAgg102, Tryz.sizeOf102⟩
instance : ZeroT Tryz.prog 102 Value.nilFunc := ⟨Tryz.zeroValue102⟩
instance : OneT Tryz.prog 103 := ⟨Tryz.isAgg103, Tryz.sizeOf103⟩
instance : ZeroT Tryz.prog 103 Value.nilFunc := ⟨Tryz.zeroValue103⟩
instance : OneT Tryz.prog 104 := ⟨Tryz.isAgg104, Tryz.sizeOf104⟩
instance : ZeroT Tryz.prog 104 Value.nilFunc := ⟨Tryz.zeroValue104⟩
instance : UnderT Tryz.prog 105 (TypeDesc.map 41 3) := ⟨Tryz.underlying105⟩
instance : OneT Tryz.prog 105 := ⟨Tryz.isAgg105, Tryz.sizeOf105⟩
instance : ZeroT Tryz.prog 105 (Value.map none) := ⟨Tryz.zeroValue105⟩
instance : AggT Tryz.prog 106 1 := ⟨Tryz.isAgg106, Tryz.sizeOf106⟩
instance : FAddr Tryz.prog 106 0 0 := ⟨fun _ _ => by kernel_rfl⟩
instance : BuildT Tryz.prog 106 (fun i => #[(0, 1)][i]?) #[Value.map none] := ⟨fun _ => by kernel_rfl⟩
instance : ZeroT Tryz.prog 106 (Value.agg #[Value.map none]) := ⟨Tryz.zeroValue106⟩
instance : AggT Tryz.prog 107 1 := ⟨Tryz.isAgg107, Tryz.sizeOf107⟩
instance : FAddr Tryz.prog 107 0 0 := ⟨fun _ _ => by kernel_rfl⟩
instance : BuildT Tryz.prog 107 (fun i => #[(0, 1)][i]?) #[Value.map none] := ⟨fun _ => by kernel_rfl⟩
instance : ZeroT Tryz.prog 107 (Value.agg #[Value.map none]) := ⟨Tryz.zeroValue107⟩
instance : OneT Tryz.prog 108 := ⟨Tryz.isAgg108, Tryz.sizeOf108⟩
instance : ZeroT Tryz.prog 108 Value.nilFunc := ⟨Tryz.zeroValue108⟩
instance : OneT Tryz.prog 109 := ⟨Tryz.isAgg109, Tryz.sizeOf109⟩
instance : ZeroT Tryz.prog 109 Value.nilFunc := ⟨Tryz.zeroValue109⟩
instance : OneT Tryz.prog 110 := ⟨Tryz.isAgg110, Tryz.sizeOf110⟩
instance : ZeroT Tryz.prog 110 Value.nilFunc := ⟨Tryz.zeroValue110⟩
instance : OneT Tryz.prog 111 := ⟨Tryz.isAgg111, Tryz.sizeOf111⟩
instance : ZeroT Tryz.prog 111 Value.nilFunc := ⟨Tryz.zeroValue111⟩
instance : OneT Tryz.prog 112 := ⟨Tryz.isAgg112, Tryz.sizeOf112⟩
instance : ZeroT Tryz.prog 112 Value.nilFunc := ⟨Tryz.zeroValue112⟩
instance : OneT Tryz.prog 113 := ⟨Tryz.isAgg113, Tryz.sizeOf113⟩
instance : ZeroT Tryz.prog 113 Value.nilFunc := ⟨Tryz.zeroValue113⟩
instance : UnderT Tryz.prog 114 (TypeDesc.slice 3) := ⟨Tryz.underlying114⟩
instance : OneT Tryz.prog 114 := ⟨Tryz.isAgg114, Tryz.sizeOf114⟩
instance : ZeroT Tryz.prog 114 (Value.slice none 0 0) := ⟨Tryz.zeroValue114⟩
instance : SliceT Tryz.prog 114 3 1 8 (Value.int IntKind.i64 0) := ⟨Tryz.underlying114, ⟨Tryz.t3, by kernel_rfl, rfl, rfl, rfl⟩, rfl⟩
instance : UnderT Tryz.prog 115 (TypeDesc.map 9 159) := ⟨Tryz.underlying115⟩
instance : OneT Tryz.prog 115 := ⟨Tryz.isAgg115, Tryz.sizeOf115⟩
instance : ZeroT Tryz.prog 115 (Value.map none) := ⟨Tryz.zeroValue115⟩
instance : AggT Tryz.prog 116 3 := ⟨Tryz.isAgg116, Tryz.sizeOf116⟩
instance : FAddr Tryz.prog 116 0 0 := ⟨fun _ _ => by kernel_rfl⟩
instance : FAddr Tryz.prog 116 1 1 := ⟨fun _ _ => by kernel_rfl⟩
instance : FAddr Tryz.prog 116 2 2 := ⟨fun _ _ => by kernel_rfl⟩
instance : BuildT Tryz.prog 116 (fun i => #[(0, 1), (1, 1), (2, 1)][i]?) #[Value.slice none 0 0, Value.slice none 0 0, Value.map none] := ⟨fun _ => by kernel_rfl⟩
instance : ZeroT Tryz.prog 116 (Value.agg #[Value.slice none 0 0, Value.slice none 0 0, Value.map none]) := ⟨Tryz.zeroValue116⟩
instance : AggT Tryz.prog 117 3 := ⟨Tryz.isAgg117, Tryz.sizeOf117⟩
instance : FAddr Tryz.prog 117 0 0 := ⟨fun _ _ => by kernel_rfl⟩
instance : FAddr Tryz.prog 117 1 1 := ⟨fun _ _ => by kernel_rfl⟩
instance : FAddr Tryz.prog 117 2 2 := ⟨fun _ _ => by kernel_rfl⟩
instance : BuildT Tryz.prog 117 (fun i => #[(0, 1), (1, 1), (2, 1)][i]?) #[Value.slice none 0 0, Value.slice none 0 0, Value.map none] := ⟨fun _ => by kernel_rfl⟩
instance : ZeroT Tryz.prog 117 (Value.agg #[Value.slice none 0 0, Value.slice none 0 0, Value.map none]) := ⟨Tryz.zeroValue117⟩
instance : UnderT Tryz.prog 118 (TypeDesc.map 61 3) := ⟨Tryz.underlying118⟩
instance : OneT Tryz.prog 118 := ⟨Tryz.isAgg118, Tryz.sizeOf118⟩
instance : ZeroT Tryz.prog 118 (Value.map none) := ⟨Tryz.zeroValue118⟩
instance : AggT Tryz.prog 119 6 := ⟨Tryz.isAgg119, Tryz.sizeOf119⟩
instance : FAddr Tryz.prog 119 0 0 := ⟨fun _ _ => by kernel_rfl⟩
instance : FAddr Tryz.prog 119 1 1 := ⟨fun _ _ => by kernel_rfl⟩
instance : FAddr Tryz.prog 119 2 2 := ⟨fun _ _ => by kernel_rfl⟩
instance : FAddr Tryz.prog 119 3 5 := ⟨fun _ _ => by kernel_rfl⟩
instance : BuildT Tryz.prog 119 (fun i => #[(0, 1), (1, 1), (2, 3), (5, 1)][i]?) #[Value.slice none 0 0, Value.slice none 0 0, Value.slice none 0 0, Value.slice none 0 0, Value.map none, Value.map none] := ⟨fun _ => by kernel_rfl⟩
instance : ZeroT Tryz.prog 119 (Value.agg #[Value.slice none 0 0, Value.slice none 0 0, Value.slice none 0 0, Value.slice none 0 0, Value.map none, Value.map none]) := ⟨Tryz.zeroValue119⟩
instance : AggT Tryz.prog 120 6 := ⟨Tryz.isAgg120, Tryz.sizeOf120⟩
instance : FAddr Tryz.prog 120 0 0 := ⟨fun _ _ => by kernel_rfl⟩
instance : FAddr Tryz.prog 120 1 1 := ⟨fun _ _ => by kernel_rfl⟩
instance : FAddr Tryz.prog 120 2 2 := ⟨fun _ _ => by kernel_rfl⟩
instance : FAddr Tryz.prog 120 3 5 := ⟨fun _ _ => by kernel_rfl⟩
instance : BuildT Tryz.prog 120 (fun i => #[(0, 1), (1, 1), (2, 3), (5, 1)][i]?) #[Value.slice none 0 0, Value.slice none 0 0, Value.slice none 0 0, Value.slice none 0 0, Value.map none, Value.map none] := ⟨fun _ => by kernel_rfl⟩
instance : ZeroT Tryz.prog 120 (Value.agg #[Value.slice none 0 0, Value.slice none 0 0, Value.slice none 0 0, Value.slice none 0 0, Value.map none, Value.map none]) := ⟨Tryz.zeroValue120⟩
instance : OneT Tryz.prog 122 := ⟨Tryz.isAgg122, Tryz.sizeOf122⟩
instance : ZeroT Tryz.prog 122 Value.nilFunc := ⟨Tryz.zeroValue122⟩
instance : OneT Tryz.prog 123 := ⟨Tryz.isAgg123, Tryz.sizeOf123⟩
instance : ZeroT Tryz.prog 123 Value.nilFunc := ⟨Tryz.zeroValue123⟩
instance : OneT Tryz.prog 124 := ⟨Tryz.isAgg124, Tryz.sizeOf124⟩
instance : ZeroT Tryz.prog 124 Value.nilFunc := ⟨Tryz.zeroValue124⟩
instance : OneT Tryz.prog 126 := ⟨Tryz.isAgg126, Tryz.sizeOf126⟩
instance : ZeroT Tryz.prog 126 Value.nilFunc := ⟨Tryz.zeroValue126⟩
instance : AggT Tryz.prog 127 18 := ⟨Tryz.isAgg127, Tryz.sizeOf127⟩
instance : FAddr Tryz.prog 127 0 0 := ⟨fun _ _ => by kernel_rfl⟩
instance : FAddr Tryz.prog 127 1 1 := ⟨fun _ _ => by kernel_rfl⟩
instance : BuildT Tryz.prog 127 (fun i => #[(0, 1), (1, 17)][i]?) #[Value.string { data := #[] }, Value.int IntKind.u8 0, Value.int IntKind.u8 0, Value.int IntKind.u8 0, Value.int IntKind.u8 0, Value.int IntKind.u8 0, Value.int IntKind.u8 0, Value.int IntKind.u8 0, Value.int IntKind.u8 0, Value.int IntKind.u8 0, Value.int IntKind.u8 0, Value.int IntKind.u8 0, Value.int IntKind.u8 0, Value.int IntKind.u8 0, Value.int IntKind.u8 0, Value.int IntKind.u8 0, Value.int IntKind.u8 0, Value.int IntKind.i64 0] := ⟨fun _ => by kernel_rfl⟩
instance : ZeroT Tryz.prog 127 (Value.agg #[Value.string { data := #[] }, Value.int IntKind.u8 0, Value.int IntKind.u8 0, Value.int IntKind.u8 0, Value.int IntKind.u8 0, Value.int IntKind.u8 0, Value.int IntKind.u8 0, Value.int IntKind.u8 0, Value.int IntKind.u8 0, Value.int IntKind.u8 0, Value.int IntKind.u8 0, Value.int IntKind.u8 0, Value.int IntKind.u8 0, Value.int IntKind.u8 0, Value.int IntKind.u8 0, Value.int IntKind.u8 0, Value.int IntKind.u8 0, Value.int IntKind.i64 0]) := ⟨Tryz.zeroValue127⟩
instance : AggT Tryz.prog 128 18 := ⟨Tryz.isAgg128, Tryz.sizeOf128⟩
instance : FAddr Tryz.prog 128 0 0 := ⟨fun _ _ => by kernel_rfl⟩
instance : FAddr Tryz.prog 128 1 1 := ⟨fun _ _ => by kernel_rfl⟩
instance : BuildT Tryz.prog 128 (fun i => #[(0, 1), (1, 17)][i]?) #[Value.string { data := #[] }, Value.int IntKind.u8 0, Value.int IntKind.u8 0, Value.int IntKind.u8 0, Value.int IntKind.u8 0, Value.int IntKind.u8 0, Value.int IntKind.u8 0, Value.int IntKind.u8 0, Value.int IntKind.u8 0, Value.int IntKind.u8 0, Value.int IntKind.u8 0, Value.int IntKind.u8 0, Value.int IntKind.u8 0, Value.int IntKind.u8 0, Value.int IntKind.u8 0, Value.int IntKind.u8 0, Value.int IntKind.u8 0, Value.int IntKind.i64 0] := ⟨fun _ => by kernel_rfl⟩
instance : ZeroT Tryz.prog 128 (Value.agg #[Value.string { data := #[] }, Value.int IntKind.u8 0, Value.int IntKind.u8 0, Value.int IntKind.u8 0, Value.int IntKind.u8 0, Value.int IntKind.u8 0, Value.int IntKind.u8 0, Value.int IntKind.u8 0, Value.int IntKind.u8 0, Value.int IntKind.u8 0, Value.int IntKind.u8 0, Value.int IntKind.u8 0, Value.int IntKind.u8 0, Value.int IntKind.u8 0, Value.int IntKind.u8 0, Value.int IntKind.u8 0, Value.int IntKind.u8 0, Value.int IntKind.i64 0]) := ⟨Tryz.zeroValue128⟩
instance : OneT Tryz.prog 129 := ⟨Tryz.isAgg129, Tryz.sizeOf129⟩
instance : ZeroT Tryz.prog 129 Value.nilFunc := ⟨Tryz.zeroValue129⟩
instance : OneT Tryz.prog 130 := ⟨Tryz.isAgg130, Tryz.sizeOf130⟩
instance : ZeroT Tryz.prog 130 Value.nilFunc := ⟨Tryz.zeroValue130⟩
instance : OneT Tryz.prog 131 := ⟨Tryz.isAgg131, Tryz.sizeOf131⟩
instance : ZeroT Tryz.prog 131 Value.nilFunc := ⟨Tryz.zeroValue131⟩
instance : OneT Tryz.prog 132 := ⟨Tryz.isAgg132, Tryz.sizeOf132⟩
instance : ZeroT Tryz.prog 132 Value.nilFunc := ⟨Tryz.zeroValue132⟩
instance : UnderT Tryz.prog 133 (TypeDesc.map 9 132) := ⟨Tryz.underlying133⟩
instance : OneT Tryz.prog 133 := ⟨Tryz.isAgg133, Tryz.sizeOf133⟩
instance : ZeroT Tryz.prog 133 (Value.map none) := ⟨Tryz.zeroValue133⟩
instance : OneT Tryz.prog 134 := ⟨Tryz.isAgg134, Tryz.sizeOf134⟩
instance : ZeroT Tryz.prog 134 Value.nilFunc := ⟨Tryz.zeroValue134⟩
instance : UnderT Tryz.prog 135 (TypeDesc.pointer 5) := ⟨Tryz.underlying135⟩
instance : OneT Tryz.prog 135 := ⟨Tryz.isAgg135, Tryz.sizeOf135⟩
instance : ZeroT Tryz.prog 135 (Value.pointer none) := ⟨Tryz.zeroValue135⟩
instance : UnderT Tryz.prog 136 (TypeDesc.array 12 5) := ⟨Tryz.underlying136⟩
instance : AggT Tryz.prog 136 12 := ⟨Tryz.isAgg136, Tryz.sizeOf136⟩
instance : BuildT Tryz.prog 136 (fun i => some (i * 1, 1)) #[Value.int IntKind.u8 0, Value.int IntKind.u8 0, Value.int IntKind.u8 0, Value.int IntKind.u8 0, Value.int IntKind.u8 0, Value.int IntKind.u8 0, Value.int IntKind.u8 0, Value.int IntKind.u8 0, Value.int IntKind.u8 0, Value.int IntKind.u8 0, Value.int IntKind.u8 0, Value.int IntKind.u8 0] := ⟨fun _ => by kernel_rfl⟩
instance : ArrT Tryz.prog 136 12 5 1 := ⟨Tryz.underlying136, Tryz.sizeOf5⟩
instance : ZeroT Tryz.prog 136 (Value.agg #[Value.int IntKind.u8 0, Value.int IntKind.u8 0, Value.int IntKind.u8 0, Value.int IntKind.u8 0, Value.int IntKind.u8 0, Value.int IntKind.u8 0, Value.int IntKind.u8 0, Value.int IntKind.u8 0, Value.int IntKind.u8 0, Value.int IntKind.u8 0, Value.int IntKind.u8 0, Value.int IntKind.u8 0]) := ⟨Tryz.zeroValue136⟩
instance : OneT Tryz.prog 138 := ⟨Tryz.isAgg138, Tryz.sizeOf138⟩
instance : ZeroT Tryz.prog 138 Value.nilFunc := ⟨Tryz.zeroValue138⟩
instance : OneT Tryz.prog 140 := ⟨Tryz.isAgg140, Tryz.sizeOf140⟩
instance : ZeroT Tryz.prog 140 Value.nilFunc := ⟨Tryz.zeroValue140⟩
instance : OneT Tryz.prog 141 := ⟨Tryz.isAgg141, Tryz.sizeOf141⟩
instance : ZeroT Tryz.prog 141 Value.nilFunc := ⟨Tryz.zeroValue141⟩
instance : OneT Tryz.prog 142 := ⟨Tryz.isAgg142, Tryz.sizeOf142⟩
instance : ZeroT Tryz.prog 142 Value.nilFunc := ⟨Tryz.zeroValue142⟩
instance : OneT Tryz.prog 143 := ⟨Tryz.isAgg143, Tryz.sizeOf143⟩
instance : ZeroT Tryz.prog 143 Value.nilFunc := ⟨Tryz.zeroValue143⟩
instance : UnderT Tryz.prog 144 (TypeDesc.int IntKind.u64) := ⟨Tryz.underlying144⟩
instance : OneT Tryz.prog 144 := ⟨Tryz.isAgg144, Tryz.sizeOf144⟩
instance : ZeroT Tryz.prog 144 (Value.int IntKind.u64 0) := ⟨Tryz.zeroValue144⟩
instance : UnderT Tryz.prog 145 (TypeDesc.int IntKind.u16) := ⟨Tryz.underlying145⟩
instance : OneT Tryz.prog 145 := ⟨Tryz.isAgg145, Tryz.sizeOf145⟩
instance : ZeroT Tryz.prog 145 (Value.int IntKind.u16 0) := ⟨Tryz.zeroValue145⟩
instance : UnderT Tryz.prog 146 (TypeDesc.array 8 145) := ⟨Tryz.underlying146⟩
instance : AggT Tryz.prog 146 8 := ⟨Tryz.isAgg146, Tryz.sizeOf146⟩
instance : BuildT Tryz.prog 146 (fun i => some (i * 1, 1)) #[Value.int IntKind.u16 0, Value.int IntKind.u16 0, Value.int IntKind.u16 0, Value.int IntKind.u16 0, Value.int IntKind.u16 0, Value.int IntKind.u16 0, Value.int IntKind.u16 0, Value.int IntKind.u16 0] := ⟨fun _ => by kernel_rfl⟩
instance : ArrT Tryz.prog 146 8 145 1 := ⟨Tryz.underlying146, Tryz.sizeOf145⟩
instance : ZeroT Tryz.prog 146 (Value.agg #[Value.int IntKind.u16 0, Value.int IntKind.u16 0, Value.int IntKind.u16 0, Value.int IntKind.u16 0, Value.int IntKind.u16 0, Value.int IntKind.u16 0, Value.int IntKind.u16 0, Value.int IntKind.u16 0]) := ⟨Tryz.zeroValue146⟩
instance : UnderT Tryz.prog 147 (TypeDesc.slice 145) := ⟨Tryz.underlying147⟩
instance : OneT Tryz.prog 147 := ⟨Tryz.isAgg147, Tryz.sizeOf147⟩
instance : ZeroT Tryz.prog 147 (Value.slice none 0 0) := ⟨Tryz.zeroValue147⟩
instance : SliceT Tryz.prog 147 145 1 2 (Value.int IntKind.u16 0) := ⟨Tryz.underlying147, ⟨Tryz.t145, by kernel_rfl, rfl, rfl, rfl⟩, rfl⟩
instance : OneT Tryz.prog 148 := ⟨Tryz.isAgg148, Tryz.sizeOf148⟩
instance : ZeroT Tryz.prog 148 Value.nilFunc := ⟨Tryz.zeroValue148⟩
instance : UnderT Tryz.prog 149 (TypeDesc.int IntKind.u64) := ⟨Tryz.underlying149⟩
instance : OneT Tryz.prog 149 := ⟨Tryz.isAgg149, Tryz.sizeOf149⟩
instance : ZeroT Tryz.prog 149 (Value.int IntKind.u64 0) := ⟨Tryz.zeroValue149⟩
instance : OneT Tryz.prog 150 := ⟨Tryz.isAgg150, Tryz.sizeOf150⟩
instance : ZeroT Tryz.prog 150 Value.nilFunc := ⟨Tryz.zeroValue150⟩
instance : OneT Tryz.prog 152 := ⟨Tryz.isAgg152, Tryz.sizeOf152⟩
instance : ZeroT Tryz.prog 152 Value.nilFunc := ⟨Tryz.zeroValue152⟩
instance : OneT Tryz.prog 153 := ⟨Tryz.isAgg153, Tryz.sizeOf153⟩
instance : ZeroT Tryz.prog 153 Value.nilFunc := ⟨Tryz.zeroValue153⟩
instance : OneT Tryz.prog 154 := ⟨Tryz.isAgg154, Tryz.sizeOf154⟩
instance : ZeroT Tryz.prog 154 Value.nilFunc := ⟨Tryz.zeroValue154⟩
instance : OneT Tryz.prog 155 := ⟨Tryz.isAgg155, Tryz.sizeOf155⟩
instance : ZeroT Tryz.prog 155 Value.nilFunc := ⟨Tryz.zeroValue155⟩
instance : OneT Tryz.prog 156 := ⟨Tryz.isAgg156, Tryz.sizeOf156⟩
instance : ZeroT Tryz.prog 156 Value.nilFunc := ⟨Tryz.zeroValue156⟩
instance : OneT Tryz.prog 157 := ⟨Tryz.isAgg157, Tryz.sizeOf157⟩
instance : ZeroT Tryz.prog 157 Value.nilFunc := ⟨Tryz.zeroValue157⟩
instance : OneT Tryz.prog 158 := ⟨Tryz.isAgg158, Tryz.sizeOf158⟩
instance : ZeroT Tryz.prog 158 Value.nilFunc := ⟨Tryz.zeroValue158⟩
instance : UnderT Tryz.prog 159 (TypeDesc.pointer 117) := ⟨Tryz.underlying159⟩
instance : OneT Tryz.prog 159 := ⟨Tryz.isAgg159, Tryz.sizeOf159⟩
instance : ZeroT Tryz.prog 159 (Value.pointer none) := ⟨Tryz.zeroValue159⟩
instance : OneT Tryz.prog 160 := ⟨Tryz.isAgg160, Tryz.sizeOf160⟩
instance : ZeroT Tryz.prog 160 Value.nilFunc := ⟨Tryz.zeroValue160⟩
instance : OneT Tryz.prog 161 := ⟨Tryz.isAgg161, Tryz.sizeOf161⟩
instance : ZeroT Tryz.prog 161 Value.nilFunc := ⟨Tryz.zeroValue161⟩
instance : OneT Tryz.prog 162 := ⟨Tryz.isAgg162, Tryz.sizeOf162⟩
instance : ZeroT Tryz.prog 162 Value.nilFunc := ⟨Tryz.zeroValue162⟩
instance : OneT Tryz.prog 163 := ⟨Tryz.isAgg163, Tryz.sizeOf163⟩
instance : ZeroT Tryz.prog 163 Value.nilFunc := ⟨Tryz.zeroValue163⟩
instance : UnderT Tryz.prog 164 (TypeDesc.slice 166) := ⟨Tryz.underlying164⟩
instance : OneT Tryz.prog 164 := ⟨Tryz.isAgg164, Tryz.sizeOf164⟩
instance : ZeroT Tryz.prog 164 (Value.slice none 0 0) := ⟨Tryz.zeroValue164⟩
instance : SliceT Tryz.prog 164 166 2 16 (Value.agg #[Value.int IntKind.i64 0, Value.int IntKind.i64 0]) := ⟨Tryz.underlying164, ⟨Tryz.t166, by kernel_rfl, rfl, rfl, rfl⟩, rfl⟩
instance : AggT Tryz.prog 165 2 := ⟨Tryz.isAgg165, Tryz.sizeOf165⟩
instance : FAddr Tryz.prog 165 0 0 := ⟨fun _ _ => by kernel_rfl⟩
instance : FAddr Tryz.prog 165 1 1 := ⟨fun _ _ => by kernel_rfl⟩
instance : BuildT Tryz.prog 165 (fun i => #[(0, 1), (1, 1)][i]?) #[Value.int IntKind.i64 0, Value.int IntKind.i64 0] := ⟨fun _ => by kernel_rfl⟩
instance : ZeroT Tryz.prog 165 (Value.agg #[Value.int IntKind.i64 0, Value.int IntKind.i64 0]) := ⟨Tryz.zeroValue165⟩
instance : AggT Tryz.prog 166 2 := ⟨Tryz.isAgg166, Tryz.sizeOf166⟩
instance : FAddr Tryz.prog 166 0 0 := ⟨fun _ _ => by kernel_rfl⟩
instance : FAddr Tryz.prog 166 1 1 := ⟨fun _ _ => by kernel_rfl⟩
instance : BuildT Tryz.prog 166 (fun i => #[(0, 1), (1, 1)][i]?) #[Value.int IntKind.i64 0, Value.int IntKind.i64 0] := ⟨fun _ => by kernel_rfl⟩
instance : ZeroT Tryz.prog 166 (Value.agg #[Value.int IntKind.i64 0, Value.int IntKind.i64 0]) := ⟨Tryz.zeroValue166⟩
instance : OneT Tryz.prog 167 := ⟨Tryz.isAgg167, Tryz.sizeOf167⟩
instance : ZeroT Tryz.prog 167 Value.nilFunc := ⟨Tryz.zeroValue167⟩
instance : OneT Tryz.prog 168 := ⟨Tryz.isAgg168, Tryz.sizeOf168⟩
instance : ZeroT Tryz.prog 168 Value.nilFunc := ⟨Tryz.zeroValue168⟩
instance : UnderT Tryz.prog 169 (TypeDesc.pointer 76) := ⟨Tryz.underlying169⟩
instance : OneT Tryz.prog 169 := ⟨Tryz.isAgg169, Tryz.sizeOf169⟩
instance : ZeroT Tryz.prog 169 (Value.pointer none) := ⟨Tryz.zeroValue169⟩
instance : OneT Tryz.prog 170 := ⟨Tryz.isAgg170, Tryz.sizeOf170⟩
instance : ZeroT Tryz.prog 170 (Value.pointer none) := ⟨Tryz.zeroValue170⟩
instance : OneT Tryz.prog 171 := ⟨Tryz.isAgg171, Tryz.sizeOf171⟩
instance : ZeroT Tryz.prog 171 Value.nilFunc := ⟨Tryz.zeroValue171⟩
instance : OneT Tryz.prog 172 := ⟨Tryz.isAgg172, Tryz.sizeOf172⟩
instance : ZeroT Tryz.prog 172 Value.nilFunc := ⟨Tryz.zeroValue172⟩
instance : OneT Tryz.prog 173 := ⟨Tryz.isAgg173, Tryz.sizeOf173⟩
instance : ZeroT Tryz.prog 173 Value.nilFunc := ⟨Tryz.zeroValue173⟩
instance : OneT Tryz.prog 174 := ⟨Tryz.isAgg174, Tryz.sizeOf174⟩
instance : ZeroT Tryz.prog 174 Value.nilFunc := ⟨Tryz.zeroValue174⟩
instance : UnderT Tryz.prog 175 (TypeDesc.int IntKind.i64) := ⟨Tryz.underlying175⟩
instance : OneT Tryz.prog 175 := ⟨Tryz.isAgg175, Tryz.sizeOf175⟩
instance : ZeroT Tryz.prog 175 (Value.int IntKind.i64 0) := ⟨Tryz.zeroValue175⟩
instance : OneT Tryz.prog 177 := ⟨Tryz.isAgg177, Tryz.sizeOf177⟩
instance : ZeroT Tryz.prog 177 Value.nilFunc := ⟨Tryz.zeroValue177⟩
instance : OneT Tryz.prog 178 := ⟨Tryz.isAgg178, Tryz.sizeOf178⟩
instance : ZeroT Tryz.prog 178 Value.nilFunc := ⟨Tryz.zeroValue178⟩
instance : OneT Tryz.prog 179 := ⟨Tryz.isAgg179, Tryz.sizeOf179⟩
instance : ZeroT Tryz.prog 179 Value.nilFunc := ⟨Tryz.zeroValue179⟩
instance : OneT Tryz.prog 180 := ⟨Tryz.isAgg180, Tryz.sizeOf180⟩
instance : ZeroT Tryz.prog 180 Value.nilFunc := ⟨Tryz.zeroValue180⟩
instance : OneT Tryz.prog 181 := ⟨Tryz.isAgg181, Tryz.sizeOf181⟩
instance : ZeroT Tryz.prog 181 Value.nilFunc := ⟨Tryz.zeroValue181⟩
instance : UnderT Tryz.prog 182 (TypeDesc.int IntKind.u32) := ⟨Tryz.underlying182⟩
instance : OneT Tryz.prog 182 := ⟨Tryz.isAgg182, Tryz.sizeOf182⟩
instance : ZeroT Tryz.prog 182 (Value.int IntKind.u32 0) := ⟨Tryz.zeroValue182⟩
instance : OneT Tryz.prog 183 := ⟨Tryz.isAgg183, Tryz.sizeOf183⟩
instance : ZeroT Tryz.prog 183 Value.nilFunc := ⟨Tryz.zeroValue183⟩
instance : OneT Tryz.prog 184 := ⟨Tryz.isAgg184, Tryz.sizeOf184⟩
instance : ZeroT Tryz.prog 184 Value.nilFunc := ⟨Tryz.zeroValue184⟩
instance : OneT Tryz.prog 185 := ⟨Tryz.isAgg185, Tryz.sizeOf185⟩
instance : ZeroT Tryz.prog 185 Value.nilFunc := ⟨Tryz.zeroValue185⟩
instance : OneT Tryz.prog 186 := ⟨Tryz.isAgg186, Tryz.sizeOf186⟩
instance : ZeroT Tryz.prog 186 Value.nilFunc := ⟨Tryz.zeroValue186⟩
instance : OneT Tryz.prog 187 := ⟨Tryz.isAgg187, Tryz.sizeOf187⟩
instance : ZeroT Tryz.prog 187 Value.nilFunc := ⟨Tryz.zeroValue187⟩
instance : OneT Tryz.prog 188 := ⟨Tryz.isAgg188, Tryz.sizeOf188⟩
instance : ZeroT Tryz.prog 188 Value.nilFunc := ⟨Tryz.zeroValue188⟩
instance : OneT Tryz.prog 190 := ⟨Tryz.isAgg190, Tryz.sizeOf190⟩
instance : ZeroT Tryz.prog 190 Value.nilFunc := ⟨Tryz.zeroValue190⟩
instance : OneT Tryz.prog 191 := ⟨Tryz.isAgg191, Tryz.sizeOf191⟩
instance : ZeroT Tryz.prog 191 Value.nilFunc := ⟨Tryz.zeroValue191⟩
instance : OneT Tryz.prog 192 := ⟨Tryz.isAgg192, Tryz.sizeOf192⟩
instance : ZeroT Tryz.prog 192 Value.nilFunc := ⟨Tryz.zeroValue192⟩
instance : UnderT Tryz.prog 193 (TypeDesc.array 24 5) := ⟨Tryz.underlying193⟩
instance : AggT Tryz.prog 193 24 := ⟨Tryz.isAgg193, Tryz.sizeOf193⟩
instance : BuildT Tryz.prog 193 (fun i => some (i * 1, 1)) #[Value.int IntKind.u8 0, Value.int IntKind.u8 0, Value.int IntKind.u8 0, Value.int IntKind.u8 0, Value.int IntKind.u8 0, Value.int IntKind.u8 0, Value.int IntKind.u8 0, Value.int IntKind.u8 0, Value.int IntKind.u8 0, Value.int IntKind.u8 0, Value.int IntKind.u8 0, Value.int IntKind.u8 0, Value.int IntKind.u8 0, Value.int IntKind.u8 0, Value.int IntKind.u8 0, Value.int IntKind.u8 0, Value.int IntKind.u8 0, Value.int IntKind.u8 0, Value.int IntKind.u8 0, Value.int IntKind.u8 0, Value.int IntKind.u8 0, Value.int IntKind.u8 0, Value.int IntKind.u8 0, Value.int IntKind.u8 0] := ⟨fun _ => by kernel_rfl⟩
instance : ArrT Tryz.prog 193 24 5 1 := ⟨Tryz.underlying193, Tryz.sizeOf5⟩
instance : ZeroT Tryz.prog 193 (Value.agg #[Value.int IntKind.u8 0, Value.int IntKind.u8 0, Value.int IntKind.u8 0, Value.int IntKind.u8 0, Value.int IntKind.u8 0, Value.int IntKind.u8 0, Value.int IntKind.u8 0, Value.int IntKind.u8 0, Value.int IntKind.u8 0, Value.int IntKind.u8 0, Value.int IntKind.u8 0, Value.int IntKind.u8 0, Value.int IntKind.u8 0, Value.int IntKind.u8 0, Value.int IntKind.u8 0, Value.int IntKind.u8 0, Value.int IntKind.u8 0, Value.int IntKind.u8 0, Value.int IntKind.u8 0, Value.int IntKind.u8 0, Value.int IntKind.u8 0, Value.int IntKind.u8 0, Value.int IntKind.u8 0, Value.int IntKind.u8 0]) := ⟨Tryz.zeroValue193⟩
instance : OneT Tryz.prog 194 := ⟨Tryz.isAgg194, Tryz.sizeOf194⟩
instance : ZeroT Tryz.prog 194 Value.nilFunc := ⟨Tryz.zeroValue194⟩
instance : OneT Tryz.prog 196 := ⟨Tryz.isAgg196, Tryz.sizeOf196⟩
instance : ZeroT Tryz.prog 196 Value.nilFunc := ⟨Tryz.zeroValue196⟩
instance : OneT Tryz.prog 197 := ⟨Tryz.isAgg197, Tryz.sizeOf197⟩
instance : ZeroT Tryz.prog 197 Value.nilFunc := ⟨Tryz.zeroValue197⟩
instance : OneT Tryz.prog 198 := ⟨Tryz.isAgg198, Tryz.sizeOf198⟩
instance : ZeroT Tryz.prog 198 Value.nilFunc := ⟨Tryz.zeroValue198⟩
instance : UnderT Tryz.prog 199 (TypeDesc.int IntKind.i64) := ⟨Tryz.underlying199⟩
instance : OneT Tryz.prog 199 := ⟨Tryz.isAgg199, Tryz.sizeOf199⟩
instance : ZeroT Tryz.prog 199 (Value.int IntKind.i64 0) := ⟨Tryz.zeroValue199⟩
instance : OneT Tryz.prog 201 := ⟨Tryz.isAgg201, Tryz.sizeOf201⟩
instance : ZeroT Tryz.prog 201 Value.nilFunc := ⟨Tryz.zeroValue201⟩
instance : UnderT Tryz.prog 202 (TypeDesc.pointer 220) := ⟨Tryz.underlying202⟩
instance : OneT Tryz.prog 202 := ⟨Tryz.isAgg202, Tryz.sizeOf202⟩
instance : ZeroT Tryz.prog 202 (Value.pointer none) := ⟨Tryz.zeroValue202⟩
instance : OneT Tryz.prog 203 := ⟨Tryz.isAgg203, Tryz.sizeOf203⟩
instance : ZeroT Tryz.prog 203 Value.nilFunc := ⟨Tryz.zeroValue203⟩
instance : OneT Tryz.prog 204 := ⟨Tryz.isAgg204, Tryz.sizeOf204⟩
instance : ZeroT Tryz.prog 204 Value.nilFunc := ⟨Tryz.zeroValue204⟩
instance : UnderT Tryz.prog 205 (TypeDesc.int IntKind.u64) := ⟨Tryz.underlying205⟩
instance : OneT Tryz.prog 205 := ⟨Tryz.isAgg205, Tryz.sizeOf205⟩
instance : ZeroT Tryz.prog 205 (Value.int IntKind.u64 0) := ⟨Tryz.zeroValue205⟩
instance : OneT Tryz.prog 206 := ⟨Tryz.isAgg206, Tryz.sizeOf206⟩
instance : ZeroT Tryz.prog 206 Value.nilFunc := ⟨Tryz.zeroValue206⟩
instance : OneT Tryz.prog 207 := ⟨Tryz.isAgg207, Tryz.sizeOf207⟩
instance : ZeroT Tryz.prog 207 Value.nilFunc := ⟨Tryz.zeroValue207⟩
instance : OneT Tryz.prog 208 := ⟨Tryz.isAgg208, Tryz.sizeOf208⟩
instance : ZeroT Tryz.prog 208 Value.nilFunc := ⟨Tryz.zeroValue208⟩
instance : UnderT Tryz.prog 209 (TypeDesc.pointer 3) := ⟨Tryz.underlying209⟩
instance : OneT Tryz.prog 209 := ⟨Tryz.isAgg209, Tryz.sizeOf209⟩
instance : ZeroT Tryz.prog 209 (Value.pointer none) := ⟨Tryz.zeroValue209⟩
instance : OneT Tryz.prog 210 := ⟨Tryz.isAgg210, Tryz.sizeOf210⟩
instance : ZeroT Tryz.prog 210 Value.nilFunc := ⟨Tryz.zeroValue210⟩
instance : OneT Tryz.prog 211 := ⟨Tryz.isAgg211, Tryz.sizeOf211⟩
instance : ZeroT Tryz.prog 211 Value.nilFunc := ⟨Tryz.zeroValue211⟩
instance : OneT Tryz.prog 212 := ⟨Tryz.isAgg212, Tryz.sizeOf212⟩
instance : ZeroT Tryz.prog 212 Value.nilFunc := ⟨Tryz.zeroValue212⟩
instance : UnderT Tryz.prog 213 (TypeDesc.array 20 149) := ⟨Tryz.underlying213⟩
instance : AggT Tryz.prog 213 20 := ⟨Tryz.isAgg213, Tryz.sizeOf213⟩
instance : BuildT Tryz.prog 213 (fun i => some (i * 1, 1)) #[Value.int IntKind.u64 0, Value.int IntKind.u64 0, Value.int IntKind.u64 0, Value.int IntKind.u64 0, Value.int IntKind.u64 0, Value.int IntKind.u64 0, Value.int IntKind.u64 0, Value.int IntKind.u64 0, Value.int IntKind.u64 0, Value.int IntKind.u64 0, Value.int IntKind.u64 0, Value.int IntKind.u64 0, Value.int IntKind.u64 0, Value.int IntKind.u64 0, Value.int IntKind.u64 0, Value.int IntKind.u64 0, Value.int IntKind.u64 0, Value.int IntKind.u64 0, Value.int IntKind.u64 0, Value.int IntKind.u64 0] := ⟨fun _ => by kernel_rfl⟩
instance : ArrT Tryz.prog 213 20 149 1 := ⟨Tryz.underlying213, Tryz.sizeOf149⟩
instance : ZeroT Tryz.prog 213 (Value.agg #[Value.int IntKind.u64 0, Value.int IntKind.u64 0, Value.int IntKind.u64 0, Value.int IntKind.u64 0, Value.int IntKind.u64 0, Value.int IntKind.u64 0, Value.int IntKind.u64 0, Value.int IntKind.u64 0, Value.int IntKind.u64 0, Value.int IntKind.u64 0, Value.int IntKind.u64 0, Value.int IntKind.u64 0, Value.int IntKind.u64 0, Value.int IntKind.u64 0, Value.int IntKind.u64 0, Value.int IntKind.u64 0, Value.int IntKind.u64 0, Value.int IntKind.u64 0, Value.int IntKind.u64 0, Value.int IntKind.u64 0]) := ⟨Tryz.zeroValue213⟩
instance : UnderT Tryz.prog 214 (TypeDesc.array 65 5) := ⟨Tryz.underlying214⟩
instance : AggT Tryz.prog 214 65 := ⟨Tryz.isAgg214, Tryz.sizeOf214⟩
instance : ArrT Tryz.prog 214 65 5 1 := ⟨Tryz.underlying214, Tryz.sizeOf5⟩
instance : ZeroT Tryz.prog 214 (Value.agg ([Value.int IntKind.u8 0, Value.int IntKind.u8 0, Value.int IntKind.u8 0, Value.int IntKind.u8 0, Value.int IntKind.u8 0, Value.int IntKind.u8 0, Value.int IntKind.u8 0, Value.int IntKind.u8 0, Value.int IntKind.u8 0, Value.int IntKind.u8 0, Value.int IntKind.u8 0, Value.int IntKind.u8 0, Value.int IntKind.u8 0, Value.int IntKind.u8 0, Value.int IntKind.u8 0, Value.int IntKind.u8 0, Value.int IntKind.u8 0, Value.int IntKind.u8 0, Value.int IntKind.u8 0, Value.int IntKind.u8 0, Value.int IntKind.u8 0, Value.int IntKind.u8 0, Value.int IntKind.u8 0, Value.int IntKind.u8 0, Value.int IntKind.u8 0, Value.int IntKind.u8 0, Value.int IntKind.u8 0, Value.int IntKind.u8 0, Value.int IntKind.u8 0, Value.int IntKind.u8 0, Value.int IntKind.u8 0, Value.int IntKind.u8 0].append [Value.int IntKind.u8 0, Value.int IntKind.u8 0, Value.int IntKind.u8 0, Value.int IntKind.u8 0, Value.int IntKind.u8 0, Value.int IntKind.u8 0, Value.int IntKind.u8 0, Value.int IntKind.u8 0, Value.int IntKind.u8 0, Value.int IntKind.u8 0, Value.int IntKind.u8 0, Value.int IntKind.u8 0, Value.int IntKind.u8 0, Value.int IntKind.u8 0, Value.int IntKind.u8 0, Value.int IntKind.u8 0, Value.int IntKind.u8 0, Value.int IntKind.u8 0, Value.int IntKind.u8 0, Value.int IntKind.u8 0, Value.int IntKind.u8 0, Value.int IntKind.u8 0, Value.int IntKind.u8 0, Value.int IntKind.u8 0, Value.int IntKind.u8 0, Value.int IntKind.u8 0, Value.int IntKind.u8 0, Value.int IntKind.u8 0, Value.int IntKind.u8 0, Value.int IntKind.u8 0, Value.int IntKind.u8 0, Value.int IntKind.u8 0, Value.int IntKind.u8 0]).toArray) := ⟨Tryz.zeroValue214⟩
instance : OneT Tryz.prog 216 := ⟨Tryz.isAgg216, Tryz.sizeOf216⟩
instance : ZeroT Tryz.prog 216 Value.nilFunc := ⟨Tryz.zeroValue216⟩
instance : OneT Tryz.prog 218 := ⟨Tryz.isAgg218, Tryz.sizeOf218⟩
instance : ZeroT Tryz.prog 218 Value.nilFunc := ⟨Tryz.zeroValue218⟩
instance : AggT Tryz.prog 219 3 := ⟨Tryz.isAgg219, Tryz.sizeOf219⟩
instance : FAddr Tryz.prog 219 0 0 := ⟨fun _ _ => by kernel_rfl⟩
instance : FAddr Tryz.prog 219 1 1 := ⟨fun _ _ => by kernel_rfl⟩
instance : FAddr Tryz.prog 219 2 2 := ⟨fun _ _ => by kernel_rfl⟩
instance : BuildT Tryz.prog 219 (fun i => #[(0, 1), (1, 1), (2, 1)][i]?) #[Value.string { data := #[] }, Value.string { data := #[] }, Value.nilIface] := ⟨fun _ => by kernel_rfl⟩
instance : ZeroT Tryz.prog 219 (Value.agg #[Value.string { data := #[] }, Value.string { data := #[] }, Value.nilIface]) := ⟨Tryz.zeroValue219⟩
instance : AggT Tryz.prog 220 3 := ⟨Tryz.isAgg220, Tryz.sizeOf220⟩
instance : FAddr Tryz.prog 220 0 0 := ⟨fun _ _ => by kernel_rfl⟩
instance : FAddr Tryz.prog 220 1 1 := ⟨fun _ _ => by kernel_rfl⟩
instance : FAddr Tryz.prog 220 2 2 := ⟨fun _ _ => by kernel_rfl⟩
instance : BuildT Tryz.prog 220 (fun i => #[(0, 1), (1, 1), (2, 1)][i]?) #[Value.string { data := #[] }, Value.string { data := #[] }, Value.nilIface] := ⟨fun _ => by kernel_rfl⟩
instance : ZeroT Tryz.prog 220 (Value.agg #[Value.string { data := #[] }, Value.string { data := #[] }, Value.nilIface]) := ⟨Tryz.zeroValue220⟩
instance : OneT Tryz.prog 221 := ⟨Tryz.isAgg221, Tryz.sizeOf221⟩
instance : ZeroT Tryz.prog 221 Value.nilFunc := ⟨Tryz.zeroValue221⟩
instance : UnderT Tryz.prog 222 (TypeDesc.pointer 205) := ⟨Tryz.underlying222⟩
instance : OneT Tryz.prog 222 := ⟨Tryz.isAgg222, Tryz.sizeOf222⟩
instance : ZeroT Tryz.prog 222 (Value.pointer none) := ⟨Tryz.zeroValue222⟩
instance : OneT Tryz.prog 223 := ⟨Tryz.isAgg223, Tryz.sizeOf223⟩
instance : ZeroT Tryz.prog 223 Value.nilFunc := ⟨Tryz.zeroValue223⟩
instance : UnderT Tryz.prog 224 (TypeDesc.array 256 5) := ⟨Tryz.underlying224⟩
instance : AggT Tryz.prog 224 256 := ⟨Tryz.isAgg224, Tryz.sizeOf224⟩
instance : AggT Tryz.prog 225 2 := ⟨Tryz.isAgg225, Tryz.sizeOf225⟩
instance : FAddr Tryz.prog 225 0 0 := ⟨fun _ _ => by kernel_rfl⟩
instance : FAddr Tryz.prog 225 1 1 := ⟨fun _ _ => by kernel_rfl⟩
instance : BuildT Tryz.prog 225 (fun i => #[(0, 1), (1, 1)][i]?) #[Value.int IntKind.u8 0, Value.int IntKind.u8 0] := ⟨fun _ => by kernel_rfl⟩
instance : ZeroT Tryz.prog 225 (Value.agg #[Value.int IntKind.u8 0, Value.int IntKind.u8 0]) := ⟨Tryz.zeroValue225⟩
instance : AggT Tryz.prog 226 2 := ⟨Tryz.isAgg226, Tryz.sizeOf226⟩
instance : FAddr Tryz.prog 226 0 0 := ⟨fun _ _ => by kernel_rfl⟩
instance : FAddr Tryz.prog 226 1 1 := ⟨fun _ _ => by kernel_rfl⟩
instance : BuildT Tryz.prog 226 (fun i => #[(0, 1), (1, 1)][i]?) #[Value.int IntKind.u8 0, Value.int IntKind.u8 0] := ⟨fun _ => by kernel_rfl⟩
instance : ZeroT Tryz.prog 226 (Value.agg #[Value.int IntKind.u8 0, Value.int IntKind.u8 0]) := ⟨Tryz.zeroValue226⟩
instance : UnderT Tryz.prog 227 (TypeDesc.array 16 226) := ⟨Tryz.underlying227⟩
instance : AggT Tryz.prog 227 32 := ⟨Tryz.isAgg227, Tryz.sizeOf227⟩
instance : BuildT Tryz.prog 227 (fun i => some (i * 2, 2)) #[Value.int IntKind.u8 0, Value.int IntKind.u8 0, Value.int IntKind.u8 0, Value.int IntKind.u8 0, Value.int IntKind.u8 0, Value.int IntKind.u8 0, Value.int IntKind.u8 0, Value.int IntKind.u8 0, Value.int IntKind.u8 0, Value.int IntKind.u8 0, Value.int IntKind.u8 0, Value.int IntKind.u8 0, Value.int IntKind.u8 0, Value.int IntKind.u8 0, Value.int IntKind.u8 0, Value.int IntKind.u8 0, Value.int IntKind.u8 0, Value.int IntKind.u8 0, Value.int IntKind.u8 0, Value.int IntKind.u8 0, Value.int IntKind.u8 0, Value.int IntKind.u8 0, Value.int IntKind.u8 0, Value.int IntKind.u8 0, Value.int IntKind.u8 0, Value.int IntKind.u8 0, Value.int IntKind.u8 0, Value.int IntKind.u8 0, Value.int IntKind.u8 0, Value.int IntKind.u8 0, Value.int IntKind.u8 0, Value.int IntKind.u8 0] := ⟨fun _ => by kernel_rfl⟩
instance : ArrT Tryz.prog 227 16 226 2 := ⟨Tryz.underlying227, Tryz.sizeOf226⟩
instance : ZeroT Tryz.prog 227 (Value.agg #[Value.int IntKind.u8 0, Value.int IntKind.u8 0, Value.int IntKind.u8 0, Value.int IntKind.u8 0, Value.int IntKind.u8 0, Value.int IntKind.u8 0, Value.int IntKind.u8 0, Value.int IntKind.u8 0, Value.int IntKind.u8 0, Value.int IntKind.u8 0, Value.int IntKind.u8 0, Value.int IntKind.u8 0, Value.int IntKind.u8 0, Value.int IntKind.u8 0, Value.int IntKind.u8 0, Value.int IntKind.u8 0, Value.int IntKind.u8 0, Value.int IntKind.u8 0, Value.int IntKind.u8 0, Value.int IntKind.u8 0, Value.int IntKind.u8 0, Value.int IntKind.u8 0, Value.int IntKind.u8 0, Value.int IntKind.u8 0, Value.int IntKind.u8 0, Value.int IntKind.u8 0, Value.int IntKind.u8 0, Value.int IntKind.u8 0, Value.int IntKind.u8 0, Value.int IntKind.u8 0, Value.int IntKind.u8 0, Value.int IntKind.u8 0]) := ⟨Tryz.zeroValue227⟩
instance : UnderT Tryz.prog 228 (TypeDesc.pointer 230) := ⟨Tryz.underlying228⟩
instance : OneT Tryz.prog 228 := ⟨Tryz.isAgg228, Tryz.sizeOf228⟩
instance : ZeroT Tryz.prog 228 (Value.pointer none) := ⟨Tryz.zeroValue228⟩
instance : AggT Tryz.prog 229 1 := ⟨Tryz.isAgg229, Tryz.sizeOf229⟩
instance : FAddr Tryz.prog 229 0 0 := ⟨fun _ _ => by kernel_rfl⟩
instance : BuildT Tryz.prog 229 (fun i => #[(0, 1)][i]?) #[Value.string { data := #[] }] := ⟨fun _ => by kernel_rfl⟩
instance : ZeroT Tryz.prog 229 (Value.agg #[Value.string { data := #[] }]) := ⟨Tryz.zeroValue229⟩
instance : AggT Tryz.prog 230 1 := ⟨Tryz.isAgg230, Tryz.sizeOf230⟩
instance : FAddr Tryz.prog 230 0 0 := ⟨fun _ _ => by kernel_rfl⟩
instance : BuildT Tryz.prog 230 (fun i => #[(0, 1)][i]?) #[Value.string { data := #[] }] := ⟨fun _ => by kernel_rfl⟩
instance : ZeroT Tryz.prog 230 (Value.agg #[Value.string { data := #[] }]) := ⟨Tryz.zeroValue230⟩
instance : UnderT Tryz.prog 231 (TypeDesc.array 32 5) := ⟨Tryz.underlying231⟩
instance : AggT Tryz.prog 231 32 := ⟨Tryz.isAgg231, Tryz.sizeOf231⟩
instance : BuildT Tryz.prog 231 (fun i => some (i * 1, 1)) #[Value.int IntKind.u8 0, Value.int IntKind.u8 0, Value.int IntKind.u8 0, Value.int IntKind.u8 0, Value.int IntKind.u8 0, Value.int IntKind.u8 0, Value.int IntKind.u8 0, Value.int IntKind.u8 0, Value.int IntKind.u8 0, Value.int IntKind.u8 0, Value.int IntKind.u8 0, Value.int IntKind.u8 0, Value.int IntKind.u8 0, Value.int IntKind.u8 0, Value.int IntKind.u8 0, Value.int IntKind.u8 0, Value.int IntKind.u8 0, Value.int IntKind.u8 0, Value.int IntKind.u8 0, Value.int IntKind.u8 0, Value.int IntKind.u8 0, Value.int IntKind.u8 0, Value.int IntKind.u8 0, Value.int IntKind.u8 0, Value.int IntKind.u8 0, Value.int IntKind.u8 0, Value.int IntKind.u8 0, Value.int IntKind.u8 0, Value.int IntKind.u8 0, Value.int IntKind.u8 0, Value.int IntKind.u8 0, Value.int IntKind.u8 0] := ⟨fun _ => by kernel_rfl⟩
instance : ArrT Tryz.prog 231 32 5 1 := ⟨Tryz.underlying231, Tryz.sizeOf5⟩
instance : ZeroT Tryz.prog 231 (Value.agg #[Value.int IntKind.u8 0, Value.int IntKind.u8 0, Value.int IntKind.u8 0, Value.int IntKind.u8 0, Value.int IntKind.u8 0, Value.int IntKind.u8 0, Value.int IntKind.u8 0, Value.int IntKind.u8 0, Value.int IntKind.u8 0, Value.int IntKind.u8 0, Value.int IntKind.u8 0, Value.int IntKind.u8 0, Value.int IntKind.u8 0, Value.int IntKind.u8 0, Value.int IntKind.u8 0, Value.int IntKind.u8 0, Value.int IntKind.u8 0, Value.int IntKind.u8 0, Value.int IntKind.u8 0, Value.int IntKind.u8 0, Value.int IntKind.u8 0, Value.int IntKind.u8 0, Value.int IntKind.u8 0, Value.int IntKind.u8 0, Value.int IntKind.u8 0, Value.int IntKind.u8 0, Value.int IntKind.u8 0, Value.int IntKind.u8 0, Value.int IntKind.u8 0, Value.int IntKind.u8 0, Value.int IntKind.u8 0, Value.int IntKind.u8 0]) := ⟨Tryz.zeroValue231⟩
instance : UnderT Tryz.prog 232 (TypeDesc.array 64 5) := ⟨Tryz.underlying232⟩
instance : AggT Tryz.prog 232 64 := ⟨Tryz.isAgg232, Tryz.sizeOf232⟩
instance : BuildT Tryz.prog 232 (fun i => some (i * 1, 1)) #[Value.int IntKind.u8 0, Value.int IntKind.u8 0, Value.int IntKind.u8 0, Value.int IntKind.u8 0, Value.int IntKind.u8 0, Value.int IntKind.u8 0, Value.int IntKind.u8 0, Value.int IntKind.u8 0, Value.int IntKind.u8 0, Value.int IntKind.u8 0, Value.int IntKind.u8 0, Value.int IntKind.u8 0, Value.int IntKind.u8 0, Value.int IntKind.u8 0, Value.int IntKind.u8 0, Value.int IntKind.u8 0, Value.int IntKind.u8 0, Value.int IntKind.u8 0, Value.int IntKind.u8 0, Value.int IntKind.u8 0, Value.int IntKind.u8 0, Value.int IntKind.u8 0, Value.int IntKind.u8 0, Value.int IntKind.u8 0, Value.int IntKind.u8 0, Value.int IntKind.u8 0, Value.int IntKind.u8 0, Value.int IntKind.u8 0, Value.int IntKind.u8 0, Value.int IntKind.u8 0, Value.int IntKind.u8 0, Value.int IntKind.u8 0, Value.int IntKind.u8 0, Value.int IntKind.u8 0, Value.int IntKind.u8 0, Value.int IntKind.u8 0, Value.int IntKind.u8 0, Value.int IntKind.u8 0, Value.int IntKind.u8 0, Value.int IntKind.u8 0, Value.int IntKind.u8 0, Value.int IntKind.u8 0, Value.int IntKind.u8 0, Value.int IntKind.u8 0, Value.int IntKind.u8 0, Value.int IntKind.u8 0, Value.int IntKind.u8 0, Value.int IntKind.u8 0, Value.int IntKind.u8 0, Value.int IntKind.u8 0, Value.int IntKind.u8 0, Value.int IntKind.u8 0, Value.int IntKind.u8 0, Value.int IntKind.u8 0, Value.int IntKind.u8 0, Value.int IntKind.u8 0, Value.int IntKind.u8 0, Value.int IntKind.u8 0, Value.int IntKind.u8 0, Value.int IntKind.u8 0, Value.int IntKind.u8 0, Value.int IntKind.u8 0, Value.int IntKind.u8 0, Value.int IntKind.u8 0] := ⟨fun _ => by kernel_rfl⟩
instance : ArrT Tryz.prog 232 64 5 1 := ⟨Tryz.underlying232, Tryz.sizeOf5⟩
instance : ZeroT Tryz.prog 232 (Value.agg #[Value.int IntKind.u8 0, Value.int IntKind.u8 0, Value.int IntKind.u8 0, Value.int IntKind.u8 0, Value.int IntKind.u8 0, Value.int IntKind.u8 0, Value.int IntKind.u8 0, Value.int IntKind.u8 0, Value.int IntKind.u8 0, Value.int IntKind.u8 0, Value.int IntKind.u8 0, Value.int IntKind.u8 0, Value.int IntKind.u8 0, Value.int IntKind.u8 0, Value.int IntKind.u8 0, Value.int IntKind.u8 0, Value.int IntKind.u8 0, Value.int IntKind.u8 0, Value.int IntKind.u8 0, Value.int IntKind.u8 0, Value.int IntKind.u8 0, Value.int IntKind.u8 0, Value.int IntKind.u8 0, Value.int IntKind.u8 0, Value.int IntKind.u8 0, Value.int IntKind.u8 0, Value.int IntKind.u8 0, Value.int IntKind.u8 0, Value.int IntKind.u8 0, Value.int IntKind.u8 0, Value.int IntKind.u8 0, Value.int IntKind.u8 0, Value.int IntKind.u8 0, Value.int IntKind.u8 0, Value.int IntKind.u8 0, Value.int IntKind.u8 0, Value.int IntKind.u8 0, Value.int IntKind.u8 0, Value.int IntKind.u8 0, Value.int IntKind.u8 0, Value.int IntKind.u8 0, Value.int IntKind.u8 0, Value.int IntKind.u8 0, Value.int IntKind.u8 0, Value.int IntKind.u8 0, Value.int IntKind.u8 0, Value.int IntKind.u8 0, Value.int IntKind.u8 0, Value.int IntKind.u8 0, Value.int IntKind.u8 0, Value.int IntKind.u8 0, Value.int IntKind.u8 0, Value.int IntKind.u8 0, Value.int IntKind.u8 0, Value.int IntKind.u8 0, Value.int IntKind.u8 0, Value.int IntKind.u8 0, Value.int IntKind.u8 0, Value.int IntKind.u8 0, Value.int IntKind.u8 0, Value.int IntKind.u8 0, Value.int IntKind.u8 0, Value.int IntKind.u8 0, Value.int IntKind.u8 0]) := ⟨Tryz.zeroValue232⟩
instance : AggT Tryz.prog 233 4 := ⟨Tryz.isAgg233, Tryz.sizeOf233⟩
instance : FAddr Tryz.prog 233 0 0 := ⟨fun _ _ => by kernel_rfl⟩
instance : FAddr Tryz.prog 233 1 1 := ⟨fun _ _ => by kernel_rfl⟩
instance : FAddr Tryz.prog 233 2 2 := ⟨fun _ _ => by kernel_rfl⟩
instance : FAddr Tryz.prog 233 3 3 := ⟨fun _ _ => by kernel_rfl⟩
instance : BuildT Tryz.prog 233 (fun i => #[(0, 1), (1, 1), (2, 1), (3, 1)][i]?) #[Value.pointer none, Value.pointer none, Value.pointer none, Value.string { data := #[] }] := ⟨fun _ => by kernel_rfl⟩
instance : ZeroT Tryz.prog 233 (Value.agg #[Value.pointer none, Value.pointer none, Value.pointer none, Value.string { data := #[] }]) := ⟨Tryz.zeroValue233⟩
instance : AggT Tryz.prog 234 4 := ⟨Tryz.isAgg234, Tryz.sizeOf234⟩
instance : FAddr Tryz.prog 234 0 0 := ⟨fun _ _ => by kernel_rfl⟩
instance : FAddr Tryz.prog 234 1 1 := ⟨fun _ _ => by kernel_rfl⟩
instance : FAddr Tryz.prog 234 2 2 := ⟨fun _ _ => by kernel_rfl⟩
instance : FAddr Tryz.prog 234 3 3 := ⟨fun _ _ => by kernel_rfl⟩
instance : BuildT Tryz.prog 234 (fun i => #[(0, 1), (1, 1), (2, 1), (3, 1)][i]?) #[Value.pointer none, Value.pointer none, Value.pointer none, Value.string { data := #[] }] := ⟨fun _ => by kernel_rfl⟩
instance : ZeroT Tryz.prog 234 (Value.agg #[Value.pointer none, Value.pointer none, Value.pointer none, Value.string { data := #[] }]) := ⟨Tryz.zeroValue234⟩
instance : UnderT Tryz.prog 235 (TypeDesc.array 0 16) := ⟨Tryz.underlying235⟩
instance : AggT Tryz.prog 235 0 := ⟨Tryz.isAgg235, Tryz.sizeOf235⟩
instance : BuildT Tryz.prog 235 (fun i => some (i * 1, 1)) #[] := ⟨fun _ => by kernel_rfl⟩
instance : ArrT Tryz.prog 235 0 16 1 := ⟨Tryz.underlying235, Tryz.sizeOf16⟩
instance : ZeroT Tryz.prog 235 (Value.agg #[]) := ⟨Tryz.zeroValue235⟩
instance : AggT Tryz.prog 236 0 := ⟨Tryz.isAgg236, Tryz.sizeOf236⟩
instance : BuildT Tryz.prog 236 (fun i => #[(0, 0)][i]?) #[] := ⟨fun _ => by kernel_rfl⟩
instance : ZeroT Tryz.prog 236 (Value.agg #[]) := ⟨Tryz.zeroValue236⟩
instance : AggT Tryz.prog 237 0 := ⟨Tryz.isAgg237, Tryz.sizeOf237⟩
instance : BuildT Tryz.prog 237 (fun i => #[(0, 0)][i]?) #[] := ⟨fun _ => by kernel_rfl⟩
instance : ZeroT Tryz.prog 237 (Value.agg #[]) := ⟨Tryz.zeroValue237⟩
instance : OneT Tryz.prog 238 := ⟨Tryz.isAgg238, Tryz.sizeOf238⟩
instance : ZeroT Tryz.prog 238 Value.nilFunc := ⟨Tryz.zeroValue238⟩
instance : UnderT Tryz.prog 239 (TypeDesc.int IntKind.u8) := ⟨Tryz.underlying239⟩
instance : OneT Tryz.prog 239 := ⟨Tryz.isAgg239, Tryz.sizeOf239⟩
instance : ZeroT Tryz.prog 239 (Value.int IntKind.u8 0) := ⟨Tryz.zeroValue239⟩
instance : UnderT Tryz.prog 240 (TypeDesc.int IntKind.u8) := ⟨Tryz.underlying240⟩
instance : OneT Tryz.prog 240 := ⟨Tryz.isAgg240, Tryz.sizeOf240⟩
instance : ZeroT Tryz.prog 240 (Value.int IntKind.u8 0) := ⟨Tryz.zeroValue240⟩
instance : OneT Tryz.prog 241 := ⟨Tryz.isAgg241, Tryz.sizeOf241⟩
instance : ZeroT Tryz.prog 241 Value.nilFunc := ⟨Tryz.zeroValue241⟩
instance : UnderT Tryz.prog 242 (TypeDesc.int IntKind.i32) := ⟨Tryz.underlying242⟩
instance : OneT Tryz.prog 242 := ⟨Tryz.isAgg242, Tryz.sizeOf242⟩
instance : ZeroT Tryz.prog 242 (Value.int IntKind.i32 0) := ⟨Tryz.zeroValue242⟩
instance : UnderT Tryz.prog 243 (TypeDesc.int IntKind.i32) := ⟨Tryz.underlying243⟩
instance : OneT Tryz.prog 243 := ⟨Tryz.isAgg243, Tryz.sizeOf243⟩
instance : ZeroT Tryz.prog 243 (Value.int IntKind.i32 0) := ⟨Tryz.zeroValue243⟩
instance : AggT Tryz.prog 244 11 := ⟨Tryz.isAgg244, Tryz.sizeOf244⟩
instance : FAddr Tryz.prog 244 0 0 := ⟨fun _ _ => by kernel_rfl⟩
instance : FAddr Tryz.prog 244 1 1 := ⟨fun _ _ => by kernel_rfl⟩
instance : FAddr Tryz.prog 244 2 2 := ⟨fun _ _ => by kernel_rfl⟩
instance : FAddr Tryz.prog 244 3 3 := ⟨fun _ _ => by kernel_rfl⟩
instance : FAddr Tryz.prog 244 4 4 := ⟨fun _ _ => by kernel_rfl⟩
instance : FAddr Tryz.prog 244 5 5 := ⟨fun _ _ => by kernel_rfl⟩
instance : FAddr Tryz.prog 244 6 6 := ⟨fun _ _ => by kernel_rfl⟩
instance : FAddr Tryz.prog 244 7 7 := ⟨fun _ _ => by kernel_rfl⟩
instance : FAddr Tryz.prog 244 8 8 := ⟨fun _ _ => by kernel_rfl⟩
instance : FAddr Tryz.prog 244 9 9 := ⟨fun _ _ => by kernel_rfl⟩
instance : FAddr Tryz.prog 244 10 10 := ⟨fun _ _ => by kernel_rfl⟩
instance : BuildT Tryz.prog 244 (fun i => #[(0, 1), (1, 1), (2, 1), (3, 1), (4, 1), (5, 1), (6, 1), (7, 1), (8, 1), (9, 1), (10, 1)][i]?) #[Value.int IntKind.u64 0, Value.int IntKind.u64 0, Value.int IntKind.u32 0, Value.int IntKind.u8 0, Value.int IntKind.u8 0, Value.int IntKind.u8 0, Value.int IntKind.u8 0, Value.nilFunc, Value.pointer none, Value.int IntKind.i32 0, Value.int IntKind.i32 0] := ⟨fun _ => by kernel_rfl⟩
instance : ZeroT Tryz.prog 244 (Value.agg #[Value.int IntKind.u64 0, Value.int IntKind.u64 0, Value.int IntKind.u32 0, Value.int IntKind.u8 0, Value.int IntKind.u8 0, Value.int IntKind.u8 0, Value.int IntKind.u8 0, Value.nilFunc, Value.pointer none, Value.int IntKind.i32 0, Value.int IntKind.i32 0]) := ⟨Tryz.zeroValue244⟩
instance : AggT Tryz.prog 245 11 := ⟨Tryz.isAgg245, Tryz.sizeOf245⟩
instance : FAddr Tryz.prog 245 0 0 := ⟨fun _ _ => by kernel_rfl⟩
instance : FAddr Tryz.prog 245 1 1 := ⟨fun _ _ => by kernel_rfl⟩
instance : FAddr Tryz.prog 245 2 2 := ⟨fun _ _ => by kernel_rfl⟩
instance : FAddr Tryz.prog 245 3 3 := ⟨fun _ _ => by kernel_rfl⟩
instance : FAddr Tryz.prog 245 4 4 := ⟨fun _ _ => by kernel_rfl⟩
instance : FAddr Tryz.prog 245 5 5 := ⟨fun _ _ => by kernel_rfl⟩
instance : FAddr Tryz.prog 245 6 6 := ⟨fun _ _ => by kernel_rfl⟩
instance : FAddr Tryz.prog 245 7 7 := ⟨fun _ _ => by kernel_rfl⟩
instance : FAddr Tryz.prog 245 8 8 := ⟨fun _ _ => by kernel_rfl⟩
instance : FAddr Tryz.prog 245 9 9 := ⟨fun _ _ => by kernel_rfl⟩
instance : FAddr Tryz.prog 245 10 10 := ⟨fun _ _ => by kernel_rfl⟩
instance : BuildT Tryz.prog 245 (fun i => #[(0, 1), (1, 1), (2, 1), (3, 1), (4, 1), (5, 1), (6, 1), (7, 1), (8, 1), (9, 1), (10, 1)][i]?) #[Value.int IntKind.u64 0, Value.int IntKind.u64 0, Value.int IntKind.u32 0, Value.int IntKind.u8 0, Value.int IntKind.u8 0, Value.int IntKind.u8 0, Value.int IntKind.u8 0, Value.nilFunc, Value.pointer none, Value.int IntKind.i32 0, Value.int IntKind.i32 0] := ⟨fun _ => by kernel_rfl⟩
instance : ZeroT Tryz.prog 245 (Value.agg #[Value.int IntKind.u64 0, Value.int IntKind.u64 0, Value.int IntKind.u32 0, Value.int IntKind.u8 0, Value.int IntKind.u8 0, Value.int IntKind.u8 0, Value.int IntKind.u8 0, Value.nilFunc, Value.pointer none, Value.int IntKind.i32 0, Value.int IntKind.i32 0]) := ⟨Tryz.zeroValue245⟩
instance : OneT Tryz.prog 246 := ⟨Tryz.isAgg246, Tryz.sizeOf246⟩
instance : ZeroT Tryz.prog 246 Value.nilFunc := ⟨Tryz.zeroValue246⟩
instance : CallF Tryz.prog 2 := ⟨Tryz.call2⟩
instance : CallF Tryz.prog 3 := ⟨Tryz.call3⟩
instance : CallF Tryz.prog 4 := ⟨Tryz.call4⟩
instance : CallF Tryz.prog 5 := ⟨Tryz.call5⟩
instance : CallF Tryz.prog 6 := ⟨Tryz.call6⟩
instance : CallF Tryz.prog 7 := ⟨Tryz.call7⟩
instance : CallF Tryz.prog 8 := ⟨Tryz.call8⟩
instance : CallF Tryz.prog 9 := ⟨Tryz.call9⟩
instance : CallF Tryz.prog 10 := ⟨Tryz.call10⟩
instance : CallF Tryz.prog 11 := ⟨Tryz.call11⟩
instance : CallF Tryz.prog 12 := ⟨Tryz.call12⟩
instance : CallF Tryz.prog 13 := ⟨Tryz.call13⟩
instance : CallF Tryz.prog 14 := ⟨Tryz.call14⟩
instance : CallF Tryz.prog 15 := ⟨Tryz.call15⟩
instance : CallF Tryz.prog 16 := ⟨Tryz.call16⟩
instance : CallF Tryz.prog 17 := ⟨Tryz.call17⟩
instance : CallF Tryz.prog 18 := ⟨Tryz.call18⟩
instance : CallF Tryz.prog 19 := ⟨Tryz.call19⟩
instance : CallF Tryz.prog 20 := ⟨Tryz.call20⟩
instance : CallF Tryz.prog 21 := ⟨Tryz.call21⟩
instance : CallF Tryz.prog 22 := ⟨Tryz.call22⟩
instance : CallF Tryz.prog 23 := ⟨Tryz.call23⟩
instance : CallF Tryz.prog 24 := ⟨Tryz.call24⟩
instance : CallF Tryz.prog 25 := ⟨Tryz.call25⟩
instance : CallF Tryz.prog 26 := ⟨Tryz.call26⟩
instance : CallF Tryz.prog 27 := ⟨Tryz.call27⟩
instance : CallF Tryz.prog 28 := ⟨Tryz.call28⟩
instance : CallF Tryz.prog 29 := ⟨Tryz.call29⟩
instance : CallF Tryz.prog 30 := ⟨Tryz.call30⟩
instance : CallF Tryz.prog 31 := ⟨Tryz.call31⟩
instance : CallF Tryz.prog 32 := ⟨Tryz.call32⟩
instance : CallF Tryz.prog 33 := ⟨Tryz.call33⟩
instance : CallF Tryz.prog 34 := ⟨Tryz.call34⟩
instance : CallF Tryz.prog 35 := ⟨Tryz.call35⟩
instance : CallF Tryz.prog 36 := ⟨Tryz.call36⟩
instance : CallF Tryz.prog 37 := ⟨Tryz.call37⟩
instance : CallF Tryz.prog 38 := ⟨Tryz.call38⟩
instance : CallF Tryz.prog 39 := ⟨Tryz.call39⟩
instance : CallF Tryz.prog 40 := ⟨Tryz.call40⟩
instance : CallF Tryz.prog 41 := ⟨Tryz.call41⟩
instance : CallF Tryz.prog 42 := ⟨Tryz.call42⟩
instance : CallF Tryz.prog 43 := ⟨Tryz.call43⟩
instance : CallF Tryz.prog 44 := ⟨Tryz.call44⟩
instance : CallF Tryz.prog 45 := ⟨Tryz.call45⟩
instance : CallF Tryz.prog 46 := ⟨Tryz.call46⟩
instance : CallF Tryz.prog 47 := ⟨Tryz.call47⟩
instance : CallF Tryz.prog 48 := ⟨Tryz.call48⟩
instance : CallF Tryz.prog 49 := ⟨Tryz.call49⟩
instance : CallF Tryz.prog 50 := ⟨Tryz.call50⟩
instance : CallF Tryz.prog 51 := ⟨Tryz.call51⟩
instance : CallF Tryz.prog 52 := ⟨Tryz.call52⟩
instance : CallF Tryz.prog 53 := ⟨Tryz.call53⟩
instance : CallF Tryz.prog 54 := ⟨Tryz.call54⟩
instance : CallF Tryz.prog 55 := ⟨Tryz.call55⟩
instance : CallF Tryz.prog 56 := ⟨Tryz.call56⟩
instance : CallF Tryz.prog 57 := ⟨Tryz.call57⟩
instance : CallF Tryz.prog 58 := ⟨Tryz.call58⟩
instance : CallF Tryz.prog 59 := ⟨Tryz.call59⟩
instance : CallF Tryz.prog 60 := ⟨Tryz.call60⟩
instance : CallF Tryz.prog 61 := ⟨Tryz.call61⟩
instance : CallF Tryz.prog 62 := ⟨Tryz.call62⟩
instance : CallF Tryz.prog 63 := ⟨Tryz.call63⟩
instance : CallF Tryz.prog 64 := ⟨Tryz.call64⟩
instance : CallF Tryz.prog 65 := ⟨Tryz.call65⟩
instance : CallF Tryz.prog 66 := ⟨Tryz.call66⟩
instance : CallF Tryz.prog 67 := ⟨Tryz.call67⟩
instance : CallF Tryz.prog 68 := ⟨Tryz.call68⟩
instance : CallF Tryz.prog 69 := ⟨Tryz.call69⟩
instance : CallF Tryz.prog 70 := ⟨Tryz.call70⟩
instance : CallF Tryz.prog 71 := ⟨Tryz.call71⟩
instance : CallF Tryz.prog 72 := ⟨Tryz.call72⟩
instance : CallF Tryz.prog 73 := ⟨Tryz.call73⟩
instance : CallF Tryz.prog 74 := ⟨Tryz.call74⟩
instance : CallF Tryz.prog 75 := ⟨Tryz.call75⟩
instance : CallF Tryz.prog 76 := ⟨Tryz.call76⟩
instance : CallF Tryz.prog 77 := ⟨Tryz.call77⟩
instance : CallF Tryz.prog 78 := ⟨Tryz.call78⟩
instance : CallF Tryz.prog 79 := ⟨Tryz.call79⟩
instance : CallF Tryz.prog 80 := ⟨Tryz.call80⟩
instance : CallF Tryz.prog 81 := ⟨Tryz.call81⟩
instance : CallF Tryz.prog 82 := ⟨Tryz.call82⟩
instance : CallF Tryz.prog 83 := ⟨Tryz.call83⟩
instance : CallF Tryz.prog 84 := ⟨Tryz.call84⟩
instance : CallF Tryz.prog 85 := ⟨Tryz.call85⟩
instance : CallF Tryz.prog 86 := ⟨Tryz.call86⟩
instance : CallF Tryz.prog 87 := ⟨Tryz.call87⟩
instance : CallF Tryz.prog 88 := ⟨Tryz.call88⟩
instance : CallF Tryz.prog 89 := ⟨Tryz.call89⟩
instance : CallF Tryz.prog 90 := ⟨Tryz.call90⟩
instance : CallF Tryz.prog 91 := ⟨Tryz.call91⟩
instance : CallF Tryz.prog 92 := ⟨Tryz.call92⟩
instance : CallF Tryz.prog 93 := ⟨Tryz.call93⟩
instance : CallF Tryz.prog 94 := ⟨Tryz.call94⟩
instance : CallF Tryz.prog 95 := ⟨Tryz.call95⟩
instance : CallF Tryz.prog 96 := ⟨Tryz.call96⟩
instance : CallF Tryz.prog 97 := ⟨Tryz.call97⟩
instance : CallF Tryz.prog 98 := ⟨Tryz.call98⟩
instance : CallF Tryz.prog 99 := ⟨Tryz.call99⟩
instance : CallF Tryz.prog 100 := ⟨Tryz.call100⟩
instance : CallF Tryz.prog 101 := ⟨Tryz.call101⟩
instance : CallF Tryz.prog 102 := ⟨Tryz.call102⟩
instance : CallF Tryz.prog 103 := ⟨Tryz.call103⟩
instance : CallF Tryz.prog 104 := ⟨Tryz.call104⟩
instance : CallF Tryz.prog 105 := ⟨Tryz.call105⟩
instance : CallF Tryz.prog 106 := ⟨Tryz.call106⟩
instance : CallF Tryz.prog 107 := ⟨Tryz.call107⟩
instance : CallF Tryz.prog 108 := ⟨Tryz.call108⟩
instance : CallF Tryz.prog 109 := ⟨Tryz.call109⟩
instance : CallF Tryz.prog 110 := ⟨Tryz.call110⟩
instance : CallF Tryz.prog 111 := ⟨Tryz.call111⟩
instance : CallF Tryz.prog 112 := ⟨Tryz.call112⟩
instance : CallF Tryz.prog 113 := ⟨Tryz.call113⟩
instance : CallF Tryz.prog 114 := ⟨Tryz.call114⟩
instance : CallF Tryz.prog 115 := ⟨Tryz.call115⟩
instance : CallF Tryz.prog 116 := ⟨Tryz.call116⟩
instance : CallF Tryz.prog 117 := ⟨Tryz.call117⟩
instance : CallF Tryz.prog 118 := ⟨Tryz.call118⟩
instance : CallF Tryz.prog 119 := ⟨Tryz.call119⟩
instance : CallF Tryz.prog 121 := ⟨Tryz.call121⟩
instance : CallF Tryz.prog 122 := ⟨Tryz.call122⟩
instance : CallF Tryz.prog 123 := ⟨Tryz.call123⟩
instance : CallF Tryz.prog 124 := ⟨Tryz.call124⟩
instance : CallF Tryz.prog 125 := ⟨Tryz.call125⟩
instance : CallF Tryz.prog 126 := ⟨Tryz.call126⟩
instance : CallF Tryz.prog 127 := ⟨Tryz.call127⟩
instance : CallF Tryz.prog 128 := ⟨Tryz.call128⟩
instance : CallF Tryz.prog 129 := ⟨Tryz.call129⟩
instance : CallF Tryz.prog 130 := ⟨Tryz.call130⟩
instance : CallF Tryz.prog 131 := ⟨Tryz.call131⟩
instance : CallF Tryz.prog 132 := ⟨Tryz.call132⟩
instance : CallF Tryz.prog 133 := ⟨Tryz.call133⟩
instance : CallF Tryz.prog 134 := ⟨Tryz.call134⟩
instance : CallF Tryz.prog 135 := ⟨Tryz.call135⟩
instance : CallF Tryz.prog 136 := ⟨Tryz.call136⟩
instance : CallF Tryz.prog 137 := ⟨Tryz.call137⟩
instance : CallF Tryz.prog 138 := ⟨Tryz.call138⟩
instance : CallF Tryz.prog 139 := ⟨Tryz.call139⟩
instance : CallF Tryz.prog 140 := ⟨Tryz.call140⟩
instance : CallF Tryz.prog 141 := ⟨Tryz.call141⟩
instance : CallF Tryz.prog 142 := ⟨Tryz.call142⟩
instance : CallF Tryz.prog 143 := ⟨Tryz.call143⟩
instance : CallF Tryz.prog 144 := ⟨Tryz.call144⟩
instance : CallF Tryz.prog 145 := ⟨Tryz.call145⟩
instance : CallF Tryz.prog 146 := ⟨Tryz.call146⟩
instance : CallF Tryz.prog 147 := ⟨Tryz.call147⟩
instance : CallF Tryz.prog 148 := ⟨Tryz.call148⟩
instance : CallF Tryz.prog 149 := ⟨Tryz.call149⟩
instance : CallF Tryz.prog 150 := ⟨Tryz.call150⟩
instance : CallF Tryz.prog 153 := ⟨Tryz.call153⟩
instance : CallF Tryz.prog 154 := ⟨Tryz.call154⟩
instance : CallF Tryz.prog 155 := ⟨Tryz.call155⟩
instance : CallF Tryz.prog 156 := ⟨Tryz.call156⟩
instance : CallF Tryz.prog 157 := ⟨Tryz.call157⟩
instance : CallF Tryz.prog 159 := ⟨Tryz.call159⟩
instance : CallF Tryz.prog 160 := ⟨Tryz.call160⟩
instance : CallF Tryz.prog 161 := ⟨Tryz.call161⟩
instance : CallF Tryz.prog 162 := ⟨Tryz.call162⟩
instance : CallF Tryz.prog 163 := ⟨Tryz.call163⟩
instance : CallF Tryz.prog 164 := ⟨Tryz.call164⟩
instance : CallF Tryz.prog 165 := ⟨Tryz.call165⟩
instance : CallF Tryz.prog 166 := ⟨Tryz.call166⟩
instance : CallF Tryz.prog 167 := ⟨Tryz.call167⟩
instance : CallF Tryz.prog 168 := ⟨Tryz.call168⟩
instance : CallF Tryz.prog 169 := ⟨Tryz.call169⟩
instance : CallF Tryz.prog 170 := ⟨Tryz.call170⟩
instance : CallF Tryz.prog 171 := ⟨Tryz.call171⟩
instance : CallF Tryz.prog 172 := ⟨Tryz.call172⟩
instance : CallF Tryz.prog 173 := ⟨Tryz.call173⟩
instance : CallF Tryz.prog 174 := ⟨Tryz.call174⟩
instance : CallF Tryz.prog 175 := ⟨Tryz.call175⟩
instance : CallF Tryz.prog 176 := ⟨Tryz.call176⟩
instance : CallF Tryz.prog 177 := ⟨Tryz.call177⟩
instance : CallF Tryz.prog 178 := ⟨Tryz.call178⟩
instance : CallF Tryz.prog 179 := ⟨Tryz.call179⟩
instance : CallF Tryz.prog 181 := ⟨Tryz.call181⟩
instance : CallF Tryz.prog 182 := ⟨Tryz.call182⟩
instance : CallF Tryz.prog 183 := ⟨Tryz.call183⟩
instance : CallF Tryz.prog 184 := ⟨Tryz.call184⟩
instance : CallF Tryz.prog 185 := ⟨Tryz.call185⟩
instance : CallF Tryz.prog 186 := ⟨Tryz.call186⟩
instance : CallF Tryz.prog 187 := ⟨Tryz.call187⟩
instance : CallF Tryz.prog 188 := ⟨Tryz.call188⟩
instance : CallF Tryz.prog 189 := ⟨Tryz.call189⟩
instance : CallF Tryz.prog 190 := ⟨Tryz.call190⟩
instance : CallF Tryz.prog 191 := ⟨Tryz.call191⟩
instance : CallF Tryz.prog 225 := ⟨Tryz.call225⟩
end Go.Own
