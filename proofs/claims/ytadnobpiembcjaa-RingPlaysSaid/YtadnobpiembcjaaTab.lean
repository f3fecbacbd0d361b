/-
  THE TABLES OF THE PROGRAM, as instances (printed by wip/tab.py out of the loaded program).
-/
import Derived.Test.YtadnobpiembcjaaProg
import Derived.Test.YtadnobpiembcjaaOwnC
import Derived.KernelRfl
namespace Go.Own
open Go.Proofs

instance : OneT Try.prog 1 := ⟨Try.isAgg1, Try.sizeOf1⟩
instance : ZeroT Try.prog 1 Value.nilFunc := ⟨Try.zeroValue1⟩
instance : UnderT Try.prog 2 (TypeDesc.int IntKind.i64) := ⟨Try.underlying2⟩
instance : OneT Try.prog 2 := ⟨Try.isAgg2, Try.sizeOf2⟩
instance : ZeroT Try.prog 2 (Value.int IntKind.i64 0) := ⟨Try.zeroValue2⟩
instance : UnderT Try.prog 3 (TypeDesc.int IntKind.i64) := ⟨Try.underlying3⟩
instance : OneT Try.prog 3 := ⟨Try.isAgg3, Try.sizeOf3⟩
instance : ZeroT Try.prog 3 (Value.int IntKind.i64 0) := ⟨Try.zeroValue3⟩
instance : UnderT Try.prog 4 (TypeDesc.bool) := ⟨Try.underlying4⟩
instance : OneT Try.prog 4 := ⟨Try.isAgg4, Try.sizeOf4⟩
instance : ZeroT Try.prog 4 (Value.bool false) := ⟨Try.zeroValue4⟩
instance : UnderT Try.prog 5 (TypeDesc.int IntKind.u8) := ⟨Try.underlying5⟩
instance : OneT Try.prog 5 := ⟨Try.isAgg5, Try.sizeOf5⟩
instance : ZeroT Try.prog 5 (Value.int IntKind.u8 0) := ⟨Try.zeroValue5⟩
instance : UnderT Try.prog 6 (TypeDesc.int IntKind.u8) := ⟨Try.underlying6⟩
instance : OneT Try.prog 6 := ⟨Try.isAgg6, Try.sizeOf6⟩
instance : ZeroT Try.prog 6 (Value.int IntKind.u8 0) := ⟨Try.zeroValue6⟩
instance : AggT Try.prog 7 4 := ⟨Try.isAgg7, Try.sizeOf7⟩
instance : FAddr Try.prog 7 0 0 := ⟨fun _ _ => by kernel_rfl⟩
instance : FAddr Try.prog 7 1 1 := ⟨fun _ _ => by kernel_rfl⟩
instance : FAddr Try.prog 7 2 2 := ⟨fun _ _ => by kernel_rfl⟩
instance : FAddr Try.prog 7 3 3 := ⟨fun _ _ => by kernel_rfl⟩
instance : BuildT Try.prog 7 (fun i => #[(0, 1), (1, 1), (2, 1), (3, 1)][i]?) #[Value.int IntKind.i64 0, Value.int IntKind.i64 0, Value.bool false, Value.int IntKind.u8 0] := ⟨fun _ => by kernel_rfl⟩
instance : ZeroT Try.prog 7 (Value.agg #[Value.int IntKind.i64 0, Value.int IntKind.i64 0, Value.bool false, Value.int IntKind.u8 0]) := ⟨Try.zeroValue7⟩
instance : AggT Try.prog 8 4 := ⟨Try.isAgg8, Try.sizeOf8⟩
instance : FAddr Try.prog 8 0 0 := ⟨fun _ _ => by kernel_rfl⟩
instance : FAddr Try.prog 8 1 1 := ⟨fun _ _ => by kernel_rfl⟩
instance : FAddr Try.prog 8 2 2 := ⟨fun _ _ => by kernel_rfl⟩
instance : FAddr Try.prog 8 3 3 := ⟨fun _ _ => by kernel_rfl⟩
instance : BuildT Try.prog 8 (fun i => #[(0, 1), (1, 1), (2, 1), (3, 1)][i]?) #[Value.int IntKind.i64 0, Value.int IntKind.i64 0, Value.bool false, Value.int IntKind.u8 0] := ⟨fun _ => by kernel_rfl⟩
instance : ZeroT Try.prog 8 (Value.agg #[Value.int IntKind.i64 0, Value.int IntKind.i64 0, Value.bool false, Value.int IntKind.u8 0]) := ⟨Try.zeroValue8⟩
instance : UnderT Try.prog 9 (TypeDesc.string) := ⟨Try.underlying9⟩
instance : OneT Try.prog 9 := ⟨Try.isAgg9, Try.sizeOf9⟩
instance : ZeroT Try.prog 9 (Value.string { data := #[] }) := ⟨Try.zeroValue9⟩
instance : UnderT Try.prog 10 (TypeDesc.string) := ⟨Try.underlying10⟩
instance : OneT Try.prog 10 := ⟨Try.isAgg10, Try.sizeOf10⟩
instance : ZeroT Try.prog 10 (Value.string { data := #[] }) := ⟨Try.zeroValue10⟩
instance : UnderT Try.prog 11 (TypeDesc.string) := ⟨Try.underlying11⟩
instance : OneT Try.prog 11 := ⟨Try.isAgg11, Try.sizeOf11⟩
instance : ZeroT Try.prog 11 (Value.string { data := #[] }) := ⟨Try.zeroValue11⟩
instance : UnderT Try.prog 12 (TypeDesc.int IntKind.u64) := ⟨Try.underlying12⟩
instance : OneT Try.prog 12 := ⟨Try.isAgg12, Try.sizeOf12⟩
instance : ZeroT Try.prog 12 (Value.int IntKind.u64 0) := ⟨Try.zeroValue12⟩
instance : AggT Try.prog 13 2 := ⟨Try.isAgg13, Try.sizeOf13⟩
instance : FAddr Try.prog 13 0 0 := ⟨fun _ _ => by kernel_rfl⟩
instance : FAddr Try.prog 13 1 1 := ⟨fun _ _ => by kernel_rfl⟩
instance : BuildT Try.prog 13 (fun i => #[(0, 1), (1, 1)][i]?) #[Value.string { data := #[] }, Value.int IntKind.u64 0] := ⟨fun _ => by kernel_rfl⟩
instance : ZeroT Try.prog 13 (Value.agg #[Value.string { data := #[] }, Value.int IntKind.u64 0]) := ⟨Try.zeroValue13⟩
instance : AggT Try.prog 14 2 := ⟨Try.isAgg14, Try.sizeOf14⟩
instance : FAddr Try.prog 14 0 0 := ⟨fun _ _ => by kernel_rfl⟩
instance : FAddr Try.prog 14 1 1 := ⟨fun _ _ => by kernel_rfl⟩
instance : BuildT Try.prog 14 (fun i => #[(0, 1), (1, 1)][i]?) #[Value.string { data := #[] }, Value.int IntKind.u64 0] := ⟨fun _ => by kernel_rfl⟩
instance : ZeroT Try.prog 14 (Value.agg #[Value.string { data := #[] }, Value.int IntKind.u64 0]) := ⟨Try.zeroValue14⟩
instance : UnderT Try.prog 15 (TypeDesc.pointer 45) := ⟨Try.underlying15⟩
instance : OneT Try.prog 15 := ⟨Try.isAgg15, Try.sizeOf15⟩
instance : ZeroT Try.prog 15 (Value.pointer none) := ⟨Try.zeroValue15⟩
instance : UnderT Try.prog 16 (TypeDesc.pointer 48) := ⟨Try.underlying16⟩
instance : OneT Try.prog 16 := ⟨Try.isAgg16, Try.sizeOf16⟩
instance : ZeroT Try.prog 16 (Value.pointer none) := ⟨Try.zeroValue16⟩
instance : UnderT Try.prog 17 (TypeDesc.pointer 57) := ⟨Try.underlying17⟩
instance : OneT Try.prog 17 := ⟨Try.isAgg17, Try.sizeOf17⟩
instance : ZeroT Try.prog 17 (Value.pointer none) := ⟨Try.zeroValue17⟩
instance : AggT Try.prog 18 1 := ⟨Try.isAgg18, Try.sizeOf18⟩
instance : FAddr Try.prog 18 0 0 := ⟨fun _ _ => by kernel_rfl⟩
instance : BuildT Try.prog 18 (fun i => #[(0, 1)][i]?) #[Value.pointer none] := ⟨fun _ => by kernel_rfl⟩
instance : ZeroT Try.prog 18 (Value.agg #[Value.pointer none]) := ⟨Try.zeroValue18⟩
instance : AggT Try.prog 19 1 := ⟨Try.isAgg19, Try.sizeOf19⟩
instance : FAddr Try.prog 19 0 0 := ⟨fun _ _ => by kernel_rfl⟩
instance : BuildT Try.prog 19 (fun i => #[(0, 1)][i]?) #[Value.pointer none] := ⟨fun _ => by kernel_rfl⟩
instance : ZeroT Try.prog 19 (Value.agg #[Value.pointer none]) := ⟨Try.zeroValue19⟩
instance : OneT Try.prog 20 := ⟨Try.isAgg20, Try.sizeOf20⟩
instance : ZeroT Try.prog 20 Value.nilIface := ⟨Try.zeroValue20⟩
instance : UnderT Try.prog 21 (TypeDesc.int IntKind.i32) := ⟨Try.underlying21⟩
instance : OneT Try.prog 21 := ⟨Try.isAgg21, Try.sizeOf21⟩
instance : ZeroT Try.prog 21 (Value.int IntKind.i32 0) := ⟨Try.zeroValue21⟩
instance : UnderT Try.prog 22 (TypeDesc.slice 31) := ⟨Try.underlying22⟩
instance : OneT Try.prog 22 := ⟨Try.isAgg22, Try.sizeOf22⟩
instance : ZeroT Try.prog 22 (Value.slice none 0 0) := ⟨Try.zeroValue22⟩
instance : SliceT Try.prog 22 31 3 40 (Value.agg #[Value.int IntKind.i64 0, Value.slice none 0 0, Value.int IntKind.i64 0]) := ⟨Try.underlying22, ⟨Try.t31, by kernel_rfl, rfl, rfl, rfl⟩, rfl⟩
instance : OneT Try.prog 23 := ⟨Try.isAgg23, Try.sizeOf23⟩
instance : ZeroT Try.prog 23 Value.nilFunc := ⟨Try.zeroValue23⟩
instance : OneT Try.prog 24 := ⟨Try.isAgg24, Try.sizeOf24⟩
instance : ZeroT Try.prog 24 Value.nilFunc := ⟨Try.zeroValue24⟩
instance : UnderT Try.prog 25 (TypeDesc.pointer 42) := ⟨Try.underlying25⟩
instance : OneT Try.prog 25 := ⟨Try.isAgg25, Try.sizeOf25⟩
instance : ZeroT Try.prog 25 (Value.pointer none) := ⟨Try.zeroValue25⟩
instance : OneT Try.prog 26 := ⟨Try.isAgg26, Try.sizeOf26⟩
instance : ZeroT Try.prog 26 Value.nilFunc := ⟨Try.zeroValue26⟩
instance : UnderT Try.prog 27 (TypeDesc.pointer 36) := ⟨Try.underlying27⟩
instance : OneT Try.prog 27 := ⟨Try.isAgg27, Try.sizeOf27⟩
instance : ZeroT Try.prog 27 (Value.pointer none) := ⟨Try.zeroValue27⟩
instance : OneT Try.prog 28 := ⟨Try.isAgg28, Try.sizeOf28⟩
instance : ZeroT Try.prog 28 Value.nilFunc := ⟨Try.zeroValue28⟩
instance : UnderT Try.prog 29 (TypeDesc.slice 5) := ⟨Try.underlying29⟩
instance : OneT Try.prog 29 := ⟨Try.isAgg29, Try.sizeOf29⟩
instance : ZeroT Try.prog 29 (Value.slice none 0 0) := ⟨Try.zeroValue29⟩
instance : SliceT Try.prog 29 5 1 1 (Value.int IntKind.u8 0) := ⟨Try.underlying29, ⟨Try.t5, by kernel_rfl, rfl, rfl, rfl⟩, rfl⟩
instance : AggT Try.prog 30 3 := ⟨Try.isAgg30, Try.sizeOf30⟩
instance : FAddr Try.prog 30 0 0 := ⟨fun _ _ => by kernel_rfl⟩
instance : FAddr Try.prog 30 1 1 := ⟨fun _ _ => by kernel_rfl⟩
instance : FAddr Try.prog 30 2 2 := ⟨fun _ _ => by kernel_rfl⟩
instance : BuildT Try.prog 30 (fun i => #[(0, 1), (1, 1), (2, 1)][i]?) #[Value.int IntKind.i64 0, Value.slice none 0 0, Value.int IntKind.i64 0] := ⟨fun _ => by kernel_rfl⟩
instance : ZeroT Try.prog 30 (Value.agg #[Value.int IntKind.i64 0, Value.slice none 0 0, Value.int IntKind.i64 0]) := ⟨Try.zeroValue30⟩
instance : AggT Try.prog 31 3 := ⟨Try.isAgg31, Try.sizeOf31⟩
instance : FAddr Try.prog 31 0 0 := ⟨fun _ _ => by kernel_rfl⟩
instance : FAddr Try.prog 31 1 1 := ⟨fun _ _ => by kernel_rfl⟩
instance : FAddr Try.prog 31 2 2 := ⟨fun _ _ => by kernel_rfl⟩
instance : BuildT Try.prog 31 (fun i => #[(0, 1), (1, 1), (2, 1)][i]?) #[Value.int IntKind.i64 0, Value.slice none 0 0, Value.int IntKind.i64 0] := ⟨fun _ => by kernel_rfl⟩
instance : ZeroT Try.prog 31 (Value.agg #[Value.int IntKind.i64 0, Value.slice none 0 0, Value.int IntKind.i64 0]) := ⟨Try.zeroValue31⟩
instance : OneT Try.prog 32 := ⟨Try.isAgg32, Try.sizeOf32⟩
instance : ZeroT Try.prog 32 Value.nilFunc := ⟨Try.zeroValue32⟩
instance : OneT Try.prog 33 := ⟨Try.isAgg33, Try.sizeOf33⟩
instance : ZeroT Try.prog 33 Value.nilFunc := ⟨Try.zeroValue33⟩
instance : OneT Try.prog 34 := ⟨Try.isAgg34, Try.sizeOf34⟩
instance : ZeroT Try.prog 34 Value.nilFunc := ⟨Try.zeroValue34⟩
instance : AggT Try.prog 35 2 := ⟨Try.isAgg35, Try.sizeOf35⟩
instance : FAddr Try.prog 35 0 0 := ⟨fun _ _ => by kernel_rfl⟩
instance : FAddr Try.prog 35 1 1 := ⟨fun _ _ => by kernel_rfl⟩
instance : BuildT Try.prog 35 (fun i => #[(0, 1), (1, 1)][i]?) #[Value.slice none 0 0, Value.int IntKind.i64 0] := ⟨fun _ => by kernel_rfl⟩
instance : ZeroT Try.prog 35 (Value.agg #[Value.slice none 0 0, Value.int IntKind.i64 0]) := ⟨Try.zeroValue35⟩
instance : AggT Try.prog 36 2 := ⟨Try.isAgg36, Try.sizeOf36⟩
instance : FAddr Try.prog 36 0 0 := ⟨fun _ _ => by kernel_rfl⟩
instance : FAddr Try.prog 36 1 1 := ⟨fun _ _ => by kernel_rfl⟩
instance : BuildT Try.prog 36 (fun i => #[(0, 1), (1, 1)][i]?) #[Value.slice none 0 0, Value.int IntKind.i64 0] := ⟨fun _ => by kernel_rfl⟩
instance : ZeroT Try.prog 36 (Value.agg #[Value.slice none 0 0, Value.int IntKind.i64 0]) := ⟨Try.zeroValue36⟩
instance : OneT Try.prog 37 := ⟨Try.isAgg37, Try.sizeOf37⟩
instance : ZeroT Try.prog 37 Value.nilFunc := ⟨Try.zeroValue37⟩
instance : OneT Try.prog 38 := ⟨Try.isAgg38, Try.sizeOf38⟩
instance : ZeroT Try.prog 38 Value.nilFunc := ⟨Try.zeroValue38⟩
instance : OneT Try.prog 39 := ⟨Try.isAgg39, Try.sizeOf39⟩
instance : ZeroT Try.prog 39 Value.nilFunc := ⟨Try.zeroValue39⟩
instance : OneT Try.prog 40 := ⟨Try.isAgg40, Try.sizeOf40⟩
instance : ZeroT Try.prog 40 Value.nilFunc := ⟨Try.zeroValue40⟩
instance : AggT Try.prog 41 3 := ⟨Try.isAgg41, Try.sizeOf41⟩
instance : FAddr Try.prog 41 0 0 := ⟨fun _ _ => by kernel_rfl⟩
instance : FAddr Try.prog 41 1 1 := ⟨fun _ _ => by kernel_rfl⟩
instance : FAddr Try.prog 41 2 2 := ⟨fun _ _ => by kernel_rfl⟩
instance : BuildT Try.prog 41 (fun i => #[(0, 1), (1, 1), (2, 1)][i]?) #[Value.slice none 0 0, Value.int IntKind.i64 0, Value.int IntKind.i64 0] := ⟨fun _ => by kernel_rfl⟩
instance : ZeroT Try.prog 41 (Value.agg #[Value.slice none 0 0, Value.int IntKind.i64 0, Value.int IntKind.i64 0]) := ⟨Try.zeroValue41⟩
instance : AggT Try.prog 42 3 := ⟨Try.isAgg42, Try.sizeOf42⟩
instance : FAddr Try.prog 42 0 0 := ⟨fun _ _ => by kernel_rfl⟩
instance : FAddr Try.prog 42 1 1 := ⟨fun _ _ => by kernel_rfl⟩
instance : FAddr Try.prog 42 2 2 := ⟨fun _ _ => by kernel_rfl⟩
instance : BuildT Try.prog 42 (fun i => #[(0, 1), (1, 1), (2, 1)][i]?) #[Value.slice none 0 0, Value.int IntKind.i64 0, Value.int IntKind.i64 0] := ⟨fun _ => by kernel_rfl⟩
instance : ZeroT Try.prog 42 (Value.agg #[Value.slice none 0 0, Value.int IntKind.i64 0, Value.int IntKind.i64 0]) := ⟨Try.zeroValue42⟩
instance : OneT Try.prog 43 := ⟨Try.isAgg43, Try.sizeOf43⟩
instance : ZeroT Try.prog 43 Value.nilFunc := ⟨Try.zeroValue43⟩
instance : AggT Try.prog 44 4 := ⟨Try.isAgg44, Try.sizeOf44⟩
instance : FAddr Try.prog 44 0 0 := ⟨fun _ _ => by kernel_rfl⟩
instance : FAddr Try.prog 44 1 1 := ⟨fun _ _ => by kernel_rfl⟩
instance : FAddr Try.prog 44 2 2 := ⟨fun _ _ => by kernel_rfl⟩
instance : FAddr Try.prog 44 3 3 := ⟨fun _ _ => by kernel_rfl⟩
instance : BuildT Try.prog 44 (fun i => #[(0, 1), (1, 1), (2, 1), (3, 1)][i]?) #[Value.pointer none, Value.pointer none, Value.pointer none, Value.string { data := #[] }] := ⟨fun _ => by kernel_rfl⟩
instance : ZeroT Try.prog 44 (Value.agg #[Value.pointer none, Value.pointer none, Value.pointer none, Value.string { data := #[] }]) := ⟨Try.zeroValue44⟩
instance : AggT Try.prog 45 4 := ⟨Try.isAgg45, Try.sizeOf45⟩
instance : FAddr Try.prog 45 0 0 := ⟨fun _ _ => by kernel_rfl⟩
instance : FAddr Try.prog 45 1 1 := ⟨fun _ _ => by kernel_rfl⟩
instance : FAddr Try.prog 45 2 2 := ⟨fun _ _ => by kernel_rfl⟩
instance : FAddr Try.prog 45 3 3 := ⟨fun _ _ => by kernel_rfl⟩
instance : BuildT Try.prog 45 (fun i => #[(0, 1), (1, 1), (2, 1), (3, 1)][i]?) #[Value.pointer none, Value.pointer none, Value.pointer none, Value.string { data := #[] }] := ⟨fun _ => by kernel_rfl⟩
instance : ZeroT Try.prog 45 (Value.agg #[Value.pointer none, Value.pointer none, Value.pointer none, Value.string { data := #[] }]) := ⟨Try.zeroValue45⟩
instance : UnderT Try.prog 46 (TypeDesc.array 0 16) := ⟨Try.underlying46⟩
instance : AggT Try.prog 46 0 := ⟨Try.isAgg46, Try.sizeOf46⟩
instance : BuildT Try.prog 46 (fun i => some (i * 1, 1)) #[] := ⟨fun _ => by kernel_rfl⟩
instance : ZeroT Try.prog 46 (Value.agg #[]) := ⟨Try.zeroValue46⟩
instance : AggT Try.prog 47 0 := ⟨Try.isAgg47, Try.sizeOf47⟩
instance : BuildT Try.prog 47 (fun i => #[(0, 0)][i]?) #[] := ⟨fun _ => by kernel_rfl⟩
instance : ZeroT Try.prog 47 (Value.agg #[]) := ⟨Try.zeroValue47⟩
instance : AggT Try.prog 48 0 := ⟨Try.isAgg48, Try.sizeOf48⟩
instance : BuildT Try.prog 48 (fun i => #[(0, 0)][i]?) #[] := ⟨fun _ => by kernel_rfl⟩
instance : ZeroT Try.prog 48 (Value.agg #[]) := ⟨Try.zeroValue48⟩
instance : UnderT Try.prog 49 (TypeDesc.int IntKind.u32) := ⟨Try.underlying49⟩
instance : OneT Try.prog 49 := ⟨Try.isAgg49, Try.sizeOf49⟩
instance : ZeroT Try.prog 49 (Value.int IntKind.u32 0) := ⟨Try.zeroValue49⟩
instance : UnderT Try.prog 50 (TypeDesc.int IntKind.u8) := ⟨Try.underlying50⟩
instance : OneT Try.prog 50 := ⟨Try.isAgg50, Try.sizeOf50⟩
instance : ZeroT Try.prog 50 (Value.int IntKind.u8 0) := ⟨Try.zeroValue50⟩
instance : UnderT Try.prog 51 (TypeDesc.int IntKind.u8) := ⟨Try.underlying51⟩
instance : OneT Try.prog 51 := ⟨Try.isAgg51, Try.sizeOf51⟩
instance : ZeroT Try.prog 51 (Value.int IntKind.u8 0) := ⟨Try.zeroValue51⟩
instance : OneT Try.prog 52 := ⟨Try.isAgg52, Try.sizeOf52⟩
instance : ZeroT Try.prog 52 Value.nilFunc := ⟨Try.zeroValue52⟩
instance : UnderT Try.prog 53 (TypeDesc.pointer 5) := ⟨Try.underlying53⟩
instance : OneT Try.prog 53 := ⟨Try.isAgg53, Try.sizeOf53⟩
instance : ZeroT Try.prog 53 (Value.pointer none) := ⟨Try.zeroValue53⟩
instance : UnderT Try.prog 54 (TypeDesc.int IntKind.i32) := ⟨Try.underlying54⟩
instance : OneT Try.prog 54 := ⟨Try.isAgg54, Try.sizeOf54⟩
instance : ZeroT Try.prog 54 (Value.int IntKind.i32 0) := ⟨Try.zeroValue54⟩
instance : UnderT Try.prog 55 (TypeDesc.int IntKind.i32) := ⟨Try.underlying55⟩
instance : OneT Try.prog 55 := ⟨Try.isAgg55, Try.sizeOf55⟩
instance : ZeroT Try.prog 55 (Value.int IntKind.i32 0) := ⟨Try.zeroValue55⟩
instance : AggT Try.prog 56 11 := ⟨Try.isAgg56, Try.sizeOf56⟩
instance : FAddr Try.prog 56 0 0 := ⟨fun _ _ => by kernel_rfl⟩
instance : FAddr Try.prog 56 1 1 := ⟨fun _ _ => by kernel_rfl⟩
instance : FAddr Try.prog 56 2 2 := ⟨fun _ _ => by kernel_rfl⟩
instance : FAddr Try.prog 56 3 3 := ⟨fun _ _ => by kernel_rfl⟩
instance : FAddr Try.prog 56 4 4 := ⟨fun _ _ => by kernel_rfl⟩
instance : FAddr Try.prog 56 5 5 := ⟨fun _ _ => by kernel_rfl⟩
instance : FAddr Try.prog 56 6 6 := ⟨fun _ _ => by kernel_rfl⟩
instance : FAddr Try.prog 56 7 7 := ⟨fun _ _ => by kernel_rfl⟩
instance : FAddr Try.prog 56 8 8 := ⟨fun _ _ => by kernel_rfl⟩
instance : FAddr Try.prog 56 9 9 := ⟨fun _ _ => by kernel_rfl⟩
instance : FAddr Try.prog 56 10 10 := ⟨fun _ _ => by kernel_rfl⟩
instance : BuildT Try.prog 56 (fun i => #[(0, 1), (1, 1), (2, 1), (3, 1), (4, 1), (5, 1), (6, 1), (7, 1), (8, 1), (9, 1), (10, 1)][i]?) #[Value.int IntKind.u64 0, Value.int IntKind.u64 0, Value.int IntKind.u32 0, Value.int IntKind.u8 0, Value.int IntKind.u8 0, Value.int IntKind.u8 0, Value.int IntKind.u8 0, Value.nilFunc, Value.pointer none, Value.int IntKind.i32 0, Value.int IntKind.i32 0] := ⟨fun _ => by kernel_rfl⟩
instance : ZeroT Try.prog 56 (Value.agg #[Value.int IntKind.u64 0, Value.int IntKind.u64 0, Value.int IntKind.u32 0, Value.int IntKind.u8 0, Value.int IntKind.u8 0, Value.int IntKind.u8 0, Value.int IntKind.u8 0, Value.nilFunc, Value.pointer none, Value.int IntKind.i32 0, Value.int IntKind.i32 0]) := ⟨Try.zeroValue56⟩
instance : AggT Try.prog 57 11 := ⟨Try.isAgg57, Try.sizeOf57⟩
instance : FAddr Try.prog 57 0 0 := ⟨fun _ _ => by kernel_rfl⟩
instance : FAddr Try.prog 57 1 1 := ⟨fun _ _ => by kernel_rfl⟩
instance : FAddr Try.prog 57 2 2 := ⟨fun _ _ => by kernel_rfl⟩
instance : FAddr Try.prog 57 3 3 := ⟨fun _ _ => by kernel_rfl⟩
instance : FAddr Try.prog 57 4 4 := ⟨fun _ _ => by kernel_rfl⟩
instance : FAddr Try.prog 57 5 5 := ⟨fun _ _ => by kernel_rfl⟩
instance : FAddr Try.prog 57 6 6 := ⟨fun _ _ => by kernel_rfl⟩
instance : FAddr Try.prog 57 7 7 := ⟨fun _ _ => by kernel_rfl⟩
instance : FAddr Try.prog 57 8 8 := ⟨fun _ _ => by kernel_rfl⟩
instance : FAddr Try.prog 57 9 9 := ⟨fun _ _ => by kernel_rfl⟩
instance : FAddr Try.prog 57 10 10 := ⟨fun _ _ => by kernel_rfl⟩
instance : BuildT Try.prog 57 (fun i => #[(0, 1), (1, 1), (2, 1), (3, 1), (4, 1), (5, 1), (6, 1), (7, 1), (8, 1), (9, 1), (10, 1)][i]?) #[Value.int IntKind.u64 0, Value.int IntKind.u64 0, Value.int IntKind.u32 0, Value.int IntKind.u8 0, Value.int IntKind.u8 0, Value.int IntKind.u8 0, Value.int IntKind.u8 0, Value.nilFunc, Value.pointer none, Value.int IntKind.i32 0, Value.int IntKind.i32 0] := ⟨fun _ => by kernel_rfl⟩
instance : ZeroT Try.prog 57 (Value.agg #[Value.int IntKind.u64 0, Value.int IntKind.u64 0, Value.int IntKind.u32 0, Value.int IntKind.u8 0, Value.int IntKind.u8 0, Value.int IntKind.u8 0, Value.int IntKind.u8 0, Value.nilFunc, Value.pointer none, Value.int IntKind.i32 0, Value.int IntKind.i32 0]) := ⟨Try.zeroValue57⟩
instance : OneT Try.prog 58 := ⟨Try.isAgg58, Try.sizeOf58⟩
instance : ZeroT Try.prog 58 (Value.pointer none) := ⟨Try.zeroValue58⟩
instance : CallF Try.prog 2 := ⟨Try.call2⟩
instance : CallF Try.prog 3 := ⟨Try.call3⟩
instance : CallF Try.prog 4 := ⟨Try.call4⟩
instance : CallF Try.prog 5 := ⟨Try.call5⟩
instance : CallF Try.prog 6 := ⟨Try.call6⟩
instance : CallF Try.prog 7 := ⟨Try.call7⟩
instance : CallF Try.prog 8 := ⟨Try.call8⟩
instance : CallF Try.prog 9 := ⟨Try.call9⟩
instance : CallF Try.prog 10 := ⟨Try.call10⟩
instance : CallF Try.prog 11 := ⟨Try.call11⟩
instance : CallF Try.prog 12 := ⟨Try.call12⟩
instance : CallF Try.prog 13 := ⟨Try.call13⟩
instance : CallF Try.prog 14 := ⟨Try.call14⟩
instance : CallF Try.prog 15 := ⟨Try.call15⟩
instance : CallF Try.prog 16 := ⟨Try.call16⟩
instance : CallF Try.prog 17 := ⟨Try.call17⟩
instance : CallF Try.prog 18 := ⟨Try.call18⟩
instance : CallF Try.prog 19 := ⟨Try.call19⟩
instance : CallF Try.prog 20 := ⟨Try.call20⟩
instance : CallF Try.prog 21 := ⟨Try.call21⟩
end Go.Own
