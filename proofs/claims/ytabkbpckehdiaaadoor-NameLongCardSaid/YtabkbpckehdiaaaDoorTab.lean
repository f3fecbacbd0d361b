/-
  THE TABLES OF THE PROGRAM, as instances (printed by wip/tab.py out of the loaded program).
-/
import Derived.Test.YtabkbpckehdiaaaDoorProg
import Derived.Test.YtabkbpckehdiaaaDoorOwnC
import Derived.KernelRfl
namespace Go.Own
open Go.Proofs

instance : OneT Tryd.prog 1 := ⟨Tryd.isAgg1, Tryd.sizeOf1⟩
instance : ZeroT Tryd.prog 1 Value.nilFunc := ⟨Tryd.zeroValue1⟩
instance : UnderT Tryd.prog 2 (TypeDesc.int IntKind.i64) := ⟨Tryd.underlying2⟩
instance : OneT Tryd.prog 2 := ⟨Tryd.isAgg2, Tryd.sizeOf2⟩
instance : ZeroT Tryd.prog 2 (Value.int IntKind.i64 0) := ⟨Tryd.zeroValue2⟩
instance : UnderT Tryd.prog 3 (TypeDesc.int IntKind.i64) := ⟨Tryd.underlying3⟩
instance : OneT Tryd.prog 3 := ⟨Tryd.isAgg3, Tryd.sizeOf3⟩
instance : ZeroT Tryd.prog 3 (Value.int IntKind.i64 0) := ⟨Tryd.zeroValue3⟩
instance : UnderT Tryd.prog 4 (TypeDesc.bool) := ⟨Tryd.underlying4⟩
instance : OneT Tryd.prog 4 := ⟨Tryd.isAgg4, Tryd.sizeOf4⟩
instance : ZeroT Tryd.prog 4 (Value.bool false) := ⟨Tryd.zeroValue4⟩
instance : UnderT Tryd.prog 5 (TypeDesc.int IntKind.u8) := ⟨Tryd.underlying5⟩
instance : OneT Tryd.prog 5 := ⟨Tryd.isAgg5, Tryd.sizeOf5⟩
instance : ZeroT Tryd.prog 5 (Value.int IntKind.u8 0) := ⟨Tryd.zeroValue5⟩
instance : UnderT Tryd.prog 6 (TypeDesc.int IntKind.u8) := ⟨Tryd.underlying6⟩
instance : OneT Tryd.prog 6 := ⟨Tryd.isAgg6, Tryd.sizeOf6⟩
instance : ZeroT Tryd.prog 6 (Value.int IntKind.u8 0) := ⟨Tryd.zeroValue6⟩
instance : AggT Tryd.prog 7 4 := ⟨Tryd.isAgg7, Tryd.sizeOf7⟩
instance : FAddr Tryd.prog 7 0 0 := ⟨fun _ _ => by kernel_rfl⟩
instance : FAddr Tryd.prog 7 1 1 := ⟨fun _ _ => by kernel_rfl⟩
instance : FAddr Tryd.prog 7 2 2 := ⟨fun _ _ => by kernel_rfl⟩
instance : FAddr Tryd.prog 7 3 3 := ⟨fun _ _ => by kernel_rfl⟩
instance : BuildT Tryd.prog 7 (fun i => #[(0, 1), (1, 1), (2, 1), (3, 1)][i]?) #[Value.int IntKind.i64 0, Value.int IntKind.i64 0, Value.bool false, Value.int IntKind.u8 0] := ⟨fun _ => by kernel_rfl⟩
instance : ZeroT Tryd.prog 7 (Value.agg #[Value.int IntKind.i64 0, Value.int IntKind.i64 0, Value.bool false, Value.int IntKind.u8 0]) := ⟨Tryd.zeroValue7⟩
instance : AggT Tryd.prog 8 4 := ⟨Tryd.isAgg8, Tryd.sizeOf8⟩
instance : FAddr Tryd.prog 8 0 0 := ⟨fun _ _ => by kernel_rfl⟩
instance : FAddr Tryd.prog 8 1 1 := ⟨fun _ _ => by kernel_rfl⟩
instance : FAddr Tryd.prog 8 2 2 := ⟨fun _ _ => by kernel_rfl⟩
instance : FAddr Tryd.prog 8 3 3 := ⟨fun _ _ => by kernel_rfl⟩
instance : BuildT Tryd.prog 8 (fun i => #[(0, 1), (1, 1), (2, 1), (3, 1)][i]?) #[Value.int IntKind.i64 0, Value.int IntKind.i64 0, Value.bool false, Value.int IntKind.u8 0] := ⟨fun _ => by kernel_rfl⟩
instance : ZeroT Tryd.prog 8 (Value.agg #[Value.int IntKind.i64 0, Value.int IntKind.i64 0, Value.bool false, Value.int IntKind.u8 0]) := ⟨Tryd.zeroValue8⟩
instance : UnderT Tryd.prog 9 (TypeDesc.string) := ⟨Tryd.underlying9⟩
instance : OneT Tryd.prog 9 := ⟨Tryd.isAgg9, Tryd.sizeOf9⟩
instance : ZeroT Tryd.prog 9 (Value.string { data := #[] }) := ⟨Tryd.zeroValue9⟩
instance : UnderT Tryd.prog 10 (TypeDesc.string) := ⟨Tryd.underlying10⟩
instance : OneT Tryd.prog 10 := ⟨Tryd.isAgg10, Tryd.sizeOf10⟩
instance : ZeroT Tryd.prog 10 (Value.string { data := #[] }) := ⟨Tryd.zeroValue10⟩
instance : UnderT Tryd.prog 11 (TypeDesc.string) := ⟨Tryd.underlying11⟩
instance : OneT Tryd.prog 11 := ⟨Tryd.isAgg11, Tryd.sizeOf11⟩
instance : ZeroT Tryd.prog 11 (Value.string { data := #[] }) := ⟨Tryd.zeroValue11⟩
instance : UnderT Tryd.prog 12 (TypeDesc.int IntKind.u64) := ⟨Tryd.underlying12⟩
instance : OneT Tryd.prog 12 := ⟨Tryd.isAgg12, Tryd.sizeOf12⟩
instance : ZeroT Tryd.prog 12 (Value.int IntKind.u64 0) := ⟨Tryd.zeroValue12⟩
instance : AggT Tryd.prog 13 2 := ⟨Tryd.isAgg13, Tryd.sizeOf13⟩
instance : FAddr Tryd.prog 13 0 0 := ⟨fun _ _ => by kernel_rfl⟩
instance : FAddr Tryd.prog 13 1 1 := ⟨fun _ _ => by kernel_rfl⟩
instance : BuildT Tryd.prog 13 (fun i => #[(0, 1), (1, 1)][i]?) #[Value.string { data := #[] }, Value.int IntKind.u64 0] := ⟨fun _ => by kernel_rfl⟩
instance : ZeroT Tryd.prog 13 (Value.agg #[Value.string { data := #[] }, Value.int IntKind.u64 0]) := ⟨Tryd.zeroValue13⟩
instance : AggT Tryd.prog 14 2 := ⟨Tryd.isAgg14, Tryd.sizeOf14⟩
instance : FAddr Tryd.prog 14 0 0 := ⟨fun _ _ => by kernel_rfl⟩
instance : FAddr Tryd.prog 14 1 1 := ⟨fun _ _ => by kernel_rfl⟩
instance : BuildT Tryd.prog 14 (fun i => #[(0, 1), (1, 1)][i]?) #[Value.string { data := #[] }, Value.int IntKind.u64 0] := ⟨fun _ => by kernel_rfl⟩
instance : ZeroT Tryd.prog 14 (Value.agg #[Value.string { data := #[] }, Value.int IntKind.u64 0]) := ⟨Tryd.zeroValue14⟩
instance : UnderT Tryd.prog 15 (TypeDesc.pointer 130) := ⟨Tryd.underlying15⟩
instance : OneT Tryd.prog 15 := ⟨Tryd.isAgg15, Tryd.sizeOf15⟩
instance : ZeroT Tryd.prog 15 (Value.pointer none) := ⟨Tryd.zeroValue15⟩
instance : UnderT Tryd.prog 16 (TypeDesc.pointer 133) := ⟨Tryd.underlying16⟩
instance : OneT Tryd.prog 16 := ⟨Tryd.isAgg16, Tryd.sizeOf16⟩
instance : ZeroT Tryd.prog 16 (Value.pointer none) := ⟨Tryd.zeroValue16⟩
instance : UnderT Tryd.prog 17 (TypeDesc.pointer 141) := ⟨Tryd.underlying17⟩
instance : OneT Tryd.prog 17 := ⟨Tryd.isAgg17, Tryd.sizeOf17⟩
instance : ZeroT Tryd.prog 17 (Value.pointer none) := ⟨Tryd.zeroValue17⟩
instance : AggT Tryd.prog 18 1 := ⟨Tryd.isAgg18, Tryd.sizeOf18⟩
instance : FAddr Tryd.prog 18 0 0 := ⟨fun _ _ => by kernel_rfl⟩
instance : BuildT Tryd.prog 18 (fun i => #[(0, 1)][i]?) #[Value.pointer none] := ⟨fun _ => by kernel_rfl⟩
instance : ZeroT Tryd.prog 18 (Value.agg #[Value.pointer none]) := ⟨Tryd.zeroValue18⟩
instance : AggT Tryd.prog 19 1 := ⟨Tryd.isAgg19, Tryd.sizeOf19⟩
instance : FAddr Tryd.prog 19 0 0 := ⟨fun _ _ => by kernel_rfl⟩
instance : BuildT Tryd.prog 19 (fun i => #[(0, 1)][i]?) #[Value.pointer none] := ⟨fun _ => by kernel_rfl⟩
instance : ZeroT Tryd.prog 19 (Value.agg #[Value.pointer none]) := ⟨Tryd.zeroValue19⟩
instance : UnderT Tryd.prog 20 (TypeDesc.interface #[]) := ⟨Tryd.underlying20⟩
instance : OneT Tryd.prog 20 := ⟨Tryd.isAgg20, Tryd.sizeOf20⟩
instance : ZeroT Tryd.prog 20 Value.nilIface := ⟨Tryd.zeroValue20⟩
instance : UnderT Tryd.prog 21 (TypeDesc.int IntKind.i32) := ⟨Tryd.underlying21⟩
instance : OneT Tryd.prog 21 := ⟨Tryd.isAgg21, Tryd.sizeOf21⟩
instance : ZeroT Tryd.prog 21 (Value.int IntKind.i32 0) := ⟨Tryd.zeroValue21⟩
instance : OneT Tryd.prog 22 := ⟨Tryd.isAgg22, Tryd.sizeOf22⟩
instance : ZeroT Tryd.prog 22 Value.nilFunc := ⟨Tryd.zeroValue22⟩
instance : UnderT Tryd.prog 23 (TypeDesc.int IntKind.i64) := ⟨Tryd.underlying23⟩
instance : OneT Tryd.prog 23 := ⟨Tryd.isAgg23, Tryd.sizeOf23⟩
instance : ZeroT Tryd.prog 23 (Value.int IntKind.i64 0) := ⟨Tryd.zeroValue23⟩
instance : OneT Tryd.prog 25 := ⟨Tryd.isAgg25, Tryd.sizeOf25⟩
instance : ZeroT Tryd.prog 25 Value.nilFunc := ⟨Tryd.zeroValue25⟩
instance : OneT Tryd.prog 26 := ⟨Tryd.isAgg26, Tryd.sizeOf26⟩
instance : ZeroT Tryd.prog 26 Value.nilFunc := ⟨Tryd.zeroValue26⟩
instance : UnderT Tryd.prog 27 (TypeDesc.array 16 5) := ⟨Tryd.underlying27⟩
instance : AggT Tryd.prog 27 16 := ⟨Tryd.isAgg27, Tryd.sizeOf27⟩
instance : BuildT Tryd.prog 27 (fun i => some (i * 1, 1)) #[Value.int IntKind.u8 0, Value.int IntKind.u8 0, Value.int IntKind.u8 0, Value.int IntKind.u8 0, Value.int IntKind.u8 0, Value.int IntKind.u8 0, Value.int IntKind.u8 0, Value.int IntKind.u8 0, Value.int IntKind.u8 0, Value.int IntKind.u8 0, Value.int IntKind.u8 0, Value.int IntKind.u8 0, Value.int IntKind.u8 0, Value.int IntKind.u8 0, Value.int IntKind.u8 0, Value.int IntKind.u8 0] := ⟨fun _ => by kernel_rfl⟩
instance : ArrT Tryd.prog 27 16 5 1 := ⟨Tryd.underlying27, Tryd.sizeOf5⟩
instance : ZeroT Tryd.prog 27 (Value.agg #[Value.int IntKind.u8 0, Value.int IntKind.u8 0, Value.int IntKind.u8 0, Value.int IntKind.u8 0, Value.int IntKind.u8 0, Value.int IntKind.u8 0, Value.int IntKind.u8 0, Value.int IntKind.u8 0, Value.int IntKind.u8 0, Value.int IntKind.u8 0, Value.int IntKind.u8 0, Value.int IntKind.u8 0, Value.int IntKind.u8 0, Value.int IntKind.u8 0, Value.int IntKind.u8 0, Value.int IntKind.u8 0]) := ⟨Tryd.zeroValue27⟩
instance : UnderT Tryd.prog 28 (TypeDesc.array 16 5) := ⟨Tryd.underlying28⟩
instance : AggT Tryd.prog 28 16 := ⟨Tryd.isAgg28, Tryd.sizeOf28⟩
instance : BuildT Tryd.prog 28 (fun i => some (i * 1, 1)) #[Value.int IntKind.u8 0, Value.int IntKind.u8 0, Value.int IntKind.u8 0, Value.int IntKind.u8 0, Value.int IntKind.u8 0, Value.int IntKind.u8 0, Value.int IntKind.u8 0, Value.int IntKind.u8 0, Value.int IntKind.u8 0, Value.int IntKind.u8 0, Value.int IntKind.u8 0, Value.int IntKind.u8 0, Value.int IntKind.u8 0, Value.int IntKind.u8 0, Value.int IntKind.u8 0, Value.int IntKind.u8 0] := ⟨fun _ => by kernel_rfl⟩
instance : ArrT Tryd.prog 28 16 5 1 := ⟨Tryd.underlying28, Tryd.sizeOf5⟩
instance : ZeroT Tryd.prog 28 (Value.agg #[Value.int IntKind.u8 0, Value.int IntKind.u8 0, Value.int IntKind.u8 0, Value.int IntKind.u8 0, Value.int IntKind.u8 0, Value.int IntKind.u8 0, Value.int IntKind.u8 0, Value.int IntKind.u8 0, Value.int IntKind.u8 0, Value.int IntKind.u8 0, Value.int IntKind.u8 0, Value.int IntKind.u8 0, Value.int IntKind.u8 0, Value.int IntKind.u8 0, Value.int IntKind.u8 0, Value.int IntKind.u8 0]) := ⟨Tryd.zeroValue28⟩
instance : OneT Tryd.prog 30 := ⟨Tryd.isAgg30, Tryd.sizeOf30⟩
instance : ZeroT Tryd.prog 30 Value.nilFunc := ⟨Tryd.zeroValue30⟩
instance : OneT Tryd.prog 31 := ⟨Tryd.isAgg31, Tryd.sizeOf31⟩
instance : ZeroT Tryd.prog 31 Value.nilFunc := ⟨Tryd.zeroValue31⟩
instance : UnderT Tryd.prog 32 (TypeDesc.slice 9) := ⟨Tryd.underlying32⟩
instance : OneT Tryd.prog 32 := ⟨Tryd.isAgg32, Tryd.sizeOf32⟩
instance : ZeroT Tryd.prog 32 (Value.slice none 0 0) := ⟨Tryd.zeroValue32⟩
instance : SliceT Tryd.prog 32 9 1 16 (Value.string { data := #[] }) := ⟨Tryd.underlying32, ⟨Tryd.t9, by kernel_rfl, rfl, rfl, rfl⟩, rfl⟩
instance : OneT Tryd.prog 33 := ⟨Tryd.isAgg33, Tryd.sizeOf33⟩
instance : ZeroT Tryd.prog 33 Value.nilFunc := ⟨Tryd.zeroValue33⟩
instance : OneT Tryd.prog 34 := ⟨Tryd.isAgg34, Tryd.sizeOf34⟩
instance : ZeroT Tryd.prog 34 Value.nilFunc := ⟨Tryd.zeroValue34⟩
instance : OneT Tryd.prog 35 := ⟨Tryd.isAgg35, Tryd.sizeOf35⟩
instance : ZeroT Tryd.prog 35 Value.nilFunc := ⟨Tryd.zeroValue35⟩
instance : UnderT Tryd.prog 36 (TypeDesc.slice 5) := ⟨Tryd.underlying36⟩
instance : OneT Tryd.prog 36 := ⟨Tryd.isAgg36, Tryd.sizeOf36⟩
instance : ZeroT Tryd.prog 36 (Value.slice none 0 0) := ⟨Tryd.zeroValue36⟩
instance : SliceT Tryd.prog 36 5 1 1 (Value.int IntKind.u8 0) := ⟨Tryd.underlying36, ⟨Tryd.t5, by kernel_rfl, rfl, rfl, rfl⟩, rfl⟩
instance : OneT Tryd.prog 37 := ⟨Tryd.isAgg37, Tryd.sizeOf37⟩
instance : ZeroT Tryd.prog 37 Value.nilFunc := ⟨Tryd.zeroValue37⟩
instance : OneT Tryd.prog 38 := ⟨Tryd.isAgg38, Tryd.sizeOf38⟩
instance : ZeroT Tryd.prog 38 Value.nilFunc := ⟨Tryd.zeroValue38⟩
instance : OneT Tryd.prog 39 := ⟨Tryd.isAgg39, Tryd.sizeOf39⟩
instance : ZeroT Tryd.prog 39 Value.nilFunc := ⟨Tryd.zeroValue39⟩
instance : OneT Tryd.prog 40 := ⟨Tryd.isAgg40, Tryd.sizeOf40⟩
instance : ZeroT Tryd.prog 40 Value.nilFunc := ⟨Tryd.zeroValue40⟩
instance : OneT Tryd.prog 41 := ⟨Tryd.isAgg41, Tryd.sizeOf41⟩
instance : ZeroT Tryd.prog 41 Value.nilFunc := ⟨Tryd.zeroValue41⟩
instance : OneT Tryd.prog 42 := ⟨Tryd.isAgg42, Tryd.sizeOf42⟩
instance : ZeroT Tryd.prog 42 Value.nilFunc := ⟨Tryd.zeroValue42⟩
instance : OneT Tryd.prog 43 := ⟨Tryd.isAgg43, Tryd.sizeOf43⟩
instance : ZeroT Tryd.prog 43 Value.nilFunc := ⟨Tryd.zeroValue43⟩
instance : UnderT Tryd.prog 44 (TypeDesc.array 4 5) := ⟨Tryd.underlying44⟩
instance : AggT Tryd.prog 44 4 := ⟨Tryd.isAgg44, Tryd.sizeOf44⟩
instance : BuildT Tryd.prog 44 (fun i => some (i * 1, 1)) #[Value.int IntKind.u8 0, Value.int IntKind.u8 0, Value.int IntKind.u8 0, Value.int IntKind.u8 0] := ⟨fun _ => by kernel_rfl⟩
instance : ArrT Tryd.prog 44 4 5 1 := ⟨Tryd.underlying44, Tryd.sizeOf5⟩
instance : ZeroT Tryd.prog 44 (Value.agg #[Value.int IntKind.u8 0, Value.int IntKind.u8 0, Value.int IntKind.u8 0, Value.int IntKind.u8 0]) := ⟨Tryd.zeroValue44⟩
instance : OneT Tryd.prog 46 := ⟨Tryd.isAgg46, Tryd.sizeOf46⟩
instance : ZeroT Tryd.prog 46 Value.nilFunc := ⟨Tryd.zeroValue46⟩
instance : OneT Tryd.prog 47 := ⟨Tryd.isAgg47, Tryd.sizeOf47⟩
instance : ZeroT Tryd.prog 47 Value.nilFunc := ⟨Tryd.zeroValue47⟩
instance : OneT Tryd.prog 49 := ⟨Tryd.isAgg49, Tryd.sizeOf49⟩
instance : ZeroT Tryd.prog 49 Value.nilFunc := ⟨Tryd.zeroValue49⟩
instance : OneT Tryd.prog 51 := ⟨Tryd.isAgg51, Tryd.sizeOf51⟩
instance : ZeroT Tryd.prog 51 Value.nilFunc := ⟨Tryd.zeroValue51⟩
instance : OneT Tryd.prog 52 := ⟨Tryd.isAgg52, Tryd.sizeOf52⟩
instance : ZeroT Tryd.prog 52 Value.nilFunc := ⟨Tryd.zeroValue52⟩
instance : OneT Tryd.prog 53 := ⟨Tryd.isAgg53, Tryd.sizeOf53⟩
instance : ZeroT Tryd.prog 53 Value.nilFunc := ⟨Tryd.zeroValue53⟩
instance : OneT Tryd.prog 54 := ⟨Tryd.isAgg54, Tryd.sizeOf54⟩
instance : ZeroT Tryd.prog 54 Value.nilFunc := ⟨Tryd.zeroValue54⟩
instance : UnderT Tryd.prog 55 (TypeDesc.int IntKind.u16) := ⟨Tryd.underlying55⟩
instance : OneT Tryd.prog 55 := ⟨Tryd.isAgg55, Tryd.sizeOf55⟩
instance : ZeroT Tryd.prog 55 (Value.int IntKind.u16 0) := ⟨Tryd.zeroValue55⟩
instance : UnderT Tryd.prog 56 (TypeDesc.array 8 55) := ⟨Tryd.underlying56⟩
instance : AggT Tryd.prog 56 8 := ⟨Tryd.isAgg56, Tryd.sizeOf56⟩
instance : BuildT Tryd.prog 56 (fun i => some (i * 1, 1)) #[Value.int IntKind.u16 0, Value.int IntKind.u16 0, Value.int IntKind.u16 0, Value.int IntKind.u16 0, Value.int IntKind.u16 0, Value.int IntKind.u16 0, Value.int IntKind.u16 0, Value.int IntKind.u16 0] := ⟨fun _ => by kernel_rfl⟩
instance : ArrT Tryd.prog 56 8 55 1 := ⟨Tryd.underlying56, Tryd.sizeOf55⟩
instance : ZeroT Tryd.prog 56 (Value.agg #[Value.int IntKind.u16 0, Value.int IntKind.u16 0, Value.int IntKind.u16 0, Value.int IntKind.u16 0, Value.int IntKind.u16 0, Value.int IntKind.u16 0, Value.int IntKind.u16 0, Value.int IntKind.u16 0]) := ⟨Tryd.zeroValue56⟩
instance : UnderT Tryd.prog 57 (TypeDesc.int IntKind.u64) := ⟨Tryd.underlying57⟩
instance : OneT Tryd.prog 57 := ⟨Tryd.isAgg57, Tryd.sizeOf57⟩
instance : ZeroT Tryd.prog 57 (Value.int IntKind.u64 0) := ⟨Tryd.zeroValue57⟩
instance : UnderT Tryd.prog 58 (TypeDesc.slice 55) := ⟨Tryd.underlying58⟩
instance : OneT Tryd.prog 58 := ⟨Tryd.isAgg58, Tryd.sizeOf58⟩
instance : ZeroT Tryd.prog 58 (Value.slice none 0 0) := ⟨Tryd.zeroValue58⟩
instance : SliceT Tryd.prog 58 55 1 2 (Value.int IntKind.u16 0) := ⟨Tryd.underlying58, ⟨Tryd.t55, by kernel_rfl, rfl, rfl, rfl⟩, rfl⟩
instance : OneT Tryd.prog 59 := ⟨Tryd.isAgg59, Tryd.sizeOf59⟩
instance : ZeroT Tryd.prog 59 Value.nilFunc := ⟨Tryd.zeroValue59⟩
instance : UnderT Tryd.prog 60 (TypeDesc.int IntKind.u64) := ⟨Tryd.underlying60⟩
instance : OneT Tryd.prog 60 := ⟨Tryd.isAgg60, Tryd.sizeOf60⟩
instance : ZeroT Tryd.prog 60 (Value.int IntKind.u64 0) := ⟨Tryd.zeroValue60⟩
instance : OneT Tryd.prog 61 := ⟨Tryd.isAgg61, Tryd.sizeOf61⟩
instance : ZeroT Tryd.prog 61 Value.nilFunc := ⟨Tryd.zeroValue61⟩
instance : OneT Tryd.prog 63 := ⟨Tryd.isAgg63, Tryd.sizeOf63⟩
instance : ZeroT Tryd.prog 63 Value.nilFunc := ⟨Tryd.zeroValue63⟩
instance : OneT Tryd.prog 64 := ⟨Tryd.isAgg64, Tryd.sizeOf64⟩
instance : ZeroT Tryd.prog 64 Value.nilFunc := ⟨Tryd.zeroValue64⟩
instance : OneT Tryd.prog 65 := ⟨Tryd.isAgg65, Tryd.sizeOf65⟩
instance : ZeroT Tryd.prog 65 Value.nilFunc := ⟨Tryd.zeroValue65⟩
instance : OneT Tryd.prog 66 := ⟨Tryd.isAgg66, Tryd.sizeOf66⟩
instance : ZeroT Tryd.prog 66 Value.nilFunc := ⟨Tryd.zeroValue66⟩
instance : OneT Tryd.prog 68 := ⟨Tryd.isAgg68, Tryd.sizeOf68⟩
instance : ZeroT Tryd.prog 68 Value.nilFunc := ⟨Tryd.zeroValue68⟩
instance : UnderT Tryd.prog 69 (TypeDesc.array 12 5) := ⟨Tryd.underlying69⟩
instance : AggT Tryd.prog 69 12 := ⟨Tryd.isAgg69, Tryd.sizeOf69⟩
instance : BuildT Tryd.prog 69 (fun i => some (i * 1, 1)) #[Value.int IntKind.u8 0, Value.int IntKind.u8 0, Value.int IntKind.u8 0, Value.int IntKind.u8 0, Value.int IntKind.u8 0, Value.int IntKind.u8 0, Value.int IntKind.u8 0, Value.int IntKind.u8 0, Value.int IntKind.u8 0, Value.int IntKind.u8 0, Value.int IntKind.u8 0, Value.int IntKind.u8 0] := ⟨fun _ => by kernel_rfl⟩
instance : ArrT Tryd.prog 69 12 5 1 := ⟨Tryd.underlying69, Tryd.sizeOf5⟩
instance : ZeroT Tryd.prog 69 (Value.agg #[Value.int IntKind.u8 0, Value.int IntKind.u8 0, Value.int IntKind.u8 0, Value.int IntKind.u8 0, Value.int IntKind.u8 0, Value.int IntKind.u8 0, Value.int IntKind.u8 0, Value.int IntKind.u8 0, Value.int IntKind.u8 0, Value.int IntKind.u8 0, Value.int IntKind.u8 0, Value.int IntKind.u8 0]) := ⟨Tryd.zeroValue69⟩
instance : OneT Tryd.prog 70 := ⟨Tryd.isAgg70, Tryd.sizeOf70⟩
instance : ZeroT Tryd.prog 70 Value.nilFunc := ⟨Tryd.zeroValue70⟩
instance : UnderT Tryd.prog 71 (TypeDesc.pointer 73) := ⟨Tryd.underlying71⟩
instance : OneT Tryd.prog 71 := ⟨Tryd.isAgg71, Tryd.sizeOf71⟩
instance : ZeroT Tryd.prog 71 (Value.pointer none) := ⟨Tryd.zeroValue71⟩
instance : AggT Tryd.prog 72 2 := ⟨Tryd.isAgg72, Tryd.sizeOf72⟩
instance : FAddr Tryd.prog 72 0 0 := ⟨fun _ _ => by kernel_rfl⟩
instance : FAddr Tryd.prog 72 1 1 := ⟨fun _ _ => by kernel_rfl⟩
instance : BuildT Tryd.prog 72 (fun i => #[(0, 1), (1, 1)][i]?) #[Value.pointer none, Value.slice none 0 0] := ⟨fun _ => by kernel_rfl⟩
instance : ZeroT Tryd.prog 72 (Value.agg #[Value.pointer none, Value.slice none 0 0]) := ⟨Tryd.zeroValue72⟩
instance : AggT Tryd.prog 73 2 := ⟨Tryd.isAgg73, Tryd.sizeOf73⟩
instance : FAddr Tryd.prog 73 0 0 := ⟨fun _ _ => by kernel_rfl⟩
instance : FAddr Tryd.prog 73 1 1 := ⟨fun _ _ => by kernel_rfl⟩
instance : BuildT Tryd.prog 73 (fun i => #[(0, 1), (1, 1)][i]?) #[Value.pointer none, Value.slice none 0 0] := ⟨fun _ => by kernel_rfl⟩
instance : ZeroT Tryd.prog 73 (Value.agg #[Value.pointer none, Value.slice none 0 0]) := ⟨Tryd.zeroValue73⟩
instance : OneT Tryd.prog 74 := ⟨Tryd.isAgg74, Tryd.sizeOf74⟩
instance : ZeroT Tryd.prog 74 Value.nilFunc := ⟨Tryd.zeroValue74⟩
instance : UnderT Tryd.prog 75 (TypeDesc.interface #[("Error", 79)]) := ⟨Tryd.underlying75⟩
instance : OneT Tryd.prog 75 := ⟨Tryd.isAgg75, Tryd.sizeOf75⟩
instance : ZeroT Tryd.prog 75 Value.nilIface := ⟨Tryd.zeroValue75⟩
instance : UnderT Tryd.prog 76 (TypeDesc.interface #[("Error", 79)]) := ⟨Tryd.underlying76⟩
instance : OneT Tryd.prog 76 := ⟨Tryd.isAgg76, Tryd.sizeOf76⟩
instance : ZeroT Tryd.prog 76 Value.nilIface := ⟨Tryd.zeroValue76⟩
instance : OneT Tryd.prog 78 := ⟨Tryd.isAgg78, Tryd.sizeOf78⟩
instance : ZeroT Tryd.prog 78 Value.nilFunc := ⟨Tryd.zeroValue78⟩
instance : OneT Tryd.prog 79 := ⟨Tryd.isAgg79, Tryd.sizeOf79⟩
instance : ZeroT Tryd.prog 79 Value.nilFunc := ⟨Tryd.zeroValue79⟩
instance : OneT Tryd.prog 80 := ⟨Tryd.isAgg80, Tryd.sizeOf80⟩
instance : ZeroT Tryd.prog 80 Value.nilFunc := ⟨Tryd.zeroValue80⟩
instance : OneT Tryd.prog 81 := ⟨Tryd.isAgg81, Tryd.sizeOf81⟩
instance : ZeroT Tryd.prog 81 Value.nilFunc := ⟨Tryd.zeroValue81⟩
instance : OneT Tryd.prog 82 := ⟨Tryd.isAgg82, Tryd.sizeOf82⟩
instance : ZeroT Tryd.prog 82 Value.nilFunc := ⟨Tryd.zeroValue82⟩
instance : OneT Tryd.prog 83 := ⟨Tryd.isAgg83, Tryd.sizeOf83⟩
instance : ZeroT Tryd.prog 83 Value.nilFunc := ⟨Tryd.zeroValue83⟩
instance : OneT Tryd.prog 84 := ⟨Tryd.isAgg84, Tryd.sizeOf84⟩
instance : ZeroT Tryd.prog 84 Value.nilFunc := ⟨Tryd.zeroValue84⟩
instance : UnderT Tryd.prog 85 (TypeDesc.pointer 5) := ⟨Tryd.underlying85⟩
instance : OneT Tryd.prog 85 := ⟨Tryd.isAgg85, Tryd.sizeOf85⟩
instance : ZeroT Tryd.prog 85 (Value.pointer none) := ⟨Tryd.zeroValue85⟩
instance : UnderT Tryd.prog 86 (TypeDesc.array 24 5) := ⟨Tryd.underlying86⟩
instance : AggT Tryd.prog 86 24 := ⟨Tryd.isAgg86, Tryd.sizeOf86⟩
instance : BuildT Tryd.prog 86 (fun i => some (i * 1, 1)) #[Value.int IntKind.u8 0, Value.int IntKind.u8 0, Value.int IntKind.u8 0, Value.int IntKind.u8 0, Value.int IntKind.u8 0, Value.int IntKind.u8 0, Value.int IntKind.u8 0, Value.int IntKind.u8 0, Value.int IntKind.u8 0, Value.int IntKind.u8 0, Value.int IntKind.u8 0, Value.int IntKind.u8 0, Value.int IntKind.u8 0, Value.int IntKind.u8 0, Value.int IntKind.u8 0, Value.int IntKind.u8 0, Value.int IntKind.u8 0, Value.int IntKind.u8 0, Value.int IntKind.u8 0, Value.int IntKind.u8 0, Value.int IntKind.u8 0, Value.int IntKind.u8 0, Value.int IntKind.u8 0, Value.int IntKind.u8 0] := ⟨fun _ => by kernel_rfl⟩
instance : ArrT Tryd.prog 86 24 5 1 := ⟨Tryd.underlying86, Tryd.sizeOf5⟩
instance : ZeroT Tryd.prog 86 (Value.agg #[Value.int IntKind.u8 0, Value.int IntKind.u8 0, Value.int IntKind.u8 0, Value.int IntKind.u8 0, Value.int IntKind.u8 0, Value.int IntKind.u8 0, Value.int IntKind.u8 0, Value.int IntKind.u8 0, Value.int IntKind.u8 0, Value.int IntKind.u8 0, Value.int IntKind.u8 0, Value.int IntKind.u8 0, Value.int IntKind.u8 0, Value.int IntKind.u8 0, Value.int IntKind.u8 0, Value.int IntKind.u8 0, Value.int IntKind.u8 0, Value.int IntKind.u8 0, Value.int IntKind.u8 0, Value.int IntKind.u8 0, Value.int IntKind.u8 0, Value.int IntKind.u8 0, Value.int IntKind.u8 0, Value.int IntKind.u8 0]) := ⟨Tryd.zeroValue86⟩
instance : OneT Tryd.prog 87 := ⟨Tryd.isAgg87, Tryd.sizeOf87⟩
instance : ZeroT Tryd.prog 87 Value.nilFunc := ⟨Tryd.zeroValue87⟩
instance : OneT Tryd.prog 88 := ⟨Tryd.isAgg88, Tryd.sizeOf88⟩
instance : ZeroT Tryd.prog 88 Value.nilFunc := ⟨Tryd.zeroValue88⟩
instance : OneT Tryd.prog 90 := ⟨Tryd.isAgg90, Tryd.sizeOf90⟩
instance : ZeroT Tryd.prog 90 Value.nilFunc := ⟨Tryd.zeroValue90⟩
instance : OneT Tryd.prog 91 := ⟨Tryd.isAgg91, Tryd.sizeOf91⟩
instance : ZeroT Tryd.prog 91 Value.nilFunc := ⟨Tryd.zeroValue91⟩
instance : OneT Tryd.prog 93 := ⟨Tryd.isAgg93, Tryd.sizeOf93⟩
instance : ZeroT Tryd.prog 93 Value.nilFunc := ⟨Tryd.zeroValue93⟩
instance : OneT Tryd.prog 94 := ⟨Tryd.isAgg94, Tryd.sizeOf94⟩
instance : ZeroT Tryd.prog 94 Value.nilFunc := ⟨Tryd.zeroValue94⟩
instance : OneT Tryd.prog 95 := ⟨Tryd.isAgg95, Tryd.sizeOf95⟩
instance : ZeroT Tryd.prog 95 Value.nilFunc := ⟨Tryd.zeroValue95⟩
instance : OneT Tryd.prog 96 := ⟨Tryd.isAgg96, Tryd.sizeOf96⟩
instance : ZeroT Tryd.prog 96 Value.nilFunc := ⟨Tryd.zeroValue96⟩
instance : OneT Tryd.prog 97 := ⟨Tryd.isAgg97, Tryd.sizeOf97⟩
instance : ZeroT Tryd.prog 97 (Value.pointer none) := ⟨Tryd.zeroValue97⟩
instance : OneT Tryd.prog 98 := ⟨Tryd.isAgg98, Tryd.sizeOf98⟩
instance : ZeroT Tryd.prog 98 Value.nilFunc := ⟨Tryd.zeroValue98⟩
instance : OneT Tryd.prog 99 := ⟨Tryd.isAgg99, Tryd.sizeOf99⟩
instance : ZeroT Tryd.prog 99 Value.nilFunc := ⟨Tryd.zeroValue99⟩
instance : OneT Tryd.prog 100 := ⟨Tryd.isAgg100, Tryd.sizeOf100⟩
instance : ZeroT Tryd.prog 100 Value.nilFunc := ⟨Tryd.zeroValue100⟩
instance : UnderT Tryd.prog 101 (TypeDesc.array 20 60) := ⟨Tryd.underlying101⟩
instance : AggT Tryd.prog 101 20 := ⟨Tryd.isAgg101, Tryd.sizeOf101⟩
instance : BuildT Tryd.prog 101 (fun i => some (i * 1, 1)) #[Value.int IntKind.u64 0, Value.int IntKind.u64 0, Value.int IntKind.u64 0, Value.int IntKind.u64 0, Value.int IntKind.u64 0, Value.int IntKind.u64 0, Value.int IntKind.u64 0, Value.int IntKind.u64 0, Value.int IntKind.u64 0, Value.int IntKind.u64 0, Value.int IntKind.u64 0, Value.int IntKind.u64 0, Value.int IntKind.u64 0, Value.int IntKind.u64 0, Value.int IntKind.u64 0, Value.int IntKind.u64 0, Value.int IntKind.u64 0, Value.int IntKind.u64 0, Value.int IntKind.u64 0, Value.int IntKind.u64 0] := ⟨fun _ => by kernel_rfl⟩
instance : ArrT Tryd.prog 101 20 60 1 := ⟨Tryd.underlying101, Tryd.sizeOf60⟩
instance : ZeroT Tryd.prog 101 (Value.agg #[Value.int IntKind.u64 0, Value.int IntKind.u64 0, Value.int IntKind.u64 0, Value.int IntKind.u64 0, Value.int IntKind.u64 0, Value.int IntKind.u64 0, Value.int IntKind.u64 0, Value.int IntKind.u64 0, Value.int IntKind.u64 0, Value.int IntKind.u64 0, Value.int IntKind.u64 0, Value.int IntKind.u64 0, Value.int IntKind.u64 0, Value.int IntKind.u64 0, Value.int IntKind.u64 0, Value.int IntKind.u64 0, Value.int IntKind.u64 0, Value.int IntKind.u64 0, Value.int IntKind.u64 0, Value.int IntKind.u64 0]) := ⟨Tryd.zeroValue101⟩
instance : UnderT Tryd.prog 102 (TypeDesc.int IntKind.u32) := ⟨Tryd.underlying102⟩
instance : OneT Tryd.prog 102 := ⟨Tryd.isAgg102, Tryd.sizeOf102⟩
instance : ZeroT Tryd.prog 102 (Value.int IntKind.u32 0) := ⟨Tryd.zeroValue102⟩
instance : UnderT Tryd.prog 103 (TypeDesc.array 65 5) := ⟨Tryd.underlying103⟩
instance : AggT Tryd.prog 103 65 := ⟨Tryd.isAgg103, Tryd.sizeOf103⟩
instance : ArrT Tryd.prog 103 65 5 1 := ⟨Tryd.underlying103, Tryd.sizeOf5⟩
instance : ZeroT Tryd.prog 103 (Value.agg ([Value.int IntKind.u8 0, Value.int IntKind.u8 0, Value.int IntKind.u8 0, Value.int IntKind.u8 0, Value.int IntKind.u8 0, Value.int IntKind.u8 0, Value.int IntKind.u8 0, Value.int IntKind.u8 0, Value.int IntKind.u8 0, Value.int IntKind.u8 0, Value.int IntKind.u8 0, Value.int IntKind.u8 0, Value.int IntKind.u8 0, Value.int IntKind.u8 0, Value.int IntKind.u8 0, Value.int IntKind.u8 0, Value.int IntKind.u8 0, Value.int IntKind.u8 0, Value.int IntKind.u8 0, Value.int IntKind.u8 0, Value.int IntKind.u8 0, Value.int IntKind.u8 0, Value.int IntKind.u8 0, Value.int IntKind.u8 0, Value.int IntKind.u8 0, Value.int IntKind.u8 0, Value.int IntKind.u8 0, Value.int IntKind.u8 0, Value.int IntKind.u8 0, Value.int IntKind.u8 0, Value.int IntKind.u8 0, Value.int IntKind.u8 0].append [Value.int IntKind.u8 0, Value.int IntKind.u8 0, Value.int IntKind.u8 0, Value.int IntKind.u8 0, Value.int IntKind.u8 0, Value.int IntKind.u8 0, Value.int IntKind.u8 0, Value.int IntKind.u8 0, Value.int IntKind.u8 0, Value.int IntKind.u8 0, Value.int IntKind.u8 0, Value.int IntKind.u8 0, Value.int IntKind.u8 0, Value.int IntKind.u8 0, Value.int IntKind.u8 0, Value.int IntKind.u8 0, Value.int IntKind.u8 0, Value.int IntKind.u8 0, Value.int IntKind.u8 0, Value.int IntKind.u8 0, Value.int IntKind.u8 0, Value.int IntKind.u8 0, Value.int IntKind.u8 0, Value.int IntKind.u8 0, Value.int IntKind.u8 0, Value.int IntKind.u8 0, Value.int IntKind.u8 0, Value.int IntKind.u8 0, Value.int IntKind.u8 0, Value.int IntKind.u8 0, Value.int IntKind.u8 0, Value.int IntKind.u8 0, Value.int IntKind.u8 0]).toArray) := ⟨Tryd.zeroValue103⟩
instance : OneT Tryd.prog 104 := ⟨Tryd.isAgg104, Tryd.sizeOf104⟩
instance : ZeroT Tryd.prog 104 Value.nilFunc := ⟨Tryd.zeroValue104⟩
instance : OneT Tryd.prog 105 := ⟨Tryd.isAgg105, Tryd.sizeOf105⟩
instance : ZeroT Tryd.prog 105 Value.nilFunc := ⟨Tryd.zeroValue105⟩
instance : UnderT Tryd.prog 106 (TypeDesc.int IntKind.i64) := ⟨Tryd.underlying106⟩
instance : OneT Tryd.prog 106 := ⟨Tryd.isAgg106, Tryd.sizeOf106⟩
instance : ZeroT Tryd.prog 106 (Value.int IntKind.i64 0) := ⟨Tryd.zeroValue106⟩
instance : OneT Tryd.prog 108 := ⟨Tryd.isAgg108, Tryd.sizeOf108⟩
instance : ZeroT Tryd.prog 108 Value.nilFunc := ⟨Tryd.zeroValue108⟩
instance : UnderT Tryd.prog 109 (TypeDesc.pointer 122) := ⟨Tryd.underlying109⟩
instance : OneT Tryd.prog 109 := ⟨Tryd.isAgg109, Tryd.sizeOf109⟩
instance : ZeroT Tryd.prog 109 (Value.pointer none) := ⟨Tryd.zeroValue109⟩
instance : OneT Tryd.prog 110 := ⟨Tryd.isAgg110, Tryd.sizeOf110⟩
instance : ZeroT Tryd.prog 110 Value.nilFunc := ⟨Tryd.zeroValue110⟩
instance : OneT Tryd.prog 111 := ⟨Tryd.isAgg111, Tryd.sizeOf111⟩
instance : ZeroT Tryd.prog 111 Value.nilFunc := ⟨Tryd.zeroValue111⟩
instance : OneT Tryd.prog 113 := ⟨Tryd.isAgg113, Tryd.sizeOf113⟩
instance : ZeroT Tryd.prog 113 Value.nilFunc := ⟨Tryd.zeroValue113⟩
instance : OneT Tryd.prog 114 := ⟨Tryd.isAgg114, Tryd.sizeOf114⟩
instance : ZeroT Tryd.prog 114 Value.nilFunc := ⟨Tryd.zeroValue114⟩
instance : UnderT Tryd.prog 115 (TypeDesc.array 256 5) := ⟨Tryd.underlying115⟩
instance : AggT Tryd.prog 115 256 := ⟨Tryd.isAgg115, Tryd.sizeOf115⟩
instance : AggT Tryd.prog 116 2 := ⟨Tryd.isAgg116, Tryd.sizeOf116⟩
instance : FAddr Tryd.prog 116 0 0 := ⟨fun _ _ => by kernel_rfl⟩
instance : FAddr Tryd.prog 116 1 1 := ⟨fun _ _ => by kernel_rfl⟩
instance : BuildT Tryd.prog 116 (fun i => #[(0, 1), (1, 1)][i]?) #[Value.int IntKind.u8 0, Value.int IntKind.u8 0] := ⟨fun _ => by kernel_rfl⟩
instance : ZeroT Tryd.prog 116 (Value.agg #[Value.int IntKind.u8 0, Value.int IntKind.u8 0]) := ⟨Tryd.zeroValue116⟩
instance : AggT Tryd.prog 117 2 := ⟨Tryd.isAgg117, Tryd.sizeOf117⟩
instance : FAddr Tryd.prog 117 0 0 := ⟨fun _ _ => by kernel_rfl⟩
instance : FAddr Tryd.prog 117 1 1 := ⟨fun _ _ => by kernel_rfl⟩
instance : BuildT Tryd.prog 117 (fun i => #[(0, 1), (1, 1)][i]?) #[Value.int IntKind.u8 0, Value.int IntKind.u8 0] := ⟨fun _ => by kernel_rfl⟩
instance : ZeroT Tryd.prog 117 (Value.agg #[Value.int IntKind.u8 0, Value.int IntKind.u8 0]) := ⟨Tryd.zeroValue117⟩
instance : UnderT Tryd.prog 118 (TypeDesc.array 16 117) := ⟨Tryd.underlying118⟩
instance : AggT Tryd.prog 118 32 := ⟨Tryd.isAgg118, Tryd.sizeOf118⟩
instance : BuildT Tryd.prog 118 (fun i => some (i * 2, 2)) #[Value.int IntKind.u8 0, Value.int IntKind.u8 0, Value.int IntKind.u8 0, Value.int IntKind.u8 0, Value.int IntKind.u8 0, Value.int IntKind.u8 0, Value.int IntKind.u8 0, Value.int IntKind.u8 0, Value.int IntKind.u8 0, Value.int IntKind.u8 0, Value.int IntKind.u8 0, Value.int IntKind.u8 0, Value.int IntKind.u8 0, Value.int IntKind.u8 0, Value.int IntKind.u8 0, Value.int IntKind.u8 0, Value.int IntKind.u8 0, Value.int IntKind.u8 0, Value.int IntKind.u8 0, Value.int IntKind.u8 0, Value.int IntKind.u8 0, Value.int IntKind.u8 0, Value.int IntKind.u8 0, Value.int IntKind.u8 0, Value.int IntKind.u8 0, Value.int IntKind.u8 0, Value.int IntKind.u8 0, Value.int IntKind.u8 0, Value.int IntKind.u8 0, Value.int IntKind.u8 0, Value.int IntKind.u8 0, Value.int IntKind.u8 0] := ⟨fun _ => by kernel_rfl⟩
instance : ArrT Tryd.prog 118 16 117 2 := ⟨Tryd.underlying118, Tryd.sizeOf117⟩
instance : ZeroT Tryd.prog 118 (Value.agg #[Value.int IntKind.u8 0, Value.int IntKind.u8 0, Value.int IntKind.u8 0, Value.int IntKind.u8 0, Value.int IntKind.u8 0, Value.int IntKind.u8 0, Value.int IntKind.u8 0, Value.int IntKind.u8 0, Value.int IntKind.u8 0, Value.int IntKind.u8 0, Value.int IntKind.u8 0, Value.int IntKind.u8 0, Value.int IntKind.u8 0, Value.int IntKind.u8 0, Value.int IntKind.u8 0, Value.int IntKind.u8 0, Value.int IntKind.u8 0, Value.int IntKind.u8 0, Value.int IntKind.u8 0, Value.int IntKind.u8 0, Value.int IntKind.u8 0, Value.int IntKind.u8 0, Value.int IntKind.u8 0, Value.int IntKind.u8 0, Value.int IntKind.u8 0, Value.int IntKind.u8 0, Value.int IntKind.u8 0, Value.int IntKind.u8 0, Value.int IntKind.u8 0, Value.int IntKind.u8 0, Value.int IntKind.u8 0, Value.int IntKind.u8 0]) := ⟨Tryd.zeroValue118⟩
instance : OneT Tryd.prog 120 := ⟨Tryd.isAgg120, Tryd.sizeOf120⟩
instance : ZeroT Tryd.prog 120 Value.nilFunc := ⟨Tryd.zeroValue120⟩
instance : AggT Tryd.prog 121 3 := ⟨Tryd.isAgg121, Tryd.sizeOf121⟩
instance : FAddr Tryd.prog 121 0 0 := ⟨fun _ _ => by kernel_rfl⟩
instance : FAddr Tryd.prog 121 1 1 := ⟨fun _ _ => by kernel_rfl⟩
instance : FAddr Tryd.prog 121 2 2 := ⟨fun _ _ => by kernel_rfl⟩
instance : BuildT Tryd.prog 121 (fun i => #[(0, 1), (1, 1), (2, 1)][i]?) #[Value.string { data := #[] }, Value.string { data := #[] }, Value.nilIface] := ⟨fun _ => by kernel_rfl⟩
instance : ZeroT Tryd.prog 121 (Value.agg #[Value.string { data := #[] }, Value.string { data := #[] }, Value.nilIface]) := ⟨Tryd.zeroValue121⟩
instance : AggT Tryd.prog 122 3 := ⟨Tryd.isAgg122, Tryd.sizeOf122⟩
instance : FAddr Tryd.prog 122 0 0 := ⟨fun _ _ => by kernel_rfl⟩
instance : FAddr Tryd.prog 122 1 1 := ⟨fun _ _ => by kernel_rfl⟩
instance : FAddr Tryd.prog 122 2 2 := ⟨fun _ _ => by kernel_rfl⟩
instance : BuildT Tryd.prog 122 (fun i => #[(0, 1), (1, 1), (2, 1)][i]?) #[Value.string { data := #[] }, Value.string { data := #[] }, Value.nilIface] := ⟨fun _ => by kernel_rfl⟩
instance : ZeroT Tryd.prog 122 (Value.agg #[Value.string { data := #[] }, Value.string { data := #[] }, Value.nilIface]) := ⟨Tryd.zeroValue122⟩
instance : OneT Tryd.prog 123 := ⟨Tryd.isAgg123, Tryd.sizeOf123⟩
instance : ZeroT Tryd.prog 123 Value.nilFunc := ⟨Tryd.zeroValue123⟩
instance : UnderT Tryd.prog 124 (TypeDesc.array 32 5) := ⟨Tryd.underlying124⟩
instance : AggT Tryd.prog 124 32 := ⟨Tryd.isAgg124, Tryd.sizeOf124⟩
instance : BuildT Tryd.prog 124 (fun i => some (i * 1, 1)) #[Value.int IntKind.u8 0, Value.int IntKind.u8 0, Value.int IntKind.u8 0, Value.int IntKind.u8 0, Value.int IntKind.u8 0, Value.int IntKind.u8 0, Value.int IntKind.u8 0, Value.int IntKind.u8 0, Value.int IntKind.u8 0, Value.int IntKind.u8 0, Value.int IntKind.u8 0, Value.int IntKind.u8 0, Value.int IntKind.u8 0, Value.int IntKind.u8 0, Value.int IntKind.u8 0, Value.int IntKind.u8 0, Value.int IntKind.u8 0, Value.int IntKind.u8 0, Value.int IntKind.u8 0, Value.int IntKind.u8 0, Value.int IntKind.u8 0, Value.int IntKind.u8 0, Value.int IntKind.u8 0, Value.int IntKind.u8 0, Value.int IntKind.u8 0, Value.int IntKind.u8 0, Value.int IntKind.u8 0, Value.int IntKind.u8 0, Value.int IntKind.u8 0, Value.int IntKind.u8 0, Value.int IntKind.u8 0, Value.int IntKind.u8 0] := ⟨fun _ => by kernel_rfl⟩
instance : ArrT Tryd.prog 124 32 5 1 := ⟨Tryd.underlying124, Tryd.sizeOf5⟩
instance : ZeroT Tryd.prog 124 (Value.agg #[Value.int IntKind.u8 0, Value.int IntKind.u8 0, Value.int IntKind.u8 0, Value.int IntKind.u8 0, Value.int IntKind.u8 0, Value.int IntKind.u8 0, Value.int IntKind.u8 0, Value.int IntKind.u8 0, Value.int IntKind.u8 0, Value.int IntKind.u8 0, Value.int IntKind.u8 0, Value.int IntKind.u8 0, Value.int IntKind.u8 0, Value.int IntKind.u8 0, Value.int IntKind.u8 0, Value.int IntKind.u8 0, Value.int IntKind.u8 0, Value.int IntKind.u8 0, Value.int IntKind.u8 0, Value.int IntKind.u8 0, Value.int IntKind.u8 0, Value.int IntKind.u8 0, Value.int IntKind.u8 0, Value.int IntKind.u8 0, Value.int IntKind.u8 0, Value.int IntKind.u8 0, Value.int IntKind.u8 0, Value.int IntKind.u8 0, Value.int IntKind.u8 0, Value.int IntKind.u8 0, Value.int IntKind.u8 0, Value.int IntKind.u8 0]) := ⟨Tryd.zeroValue124⟩
instance : UnderT Tryd.prog 125 (TypeDesc.array 64 5) := ⟨Tryd.underlying125⟩
instance : AggT Tryd.prog 125 64 := ⟨Tryd.isAgg125, Tryd.sizeOf125⟩
instance : BuildT Tryd.prog 125 (fun i => some (i * 1, 1)) #[Value.int IntKind.u8 0, Value.int IntKind.u8 0, Value.int IntKind.u8 0, Value.int IntKind.u8 0, Value.int IntKind.u8 0, Value.int IntKind.u8 0, Value.int IntKind.u8 0, Value.int IntKind.u8 0, Value.int IntKind.u8 0, Value.int IntKind.u8 0, Value.int IntKind.u8 0, Value.int IntKind.u8 0, Value.int IntKind.u8 0, Value.int IntKind.u8 0, Value.int IntKind.u8 0, Value.int IntKind.u8 0, Value.int IntKind.u8 0, Value.int IntKind.u8 0, Value.int IntKind.u8 0, Value.int IntKind.u8 0, Value.int IntKind.u8 0, Value.int IntKind.u8 0, Value.int IntKind.u8 0, Value.int IntKind.u8 0, Value.int IntKind.u8 0, Value.int IntKind.u8 0, Value.int IntKind.u8 0, Value.int IntKind.u8 0, Value.int IntKind.u8 0, Value.int IntKind.u8 0, Value.int IntKind.u8 0, Value.int IntKind.u8 0, Value.int IntKind.u8 0, Value.int IntKind.u8 0, Value.int IntKind.u8 0, Value.int IntKind.u8 0, Value.int IntKind.u8 0, Value.int IntKind.u8 0, Value.int IntKind.u8 0, Value.int IntKind.u8 0, Value.int IntKind.u8 0, Value.int IntKind.u8 0, Value.int IntKind.u8 0, Value.int IntKind.u8 0, Value.int IntKind.u8 0, Value.int IntKind.u8 0, Value.int IntKind.u8 0, Value.int IntKind.u8 0, Value.int IntKind.u8 0, Value.int IntKind.u8 0, Value.int IntKind.u8 0, Value.int IntKind.u8 0, Value.int IntKind.u8 0, Value.int IntKind.u8 0, Value.int IntKind.u8 0, Value.int IntKind.u8 0, Value.int IntKind.u8 0, Value.int IntKind.u8 0, Value.int IntKind.u8 0, Value.int IntKind.u8 0, Value.int IntKind.u8 0, Value.int IntKind.u8 0, Value.int IntKind.u8 0, Value.int IntKind.u8 0] := ⟨fun _ => by kernel_rfl⟩
instance : ArrT Tryd.prog 125 64 5 1 := ⟨Tryd.underlying125, Tryd.sizeOf5⟩
instance : ZeroT Tryd.prog 125 (Value.agg #[Value.int IntKind.u8 0, Value.int IntKind.u8 0, Value.int IntKind.u8 0, Value.int IntKind.u8 0, Value.int IntKind.u8 0, Value.int IntKind.u8 0, Value.int IntKind.u8 0, Value.int IntKind.u8 0, Value.int IntKind.u8 0, Value.int IntKind.u8 0, Value.int IntKind.u8 0, Value.int IntKind.u8 0, Value.int IntKind.u8 0, Value.int IntKind.u8 0, Value.int IntKind.u8 0, Value.int IntKind.u8 0, Value.int IntKind.u8 0, Value.int IntKind.u8 0, Value.int IntKind.u8 0, Value.int IntKind.u8 0, Value.int IntKind.u8 0, Value.int IntKind.u8 0, Value.int IntKind.u8 0, Value.int IntKind.u8 0, Value.int IntKind.u8 0, Value.int IntKind.u8 0, Value.int IntKind.u8 0, Value.int IntKind.u8 0, Value.int IntKind.u8 0, Value.int IntKind.u8 0, Value.int IntKind.u8 0, Value.int IntKind.u8 0, Value.int IntKind.u8 0, Value.int IntKind.u8 0, Value.int IntKind.u8 0, Value.int IntKind.u8 0, Value.int IntKind.u8 0, Value.int IntKind.u8 0, Value.int IntKind.u8 0, Value.int IntKind.u8 0, Value.int IntKind.u8 0, Value.int IntKind.u8 0, Value.int IntKind.u8 0, Value.int IntKind.u8 0, Value.int IntKind.u8 0, Value.int IntKind.u8 0, Value.int IntKind.u8 0, Value.int IntKind.u8 0, Value.int IntKind.u8 0, Value.int IntKind.u8 0, Value.int IntKind.u8 0, Value.int IntKind.u8 0, Value.int IntKind.u8 0, Value.int IntKind.u8 0, Value.int IntKind.u8 0, Value.int IntKind.u8 0, Value.int IntKind.u8 0, Value.int IntKind.u8 0, Value.int IntKind.u8 0, Value.int IntKind.u8 0, Value.int IntKind.u8 0, Value.int IntKind.u8 0, Value.int IntKind.u8 0, Value.int IntKind.u8 0]) := ⟨Tryd.zeroValue125⟩
instance : UnderT Tryd.prog 126 (TypeDesc.pointer 128) := ⟨Tryd.underlying126⟩
instance : OneT Tryd.prog 126 := ⟨Tryd.isAgg126, Tryd.sizeOf126⟩
instance : ZeroT Tryd.prog 126 (Value.pointer none) := ⟨Tryd.zeroValue126⟩
instance : AggT Tryd.prog 127 1 := ⟨Tryd.isAgg127, Tryd.sizeOf127⟩
instance : FAddr Tryd.prog 127 0 0 := ⟨fun _ _ => by kernel_rfl⟩
instance : BuildT Tryd.prog 127 (fun i => #[(0, 1)][i]?) #[Value.string { data := #[] }] := ⟨fun _ => by kernel_rfl⟩
instance : ZeroT Tryd.prog 127 (Value.agg #[Value.string { data := #[] }]) := ⟨Tryd.zeroValue127⟩
instance : AggT Tryd.prog 128 1 := ⟨Tryd.isAgg128, Tryd.sizeOf128⟩
instance : FAddr Tryd.prog 128 0 0 := ⟨fun _ _ => by kernel_rfl⟩
instance : BuildT Tryd.prog 128 (fun i => #[(0, 1)][i]?) #[Value.string { data := #[] }] := ⟨fun _ => by kernel_rfl⟩
instance : ZeroT Tryd.prog 128 (Value.agg #[Value.string { data := #[] }]) := ⟨Tryd.zeroValue128⟩
instance : AggT Tryd.prog 129 4 := ⟨Tryd.isAgg129, Tryd.sizeOf129⟩
instance : FAddr Tryd.prog 129 0 0 := ⟨fun _ _ => by kernel_rfl⟩
instance : FAddr Tryd.prog 129 1 1 := ⟨fun _ _ => by kernel_rfl⟩
instance : FAddr Tryd.prog 129 2 2 := ⟨fun _ _ => by kernel_rfl⟩
instance : FAddr Tryd.prog 129 3 3 := ⟨fun _ _ => by kernel_rfl⟩
instance : BuildT Tryd.prog 129 (fun i => #[(0, 1), (1, 1), (2, 1), (3, 1)][i]?) #[Value.pointer none, Value.pointer none, Value.pointer none, Value.string { data := #[] }] := ⟨fun _ => by kernel_rfl⟩
instance : ZeroT Tryd.prog 129 (Value.agg #[Value.pointer none, Value.pointer none, Value.pointer none, Value.string { data := #[] }]) := ⟨Tryd.zeroValue129⟩
instance : AggT Tryd.prog 130 4 := ⟨Tryd.isAgg130, Tryd.sizeOf130⟩
instance : FAddr Tryd.prog 130 0 0 := ⟨fun _ _ => by kernel_rfl⟩
instance : FAddr Tryd.prog 130 1 1 := ⟨fun _ _ => by kernel_rfl⟩
instance : FAddr Tryd.prog 130 2 2 := ⟨fun _ _ => by kernel_rfl⟩
instance : FAddr Tryd.prog 130 3 3 := ⟨fun _ _ => by kernel_rfl⟩
instance : BuildT Tryd.prog 130 (fun i => #[(0, 1), (1, 1), (2, 1), (3, 1)][i]?) #[Value.pointer none, Value.pointer none, Value.pointer none, Value.string { data := #[] }] := ⟨fun _ => by kernel_rfl⟩
instance : ZeroT Tryd.prog 130 (Value.agg #[Value.pointer none, Value.pointer none, Value.pointer none, Value.string { data := #[] }]) := ⟨Tryd.zeroValue130⟩
instance : UnderT Tryd.prog 131 (TypeDesc.array 0 16) := ⟨Tryd.underlying131⟩
instance : AggT Tryd.prog 131 0 := ⟨Tryd.isAgg131, Tryd.sizeOf131⟩
instance : BuildT Tryd.prog 131 (fun i => some (i * 1, 1)) #[] := ⟨fun _ => by kernel_rfl⟩
instance : ArrT Tryd.prog 131 0 16 1 := ⟨Tryd.underlying131, Tryd.sizeOf16⟩
instance : ZeroT Tryd.prog 131 (Value.agg #[]) := ⟨Tryd.zeroValue131⟩
instance : AggT Tryd.prog 132 0 := ⟨Tryd.isAgg132, Tryd.sizeOf132⟩
instance : BuildT Tryd.prog 132 (fun i => #[(0, 0)][i]?) #[] := ⟨fun _ => by kernel_rfl⟩
instance : ZeroT Tryd.prog 132 (Value.agg #[]) := ⟨Tryd.zeroValue132⟩
instance : AggT Tryd.prog 133 0 := ⟨Tryd.isAgg133, Tryd.sizeOf133⟩
instance : BuildT Tryd.prog 133 (fun i => #[(0, 0)][i]?) #[] := ⟨fun _ => by kernel_rfl⟩
instance : ZeroT Tryd.prog 133 (Value.agg #[]) := ⟨Tryd.zeroValue133⟩
instance : OneT Tryd.prog 134 := ⟨Tryd.isAgg134, Tryd.sizeOf134⟩
instance : ZeroT Tryd.prog 134 Value.nilFunc := ⟨Tryd.zeroValue134⟩
instance : UnderT Tryd.prog 135 (TypeDesc.int IntKind.u8) := ⟨Tryd.underlying135⟩
instance : OneT Tryd.prog 135 := ⟨Tryd.isAgg135, Tryd.sizeOf135⟩
instance : ZeroT Tryd.prog 135 (Value.int IntKind.u8 0) := ⟨Tryd.zeroValue135⟩
instance : UnderT Tryd.prog 136 (TypeDesc.int IntKind.u8) := ⟨Tryd.underlying136⟩
instance : OneT Tryd.prog 136 := ⟨Tryd.isAgg136, Tryd.sizeOf136⟩
instance : ZeroT Tryd.prog 136 (Value.int IntKind.u8 0) := ⟨Tryd.zeroValue136⟩
instance : OneT Tryd.prog 137 := ⟨Tryd.isAgg137, Tryd.sizeOf137⟩
instance : ZeroT Tryd.prog 137 Value.nilFunc := ⟨Tryd.zeroValue137⟩
instance : UnderT Tryd.prog 138 (TypeDesc.int IntKind.i32) := ⟨Tryd.underlying138⟩
instance : OneT Tryd.prog 138 := ⟨Tryd.isAgg138, Tryd.sizeOf138⟩
instance : ZeroT Tryd.prog 138 (Value.int IntKind.i32 0) := ⟨Tryd.zeroValue138⟩
instance : UnderT Tryd.prog 139 (TypeDesc.int IntKind.i32) := ⟨Tryd.underlying139⟩
instance : OneT Tryd.prog 139 := ⟨Tryd.isAgg139, Tryd.sizeOf139⟩
instance : ZeroT Tryd.prog 139 (Value.int IntKind.i32 0) := ⟨Tryd.zeroValue139⟩
instance : AggT Tryd.prog 140 11 := ⟨Tryd.isAgg140, Tryd.sizeOf140⟩
instance : FAddr Tryd.prog 140 0 0 := ⟨fun _ _ => by kernel_rfl⟩
instance : FAddr Tryd.prog 140 1 1 := ⟨fun _ _ => by kernel_rfl⟩
instance : FAddr Tryd.prog 140 2 2 := ⟨fun _ _ => by kernel_rfl⟩
instance : FAddr Tryd.prog 140 3 3 := ⟨fun _ _ => by kernel_rfl⟩
instance : FAddr Tryd.prog 140 4 4 := ⟨fun _ _ => by kernel_rfl⟩
instance : FAddr Tryd.prog 140 5 5 := ⟨fun _ _ => by kernel_rfl⟩
instance : FAddr Tryd.prog 140 6 6 := ⟨fun _ _ => by kernel_rfl⟩
instance : FAddr Tryd.prog 140 7 7 := ⟨fun _ _ => by kernel_rfl⟩
instance : FAddr Tryd.prog 140 8 8 := ⟨fun _ _ => by kernel_rfl⟩
instance : FAddr Tryd.prog 140 9 9 := ⟨fun _ _ => by kernel_rfl⟩
instance : FAddr Tryd.prog 140 10 10 := ⟨fun _ _ => by kernel_rfl⟩
instance : BuildT Tryd.prog 140 (fun i => #[(0, 1), (1, 1), (2, 1), (3, 1), (4, 1), (5, 1), (6, 1), (7, 1), (8, 1), (9, 1), (10, 1)][i]?) #[Value.int IntKind.u64 0, Value.int IntKind.u64 0, Value.int IntKind.u32 0, Value.int IntKind.u8 0, Value.int IntKind.u8 0, Value.int IntKind.u8 0, Value.int IntKind.u8 0, Value.nilFunc, Value.pointer none, Value.int IntKind.i32 0, Value.int IntKind.i32 0] := ⟨fun _ => by kernel_rfl⟩
instance : ZeroT Tryd.prog 140 (Value.agg #[Value.int IntKind.u64 0, Value.int IntKind.u64 0, Value.int IntKind.u32 0, Value.int IntKind.u8 0, Value.int IntKind.u8 0, Value.int IntKind.u8 0, Value.int IntKind.u8 0, Value.nilFunc, Value.pointer none, Value.int IntKind.i32 0, Value.int IntKind.i32 0]) := ⟨Tryd.zeroValue140⟩
instance : AggT Tryd.prog 141 11 := ⟨Tryd.isAgg141, Tryd.sizeOf141⟩
instance : FAddr Tryd.prog 141 0 0 := ⟨fun _ _ => by kernel_rfl⟩
instance : FAddr Tryd.prog 141 1 1 := ⟨fun _ _ => by kernel_rfl⟩
instance : FAddr Tryd.prog 141 2 2 := ⟨fun _ _ => by kernel_rfl⟩
instance : FAddr Tryd.prog 141 3 3 := ⟨fun _ _ => by kernel_rfl⟩
instance : FAddr Tryd.prog 141 4 4 := ⟨fun _ _ => by kernel_rfl⟩
instance : FAddr Tryd.prog 141 5 5 := ⟨fun _ _ => by kernel_rfl⟩
instance : FAddr Tryd.prog 141 6 6 := ⟨fun _ _ => by kernel_rfl⟩
instance : FAddr Tryd.prog 141 7 7 := ⟨fun _ _ => by kernel_rfl⟩
instance : FAddr Tryd.prog 141 8 8 := ⟨fun _ _ => by kernel_rfl⟩
instance : FAddr Tryd.prog 141 9 9 := ⟨fun _ _ => by kernel_rfl⟩
instance : FAddr Tryd.prog 141 10 10 := ⟨fun _ _ => by kernel_rfl⟩
instance : BuildT Tryd.prog 141 (fun i => #[(0, 1), (1, 1), (2, 1), (3, 1), (4, 1), (5, 1), (6, 1), (7, 1), (8, 1), (9, 1), (10, 1)][i]?) #[Value.int IntKind.u64 0, Value.int IntKind.u64 0, Value.int IntKind.u32 0, Value.int IntKind.u8 0, Value.int IntKind.u8 0, Value.int IntKind.u8 0, Value.int IntKind.u8 0, Value.nilFunc, Value.pointer none, Value.int IntKind.i32 0, Value.int IntKind.i32 0] := ⟨fun _ => by kernel_rfl⟩
instance : ZeroT Tryd.prog 141 (Value.agg #[Value.int IntKind.u64 0, Value.int IntKind.u64 0, Value.int IntKind.u32 0, Value.int IntKind.u8 0, Value.int IntKind.u8 0, Value.int IntKind.u8 0, Value.int IntKind.u8 0, Value.nilFunc, Value.pointer none, Value.int IntKind.i32 0, Value.int IntKind.i32 0]) := ⟨Tryd.zeroValue141⟩
instance : CallF Tryd.prog 2 := ⟨Tryd.call2⟩
instance : CallF Tryd.prog 3 := ⟨Tryd.call3⟩
instance : CallF Tryd.prog 4 := ⟨Tryd.call4⟩
instance : CallF Tryd.prog 5 := ⟨Tryd.call5⟩
instance : CallF Tryd.prog 6 := ⟨Tryd.call6⟩
instance : CallF Tryd.prog 7 := ⟨Tryd.call7⟩
instance : CallF Tryd.prog 8 := ⟨Tryd.call8⟩
instance : CallF Tryd.prog 9 := ⟨Tryd.call9⟩
instance : CallF Tryd.prog 10 := ⟨Tryd.call10⟩
instance : CallF Tryd.prog 11 := ⟨Tryd.call11⟩
instance : CallF Tryd.prog 12 := ⟨Tryd.call12⟩
instance : CallF Tryd.prog 13 := ⟨Tryd.call13⟩
instance : CallF Tryd.prog 14 := ⟨Tryd.call14⟩
instance : CallF Tryd.prog 15 := ⟨Tryd.call15⟩
instance : CallF Tryd.prog 16 := ⟨Tryd.call16⟩
instance : CallF Tryd.prog 17 := ⟨Tryd.call17⟩
instance : CallF Tryd.prog 18 := ⟨Tryd.call18⟩
instance : CallF Tryd.prog 19 := ⟨Tryd.call19⟩
instance : CallF Tryd.prog 20 := ⟨Tryd.call20⟩
instance : CallF Tryd.prog 21 := ⟨Tryd.call21⟩
instance : CallF Tryd.prog 22 := ⟨Tryd.call22⟩
instance : CallF Tryd.prog 23 := ⟨Tryd.call23⟩
instance : CallF Tryd.prog 24 := ⟨Tryd.call24⟩
instance : CallF Tryd.prog 25 := ⟨Tryd.call25⟩
instance : CallF Tryd.prog 26 := ⟨Tryd.call26⟩
instance : CallF Tryd.prog 27 := ⟨Tryd.call27⟩
instance : CallF Tryd.prog 28 := ⟨Tryd.call28⟩
instance : CallF Tryd.prog 29 := ⟨Tryd.call29⟩
instance : CallF Tryd.prog 30 := ⟨Tryd.call30⟩
instance : CallF Tryd.prog 31 := ⟨Tryd.call31⟩
instance : CallF Tryd.prog 32 := ⟨Tryd.call32⟩
instance : CallF Tryd.prog 33 := ⟨Tryd.call33⟩
instance : CallF Tryd.prog 34 := ⟨Tryd.call34⟩
instance : CallF Tryd.prog 35 := ⟨Tryd.call35⟩
instance : CallF Tryd.prog 36 := ⟨Tryd.call36⟩
instance : CallF Tryd.prog 37 := ⟨Tryd.call37⟩
instance : CallF Tryd.prog 38 := ⟨Tryd.call38⟩
instance : CallF Tryd.prog 39 := ⟨Tryd.call39⟩
instance : CallF Tryd.prog 40 := ⟨Tryd.call40⟩
instance : CallF Tryd.prog 41 := ⟨Tryd.call41⟩
instance : CallF Tryd.prog 42 := ⟨Tryd.call42⟩
instance : CallF Tryd.prog 43 := ⟨Tryd.call43⟩
instance : CallF Tryd.prog 44 := ⟨Tryd.call44⟩
instance : CallF Tryd.prog 45 := ⟨Tryd.call45⟩
instance : CallF Tryd.prog 46 := ⟨Tryd.call46⟩
instance : CallF Tryd.prog 47 := ⟨Tryd.call47⟩
instance : CallF Tryd.prog 48 := ⟨Tryd.call48⟩
instance : CallF Tryd.prog 49 := ⟨Tryd.call49⟩
instance : CallF Tryd.prog 50 := ⟨Tryd.call50⟩
instance : CallF Tryd.prog 51 := ⟨Tryd.call51⟩
instance : CallF Tryd.prog 52 := ⟨Tryd.call52⟩
instance : CallF Tryd.prog 53 := ⟨Tryd.call53⟩
instance : CallF Tryd.prog 54 := ⟨Tryd.call54⟩
instance : CallF Tryd.prog 55 := ⟨Tryd.call55⟩
instance : CallF Tryd.prog 56 := ⟨Tryd.call56⟩
instance : CallF Tryd.prog 57 := ⟨Tryd.call57⟩
instance : CallF Tryd.prog 58 := ⟨Tryd.call58⟩
instance : CallF Tryd.prog 59 := ⟨Tryd.call59⟩
instance : CallF Tryd.prog 60 := ⟨Tryd.call60⟩
instance : CallF Tryd.prog 61 := ⟨Tryd.call61⟩
instance : CallF Tryd.prog 62 := ⟨Tryd.call62⟩
instance : CallF Tryd.prog 63 := ⟨Tryd.call63⟩
instance : CallF Tryd.prog 64 := ⟨Tryd.call64⟩
instance : CallF Tryd.prog 66 := ⟨Tryd.call66⟩
instance : CallF Tryd.prog 67 := ⟨Tryd.call67⟩
instance : CallF Tryd.prog 68 := ⟨Tryd.call68⟩
instance : CallF Tryd.prog 70 := ⟨Tryd.call70⟩
instance : CallF Tryd.prog 71 := ⟨Tryd.call71⟩
instance : CallF Tryd.prog 72 := ⟨Tryd.call72⟩
instance : CallF Tryd.prog 73 := ⟨Tryd.call73⟩
instance : CallF Tryd.prog 76 := ⟨Tryd.call76⟩
instance : CallF Tryd.prog 77 := ⟨Tryd.call77⟩
instance : CallF Tryd.prog 78 := ⟨Tryd.call78⟩
instance : CallF Tryd.prog 79 := ⟨Tryd.call79⟩
instance : CallF Tryd.prog 80 := ⟨Tryd.call80⟩
instance : CallF Tryd.prog 81 := ⟨Tryd.call81⟩
instance : CallF Tryd.prog 82 := ⟨Tryd.call82⟩
instance : CallF Tryd.prog 83 := ⟨Tryd.call83⟩
instance : CallF Tryd.prog 84 := ⟨Tryd.call84⟩
instance : CallF Tryd.prog 85 := ⟨Tryd.call85⟩
instance : CallF Tryd.prog 86 := ⟨Tryd.call86⟩
instance : CallF Tryd.prog 88 := ⟨Tryd.call88⟩
instance : CallF Tryd.prog 89 := ⟨Tryd.call89⟩
instance : CallF Tryd.prog 90 := ⟨Tryd.call90⟩
instance : CallF Tryd.prog 91 := ⟨Tryd.call91⟩
instance : CallF Tryd.prog 92 := ⟨Tryd.call92⟩
instance : CallF Tryd.prog 93 := ⟨Tryd.call93⟩
instance : CallF Tryd.prog 94 := ⟨Tryd.call94⟩
instance : CallF Tryd.prog 95 := ⟨Tryd.call95⟩
instance : CallF Tryd.prog 128 := ⟨Tryd.call128⟩
end Go.Own
