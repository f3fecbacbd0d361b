/-
  THE TABLES OF THE PROGRAM, as instances (printed by wip/tab.py out of the loaded program).
-/
import Derived.Test.YtlakopiopplfhaaGreatDoorProg
import Derived.Test.YtlakopiopplfhaaGreatDoorOwnC
import Derived.KernelRfl
namespace Go.Own
open Go.Proofs

instance : UnderT Tryz.prog 3 (TypeDesc.int IntKind.i64) := ⟨Tryz.underlying3⟩
instance : OneT Tryz.prog 3 := ⟨Tryz.isAgg3, Tryz.sizeOf3⟩
instance : UnderT Tryz.prog 4 (TypeDesc.bool) := ⟨Tryz.underlying4⟩
instance : OneT Tryz.prog 4 := ⟨Tryz.isAgg4, Tryz.sizeOf4⟩
instance : UnderT Tryz.prog 5 (TypeDesc.int IntKind.u8) := ⟨Tryz.underlying5⟩
instance : OneT Tryz.prog 5 := ⟨Tryz.isAgg5, Tryz.sizeOf5⟩
instance : UnderT Tryz.prog 9 (TypeDesc.string) := ⟨Tryz.underlying9⟩
instance : OneT Tryz.prog 9 := ⟨Tryz.isAgg9, Tryz.sizeOf9⟩
instance : UnderT Tryz.prog 21 (TypeDesc.int IntKind.i32) := ⟨Tryz.underlying21⟩
instance : UnderT Tryz.prog 22 (TypeDesc.slice 48) := ⟨Tryz.underlying22⟩
instance : OneT Tryz.prog 22 := ⟨Tryz.isAgg22, Tryz.sizeOf22⟩
instance : SliceT Tryz.prog 22 48 5 56 (Value.agg #[Value.bool false, Value.int IntKind.i64 0, Value.string { data := #[] }, Value.int IntKind.i64 0, Value.string { data := #[] }]) := ⟨Tryz.underlying22, ⟨Tryz.t48, by kernel_rfl, rfl, rfl, rfl⟩, rfl⟩
instance : UnderT Tryz.prog 23 (TypeDesc.slice 52) := ⟨Tryz.underlying23⟩
instance : OneT Tryz.prog 23 := ⟨Tryz.isAgg23, Tryz.sizeOf23⟩
instance : SliceT Tryz.prog 23 52 19 48 (Value.agg #[Value.string { data := #[] }, Value.int IntKind.u8 0, Value.int IntKind.u8 0, Value.int IntKind.u8 0, Value.int IntKind.u8 0, Value.int IntKind.u8 0, Value.int IntKind.u8 0, Value.int IntKind.u8 0, Value.int IntKind.u8 0, Value.int IntKind.u8 0, Value.int IntKind.u8 0, Value.int IntKind.u8 0, Value.int IntKind.u8 0, Value.int IntKind.u8 0, Value.int IntKind.u8 0, Value.int IntKind.u8 0, Value.int IntKind.u8 0, Value.int IntKind.i64 0, Value.int IntKind.i64 0]) := ⟨Tryz.underlying23, ⟨Tryz.t52, by kernel_rfl, rfl, rfl, rfl⟩, rfl⟩
instance : AggT Tryz.prog 25 3 := ⟨Tryz.isAgg25, Tryz.sizeOf25⟩
instance : FAddr Tryz.prog 25 0 0 := ⟨fun _ _ => by kernel_rfl⟩
instance : FAddr Tryz.prog 25 1 1 := ⟨fun _ _ => by kernel_rfl⟩
instance : FAddr Tryz.prog 25 2 2 := ⟨fun _ _ => by kernel_rfl⟩
instance : BuildT Tryz.prog 25 (fun i => #[(0, 1), (1, 1), (2, 1)][i]?) #[Value.bool false, Value.slice none 0 0, Value.slice none 0 0] := ⟨fun _ => by kernel_rfl⟩
instance : ZeroT Tryz.prog 25 (Value.agg #[Value.bool false, Value.slice none 0 0, Value.slice none 0 0]) := ⟨Tryz.zeroValue25⟩
instance : UnderT Tryz.prog 26 (TypeDesc.int IntKind.i64) := ⟨Tryz.underlying26⟩
instance : UnderT Tryz.prog 27 (TypeDesc.slice 9) := ⟨Tryz.underlying27⟩
instance : OneT Tryz.prog 27 := ⟨Tryz.isAgg27, Tryz.sizeOf27⟩
instance : SliceT Tryz.prog 27 9 1 16 (Value.string { data := #[] }) := ⟨Tryz.underlying27, ⟨Tryz.t9, by kernel_rfl, rfl, rfl, rfl⟩, rfl⟩
instance : UnderT Tryz.prog 28 (TypeDesc.slice 3) := ⟨Tryz.underlying28⟩
instance : OneT Tryz.prog 28 := ⟨Tryz.isAgg28, Tryz.sizeOf28⟩
instance : SliceT Tryz.prog 28 3 1 8 (Value.int IntKind.i64 0) := ⟨Tryz.underlying28, ⟨Tryz.t3, by kernel_rfl, rfl, rfl, rfl⟩, rfl⟩
instance : FAddr Tryz.prog 30 2 2 := ⟨fun _ _ => by kernel_rfl⟩
instance : AggT Tryz.prog 32 11 := ⟨Tryz.isAgg32, Tryz.sizeOf32⟩
instance : FAddr Tryz.prog 32 0 0 := ⟨fun _ _ => by kernel_rfl⟩
instance : FAddr Tryz.prog 32 4 4 := ⟨fun _ _ => by kernel_rfl⟩
instance : FAddr Tryz.prog 32 5 5 := ⟨fun _ _ => by kernel_rfl⟩
instance : FAddr Tryz.prog 32 6 6 := ⟨fun _ _ => by kernel_rfl⟩
instance : BuildT Tryz.prog 32 (fun i => #[(0, 1), (1, 1), (2, 1), (3, 1), (4, 1), (5, 1), (6, 5)][i]?) #[Value.int IntKind.i64 0, Value.int IntKind.i64 0, Value.int IntKind.i64 0, Value.int IntKind.i64 0, Value.string { data := #[] }, Value.int IntKind.i64 0, Value.bool false, Value.string { data := #[] }, Value.slice none 0 0, Value.slice none 0 0, Value.bool false] := ⟨fun _ => by kernel_rfl⟩
instance : ZeroT Tryz.prog 32 (Value.agg #[Value.int IntKind.i64 0, Value.int IntKind.i64 0, Value.int IntKind.i64 0, Value.int IntKind.i64 0, Value.string { data := #[] }, Value.int IntKind.i64 0, Value.bool false, Value.string { data := #[] }, Value.slice none 0 0, Value.slice none 0 0, Value.bool false]) := ⟨Tryz.zeroValue32⟩
instance : UnderT Tryz.prog 34 (TypeDesc.array 16 5) := ⟨Tryz.underlying34⟩
instance : AggT Tryz.prog 34 16 := ⟨Tryz.isAgg34, Tryz.sizeOf34⟩
instance : ArrT Tryz.prog 34 16 5 1 := ⟨Tryz.underlying34, Tryz.sizeOf5⟩
instance : ZeroT Tryz.prog 34 (Value.agg #[Value.int IntKind.u8 0, Value.int IntKind.u8 0, Value.int IntKind.u8 0, Value.int IntKind.u8 0, Value.int IntKind.u8 0, Value.int IntKind.u8 0, Value.int IntKind.u8 0, Value.int IntKind.u8 0, Value.int IntKind.u8 0, Value.int IntKind.u8 0, Value.int IntKind.u8 0, Value.int IntKind.u8 0, Value.int IntKind.u8 0, Value.int IntKind.u8 0, Value.int IntKind.u8 0, Value.int IntKind.u8 0]) := ⟨Tryz.zeroValue34⟩
instance : AggT Tryz.prog 36 17 := ⟨Tryz.isAgg36, Tryz.sizeOf36⟩
instance : FAddr Tryz.prog 36 0 0 := ⟨fun _ _ => by kernel_rfl⟩
instance : FAddr Tryz.prog 36 1 16 := ⟨fun _ _ => by kernel_rfl⟩
instance : BuildT Tryz.prog 36 (fun i => #[(0, 16), (16, 1)][i]?) #[Value.int IntKind.u8 0, Value.int IntKind.u8 0, Value.int IntKind.u8 0, Value.int IntKind.u8 0, Value.int IntKind.u8 0, Value.int IntKind.u8 0, Value.int IntKind.u8 0, Value.int IntKind.u8 0, Value.int IntKind.u8 0, Value.int IntKind.u8 0, Value.int IntKind.u8 0, Value.int IntKind.u8 0, Value.int IntKind.u8 0, Value.int IntKind.u8 0, Value.int IntKind.u8 0, Value.int IntKind.u8 0, Value.int IntKind.i64 0] := ⟨fun _ => by kernel_rfl⟩
instance : ZeroT Tryz.prog 36 (Value.agg #[Value.int IntKind.u8 0, Value.int IntKind.u8 0, Value.int IntKind.u8 0, Value.int IntKind.u8 0, Value.int IntKind.u8 0, Value.int IntKind.u8 0, Value.int IntKind.u8 0, Value.int IntKind.u8 0, Value.int IntKind.u8 0, Value.int IntKind.u8 0, Value.int IntKind.u8 0, Value.int IntKind.u8 0, Value.int IntKind.u8 0, Value.int IntKind.u8 0, Value.int IntKind.u8 0, Value.int IntKind.u8 0, Value.int IntKind.i64 0]) := ⟨Tryz.zeroValue36⟩
instance : UnderT Tryz.prog 39 (TypeDesc.pointer 100) := ⟨Tryz.underlying39⟩
instance : UnderT Tryz.prog 42 (TypeDesc.pointer 108) := ⟨Tryz.underlying42⟩
instance : AggT Tryz.prog 48 5 := ⟨Tryz.isAgg48, Tryz.sizeOf48⟩
instance : FAddr Tryz.prog 48 0 0 := ⟨fun _ _ => by kernel_rfl⟩
instance : FAddr Tryz.prog 48 1 1 := ⟨fun _ _ => by kernel_rfl⟩
instance : FAddr Tryz.prog 48 2 2 := ⟨fun _ _ => by kernel_rfl⟩
instance : FAddr Tryz.prog 48 3 3 := ⟨fun _ _ => by kernel_rfl⟩
instance : FAddr Tryz.prog 48 4 4 := ⟨fun _ _ => by kernel_rfl⟩
instance : BuildT Tryz.prog 48 (fun i => #[(0, 1), (1, 1), (2, 1), (3, 1), (4, 1)][i]?) #[Value.bool false, Value.int IntKind.i64 0, Value.string { data := #[] }, Value.int IntKind.i64 0, Value.string { data := #[] }] := ⟨fun _ => by kernel_rfl⟩
instance : ZeroT Tryz.prog 48 (Value.agg #[Value.bool false, Value.int IntKind.i64 0, Value.string { data := #[] }, Value.int IntKind.i64 0, Value.string { data := #[] }]) := ⟨Tryz.zeroValue48⟩
instance : AggT Tryz.prog 50 17 := ⟨Tryz.isAgg50, Tryz.sizeOf50⟩
instance : FAddr Tryz.prog 50 0 0 := ⟨fun _ _ => by kernel_rfl⟩
instance : FAddr Tryz.prog 50 1 16 := ⟨fun _ _ => by kernel_rfl⟩
instance : BuildT Tryz.prog 50 (fun i => #[(0, 16), (16, 1)][i]?) #[Value.int IntKind.u8 0, Value.int IntKind.u8 0, Value.int IntKind.u8 0, Value.int IntKind.u8 0, Value.int IntKind.u8 0, Value.int IntKind.u8 0, Value.int IntKind.u8 0, Value.int IntKind.u8 0, Value.int IntKind.u8 0, Value.int IntKind.u8 0, Value.int IntKind.u8 0, Value.int IntKind.u8 0, Value.int IntKind.u8 0, Value.int IntKind.u8 0, Value.int IntKind.u8 0, Value.int IntKind.u8 0, Value.int IntKind.i64 0] := ⟨fun _ => by kernel_rfl⟩
instance : ZeroT Tryz.prog 50 (Value.agg #[Value.int IntKind.u8 0, Value.int IntKind.u8 0, Value.int IntKind.u8 0, Value.int IntKind.u8 0, Value.int IntKind.u8 0, Value.int IntKind.u8 0, Value.int IntKind.u8 0, Value.int IntKind.u8 0, Value.int IntKind.u8 0, Value.int IntKind.u8 0, Value.int IntKind.u8 0, Value.int IntKind.u8 0, Value.int IntKind.u8 0, Value.int IntKind.u8 0, Value.int IntKind.u8 0, Value.int IntKind.u8 0, Value.int IntKind.i64 0]) := ⟨Tryz.zeroValue50⟩
instance : AggT Tryz.prog 52 19 := ⟨Tryz.isAgg52, Tryz.sizeOf52⟩
instance : FAddr Tryz.prog 52 0 0 := ⟨fun _ _ => by kernel_rfl⟩
instance : FAddr Tryz.prog 52 1 1 := ⟨fun _ _ => by kernel_rfl⟩
instance : FAddr Tryz.prog 52 2 18 := ⟨fun _ _ => by kernel_rfl⟩
instance : BuildT Tryz.prog 52 (fun i => #[(0, 1), (1, 17), (18, 1)][i]?) #[Value.string { data := #[] }, Value.int IntKind.u8 0, Value.int IntKind.u8 0, Value.int IntKind.u8 0, Value.int IntKind.u8 0, Value.int IntKind.u8 0, Value.int IntKind.u8 0, Value.int IntKind.u8 0, Value.int IntKind.u8 0, Value.int IntKind.u8 0, Value.int IntKind.u8 0, Value.int IntKind.u8 0, Value.int IntKind.u8 0, Value.int IntKind.u8 0, Value.int IntKind.u8 0, Value.int IntKind.u8 0, Value.int IntKind.u8 0, Value.int IntKind.i64 0, Value.int IntKind.i64 0] := ⟨fun _ => by kernel_rfl⟩
instance : ZeroT Tryz.prog 52 (Value.agg #[Value.string { data := #[] }, Value.int IntKind.u8 0, Value.int IntKind.u8 0, Value.int IntKind.u8 0, Value.int IntKind.u8 0, Value.int IntKind.u8 0, Value.int IntKind.u8 0, Value.int IntKind.u8 0, Value.int IntKind.u8 0, Value.int IntKind.u8 0, Value.int IntKind.u8 0, Value.int IntKind.u8 0, Value.int IntKind.u8 0, Value.int IntKind.u8 0, Value.int IntKind.u8 0, Value.int IntKind.u8 0, Value.int IntKind.u8 0, Value.int IntKind.i64 0, Value.int IntKind.i64 0]) := ⟨Tryz.zeroValue52⟩
instance : AggT Tryz.prog 54 3 := ⟨Tryz.isAgg54, Tryz.sizeOf54⟩
instance : FAddr Tryz.prog 54 1 1 := ⟨fun _ _ => by kernel_rfl⟩
instance : BuildT Tryz.prog 54 (fun i => #[(0, 1), (1, 1), (2, 1)][i]?) #[Value.bool false, Value.int IntKind.i64 0, Value.int IntKind.i64 0] := ⟨fun _ => by kernel_rfl⟩
instance : ZeroT Tryz.prog 54 (Value.agg #[Value.bool false, Value.int IntKind.i64 0, Value.int IntKind.i64 0]) := ⟨Tryz.zeroValue54⟩
instance : UnderT Tryz.prog 65 (TypeDesc.slice 5) := ⟨Tryz.underlying65⟩
instance : SliceT Tryz.prog 65 5 1 1 (Value.int IntKind.u8 0) := ⟨Tryz.underlying65, ⟨Tryz.t5, by kernel_rfl, rfl, rfl, rfl⟩, rfl⟩
instance : AggT Tryz.prog 92 4 := ⟨Tryz.isAgg92, Tryz.sizeOf92⟩
instance : BuildT Tryz.prog 92 (fun i => some (i * 1, 1)) #[Value.int IntKind.u8 0, Value.int IntKind.u8 0, Value.int IntKind.u8 0, Value.int IntKind.u8 0] := ⟨fun _ => by kernel_rfl⟩
instance : ArrT Tryz.prog 92 4 5 1 := ⟨Tryz.underlying92, Tryz.sizeOf5⟩
instance : ZeroT Tryz.prog 92 (Value.agg #[Value.int IntKind.u8 0, Value.int IntKind.u8 0, Value.int IntKind.u8 0, Value.int IntKind.u8 0]) := ⟨Tryz.zeroValue92⟩
instance : OneT Tryz.prog 94 := ⟨Tryz.isAgg94, Tryz.sizeOf94⟩
instance : OneT Tryz.prog 96 := ⟨Tryz.isAgg96, Tryz.sizeOf96⟩
instance : FAddr Tryz.prog 100 0 0 := ⟨fun _ _ => by kernel_rfl⟩
instance : FAddr Tryz.prog 100 1 1 := ⟨fun _ _ => by kernel_rfl⟩
instance : FAddr Tryz.prog 100 2 2 := ⟨fun _ _ => by kernel_rfl⟩
instance : FAddr Tryz.prog 100 3 3 := ⟨fun _ _ => by kernel_rfl⟩
instance : BuildT Tryz.prog 100 (fun i => #[(0, 1), (1, 1), (2, 1), (3, 1)][i]?) #[Value.pointer none, Value.pointer none, Value.bool false, Value.slice none 0 0] := ⟨fun _ => by kernel_rfl⟩
instance : OneT Tryz.prog 102 := ⟨Tryz.isAgg102, Tryz.sizeOf102⟩
instance : FAddr Tryz.prog 104 0 0 := ⟨fun _ _ => by kernel_rfl⟩
instance : BuildT Tryz.prog 104 (fun i => #[(0, 1)][i]?) #[Value.slice none 0 0] := ⟨fun _ => by kernel_rfl⟩
instance : OneT Tryz.prog 105 := ⟨Tryz.isAgg105, Tryz.sizeOf105⟩
instance : FAddr Tryz.prog 108 0 0 := ⟨fun _ _ => by kernel_rfl⟩
instance : FAddr Tryz.prog 108 1 3 := ⟨fun _ _ => by kernel_rfl⟩
instance : FAddr Tryz.prog 108 2 4 := ⟨fun _ _ => by kernel_rfl⟩
instance : BuildT Tryz.prog 108 (fun i => #[(0, 3), (3, 1), (4, 1)][i]?) #[Value.bool false, Value.slice none 0 0, Value.slice none 0 0, Value.pointer none, Value.pointer none] := ⟨fun _ => by kernel_rfl⟩
instance : AggT Tryz.prog 142 12 := ⟨Tryz.isAgg142, Tryz.sizeOf142⟩
instance : ArrT Tryz.prog 142 12 5 1 := ⟨Tryz.underlying142, Tryz.sizeOf5⟩
instance : OneT Tryz.prog 145 := ⟨Tryz.isAgg145, Tryz.sizeOf145⟩
instance : FAddr Tryz.prog 147 0 0 := ⟨fun _ _ => by kernel_rfl⟩
instance : FAddr Tryz.prog 147 1 1 := ⟨fun _ _ => by kernel_rfl⟩
instance : BuildT Tryz.prog 147 (fun i => #[(0, 1), (1, 1)][i]?) #[Value.pointer none, Value.map none] := ⟨fun _ => by kernel_rfl⟩
instance : OneT Tryz.prog 149 := ⟨Tryz.isAgg149, Tryz.sizeOf149⟩
instance : UnderT Tryz.prog 150 (TypeDesc.map 9 204) := ⟨Tryz.underlying150⟩
instance : OneT Tryz.prog 150 := ⟨Tryz.isAgg150, Tryz.sizeOf150⟩
instance : FAddr Tryz.prog 152 0 0 := ⟨fun _ _ => by kernel_rfl⟩
instance : FAddr Tryz.prog 152 1 1 := ⟨fun _ _ => by kernel_rfl⟩
instance : FAddr Tryz.prog 152 2 2 := ⟨fun _ _ => by kernel_rfl⟩
instance : BuildT Tryz.prog 152 (fun i => #[(0, 1), (1, 1), (2, 1)][i]?) #[Value.slice none 0 0, Value.slice none 0 0, Value.map none] := ⟨fun _ => by kernel_rfl⟩
instance : FAddr Tryz.prog 154 0 0 := ⟨fun _ _ => by kernel_rfl⟩
instance : FAddr Tryz.prog 154 1 1 := ⟨fun _ _ => by kernel_rfl⟩
instance : FAddr Tryz.prog 154 2 2 := ⟨fun _ _ => by kernel_rfl⟩
instance : FAddr Tryz.prog 154 3 5 := ⟨fun _ _ => by kernel_rfl⟩
instance : BuildT Tryz.prog 154 (fun i => #[(0, 1), (1, 1), (2, 3), (5, 1)][i]?) #[Value.slice none 0 0, Value.slice none 0 0, Value.slice none 0 0, Value.slice none 0 0, Value.map none, Value.map none] := ⟨fun _ => by kernel_rfl⟩
instance : UnderT Tryz.prog 155 (TypeDesc.map 201 3) := ⟨Tryz.underlying155⟩
instance : OneT Tryz.prog 155 := ⟨Tryz.isAgg155, Tryz.sizeOf155⟩
instance : OneT Tryz.prog 156 := ⟨Tryz.isAgg156, Tryz.sizeOf156⟩
instance : FAddr Tryz.prog 158 0 0 := ⟨fun _ _ => by kernel_rfl⟩
instance : FAddr Tryz.prog 158 1 1 := ⟨fun _ _ => by kernel_rfl⟩
instance : BuildT Tryz.prog 158 (fun i => #[(0, 1), (1, 1)][i]?) #[Value.map none, Value.map none] := ⟨fun _ => by kernel_rfl⟩
instance : FAddr Tryz.prog 166 0 0 := ⟨fun _ _ => by kernel_rfl⟩
instance : BuildT Tryz.prog 166 (fun i => #[(0, 1)][i]?) #[Value.slice none 0 0] := ⟨fun _ => by kernel_rfl⟩
instance : UnderT Tryz.prog 168 (TypeDesc.slice 28) := ⟨Tryz.underlying168⟩
instance : SliceT Tryz.prog 168 28 1 24 (Value.slice none 0 0) := ⟨Tryz.underlying168, ⟨Tryz.t28, by kernel_rfl, rfl, rfl, rfl⟩, rfl⟩
instance : UnderT Tryz.prog 171 (TypeDesc.slice 50) := ⟨Tryz.underlying171⟩
instance : SliceT Tryz.prog 171 50 17 24 (Value.agg #[Value.int IntKind.u8 0, Value.int IntKind.u8 0, Value.int IntKind.u8 0, Value.int IntKind.u8 0, Value.int IntKind.u8 0, Value.int IntKind.u8 0, Value.int IntKind.u8 0, Value.int IntKind.u8 0, Value.int IntKind.u8 0, Value.int IntKind.u8 0, Value.int IntKind.u8 0, Value.int IntKind.u8 0, Value.int IntKind.u8 0, Value.int IntKind.u8 0, Value.int IntKind.u8 0, Value.int IntKind.u8 0, Value.int IntKind.i64 0]) := ⟨Tryz.underlying171, ⟨Tryz.t50, by kernel_rfl, rfl, rfl, rfl⟩, rfl⟩
instance : AggT Tryz.prog 198 18 := ⟨Tryz.isAgg198, Tryz.sizeOf198⟩
instance : BuildT Tryz.prog 198 (fun i => #[(0, 1), (1, 17)][i]?) #[Value.string { data := #[] }, Value.int IntKind.u8 0, Value.int IntKind.u8 0, Value.int IntKind.u8 0, Value.int IntKind.u8 0, Value.int IntKind.u8 0, Value.int IntKind.u8 0, Value.int IntKind.u8 0, Value.int IntKind.u8 0, Value.int IntKind.u8 0, Value.int IntKind.u8 0, Value.int IntKind.u8 0, Value.int IntKind.u8 0, Value.int IntKind.u8 0, Value.int IntKind.u8 0, Value.int IntKind.u8 0, Value.int IntKind.u8 0, Value.int IntKind.i64 0] := ⟨fun _ => by kernel_rfl⟩
instance : ZeroT Tryz.prog 198 (Value.agg #[Value.string { data := #[] }, Value.int IntKind.u8 0, Value.int IntKind.u8 0, Value.int IntKind.u8 0, Value.int IntKind.u8 0, Value.int IntKind.u8 0, Value.int IntKind.u8 0, Value.int IntKind.u8 0, Value.int IntKind.u8 0, Value.int IntKind.u8 0, Value.int IntKind.u8 0, Value.int IntKind.u8 0, Value.int IntKind.u8 0, Value.int IntKind.u8 0, Value.int IntKind.u8 0, Value.int IntKind.u8 0, Value.int IntKind.u8 0, Value.int IntKind.i64 0]) := ⟨Tryz.zeroValue198⟩
instance : AggT Tryz.prog 201 18 := ⟨Tryz.isAgg201, Tryz.sizeOf201⟩
instance : FAddr Tryz.prog 201 0 0 := ⟨fun _ _ => by kernel_rfl⟩
instance : FAddr Tryz.prog 201 1 1 := ⟨fun _ _ => by kernel_rfl⟩
instance : BuildT Tryz.prog 201 (fun i => #[(0, 1), (1, 17)][i]?) #[Value.string { data := #[] }, Value.int IntKind.u8 0, Value.int IntKind.u8 0, Value.int IntKind.u8 0, Value.int IntKind.u8 0, Value.int IntKind.u8 0, Value.int IntKind.u8 0, Value.int IntKind.u8 0, Value.int IntKind.u8 0, Value.int IntKind.u8 0, Value.int IntKind.u8 0, Value.int IntKind.u8 0, Value.int IntKind.u8 0, Value.int IntKind.u8 0, Value.int IntKind.u8 0, Value.int IntKind.u8 0, Value.int IntKind.u8 0, Value.int IntKind.i64 0] := ⟨fun _ => by kernel_rfl⟩
instance : ZeroT Tryz.prog 201 (Value.agg #[Value.string { data := #[] }, Value.int IntKind.u8 0, Value.int IntKind.u8 0, Value.int IntKind.u8 0, Value.int IntKind.u8 0, Value.int IntKind.u8 0, Value.int IntKind.u8 0, Value.int IntKind.u8 0, Value.int IntKind.u8 0, Value.int IntKind.u8 0, Value.int IntKind.u8 0, Value.int IntKind.u8 0, Value.int IntKind.u8 0, Value.int IntKind.u8 0, Value.int IntKind.u8 0, Value.int IntKind.u8 0, Value.int IntKind.u8 0, Value.int IntKind.i64 0]) := ⟨Tryz.zeroValue201⟩
instance : UnderT Tryz.prog 204 (TypeDesc.pointer 152) := ⟨Tryz.underlying204⟩
instance : UnderT Tryz.prog 218 (TypeDesc.int IntKind.u64) := ⟨Tryz.underlying218⟩
instance : UnderT Tryz.prog 219 (TypeDesc.int IntKind.u64) := ⟨Tryz.underlying219⟩
instance : UnderT Tryz.prog 224 (TypeDesc.interface #[("Error", 227)]) := ⟨Tryz.underlying224⟩
instance : UnderT Tryz.prog 251 (TypeDesc.int IntKind.u16) := ⟨Tryz.underlying251⟩
instance : OneT Tryz.prog 251 := ⟨Tryz.isAgg251, Tryz.sizeOf251⟩
instance : AggT Tryz.prog 252 8 := ⟨Tryz.isAgg252, Tryz.sizeOf252⟩
instance : ArrT Tryz.prog 252 8 251 1 := ⟨Tryz.underlying252, Tryz.sizeOf251⟩
instance : ZeroT Tryz.prog 252 (Value.agg #[Value.int IntKind.u16 0, Value.int IntKind.u16 0, Value.int IntKind.u16 0, Value.int IntKind.u16 0, Value.int IntKind.u16 0, Value.int IntKind.u16 0, Value.int IntKind.u16 0, Value.int IntKind.u16 0]) := ⟨Tryz.zeroValue252⟩
instance : UnderT Tryz.prog 253 (TypeDesc.slice 251) := ⟨Tryz.underlying253⟩
instance : SliceT Tryz.prog 253 251 1 2 (Value.int IntKind.u16 0) := ⟨Tryz.underlying253, ⟨Tryz.t251, by kernel_rfl, rfl, rfl, rfl⟩, rfl⟩
instance : UnderT Tryz.prog 267 (TypeDesc.map 50 3) := ⟨Tryz.underlying267⟩
instance : OneT Tryz.prog 267 := ⟨Tryz.isAgg267, Tryz.sizeOf267⟩
instance : FAddr Tryz.prog 269 0 0 := ⟨fun _ _ => by kernel_rfl⟩
instance : BuildT Tryz.prog 269 (fun i => #[(0, 1)][i]?) #[Value.map none] := ⟨fun _ => by kernel_rfl⟩
instance : ArrT Tryz.prog 310 65 5 1 := ⟨Tryz.underlying310, Tryz.sizeOf5⟩
instance : ZeroT Tryz.prog 310 (Value.agg ([Value.int IntKind.u8 0, Value.int IntKind.u8 0, Value.int IntKind.u8 0, Value.int IntKind.u8 0, Value.int IntKind.u8 0, Value.int IntKind.u8 0, Value.int IntKind.u8 0, Value.int IntKind.u8 0, Value.int IntKind.u8 0, Value.int IntKind.u8 0, Value.int IntKind.u8 0, Value.int IntKind.u8 0, Value.int IntKind.u8 0, Value.int IntKind.u8 0, Value.int IntKind.u8 0, Value.int IntKind.u8 0, Value.int IntKind.u8 0, Value.int IntKind.u8 0, Value.int IntKind.u8 0, Value.int IntKind.u8 0, Value.int IntKind.u8 0, Value.int IntKind.u8 0, Value.int IntKind.u8 0, Value.int IntKind.u8 0, Value.int IntKind.u8 0, Value.int IntKind.u8 0, Value.int IntKind.u8 0, Value.int IntKind.u8 0, Value.int IntKind.u8 0, Value.int IntKind.u8 0, Value.int IntKind.u8 0, Value.int IntKind.u8 0].append [Value.int IntKind.u8 0, Value.int IntKind.u8 0, Value.int IntKind.u8 0, Value.int IntKind.u8 0, Value.int IntKind.u8 0, Value.int IntKind.u8 0, Value.int IntKind.u8 0, Value.int IntKind.u8 0, Value.int IntKind.u8 0, Value.int IntKind.u8 0, Value.int IntKind.u8 0, Value.int IntKind.u8 0, Value.int IntKind.u8 0, Value.int IntKind.u8 0, Value.int IntKind.u8 0, Value.int IntKind.u8 0, Value.int IntKind.u8 0, Value.int IntKind.u8 0, Value.int IntKind.u8 0, Value.int IntKind.u8 0, Value.int IntKind.u8 0, Value.int IntKind.u8 0, Value.int IntKind.u8 0, Value.int IntKind.u8 0, Value.int IntKind.u8 0, Value.int IntKind.u8 0, Value.int IntKind.u8 0, Value.int IntKind.u8 0, Value.int IntKind.u8 0, Value.int IntKind.u8 0, Value.int IntKind.u8 0, Value.int IntKind.u8 0, Value.int IntKind.u8 0]).toArray) := ⟨Tryz.zeroValue310⟩
instance : ArrT Tryz.prog 345 64 5 1 := ⟨Tryz.underlying345, Tryz.sizeOf5⟩
instance : CallF Tryz.prog 10 := ⟨Tryz.call10⟩
instance : CallF Tryz.prog 11 := ⟨Tryz.call11⟩
instance : CallF Tryz.prog 12 := ⟨Tryz.call12⟩
instance : CallF Tryz.prog 13 := ⟨Tryz.call13⟩
instance : CallF Tryz.prog 14 := ⟨Tryz.call14⟩
instance : CallF Tryz.prog 15 := ⟨Tryz.call15⟩
instance : CallF Tryz.prog 16 := ⟨Tryz.call16⟩
instance : CallF Tryz.prog 17 := ⟨Tryz.call17⟩
instance : CallF Tryz.prog 19 := ⟨Tryz.call19⟩
instance : CallF Tryz.prog 43 := ⟨Tryz.call43⟩
instance : CallF Tryz.prog 44 := ⟨Tryz.call44⟩
instance : CallF Tryz.prog 45 := ⟨Tryz.call45⟩
instance : CallF Tryz.prog 46 := ⟨Tryz.call46⟩
instance : CallF Tryz.prog 47 := ⟨Tryz.call47⟩
instance : CallF Tryz.prog 48 := ⟨Tryz.call48⟩
instance : CallF Tryz.prog 49 := ⟨Tryz.call49⟩
instance : CallF Tryz.prog 50 := ⟨Tryz.call50⟩
instance : CallF Tryz.prog 51 := ⟨Tryz.call51⟩
instance : CallF Tryz.prog 52 := ⟨Tryz.call52⟩
instance : CallF Tryz.prog 53 := ⟨Tryz.call53⟩
instance : CallF Tryz.prog 54 := ⟨Tryz.call54⟩
instance : CallF Tryz.prog 55 := ⟨Tryz.call55⟩
instance : CallF Tryz.prog 56 := ⟨Tryz.call56⟩
instance : CallF Tryz.prog 57 := ⟨Tryz.call57⟩
instance : CallF Tryz.prog 58 := ⟨Tryz.call58⟩
instance : CallF Tryz.prog 59 := ⟨Tryz.call59⟩
instance : CallF Tryz.prog 88 := ⟨Tryz.call88⟩
instance : CallF Tryz.prog 89 := ⟨Tryz.call89⟩
instance : CallF Tryz.prog 90 := ⟨Tryz.call90⟩
instance : CallF Tryz.prog 91 := ⟨Tryz.call91⟩
instance : CallF Tryz.prog 92 := ⟨Tryz.call92⟩
instance : CallF Tryz.prog 93 := ⟨Tryz.call93⟩
instance : CallF Tryz.prog 94 := ⟨Tryz.call94⟩
instance : CallF Tryz.prog 95 := ⟨Tryz.call95⟩
instance : CallF Tryz.prog 96 := ⟨Tryz.call96⟩
instance : CallF Tryz.prog 97 := ⟨Tryz.call97⟩
instance : CallF Tryz.prog 98 := ⟨Tryz.call98⟩
instance : CallF Tryz.prog 99 := ⟨Tryz.call99⟩
instance : CallF Tryz.prog 100 := ⟨Tryz.call100⟩
instance : CallF Tryz.prog 101 := ⟨Tryz.call101⟩
instance : CallF Tryz.prog 102 := ⟨Tryz.call102⟩
instance : CallF Tryz.prog 103 := ⟨Tryz.call103⟩
instance : CallF Tryz.prog 104 := ⟨Tryz.call104⟩
instance : CallF Tryz.prog 105 := ⟨Tryz.call105⟩
instance : CallF Tryz.prog 106 := ⟨Tryz.call106⟩
instance : CallF Tryz.prog 117 := ⟨Tryz.call117⟩
instance : CallF Tryz.prog 118 := ⟨Tryz.call118⟩
instance : CallF Tryz.prog 120 := ⟨Tryz.call120⟩
instance : CallF Tryz.prog 121 := ⟨Tryz.call121⟩
instance : CallF Tryz.prog 122 := ⟨Tryz.call122⟩
instance : CallF Tryz.prog 123 := ⟨Tryz.call123⟩
instance : CallF Tryz.prog 124 := ⟨Tryz.call124⟩
instance : CallF Tryz.prog 125 := ⟨Tryz.call125⟩
instance : CallF Tryz.prog 126 := ⟨Tryz.call126⟩
instance : CallF Tryz.prog 127 := ⟨Tryz.call127⟩
instance : CallF Tryz.prog 128 := ⟨Tryz.call128⟩
instance : CallF Tryz.prog 129 := ⟨Tryz.call129⟩
instance : CallF Tryz.prog 130 := ⟨Tryz.call130⟩
instance : CallF Tryz.prog 131 := ⟨Tryz.call131⟩
instance : CallF Tryz.prog 132 := ⟨Tryz.call132⟩
instance : CallF Tryz.prog 133 := ⟨Tryz.call133⟩
instance : CallF Tryz.prog 134 := ⟨Tryz.call134⟩
instance : CallF Tryz.prog 135 := ⟨Tryz.call135⟩
instance : CallF Tryz.prog 136 := ⟨Tryz.call136⟩
instance : CallF Tryz.prog 137 := ⟨Tryz.call137⟩
instance : CallF Tryz.prog 138 := ⟨Tryz.call138⟩
instance : CallF Tryz.prog 139 := ⟨Tryz.call139⟩
instance : CallF Tryz.prog 140 := ⟨Tryz.call140⟩
instance : CallF Tryz.prog 147 := ⟨Tryz.call147⟩
instance : CallF Tryz.prog 148 := ⟨Tryz.call148⟩
instance : CallF Tryz.prog 149 := ⟨Tryz.call149⟩
instance : CallF Tryz.prog 150 := ⟨Tryz.call150⟩
instance : CallF Tryz.prog 151 := ⟨Tryz.call151⟩
instance : CallF Tryz.prog 152 := ⟨Tryz.call152⟩
instance : CallF Tryz.prog 153 := ⟨Tryz.call153⟩
instance : CallF Tryz.prog 154 := ⟨Tryz.call154⟩
instance : CallF Tryz.prog 155 := ⟨Tryz.call155⟩
instance : CallF Tryz.prog 156 := ⟨Tryz.call156⟩
instance : CallF Tryz.prog 157 := ⟨Tryz.call157⟩
instance : CallF Tryz.prog 158 := ⟨Tryz.call158⟩
instance : CallF Tryz.prog 159 := ⟨Tryz.call159⟩
instance : CallF Tryz.prog 160 := ⟨Tryz.call160⟩
instance : CallF Tryz.prog 161 := ⟨Tryz.call161⟩
instance : CallF Tryz.prog 162 := ⟨Tryz.call162⟩
instance : CallF Tryz.prog 163 := ⟨Tryz.call163⟩
instance : CallF Tryz.prog 164 := ⟨Tryz.call164⟩
instance : CallF Tryz.prog 165 := ⟨Tryz.call165⟩
instance : CallF Tryz.prog 166 := ⟨Tryz.call166⟩
instance : CallF Tryz.prog 167 := ⟨Tryz.call167⟩
instance : CallF Tryz.prog 168 := ⟨Tryz.call168⟩
instance : CallF Tryz.prog 169 := ⟨Tryz.call169⟩
instance : CallF Tryz.prog 170 := ⟨Tryz.call170⟩
instance : CallF Tryz.prog 171 := ⟨Tryz.call171⟩
instance : CallF Tryz.prog 172 := ⟨Tryz.call172⟩
instance : CallF Tryz.prog 173 := ⟨Tryz.call173⟩
instance : CallF Tryz.prog 174 := ⟨Tryz.call174⟩
instance : CallF Tryz.prog 175 := ⟨Tryz.call175⟩
instance : CallF Tryz.prog 176 := ⟨Tryz.call176⟩
instance : CallF Tryz.prog 181 := ⟨Tryz.call181⟩
instance : CallF Tryz.prog 182 := ⟨Tryz.call182⟩
instance : CallF Tryz.prog 183 := ⟨Tryz.call183⟩
instance : CallF Tryz.prog 184 := ⟨Tryz.call184⟩
instance : CallF Tryz.prog 185 := ⟨Tryz.call185⟩
instance : CallF Tryz.prog 186 := ⟨Tryz.call186⟩
instance : CallF Tryz.prog 187 := ⟨Tryz.call187⟩
instance : CallF Tryz.prog 188 := ⟨Tryz.call188⟩
instance : CallF Tryz.prog 189 := ⟨Tryz.call189⟩
instance : CallF Tryz.prog 190 := ⟨Tryz.call190⟩
instance : CallF Tryz.prog 191 := ⟨Tryz.call191⟩
instance : CallF Tryz.prog 192 := ⟨Tryz.call192⟩
instance : CallF Tryz.prog 194 := ⟨Tryz.call194⟩
instance : CallF Tryz.prog 196 := ⟨Tryz.call196⟩
instance : CallF Tryz.prog 197 := ⟨Tryz.call197⟩
instance : CallF Tryz.prog 198 := ⟨Tryz.call198⟩
instance : CallF Tryz.prog 199 := ⟨Tryz.call199⟩
instance : CallF Tryz.prog 200 := ⟨Tryz.call200⟩
instance : CallF Tryz.prog 201 := ⟨Tryz.call201⟩
instance : CallF Tryz.prog 202 := ⟨Tryz.call202⟩
instance : CallF Tryz.prog 203 := ⟨Tryz.call203⟩
instance : CallF Tryz.prog 204 := ⟨Tryz.call204⟩
instance : CallF Tryz.prog 205 := ⟨Tryz.call205⟩
instance : CallF Tryz.prog 206 := ⟨Tryz.call206⟩
instance : CallF Tryz.prog 207 := ⟨Tryz.call207⟩
instance : CallF Tryz.prog 208 := ⟨Tryz.call208⟩
instance : CallF Tryz.prog 209 := ⟨Tryz.call209⟩
instance : CallF Tryz.prog 210 := ⟨Tryz.call210⟩
instance : CallF Tryz.prog 216 := ⟨Tryz.call216⟩
instance : CallF Tryz.prog 219 := ⟨Tryz.call219⟩
instance : CallF Tryz.prog 220 := ⟨Tryz.call220⟩
instance : CallF Tryz.prog 221 := ⟨Tryz.call221⟩
instance : CallF Tryz.prog 222 := ⟨Tryz.call222⟩
instance : CallF Tryz.prog 223 := ⟨Tryz.call223⟩
instance : CallF Tryz.prog 224 := ⟨Tryz.call224⟩
instance : CallF Tryz.prog 225 := ⟨Tryz.call225⟩
instance : CallF Tryz.prog 229 := ⟨Tryz.call229⟩
instance : CallF Tryz.prog 230 := ⟨Tryz.call230⟩
instance : CallF Tryz.prog 233 := ⟨Tryz.call233⟩
instance : CallF Tryz.prog 234 := ⟨Tryz.call234⟩
instance : CallF Tryz.prog 240 := ⟨Tryz.call240⟩
instance : CallF Tryz.prog 241 := ⟨Tryz.call241⟩
instance : CallF Tryz.prog 242 := ⟨Tryz.call242⟩
instance : CallF Tryz.prog 244 := ⟨Tryz.call244⟩
instance : CallF Tryz.prog 248 := ⟨Tryz.call248⟩
instance : CallF Tryz.prog 260 := ⟨Tryz.call260⟩
instance : CallF Tryz.prog 262 := ⟨Tryz.call262⟩
end Go.Own
