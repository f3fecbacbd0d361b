/-
  THE LIBRARY'S FUNCTIONS OVER WHAT IS OWNED: IndexByte, IndexRune at ASCII, Count and Index of one byte, Split at one byte.
-/
import Derived.Test.YtlakopiopplfhaaGreatDoorAsc1
import Derived.Lib.Bytealg
import Derived.Laws.Externs
namespace Go.Asc
open Go.Own Go.Proofs Go.RowKit Go.Lib
attribute [local irreducible] GC GQ G Rd Eff T
set_option maxRecDepth 20000
set_option maxHeartbeats 4000000

instance : ExtF Tryz.prog 268 Extern.BytealgIndexByte.indexByte := ⟨fun xs w => run_callFunc_extern Tryz.func268 (by kernel_rfl) (by kernel_rfl) (by kernel_rfl) (by kernel_rfl) xs w⟩
instance : ExtF Tryz.prog 228 Extern.BytealgCount.count := ⟨fun xs w => run_callFunc_extern Tryz.func228 (by kernel_rfl) (by kernel_rfl) (by kernel_rfl) (by kernel_rfl) xs w⟩

section
variable {W0 : World} {F : Heap}
theorem sindexByte_spec (l : List UInt8) (c : UInt8) : T Tryz.prog W0 244 #[S l, .int .u8 (c.toNat : Int)] F (fun v H' => v = .int .i64 (indexByte l c) ∧ H' = F) := by
  refine T.intro (args := [_, _]) Tryz.func244 rfl Tryz.ntmps244 rfl ?_
  refine au ?_
  refine G.rd (Rd.ext rfl (fun w _ => run_indexByteString _ _ w)) rfl rfl ?_
  refine au ?_
  exact GQ.done1 rfl rfl ⟨by simp, rfl⟩
theorem indexByte_spec (l : List UInt8) (c : UInt8) : T Tryz.prog W0 248 #[S l, .int .u8 (c.toNat : Int)] F (fun v H' => v = .int .i64 (indexByte l c) ∧ H' = F) := by
  refine T.intro (args := [_, _]) Tryz.func248 rfl Tryz.ntmps248 rfl ?_
  refine au ?_
  refine G.ef rfl rfl rfl (Eff.callF rfl ((sindexByte_spec l c).mono ?_))
  rintro v H' ⟨rfl, rfl⟩
  refine au ?_
  exact GQ.done1 rfl rfl ⟨rfl, rfl⟩
theorem indexRune_spec (l : List UInt8) (c : UInt8) (hc : c.toNat < 128) : T Tryz.prog W0 225 #[S l, .int .i32 (c.toNat : Int)] F (fun v H' => v = .int .i64 (indexByte l c) ∧ H' = F) := by
  refine T.intro (args := [_, _]) Tryz.func225 rfl Tryz.ntmps225 rfl ?_
  refine au ?_
  refine G.rd (Rd.conv rfl (IntWalk.u8_in _ (by omega))) rfl rfl ?_
  refine G.ef rfl rfl rfl (Eff.callF rfl ((indexByte_spec l c).mono ?_))
  rintro v H' ⟨rfl, rfl⟩
  refine au ?_
  exact GQ.done1 rfl rfl ⟨rfl, rfl⟩
end
end Go.Asc
