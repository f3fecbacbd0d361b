/-
  NAMES: what the rows' lists give: what the package variables hold.
-/
import Derived.Test.YtajkpdhcefkopaaGreatDoorNam4
import Derived.Test.YtajkpdhcefkopaaGreatDoorOwnH
import Derived.Test.YtajkpdhcefkopaaGreatDoorRows
import Derived.HandedShaped
import Derived.LaidByTextLater
import Derived.Shelf.Vars
namespace Go.Nam
open Go.Own Go.Proofs Go.RowKit Go.Lib Go.Asc Go.Adr
theorem vars_of {W : World} (hsh : W.ShapedOpen Tryz.prog) (hL : laidMetH Tryz.prog YtajkpdhcefkopaaGreatDoor.Rows.pinsPlaysRow.laid W) : Vars (zd W) := by
  rw [MakeChecks.laidMetH_plain _ _ _ (by kernel_rfl)] at hL
  have hA : TabIs Tryz.prog W "hagioscope/addr.ahead" .u8 [0, 0, 0, 0, 0, 0, 0, 0, 0, 0, 255, 255] := tabIs_of_mem (g := 0) (by kernel_rfl) (by kernel_rfl) Tryz.underlying116 Tryz.underlying5 (by kernel_rfl) (by kernel_rfl) hL (List.mem_of_getElem? (i := 6) (by kernel_rfl))
  have hP : TabIs Tryz.prog W "internal/strconv.uint64pow10" .u64 pow10Tab := tabIs_of_mem (g := 2) (t := 244) (e := 181) (by kernel_rfl) (by kernel_rfl) Tryz.underlying244 Tryz.underlying181 (by kernel_rfl) (by kernel_rfl) hL (List.mem_of_getElem? (i := 2) (by kernel_rfl))
  have hT : TabIs Tryz.prog W "math/bits.deBruijn64tab" .u8 [0, 1, 56, 2, 57, 49, 28, 3, 61, 58, 42, 50, 38, 29, 17, 4, 62, 47, 59, 36, 45, 43, 51, 22, 53, 39, 33, 30, 24, 18, 12, 5, 63, 55, 48, 27, 60, 41, 37, 16, 46, 35, 44, 21, 52, 32, 23, 11, 54, 26, 40, 15, 34, 20, 31, 10, 25, 14, 19, 9, 13, 8, 7, 6] := tabIs_of_mem (g := 8) (t := 264) (e := 5) (by kernel_rfl) (by kernel_rfl) Tryz.underlying264 Tryz.underlying5 (by kernel_rfl) (by kernel_rfl) hL (List.mem_of_getElem? (i := 1) (by kernel_rfl))
  have key : (∃ m : Int, W.cell? ⟨1, 0, none⟩ = some (.int .i64 m)) ∧ CellsAt W 0 0 (u8s aheadL) ∧ W.cell? ⟨8, 15, none⟩ = some (.int .u8 4) ∧ TabIs Tryz.prog W "internal/strconv.uint64pow10" .u64 pow10Tab := by
   refine ⟨?_, fun j u hj => ?_, hT.cell (by kernel_rfl) 15 (by decide), hP⟩
   · exact cell_of_shapedOpen_int (t := 3) (zero := #[.int .i64 0]) hsh (Nat.le_of_ble_eq_true (by kernel_rfl)) (by kernel_rfl) rfl (by kernel_rfl) (by kernel_rfl) Tryz.underlying3
   · have hlt : j < 12 := (List.getElem?_eq_some_iff.1 hj).1
     have h1 := hA.cell (g := 0) (by kernel_rfl) j hlt
     rw [Nat.zero_add, h1, ← hj]
     have key : ∀ i : Fin 12, some (Value.int IntKind.u8 (([0, 0, 0, 0, 0, 0, 0, 0, 0, 0, 255, 255] : List Int).getD i.1 0)) = (u8s aheadL)[i.1]? := by
       intro i
       match i with
       | 0 | 1 | 2 | 3 | 4 | 5 | 6 | 7 | 8 | 9 | 10 | 11 => rfl
     exact key ⟨j, hlt⟩
  obtain ⟨k1, k2, k3, k4⟩ := key
  exact ⟨k1, fun j u hj => k2 j u hj, k3, k4, rfl⟩
end Go.Nam
