/-
  NAMES: the labels of a name, the last one first.
-/
import Derived.Test.YtajkpdhcefkopaaGreatDoorNam2
namespace Go.Nam
open Go.Own Go.Proofs Go.RowKit Go.Lib Go.Asc Go.Adr
attribute [local irreducible] GC GQ G Rd Eff T
set_option maxRecDepth 20000
set_option maxHeartbeats 4000000


theorem set_strs0 (l : List (List UInt8)) (k : Nat) (x : List UInt8) : (strs l).toArray.setIfInBounds (0 + k * 1) (S x) = (strs (l.set k x)).toArray := by
  simp only [Nat.zero_add, Nat.mul_one, List.setIfInBounds_toArray]
  simp [strs, List.map_set]
section
variable {W0 : World} {F : Heap}
theorem labels_spec (hv : Vars W0) (s : List UInt8) (hl : s.length < 4294967281) : T Tryz.prog W0 77 #[S s] F
    (fun v H' => ∃ bk, v = .slice (some ⟨bk, 0, none⟩) (labelsL s).length (labelsL s).length ∧ H' = (bk, .cells (strs (labelsL s)).toArray 9 (0, 0)) :: F) := by
  refine T.intro (args := [_]) Tryz.func77 rfl Tryz.ntmps77 rfl ?_
  refine au ?_
  refine G.ef rfl rfl rfl (Eff.callF rfl ((parse_spec hv s hl).mono ?_))
  rintro v H' ⟨rfl, rfl⟩
  unfold parseV
  have hz16 : (u8s ((parseL s).getD zero16)).length = 16 := by
    rw [u8s_length]
    cases hp : parseL s with
    | none => rfl
    | some a => exact parseL_len hp
  refine au ?_
  refine G.ef rfl rfl rfl (Eff.alloc (fun b4 => ?_))
  refine G.heap (H' := (b4, .cells (u8s zero16).toArray 24 (0, 0)) :: H') ?_ (fun _ h => h)
  refine G.ef rfl rfl rfl (Eff.storeAll rfl rfl (u8s_one _) (by rw [hz16]; rfl) hz16 ?_)
  refine G.heap (H' := H') ?_ (fun w hw => hw.sub SubH.out)
  cases hp : parseL s with
  | some a =>
    have hlab : labelsL s = [s] := by simp only [labelsL, hp]
    rw [hlab]
    simp only [Option.isSome_some]
    refine au ?_
    refine G.ef rfl rfl rfl (Eff.buildSlice (cells := (strs [s]).toArray) rfl (by kernel_rfl) (by omega) (fun b2 => ?_))
    refine au ?_
    exact GQ.done1 rfl rfl ⟨b2, rfl, rfl⟩
  | none =>
    have hlab : labelsL s = (splitB 46 s).reverse := by simp only [labelsL, hp]
    rw [hlab]
    simp only [Option.isSome_none]
    refine au ?_
    refine G.ef rfl rfl rfl (Eff.callF rfl ((split_spec s 46 (by omega)).mono ?_))
    rintro v H4 ⟨bk, rfl, rfl⟩
    have hlen := splitB_length 46 s
    have hcnt := List.count_le_length (a := (46 : UInt8)) (l := s)
    generalize Asc.splitB 46 s = ps at hlen ⊢
    refine au ?_
    refine G.ef rfl rfl rfl (Eff.make (n := ps.length) rfl rfl rfl rfl (by omega) (by omega) rfl (fun b6 => ?_))
    refine au ?_
    refine GC.loop (ι := { k : Nat // k ≤ ps.length }) (fun i => [(5, .slice (some ⟨bk, 0, none⟩) ps.length ps.length), (6, .slice (some ⟨b6, 0, none⟩) ps.length ps.length), (22, .int .i64 (ps.length : Int)), (23, .int .i64 (i.1 : Int))]) (fun i => (b6, .cells (strs (List.replicate (ps.length - i.1) [] ++ (ps.take i.1).reverse)).toArray 9 (0, 0)) :: (bk, .cells (strs ps).toArray 9 (0, 0)) :: H') (fun i => ps.length - i.1) ⟨0, Nat.zero_le _⟩ ⟨rfl, rfl, rfl, rfl, trivial⟩ (fun w hw => by simpa [strs] using hw) ?_
    rintro ⟨k, hk⟩
    dsimp only at hk ⊢
    by_cases hlt : k < ps.length
    · refine au ?_
      refine G.rd (Rd.load rfl (cellH (cell_strs ps k hlt))) rfl rfl ?_
      rw [show (ps.length : Int) - 1 - (k : Int) = ((ps.length - 1 - k : Nat) : Int) by omega]
      refine au ?_
      refine G.ef rfl rfl rfl (Eff.store rfl rfl rfl (by simp [strs_length]; omega) (by simp [Fz]) ?_)
      refine au ?_
      refine GQ.back ⟨k + 1, by omega⟩ (by simp only; omega) ⟨rfl, rfl, rfl, rfl, trivial⟩ (fun w hw => ?_)
      rw [← turn_set ps k hlt, ← set_strs0]
      exact hw
    · obtain rfl : k = ps.length := by omega
      rw [Nat.sub_self, List.take_length, List.replicate_zero, List.nil_append]
      refine au ?_
      refine GQ.heap (H' := (b6, .cells (strs ps.reverse).toArray 9 (0, 0)) :: H') ?_ (fun w hw => hw.sub SubH.out)
      exact GQ.done1 rfl rfl ⟨b6, by rw [List.length_reverse], rfl⟩
end
end Go.Nam
