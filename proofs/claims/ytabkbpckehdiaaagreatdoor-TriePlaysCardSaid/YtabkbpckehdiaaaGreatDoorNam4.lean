/-
  NAMES: the small case of the laws: what the plain functions answer there.
-/
import Derived.Test.YtabkbpckehdiaaaGreatDoorNam3
namespace Go.Nam
open Go.Own Go.Proofs Go.RowKit Go.Lib Go.Asc Go.Adr
attribute [local irreducible] GC GQ G Rd Eff T
set_option maxRecDepth 20000
set_option maxHeartbeats 4000000
theorem n1 : normalL [87, 87, 87, 46, 69, 120, 97, 45, 109, 112, 108, 101, 95, 46] = ([119, 119, 119, 46, 101, 120, 97, 45, 109, 112, 108, 101, 95], 0) := by decide +kernel
theorem n3 : normalL [97, 46, 46, 98] = ([], 9) := by decide +kernel
theorem p2 : parseL [48, 58, 58, 49] = some [0, 0, 0, 0, 0, 0, 0, 0, 0, 0, 0, 0, 0, 0, 0, 1] := by decide +kernel
theorem h0 : hexL 0 = [48] := by rw [hexL_small (by omega)]; rfl
theorem h1 : hexL 1 = [49] := by rw [hexL_small (by omega)]; rfl
theorem pr2 : printL [0, 0, 0, 0, 0, 0, 0, 0, 0, 0, 0, 0, 0, 0, 0, 1] = [58, 58, 49] := by
  have hr : rowL (groupsL [0, 0, 0, 0, 0, 0, 0, 0, 0, 0, 0, 0, 0, 0, 0, 1]) = (0, 7) := by decide +kernel
  have hg : groupsL [0, 0, 0, 0, 0, 0, 0, 0, 0, 0, 0, 0, 0, 0, 0, 1] = [0, 0, 0, 0, 0, 0, 0, 1] := by decide +kernel
  rw [printL, if_neg (by decide), hr, if_neg (by decide), hg]
  show textL [] ++ [58, 58] ++ textL [1] = _
  simp [textL, h1, join_one, join_nil]
theorem n2 : normalL [48, 58, 58, 49] = ([58, 58, 49], 0) := by
  simp only [normalL, p2, pr2]
theorem n4 : normalL [46] = ([], 8) := by decide +kernel
theorem n5 : normalL [97, 46, 49] = ([], 9) := by decide +kernel
theorem n6 : normalL [45, 97] = ([], 9) := by decide +kernel
theorem l1 : labelsL [97, 46, 98, 46, 99] = [[99], [98], [97]] := by decide +kernel
theorem l2 : labelsL [49, 46, 50, 46, 51, 46, 52] = [[49, 46, 50, 46, 51, 46, 52]] := by decide +kernel
theorem k300 : normalL (List.replicate 300 0) = ([], 6) := by decide +kernel
section
variable {W0 : World} {F : Heap}
theorem small_spec (hv : Vars W0) : T Tryz.prog W0 10 #[] F (fun v H' => v = .bool true ∧ H' = F) := by
  refine T.intro (args := []) Tryz.func10 rfl Tryz.ntmps10 rfl ?_
  refine au ?_
  refine G.ef rfl rfl rfl (Eff.callF rfl ((normal_spec hv [87, 87, 87, 46, 69, 120, 97, 45, 109, 112, 108, 101, 95, 46] (by decide)).mono ?_))
  rintro v H' ⟨rfl, rfl⟩
  simp only [normalV, n1]
  refine au ?_
  refine G.ef rfl rfl rfl (Eff.callF rfl ((normal_spec hv [48, 58, 58, 49] (by decide)).mono ?_))
  rintro v H' ⟨rfl, rfl⟩
  simp only [normalV, n2]
  refine au ?_
  refine G.ef rfl rfl rfl (Eff.callF rfl ((normal_spec hv [97, 46, 46, 98] (by decide)).mono ?_))
  rintro v H' ⟨rfl, rfl⟩
  simp only [normalV, n3]
  refine au ?_
  refine G.ef rfl rfl rfl (Eff.callF rfl ((normal_spec hv [46] (by decide)).mono ?_))
  rintro v H' ⟨rfl, rfl⟩
  simp only [normalV, n4]
  refine au ?_
  refine G.ef rfl rfl rfl (Eff.callF rfl ((normal_spec hv [97, 46, 49] (by decide)).mono ?_))
  rintro v H' ⟨rfl, rfl⟩
  simp only [normalV, n5]
  refine au ?_
  refine G.ef rfl rfl rfl (Eff.callF rfl ((normal_spec hv [45, 97] (by decide)).mono ?_))
  rintro v H' ⟨rfl, rfl⟩
  simp only [normalV, n6]
  refine au ?_
  refine G.ef rfl rfl rfl (Eff.make (n := 300) rfl rfl rfl rfl (by decide) (by decide) rfl (fun bz => ?_))
  rw [show (List.replicate 300 (Value.int IntKind.u8 0)) = u8s (List.replicate 300 0) by simp [u8s]]
  refine G.rd (Rd.strW (l := List.replicate 300 0) rfl (by simp)) rfl rfl ?_
  refine G.ef rfl rfl rfl (Eff.callF rfl ((normal_spec hv (List.replicate 300 0) (by simp)).mono ?_))
  rintro v H2 ⟨rfl, rfl⟩
  simp only [normalV, k300]
  refine au ?_
  refine G.ef rfl rfl rfl (Eff.callF rfl ((labels_spec hv [97, 46, 98, 46, 99] (by decide)).mono ?_))
  rintro v H3 ⟨b1, rfl, rfl⟩
  rw [l1]
  refine au ?_
  refine G.ef rfl rfl rfl (Eff.callF rfl ((labels_spec hv [49, 46, 50, 46, 51, 46, 52] (by decide)).mono ?_))
  rintro v H4 ⟨b2, rfl, rfl⟩
  rw [l2]
  refine au ?_
  iterate 3
    refine G.rd (Rd.indexAddr rfl rfl (by decide) (by decide)) rfl rfl ?_
    refine G.rd (Rd.load rfl (cellH rfl)) rfl rfl ?_
    refine au ?_
  refine GQ.heap (H' := H') ?_ (fun w hw => hw.sub SubH.out)
  exact GQ.done1 rfl rfl ⟨rfl, rfl⟩
end
end Go.Nam
