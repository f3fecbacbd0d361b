/-
  NameTells: names in their one form, and their labels, are as the document's: of any string: no condition.
-/
import Derived.Test.YtabkbpckehdiaaaGreatDoorRows
import Derived.Test.YtabkbpckehdiaaaGreatDoorTie
import Derived.Test.YtabkbpckehdiaaaGreatDoorCards
import Derived.Test.YtabkbpckehdiaaaGreatDoorNam5
import Derived.Test.YtabkbpckehdiaaaGreatDoorRf16
import Derived.Test.YtabkbpckehdiaaaGreatDoorWit
import Derived.Test.YtabkbpckehdiaaaGreatDoorTabF
import Derived.SevenTiedPlain
namespace Go.Rfn
open Go.Own Go.Proofs Go.RowKit Go.Lib Go.Asc Go.Adr Go.Nam
attribute [local irreducible] GC GQ G Rd Eff T
set_option maxRecDepth 20000
set_option maxHeartbeats 4000000
theorem labelsL_ne (s : List UInt8) : labelsL s ≠ [] := by
  unfold labelsL
  split
  · simp
  · simpa using splitB_ne 46 s
theorem labelsL_len (s : List UInt8) : (labelsL s).length ≤ s.length + 1 := by
  unfold labelsL
  split
  · simp
  · rw [List.length_reverse, splitB_length]; have := List.count_le_length (a := (46 : UInt8)) (l := s); omega
theorem NameTells_core (W : World) (hv : Vars W) (s : List UInt8) (hl : s.length ≤ 140737488351232) : T Tryz.prog W 3 #[S s] [] (fun v _ => v = .bool true) := by
  refine T.intro (args := [_]) Tryz.func3 rfl Tryz.ntmps3 rfl ?_
  by_cases h6 : 600 < s.length
  · repeat' first | refine st ?_ | (refine nw ?_; intro _) | refine kn ?_ | (refine sp ?_ ?_ <;> intro _) | fail
    exact GQ.done1 rfl rfl rfl
  · have hne := labelsL_ne s
    have hll := labelsL_len s
    repeat' first | refine st ?_ | (refine nw ?_; intro _) | refine kn ?_ | (refine sp ?_ ?_ <;> intro _) | fail
    refine G.ef rfl rfl rfl (Eff.callF rfl ((labels_spec hv s (by omega)).mono ?_))
    rintro v H2 ⟨bk, rfl, rfl⟩
    repeat' first | refine st ?_ | (refine nw ?_; intro _) | refine kn ?_ | (refine sp ?_ ?_ <;> intro _) | fail
    refine G.ef rfl rfl rfl (Eff.callF rfl ((rLabels_spec s (by omega)).mono ?_))
    rintro v H2 ⟨B, hb, rfl⟩
    obtain ⟨b2, c2, rfl, hat2⟩ := Buf.at (W0 := W) hb hne
    refine G.ef rfl rfl rfl (Eff.callF rfl ((rows_spec (labelsL s) (labelsL s) bk b2 _ c2 (RO.cells (cs := strs (labelsL s)) (fun j u h => by simpa using h)) (fun X w hw => hat2 X _ w hw) (by omega)).mono ?_))
    rintro v H2 ⟨rfl, rfl⟩
    have he : decide (labelsL s = labelsL s) = true := by simp
    rw [he]
    repeat' first | refine st ?_ | (refine nw ?_; intro _) | refine kn ?_ | (refine sp ?_ ?_ <;> intro _) | fail
    exact GQ.done1 rfl rfl rfl
theorem NameTells_walk (W : World) (vts : List VT) (hv : Vars W) (h : VT.LiesEach Tryz.prog W [9] vts) : T Tryz.prog W 3 (vts.map VT.val).toArray [] (fun v _ => v = .bool true) := by
  obtain ⟨v0, r0, rfl, h0, h⟩ := lies_one h
  obtain rfl := lies_nil h
  obtain ⟨s, rfl, hl⟩ := Lies.str h0
  exact NameTells_core W hv s hl
end Go.Rfn
namespace Go.Proofs.YtabkbpckehdiaaaGreatDoor.LNameTells
open Go.Own
theorem own : ownKnob Tryz.prog.godebug = none := by kernel_rfl
theorem reads (os : Os) {H : Type} (enc : TypeId × Value → H) : ∃ x, DataW.whole enc Tryz.prog ((laidWorld os).forCall (fun _ _ => 0) ⟨#[], #[.string ⟨#[]⟩], []⟩).memory Tryz.f3.params.toList Rows.nameTellsSpec.vars false #[.string ⟨#[]⟩].toList 8 = some x :=
  Option.isSome_iff_exists.1 (by kernel_rfl)
set_option maxRecDepth 100000 in
theorem lifted (os : Os) (started : os.Started) (H : Type) (enc : TypeId × Value → H) (F : Stop.Interp) :
    ReturnsInHanded {} Tryz.checked os 3 .any ((OpenSpec.ofChange Rows.nameTellsSpec).preRow enc Tryz.prog Tryz.f3 Rows.nameTellsRow.domain false Rows.nameTellsRow.laid) (((OpenSpec.ofChange Rows.nameTellsSpec).at F).post enc Tryz.prog Tryz.f3 false true false false) := by
  obtain ⟨x, hx⟩ := reads os enc
  exact law_laid (C := Tryz.checked) (D := 20) (tb := 4) own started (by kernel_rfl) Tryz.func3 rfl rfl Tryz.underlying4 (by kernel_rfl) (by kernel_rfl) (by kernel_rfl)
    (fun K ds h => by match ds, h with | [_], _ => rfl)
    (witness_row_atRef (enc := enc) (C := Tryz.checked) false (laidWorld os) #[.string ⟨#[]⟩] rfl (laid_shaped1 os _) (laid_shaped2 os _) (by kernel_rfl)
      (OpenSpec.preRow_of_cond 8 hx (by kernel_rfl) (fun k hk => by cases hk) (by kernel_rfl) (laid_met os _)))
    (fun W vts hsh hL h => Go.Rfn.NameTells_walk W vts (Go.Nam.vars_of hsh hL) (by rw [Tryz.params3] at h; exact h))
theorem said : Rows.NameTellsSaid :=
  OpenClaim.holds_of_cond 3 Tryz.f3 rfl rfl rfl rfl rfl rfl rfl ⟨rfl, rfl, rfl, rfl, rfl⟩ rfl rfl rfl rfl rfl (by kernel_rfl) Tryz.func3 (by kernel_rfl)
    (of_decide_eq_true (by kernel_rfl)) (by unfold Func.isWrapper; first | (rw [if_pos (by decide +kernel)]; kernel_rfl) | (rw [if_neg (by decide +kernel)]; exact ⟨rfl, rfl⟩))
    (fun os started H enc _ F => by rw [OpenClaim.pre_eq_preRow]; exact lifted os started H enc F)
theorem plain (f : FuncId) (fn : Func) (hf : Tryz.pinned.checked.prog.funcNamed "hagioscope/hagioscopelaw14.NameTells" = some f) (hfn : Tryz.pinned.checked.prog.funcs[f]? = some fn) :
    true = Tryz.pinned.checked.prog.looks [] ∧ ∀ (j : Nat) t, fn.params[j]? = some t → Tryz.pinned.checked.prog.wantsStandIn t = false := by
  obtain rfl : f = 3 := Option.some.inj ((show Tryz.prog.funcNamed "hagioscope/hagioscopelaw14.NameTells" = some 3 by kernel_rfl).symm.trans hf) |>.symm
  obtain rfl : fn = Tryz.f3 := (Option.some.inj (Tryz.func3.symm.trans hfn)).symm
  refine ⟨by kernel_rfl, fun j t ht => ?_⟩
  have hall : Tryz.f3.params.toList.all (fun t => !Tryz.prog.wantsStandIn t) = true := by kernel_rfl
  have := List.all_eq_true.1 hall t (Array.mem_toList_iff.2 (Array.mem_of_getElem? ht))
  have h2 : Tryz.prog.wantsStandIn t = false := by simpa using this
  exact h2
end Go.Proofs.YtabkbpckehdiaaaGreatDoor.LNameTells
namespace Go.Proofs.YtabkbpckehdiaaaGreatDoor
/-- The law NameTells holds: its card. -/
theorem nameTells_holds : Rows.NameTellsCardSaid :=
  Claim7.holds_tied_plain_at .later [] _ _ _ _ LNameTells.said (fun _ h => by cases h) (by kernel_rfl) (fun _ h => by cases h) nameTells_row_tie rfl ⟨rfl, rfl⟩ (by kernel_rfl) rfl LNameTells.plain (by kernel_rfl)
#print axioms nameTells_holds
end Go.Proofs.YtabkbpckehdiaaaGreatDoor
