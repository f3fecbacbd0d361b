/-
  TrieTells: single rules are right, and match, as the document says: any rule, any host: no condition.
-/
import Derived.Test.YtabkbpckehdiaaaGreatDoorRows
import Derived.Test.YtabkbpckehdiaaaGreatDoorTie
import Derived.Test.YtabkbpckehdiaaaGreatDoorCards
import Derived.Test.YtabkbpckehdiaaaGreatDoorNam5
import Derived.Test.YtabkbpckehdiaaaGreatDoorGTc
import Derived.Test.YtabkbpckehdiaaaGreatDoorWit
import Derived.SevenTiedPlain
namespace Go.Tri
open Go.Own Go.Proofs Go.RowKit Go.Lib Go.Asc Go.Adr Go.Nam Go.Rfn
attribute [local irreducible] GC GQ G Rd Eff T
set_option maxRecDepth 20000
set_option maxHeartbeats 4000000
attribute [local irreducible] named patL matchL visL fitsL rightL countsL lessL
theorem TrieTells_core (W : World) (hv : Vars W) (r : Ru) (hs : Sized r) (host : Lab) (hl : host.length ≤ 140737488351232) : T Tryz.prog W 4 #[ruV r, S host] [] (fun v _ => v = .bool true) := by
  have hp1 := hs.2.2.1
  have hp2 := hs.2.2.2
  refine T.intro (args := [_, _]) Tryz.func4 rfl Tryz.ntmps4 rfl ?_
  by_cases hbig : 500 < r.pat.length ∨ 500 < r.alpn.length ∨ 500 < host.length
  · repeat' first | refine Y.st ?_ | (refine nw ?_; intro _) | refine Y.kn ?_ | (refine sp ?_ ?_ <;> intro _) | fail
    all_goals first | (exfalso; omega) | exact GQ.done1 rfl rfl rfl
  · repeat' first | refine Y.st ?_ | (refine nw ?_; intro _) | refine Y.kn ?_ | fail
    refine GC.drawnH [(0, .read), (1, .read), (2, .read), (4, .read), (3, .eff), (5, .eff), (6, .read), (7, .read), (8, .read), (9, .read), (10, .read), (11, .read), (13, .read), (14, .read), (15, .read), (12, .eff), (16, .tail), (17, .tail), (18, .tail), (19, .tail)] (by kernel_rfl) (by kernel_rfl) rfl ?_
    repeat' first | refine Y.st ?_ | (refine nw ?_; intro _) | refine Y.kn ?_ | fail
    refine G.rd (Rd.eqlB rfl rfl) rfl rfl ?_
    rw [beq_self_eq_true]
    repeat' first | refine Y.st ?_ | (refine nw ?_; intro _) | refine Y.kn ?_ | fail
    exact GQ.done1 rfl rfl rfl
theorem TrieTells_walk (W : World) (vts : List VT) (hv : Vars W) (h : VT.LiesEach Tryz.prog W [31, 9] vts) : T Tryz.prog W 4 (vts.map VT.val).toArray [] (fun v _ => v = .bool true) := by
  obtain ⟨v0, r, rfl, h0, h⟩ := lies_one h
  obtain ⟨v1, r, rfl, h1, h⟩ := lies_one h
  obtain rfl := lies_nil h
  obtain ⟨ru, e0, _, hs⟩ := lies_rule h0
  obtain ⟨s, rfl, hl⟩ := Go.Own.Lies.str h1
  simp only [List.map_cons, List.map_nil, e0]
  exact TrieTells_core W hv ru hs s hl
end Go.Tri
namespace Go.Proofs.YtabkbpckehdiaaaGreatDoor.LTrieTells
open Go.Own
theorem own : ownKnob Tryz.prog.godebug = none := by kernel_rfl
theorem reads (os : Os) {H : Type} (enc : TypeId × Value → H) : ∃ x, DataW.whole enc Tryz.prog ((laidWorld os).forCall (fun _ _ => 0) ⟨#[], #[.agg #[.bool false, .int .i64 0, .string ⟨#[]⟩, .int .i64 0, .string ⟨#[]⟩], .string ⟨#[]⟩], []⟩).memory Tryz.f4.params.toList Rows.trieTellsSpec.vars false #[.agg #[.bool false, .int .i64 0, .string ⟨#[]⟩, .int .i64 0, .string ⟨#[]⟩], .string ⟨#[]⟩].toList 8 = some x :=
  Option.isSome_iff_exists.1 (by kernel_rfl)
set_option maxRecDepth 100000 in
theorem lifted (os : Os) (started : os.Started) (H : Type) (enc : TypeId × Value → H) (F : Stop.Interp) :
    ReturnsInHanded {} Tryz.checked os 4 .any ((OpenSpec.ofChange Rows.trieTellsSpec).preRow enc Tryz.prog Tryz.f4 Rows.trieTellsRow.domain false Rows.trieTellsRow.laid) (((OpenSpec.ofChange Rows.trieTellsSpec).at F).post enc Tryz.prog Tryz.f4 false true false false) := by
  obtain ⟨x, hx⟩ := reads os enc
  exact law_laid (C := Tryz.checked) (D := 20) (tb := 4) own started (by kernel_rfl) Tryz.func4 rfl rfl Tryz.underlying4 (by kernel_rfl) (by kernel_rfl) (by kernel_rfl)
    (fun K ds h => by match ds, h with | [_, _], _ => rfl)
    (witness_row_atRef (enc := enc) (C := Tryz.checked) false (laidWorld os) #[.agg #[.bool false, .int .i64 0, .string ⟨#[]⟩, .int .i64 0, .string ⟨#[]⟩], .string ⟨#[]⟩] rfl (laid_shaped1 os _) (laid_shaped2 os _) (by kernel_rfl)
      (OpenSpec.preRow_of_cond 8 hx (by kernel_rfl) (fun k hk => by cases hk) (by kernel_rfl) (laid_met os _)))
    (fun W vts hsh hL h => Go.Tri.TrieTells_walk W vts (Go.Nam.vars_of hsh hL) (by rw [Tryz.params4] at h; exact h))
theorem said : Rows.TrieTellsSaid :=
  OpenClaim.holds_of_cond 4 Tryz.f4 rfl rfl rfl rfl rfl rfl rfl ⟨rfl, rfl, rfl, rfl, rfl⟩ rfl rfl rfl rfl rfl (by kernel_rfl) Tryz.func4 (by kernel_rfl)
    (of_decide_eq_true (by kernel_rfl)) (by unfold Func.isWrapper; first | (rw [if_pos (by decide +kernel)]; kernel_rfl) | (rw [if_neg (by decide +kernel)]; exact ⟨rfl, rfl⟩))
    (fun os started H enc _ F => by rw [OpenClaim.pre_eq_preRow]; exact lifted os started H enc F)
theorem plain (f : FuncId) (fn : Func) (hf : Tryz.pinned.checked.prog.funcNamed "hagioscope/hagioscopelaw18.TrieTells" = some f) (hfn : Tryz.pinned.checked.prog.funcs[f]? = some fn) :
    true = Tryz.pinned.checked.prog.looks [] ∧ ∀ (j : Nat) t, fn.params[j]? = some t → Tryz.pinned.checked.prog.wantsStandIn t = false := by
  obtain rfl : f = 4 := Option.some.inj ((show Tryz.prog.funcNamed "hagioscope/hagioscopelaw18.TrieTells" = some 4 by kernel_rfl).symm.trans hf) |>.symm
  obtain rfl : fn = Tryz.f4 := (Option.some.inj (Tryz.func4.symm.trans hfn)).symm
  refine ⟨by kernel_rfl, fun j t ht => ?_⟩
  have hall : Tryz.f4.params.toList.all (fun t => !Tryz.prog.wantsStandIn t) = true := by kernel_rfl
  have := List.all_eq_true.1 hall t (Array.mem_toList_iff.2 (Array.mem_of_getElem? ht))
  have h2 : Tryz.prog.wantsStandIn t = false := by simpa using this
  exact h2
end Go.Proofs.YtabkbpckehdiaaaGreatDoor.LTrieTells
namespace Go.Proofs.YtabkbpckehdiaaaGreatDoor
/-- The law TrieTells holds: its card. -/
theorem trieTells_holds : Rows.TrieTellsCardSaid :=
  Claim7.holds_tied_plain_at .later [] _ _ _ _ LTrieTells.said (fun _ h => by cases h) (by kernel_rfl) (fun _ h => by cases h) trieTells_row_tie rfl ⟨rfl, rfl⟩ (by kernel_rfl) rfl LTrieTells.plain (by kernel_rfl)
#print axioms trieTells_holds
end Go.Proofs.YtabkbpckehdiaaaGreatDoor
