/-
  CidrNests: who begins alike in more bits does in fewer: of any addresses: no condition.
-/
import Derived.Test.YtohblhfdgoigdaaGreatDoorRows
import Derived.Test.YtohblhfdgoigdaaGreatDoorTie
import Derived.Test.YtohblhfdgoigdaaGreatDoorCards
import Derived.Test.YtohblhfdgoigdaaGreatDoorNam5
import Derived.Test.YtohblhfdgoigdaaGreatDoorGCj
import Derived.Test.YtohblhfdgoigdaaGreatDoorWit
import Derived.SevenTiedPlain
namespace Go.Cid
open Go.Own Go.Proofs Go.RowKit Go.Lib Go.Asc Go.Adr Go.Nam Go.Tri
attribute [local irreducible] GC GQ G Rd Eff T
set_option maxRecDepth 20000
set_option maxHeartbeats 4000000
attribute [local irreducible] hasC rightC ofL Lit.wf
theorem CidrNests_core (W : World) (hv : Vars W) (a b : List UInt8) (ha : a.length = 16) (hb : b.length = 16) (n m : Int) (hn : (Lit.int .i64 n).wf = true) (hm : (Lit.int .i64 m).wf = true) :
    T Tryz.prog W 10 #[.agg (u8s a).toArray, .agg (u8s b).toArray, .int .i64 n, .int .i64 m] [] (fun v _ => v = .bool true) := by
  have hC := siz_of ha n
  have hD := siz_of ha m
  have hO := siz_of ha 0
  have hL := siz_of ha 128
  have hC' : SizC ⟨(ofL a n).addr, (ofL a n).bits⟩ := hC
  have hD' : SizC ⟨(ofL a m).addr, (ofL a m).bits⟩ := hD
  have hO' : SizC ⟨(ofL a 0).addr, (ofL a 0).bits⟩ := hO
  have hL' : SizC ⟨(ofL a 128).addr, (ofL a 128).bits⟩ := hL
  have w0 : (Lit.int .i64 0).wf = true := wf_small (by decide) (by decide)
  have w128 : (Lit.int .i64 128).wf = true := wf_small (by decide) (by decide)
  have hcl := cdC_len hC.1
  have hdl := cdC_len hD.1
  have e1 := has_self a n
  have e2 := right_of a n
  have e3 := has_zero (a := a) (b := b) (by omega)
  have e4 := has_all ha hb
  have e5 := @nests a b n m
  refine T.intro (args := [_, _, _, _]) Tryz.func10 rfl Tryz.ntmps10 rfl ?_
  repeat' first | refine Y.st ?_ | (refine nw ?_; intro _) | refine Y.kn ?_ | fail
  refine G.ef rfl rfl rfl (Eff.callF rfl ((csmall_spec hv).mono ?_))
  rintro v H' ⟨rfl, rfl⟩
  repeat' first | refine Y.st ?_ | (refine nw ?_; intro _) | refine Y.kn ?_ | fail
  refine G.ef rfl rfl rfl (Eff.storeAll (cs := cdC zeroC) (vs := cdC (ofL a n)) rfl rfl (cdC_one _) (by rw [hcl]; rfl) hcl ?_)
  repeat' first | refine Y.st ?_ | (refine nw ?_; intro _) | refine Y.kn ?_ | fail
  refine G.ef rfl rfl rfl (Eff.storeAll (cs := cdC zeroC) (vs := cdC (ofL a m)) rfl rfl (cdC_one _) (by rw [hdl]; rfl) hdl ?_)
  have e1' : hasC ⟨(ofL a n).addr, (ofL a n).bits⟩ a = true := e1
  have e2' : rightC ⟨(ofL a n).addr, (ofL a n).bits⟩ = true := e2
  have e3' : hasC ⟨(ofL a 0).addr, (ofL a 0).bits⟩ b = true := e3
  have e4' : hasC ⟨(ofL a 128).addr, (ofL a 128).bits⟩ b = decide (a = b) := e4
  rename_i b4 b5 b10 b11
  have hcase : m ≤ n ∧ hasC ⟨(ofL a n).addr, (ofL a n).bits⟩ b = true ∧ hasC ⟨(ofL a m).addr, (ofL a m).bits⟩ b = true ∨ m ≤ n ∧ hasC ⟨(ofL a n).addr, (ofL a n).bits⟩ b = false ∨ ¬ m ≤ n := by
    by_cases hnm : m ≤ n
    · cases hh : hasC ⟨(ofL a n).addr, (ofL a n).bits⟩ b with
      | true => exact .inl ⟨hnm, rfl, e5 hnm hh⟩
      | false => exact .inr (.inl ⟨hnm, rfl⟩)
    · exact .inr (.inr hnm)
  rcases hcase with ⟨hnm, hh, hk⟩ | ⟨hnm, hh⟩ | hnm
  · repeat' first | refine Y.st ?_ | (refine nw ?_; intro _) | refine Y.kn ?_ | fail
    refine GC.drawnH [(0, .read), (1, .read), (2, .read), (3, .read), (4, .eff), (5, .read), (6, .read), (7, .read), (8, .eff), (9, .read), (10, .read), (11, .read), (13, .read), (12, .eff), (14, .eff), (15, .read), (16, .read), (17, .read), (19, .read), (21, .read), (22, .read), (23, .read), (18, .eff), (20, .eff), (24, .read), (25, .read), (26, .read)] (by kernel_rfl) (by kernel_rfl) rfl ?_
    repeat' first | refine Y.st ?_ | (refine nw ?_; intro _) | refine Y.kn ?_ | fail
    refine G.rd (Rd.eqlBytes (l := a) (m := b) rfl (by kernel_rfl) rfl rfl ha hb) rfl rfl ?_
    repeat' first | refine Y.st ?_ | (refine nw ?_; intro _) | refine Y.kn ?_ | fail
    refine G.isBin .eql ?_
    refine G.rd (Rd.eqlB rfl rfl) rfl rfl ?_
    rw [e4', show (decide (a = b) == (a == b)) = true by rw [beq_dec]; simp]
    repeat' first | refine Y.st ?_ | (refine nw ?_; intro _) | refine Y.kn ?_ | fail
    exact GQ.done1 rfl rfl rfl
  · repeat' first | refine Y.st ?_ | (refine nw ?_; intro _) | refine Y.kn ?_ | fail
    refine GC.drawnH [(0, .read), (1, .read), (2, .read), (3, .read), (4, .eff), (5, .read), (6, .read), (7, .read), (8, .eff), (9, .read), (10, .read), (11, .read), (13, .read), (12, .eff), (14, .eff), (15, .read), (16, .read), (17, .read), (19, .read), (21, .read), (22, .read), (23, .read), (18, .eff), (20, .eff), (24, .read), (25, .read), (26, .read)] (by kernel_rfl) (by kernel_rfl) rfl ?_
    repeat' first | refine Y.st ?_ | (refine nw ?_; intro _) | refine Y.kn ?_ | fail
    refine G.rd (Rd.eqlBytes (l := a) (m := b) rfl (by kernel_rfl) rfl rfl ha hb) rfl rfl ?_
    repeat' first | refine Y.st ?_ | (refine nw ?_; intro _) | refine Y.kn ?_ | fail
    refine G.isBin .eql ?_
    refine G.rd (Rd.eqlB rfl rfl) rfl rfl ?_
    rw [e4', show (decide (a = b) == (a == b)) = true by rw [beq_dec]; simp]
    repeat' first | refine Y.st ?_ | (refine nw ?_; intro _) | refine Y.kn ?_ | fail
    exact GQ.done1 rfl rfl rfl
  · repeat' first | refine Y.st ?_ | (refine nw ?_; intro _) | refine Y.kn ?_ | fail
    refine GC.drawnH [(0, .read), (1, .read), (2, .read), (3, .read), (4, .eff), (5, .read), (6, .read), (7, .read), (8, .eff), (9, .read), (10, .read), (11, .read), (13, .read), (12, .eff), (14, .eff), (15, .read), (16, .read), (17, .read), (19, .read), (21, .read), (22, .read), (23, .read), (18, .eff), (20, .eff), (24, .read), (25, .read), (26, .read)] (by kernel_rfl) (by kernel_rfl) rfl ?_
    repeat' first | refine Y.st ?_ | (refine nw ?_; intro _) | refine Y.kn ?_ | fail
    refine G.rd (Rd.eqlBytes (l := a) (m := b) rfl (by kernel_rfl) rfl rfl ha hb) rfl rfl ?_
    repeat' first | refine Y.st ?_ | (refine nw ?_; intro _) | refine Y.kn ?_ | fail
    refine G.isBin .eql ?_
    refine G.rd (Rd.eqlB rfl rfl) rfl rfl ?_
    rw [e4', show (decide (a = b) == (a == b)) = true by rw [beq_dec]; simp]
    repeat' first | refine Y.st ?_ | (refine nw ?_; intro _) | refine Y.kn ?_ | fail
    exact GQ.done1 rfl rfl rfl
theorem CidrNests_walk (W : World) (vts : List VT) (hv : Vars W) (h : VT.LiesEach Tryz.prog W [39, 39, 3, 3] vts) : T Tryz.prog W 10 (vts.map VT.val).toArray [] (fun v _ => v = .bool true) := by
  obtain ⟨v0, r, rfl, h0, h⟩ := lies_one h
  obtain ⟨v1, r, rfl, h1, h⟩ := lies_one h
  obtain ⟨v2, r, rfl, h2, h⟩ := lies_one h
  obtain ⟨v3, r, rfl, h3, h⟩ := lies_one h
  obtain rfl := lies_nil h
  obtain ⟨a, ha, e0, _⟩ := lies_addr h0
  obtain ⟨b, hb, e1, _⟩ := lies_addr h1
  obtain ⟨n, rfl, hn⟩ := Go.Own.Lies.int h2
  obtain ⟨m, rfl, hm⟩ := Go.Own.Lies.int h3
  simp only [List.map_cons, List.map_nil, e0, e1]
  exact CidrNests_core W hv a b ha hb n m hn hm
end Go.Cid
namespace Go.Proofs.YtohblhfdgoigdaaGreatDoor.LCidrNests
open Go.Own
theorem own : ownKnob Tryz.prog.godebug = none := by kernel_rfl
theorem reads (os : Os) {H : Type} (enc : TypeId × Value → H) : ∃ x, DataW.whole enc Tryz.prog ((laidWorld os).forCall (fun _ _ => 0) ⟨#[], #[.agg #[.int .u8 0, .int .u8 0, .int .u8 0, .int .u8 0, .int .u8 0, .int .u8 0, .int .u8 0, .int .u8 0, .int .u8 0, .int .u8 0, .int .u8 0, .int .u8 0, .int .u8 0, .int .u8 0, .int .u8 0, .int .u8 0], .agg #[.int .u8 0, .int .u8 0, .int .u8 0, .int .u8 0, .int .u8 0, .int .u8 0, .int .u8 0, .int .u8 0, .int .u8 0, .int .u8 0, .int .u8 0, .int .u8 0, .int .u8 0, .int .u8 0, .int .u8 0, .int .u8 0], .int .i64 0, .int .i64 0], []⟩).memory Tryz.f10.params.toList Rows.cidrNestsSpec.vars false #[.agg #[.int .u8 0, .int .u8 0, .int .u8 0, .int .u8 0, .int .u8 0, .int .u8 0, .int .u8 0, .int .u8 0, .int .u8 0, .int .u8 0, .int .u8 0, .int .u8 0, .int .u8 0, .int .u8 0, .int .u8 0, .int .u8 0], .agg #[.int .u8 0, .int .u8 0, .int .u8 0, .int .u8 0, .int .u8 0, .int .u8 0, .int .u8 0, .int .u8 0, .int .u8 0, .int .u8 0, .int .u8 0, .int .u8 0, .int .u8 0, .int .u8 0, .int .u8 0, .int .u8 0], .int .i64 0, .int .i64 0].toList 8 = some x :=
  Option.isSome_iff_exists.1 (by kernel_rfl)
set_option maxRecDepth 100000 in
theorem lifted (os : Os) (started : os.Started) (H : Type) (enc : TypeId × Value → H) (F : Stop.Interp) :
    ReturnsInHanded {} Tryz.checked os 10 .any ((OpenSpec.ofChange Rows.cidrNestsSpec).preRow enc Tryz.prog Tryz.f10 Rows.cidrNestsRow.domain false Rows.cidrNestsRow.laid) (((OpenSpec.ofChange Rows.cidrNestsSpec).at F).post enc Tryz.prog Tryz.f10 false true false false) := by
  obtain ⟨x, hx⟩ := reads os enc
  exact law_laid (C := Tryz.checked) (D := 20) (tb := 4) own started (by kernel_rfl) Tryz.func10 rfl rfl Tryz.underlying4 (by kernel_rfl) (by kernel_rfl) (by kernel_rfl)
    (fun K ds h => by match ds, h with | [_, _, _, _], _ => rfl)
    (witness_row_atRef (enc := enc) (C := Tryz.checked) false (laidWorld os) #[.agg #[.int .u8 0, .int .u8 0, .int .u8 0, .int .u8 0, .int .u8 0, .int .u8 0, .int .u8 0, .int .u8 0, .int .u8 0, .int .u8 0, .int .u8 0, .int .u8 0, .int .u8 0, .int .u8 0, .int .u8 0, .int .u8 0], .agg #[.int .u8 0, .int .u8 0, .int .u8 0, .int .u8 0, .int .u8 0, .int .u8 0, .int .u8 0, .int .u8 0, .int .u8 0, .int .u8 0, .int .u8 0, .int .u8 0, .int .u8 0, .int .u8 0, .int .u8 0, .int .u8 0], .int .i64 0, .int .i64 0] rfl (laid_shaped1 os _) (laid_shaped2 os _) (by kernel_rfl)
      (OpenSpec.preRow_of_cond 8 hx (by kernel_rfl) (fun k hk => by cases hk) (by kernel_rfl) (laid_met os _)))
    (fun W vts hsh hL h => Go.Cid.CidrNests_walk _ vts (Go.Nam.vars_of hsh hL) (by rw [Tryz.params10] at h; exact h))
theorem said : Rows.CidrNestsSaid :=
  OpenClaim.holds_of_cond 10 Tryz.f10 rfl rfl rfl rfl rfl rfl rfl ⟨rfl, rfl, rfl, rfl, rfl⟩ rfl rfl rfl rfl rfl (by kernel_rfl) Tryz.func10 (by kernel_rfl)
    (of_decide_eq_true (by kernel_rfl)) (by unfold Func.isWrapper; first | (rw [if_pos (by decide +kernel)]; kernel_rfl) | (rw [if_neg (by decide +kernel)]; exact ⟨rfl, rfl⟩))
    (fun os started H enc _ F => by rw [OpenClaim.pre_eq_preRow]; exact lifted os started H enc F)
theorem plain (f : FuncId) (fn : Func) (hf : Tryz.pinned.checked.prog.funcNamed "hagioscope/hagioscopelaw04.CidrNests" = some f) (hfn : Tryz.pinned.checked.prog.funcs[f]? = some fn) :
    true = Tryz.pinned.checked.prog.looks [] ∧ ∀ (j : Nat) t, fn.params[j]? = some t → Tryz.pinned.checked.prog.wantsStandIn t = false := by
  obtain rfl : f = 10 := Option.some.inj ((show Tryz.prog.funcNamed "hagioscope/hagioscopelaw04.CidrNests" = some 10 by kernel_rfl).symm.trans hf) |>.symm
  obtain rfl : fn = Tryz.f10 := (Option.some.inj (Tryz.func10.symm.trans hfn)).symm
  refine ⟨by kernel_rfl, fun j t ht => ?_⟩
  have hall : Tryz.f10.params.toList.all (fun t => !Tryz.prog.wantsStandIn t) = true := by kernel_rfl
  have := List.all_eq_true.1 hall t (Array.mem_toList_iff.2 (Array.mem_of_getElem? ht))
  have h2 : Tryz.prog.wantsStandIn t = false := by simpa using this
  exact h2
end Go.Proofs.YtohblhfdgoigdaaGreatDoor.LCidrNests
namespace Go.Proofs.YtohblhfdgoigdaaGreatDoor
/-- The law CidrNests holds: its card. -/
theorem cidrNests_holds : Rows.CidrNestsCardSaid :=
  Claim7.holds_tied_plain_at .later [] _ _ _ _ LCidrNests.said (fun _ h => by cases h) (by kernel_rfl) (fun _ h => by cases h) cidrNests_row_tie rfl ⟨rfl, rfl⟩ (by kernel_rfl) rfl LCidrNests.plain (by kernel_rfl)
#print axioms cidrNests_holds
end Go.Proofs.YtohblhfdgoigdaaGreatDoor
