/-
  CidrTells: single ranges and texts, against the document's answer: any: no condition.
-/
import Derived.Test.YtohblhfdgoigdaaGreatDoorRows
import Derived.Test.YtohblhfdgoigdaaGreatDoorTie
import Derived.Test.YtohblhfdgoigdaaGreatDoorCards
import Derived.Test.YtohblhfdgoigdaaGreatDoorNam5
import Derived.Test.YtohblhfdgoigdaaGreatDoorGCj
import Derived.Test.YtohblhfdgoigdaaGreatDoorGRg
import Derived.Test.YtohblhfdgoigdaaGreatDoorWit
import Derived.SevenTiedPlain
namespace Go.Cid
open Go.Own Go.Proofs Go.RowKit Go.Lib Go.Asc Go.Adr Go.Nam Go.Tri
attribute [local irreducible] GC GQ G Rd Eff T
set_option maxRecDepth 20000
set_option maxHeartbeats 4000000
theorem cv_any (s : List UInt8) : ∃ x ok, parseCV s = .tuple #[cdV x, .bool ok] ∧ SizC x := by
  cases h : parseC s with
  | some c =>
    obtain ⟨h1, h2⟩ := parse_right h
    obtain ⟨k1, k2, _⟩ := right_iff.1 h1
    exact ⟨c, true, by rw [parseCV, h]; rfl, h2, wf_small (by omega) (by omega)⟩
  | none => exact ⟨zeroC, false, by rw [parseCV, h]; rfl, ⟨by decide, wf_small (by decide) (by decide)⟩⟩
attribute [local irreducible] parseCV rightC hasC ofL printC Lit.wf parseC
theorem CidrTells_core (W : World) (hv : Vars W) (c : Cd) (hc : SizC c) (a : List UInt8) (ha : a.length = 16) (n : Int) (hn : (Lit.int .i64 n).wf = true) (s : List UInt8) (hl : s.length ≤ 140737488351232) :
    T Tryz.prog W 7 #[cdV c, .agg (u8s a).toArray, .int .i64 n, S s] [] (fun v _ => v = .bool true) := by
  have hSc : SizC ⟨c.addr, c.bits⟩ := hc
  have hlc := cdC_len hc.1
  have hO := siz_of ha n
  refine T.intro (args := [_, _, _, _]) Tryz.func7 rfl Tryz.ntmps7 rfl ?_
  repeat' first | refine Y.st ?_ | (refine nw ?_; intro _) | refine Y.kn ?_ | fail
  refine G.ef rfl rfl rfl (Eff.callF rfl ((csmall_spec hv).mono ?_))
  rintro v H' ⟨rfl, rfl⟩
  by_cases h3 : 300 < s.length
  · repeat' first | refine Y.st ?_ | (refine nw ?_; intro _) | refine Y.kn ?_ | fail
    exact GQ.done1 rfl rfl rfl
  have hsl : s.length < 4294967281 := by omega
  obtain ⟨x, ok, hx, hxs⟩ := cv_any s
  have hxl := cdC_len hxs.1
  repeat' first | refine Y.st ?_ | (refine nw ?_; intro _) | refine Y.kn ?_ | fail
  rw [hx]
  repeat' first | refine Y.st ?_ | (refine nw ?_; intro _) | refine Y.kn ?_ | fail
  refine G.ef rfl rfl rfl (Eff.storeAll (cs := cdC zeroC) (vs := cdC x) rfl rfl (cdC_one _) (by rw [hxl]; rfl) hxl ?_)
  repeat' first | refine Y.st ?_ | (refine nw ?_; intro _) | refine Y.kn ?_ | fail
  rw [hx]
  repeat' first | refine Y.st ?_ | (refine nw ?_; intro _) | refine Y.kn ?_ | fail
  refine G.ef rfl rfl rfl (Eff.storeAll (cs := cdC zeroC) (vs := cdC x) rfl rfl (cdC_one _) (by rw [hxl]; rfl) hxl ?_)
  repeat' first | refine Y.st ?_ | (refine nw ?_; intro _) | refine Y.kn ?_ | fail
  refine GC.drawnH [(0, .read), (1, .read), (2, .read), (3, .read), (5, .read), (6, .read), (4, .eff), (7, .eff), (8, .read), (9, .read), (10, .read), (11, .read), (13, .read), (12, .eff), (14, .eff), (15, .read), (16, .read), (17, .read), (18, .read), (19, .read), (21, .read), (22, .read), (20, .eff), (23, .eff), (24, .read), (25, .read), (26, .read), (27, .read), (29, .read), (28, .eff), (30, .eff), (31, .read), (32, .read), (33, .read), (34, .read), (35, .read), (36, .read), (37, .read), (38, .read), (39, .read), (40, .read), (41, .read), (42, .read), (43, .read)] (by kernel_rfl) (by kernel_rfl) rfl ?_
  repeat' first | refine Y.st ?_ | (refine nw ?_; intro _) | refine Y.kn ?_ | fail
  refine G.rd (Rd.eqlCd (ofL a n) (ofL a n) rfl rfl hO hO) rfl rfl ?_
  rw [decide_eq_true rfl]
  repeat' first | refine Y.st ?_ | (refine nw ?_; intro _) | refine Y.kn ?_ | fail
  refine G.isBin .eql ?_
  refine G.rd (Rd.eqlB rfl rfl) rfl rfl ?_
  rw [beq_self_eq_true]
  repeat' first | refine Y.st ?_ | (refine nw ?_; intro _) | refine Y.kn ?_ | fail
  refine G.isBin .eql ?_
  refine G.rd (Rd.eqlB rfl rfl) rfl rfl ?_
  rw [beq_self_eq_true]
  repeat' first | refine Y.st ?_ | (refine nw ?_; intro _) | refine Y.kn ?_ | fail
  refine G.rd (Rd.eqlCd x x rfl rfl hxs hxs) rfl rfl ?_
  rw [decide_eq_true rfl]
  repeat' first | refine Y.st ?_ | (refine nw ?_; intro _) | refine Y.kn ?_ | fail
  refine G.isBin .eql ?_
  refine G.rd (Rd.eqlB rfl rfl) rfl rfl ?_
  rw [beq_self_eq_true]
  repeat' first | refine Y.st ?_ | (refine nw ?_; intro _) | refine Y.kn ?_ | fail
  exact GQ.done1 rfl rfl rfl
theorem CidrTells_walk (W : World) (vts : List VT) (hv : Vars W) (h : VT.LiesEach Tryz.prog W [41, 39, 3, 9] vts) : T Tryz.prog W 7 (vts.map VT.val).toArray [] (fun v _ => v = .bool true) := by
  obtain ⟨v0, r, rfl, h0, h⟩ := lies_one h
  obtain ⟨v1, r, rfl, h1, h⟩ := lies_one h
  obtain ⟨v2, r, rfl, h2, h⟩ := lies_one h
  obtain ⟨v3, r, rfl, h3, h⟩ := lies_one h
  obtain rfl := lies_nil h
  obtain ⟨c, hc, e0, _⟩ := lies_cidr h0
  obtain ⟨a, ha, e1, _⟩ := lies_addr h1
  obtain ⟨n, rfl, hn⟩ := Go.Own.Lies.int h2
  obtain ⟨s, rfl, hs⟩ := Go.Own.Lies.str h3
  simp only [List.map_cons, List.map_nil, e0, e1]
  exact CidrTells_core W hv c hc a ha n hn s hs
end Go.Cid
namespace Go.Proofs.YtohblhfdgoigdaaGreatDoor.LCidrTells
open Go.Own
theorem own : ownKnob Tryz.prog.godebug = none := by kernel_rfl
theorem reads (os : Os) {H : Type} (enc : TypeId × Value → H) : ∃ x, DataW.whole enc Tryz.prog ((laidWorld os).forCall (fun _ _ => 0) ⟨#[], #[.agg #[.int .u8 0, .int .u8 0, .int .u8 0, .int .u8 0, .int .u8 0, .int .u8 0, .int .u8 0, .int .u8 0, .int .u8 0, .int .u8 0, .int .u8 0, .int .u8 0, .int .u8 0, .int .u8 0, .int .u8 0, .int .u8 0, .int .i64 0], .agg #[.int .u8 0, .int .u8 0, .int .u8 0, .int .u8 0, .int .u8 0, .int .u8 0, .int .u8 0, .int .u8 0, .int .u8 0, .int .u8 0, .int .u8 0, .int .u8 0, .int .u8 0, .int .u8 0, .int .u8 0, .int .u8 0], .int .i64 0, .string ⟨#[]⟩], []⟩).memory Tryz.f7.params.toList Rows.cidrTellsSpec.vars false #[.agg #[.int .u8 0, .int .u8 0, .int .u8 0, .int .u8 0, .int .u8 0, .int .u8 0, .int .u8 0, .int .u8 0, .int .u8 0, .int .u8 0, .int .u8 0, .int .u8 0, .int .u8 0, .int .u8 0, .int .u8 0, .int .u8 0, .int .i64 0], .agg #[.int .u8 0, .int .u8 0, .int .u8 0, .int .u8 0, .int .u8 0, .int .u8 0, .int .u8 0, .int .u8 0, .int .u8 0, .int .u8 0, .int .u8 0, .int .u8 0, .int .u8 0, .int .u8 0, .int .u8 0, .int .u8 0], .int .i64 0, .string ⟨#[]⟩].toList 8 = some x :=
  Option.isSome_iff_exists.1 (by kernel_rfl)
set_option maxRecDepth 100000 in
theorem lifted (os : Os) (started : os.Started) (H : Type) (enc : TypeId × Value → H) (F : Stop.Interp) :
    ReturnsInHanded {} Tryz.checked os 7 .any ((OpenSpec.ofChange Rows.cidrTellsSpec).preRow enc Tryz.prog Tryz.f7 Rows.cidrTellsRow.domain false Rows.cidrTellsRow.laid) (((OpenSpec.ofChange Rows.cidrTellsSpec).at F).post enc Tryz.prog Tryz.f7 false true false false) := by
  obtain ⟨x, hx⟩ := reads os enc
  exact law_laid (C := Tryz.checked) (D := 20) (tb := 4) own started (by kernel_rfl) Tryz.func7 rfl rfl Tryz.underlying4 (by kernel_rfl) (by kernel_rfl) (by kernel_rfl)
    (fun K ds h => by match ds, h with | [_, _, _, _], _ => rfl)
    (witness_row_atRef (enc := enc) (C := Tryz.checked) false (laidWorld os) #[.agg #[.int .u8 0, .int .u8 0, .int .u8 0, .int .u8 0, .int .u8 0, .int .u8 0, .int .u8 0, .int .u8 0, .int .u8 0, .int .u8 0, .int .u8 0, .int .u8 0, .int .u8 0, .int .u8 0, .int .u8 0, .int .u8 0, .int .i64 0], .agg #[.int .u8 0, .int .u8 0, .int .u8 0, .int .u8 0, .int .u8 0, .int .u8 0, .int .u8 0, .int .u8 0, .int .u8 0, .int .u8 0, .int .u8 0, .int .u8 0, .int .u8 0, .int .u8 0, .int .u8 0, .int .u8 0], .int .i64 0, .string ⟨#[]⟩] rfl (laid_shaped1 os _) (laid_shaped2 os _) (by kernel_rfl)
      (OpenSpec.preRow_of_cond 8 hx (by kernel_rfl) (fun k hk => by cases hk) (by kernel_rfl) (laid_met os _)))
    (fun W vts hsh hL h => Go.Cid.CidrTells_walk _ vts (Go.Nam.vars_of hsh hL) (by rw [Tryz.params7] at h; exact h))
theorem said : Rows.CidrTellsSaid :=
  OpenClaim.holds_of_cond 7 Tryz.f7 rfl rfl rfl rfl rfl rfl rfl ⟨rfl, rfl, rfl, rfl, rfl⟩ rfl rfl rfl rfl rfl (by kernel_rfl) Tryz.func7 (by kernel_rfl)
    (of_decide_eq_true (by kernel_rfl)) (by unfold Func.isWrapper; first | (rw [if_pos (by decide +kernel)]; kernel_rfl) | (rw [if_neg (by decide +kernel)]; exact ⟨rfl, rfl⟩))
    (fun os started H enc _ F => by rw [OpenClaim.pre_eq_preRow]; exact lifted os started H enc F)
theorem plain (f : FuncId) (fn : Func) (hf : Tryz.pinned.checked.prog.funcNamed "hagioscope/hagioscopelaw04.CidrTells" = some f) (hfn : Tryz.pinned.checked.prog.funcs[f]? = some fn) :
    true = Tryz.pinned.checked.prog.looks [] ∧ ∀ (j : Nat) t, fn.params[j]? = some t → Tryz.pinned.checked.prog.wantsStandIn t = false := by
  obtain rfl : f = 7 := Option.some.inj ((show Tryz.prog.funcNamed "hagioscope/hagioscopelaw04.CidrTells" = some 7 by kernel_rfl).symm.trans hf) |>.symm
  obtain rfl : fn = Tryz.f7 := (Option.some.inj (Tryz.func7.symm.trans hfn)).symm
  refine ⟨by kernel_rfl, fun j t ht => ?_⟩
  have hall : Tryz.f7.params.toList.all (fun t => !Tryz.prog.wantsStandIn t) = true := by kernel_rfl
  have := List.all_eq_true.1 hall t (Array.mem_toList_iff.2 (Array.mem_of_getElem? ht))
  have h2 : Tryz.prog.wantsStandIn t = false := by simpa using this
  exact h2
end Go.Proofs.YtohblhfdgoigdaaGreatDoor.LCidrTells
namespace Go.Proofs.YtohblhfdgoigdaaGreatDoor
/-- The law CidrTells holds: its card. -/
theorem cidrTells_holds : Rows.CidrTellsCardSaid :=
  Claim7.holds_tied_plain_at .later [] _ _ _ _ LCidrTells.said (fun _ h => by cases h) (by kernel_rfl) (fun _ h => by cases h) cidrTells_row_tie rfl ⟨rfl, rfl⟩ (by kernel_rfl) rfl LCidrTells.plain (by kernel_rfl)
#print axioms cidrTells_holds
end Go.Proofs.YtohblhfdgoigdaaGreatDoor
