/-
  PolicyDefault: what is done by default, and nothing else, turns by the last line: of any text: no condition.
-/
import Derived.Test.YtohblhfdgoigdaaGreatDoorRows
import Derived.Test.YtohblhfdgoigdaaGreatDoorTie
import Derived.Test.YtohblhfdgoigdaaGreatDoorCards
import Derived.Test.YtohblhfdgoigdaaGreatDoorNam5
import Derived.Test.YtohblhfdgoigdaaGreatDoorGPc
import Derived.Test.YtohblhfdgoigdaaGreatDoorWit
import Derived.SevenTiedPlain
namespace Go.Pol
open Go.Own Go.Proofs Go.RowKit Go.Lib Go.Asc Go.Adr Go.Nam Go.Tri Go.Cid Go.Bld
attribute [local irreducible] GC GQ G Rd Eff T
set_option maxRecDepth 20000
set_option maxHeartbeats 4000000
attribute [local irreducible] parseP Lit.wf
theorem PolAt.as {W0 : World} {F : Heap} {p q : Pol} {rv pv : Value} (h : PolAt W0 F p rv pv) (e1 : q.rules = p.rules) (e2 : q.pins = p.pins) : PolAt W0 F q rv pv := by
  obtain ⟨a1, r1, p1⟩ := p
  obtain ⟨a2, r2, p2⟩ := q
  simp only at e1 e2
  subst e1 e2
  exact ⟨h.rules, h.pins, h.sr, h.sp, h.sn, h.rl, h.pl⟩
theorem PolicyDefault_core (W : World) (hv : Vars W) (s : Lb) (a : Bool) (hl1 : s.length ≤ 140737488351232) : T Tryz.prog W 5 #[S s, .bool a] [] (fun v _ => v = .bool true) := by
  refine T.intro (args := [_, _]) Tryz.func5 rfl Tryz.ntmps5 rfl ?_
  repeat' first | refine Y.st ?_ | (refine nw ?_; intro _) | refine Y.kn ?_ | fail
  refine G.ef rfl rfl rfl (Eff.callF rfl ((psmall_spec hv).mono ?_))
  rintro v H' ⟨rfl, rfl⟩
  by_cases h1 : 1500 < s.length
  · repeat' first | refine Y.st ?_ | (refine nw ?_; intro _) | refine Y.kn ?_ | fail
    exact GQ.done1 rfl rfl rfl
  repeat' first | refine Y.st ?_ | (refine nw ?_; intro _) | refine Y.kn ?_ | fail
  refine G.ef rfl rfl rfl (Eff.callF rfl ((pparse_spec hv s (by omega)).mono ?_))
  intro v H' hP
  have hdl : (parseP s).2.2 = 0 → parseP (s ++ defL a) = _ := default_law a
  obtain ⟨p, n, e, hps⟩ : ∃ p n e, parseP s = (p, n, e) := ⟨_, _, _, rfl⟩
  rw [hps] at hdl
  dsimp only at hdl
  obtain ⟨pa1, ca1, pb1, cb1, X1, rfl, rfl, at1⟩ := parse_is hP hps rfl rfl rfl
  by_cases he : e = 0
  case neg =>
    repeat' first | refine Y.st ?_ | (refine nw ?_; intro _) | refine Y.kn ?_ | fail
    exact GQ.done1 rfl rfl rfl
  subst he
  have hq := hdl rfl
  have hlv : (verbL a).length ≤ 5 := by cases a <;> decide
  have hl2 : (s ++ [10, 32, 100, 101, 102, 97, 117, 108, 116, 32, 32] ++ verbL a ++ [9]).length ≤ 900000 := by simp only [List.length_append, List.length_cons, List.length_nil]; omega
  rw [show s ++ defL a = s ++ [10, 32, 100, 101, 102, 97, 117, 108, 116, 32, 32] ++ verbL a ++ [9] by simp [defL]] at hq
  cases a with
  | false =>
    repeat' first | refine Y.st ?_ | (refine nw ?_; intro _) | refine Y.kn ?_ | fail
    rename_i b1
    refine G.ef rfl rfl rfl (Eff.callF (vs := [S (s ++ [10, 32, 100, 101, 102, 97, 117, 108, 116, 32, 32] ++ verbL false ++ [9])]) rfl ((pparse_spec hv _ hl2).mono ?_))
    intro v H' hP2
    obtain ⟨pa2, ca2, pb2, cb2, X2, rfl, rfl, at2⟩ := parse_is hP2 hq rfl rfl rfl
    dsimp only at at2
    repeat' first | refine Y.st ?_ | (refine nw ?_; intro _) | refine Y.kn ?_ | fail
    rename_i b2
    refine G.rd (Rd.neqB rfl rfl) rfl rfl ?_
    repeat' first | refine Y.st ?_ | (refine nw ?_; intro _) | refine Y.kn ?_ | fail
    refine G.ef rfl rfl rfl (Eff.callF rfl ((psame_spec (q := p) ((at1 W).imp (fun _ hφ => ((hφ.cons _).app X2).cons _)) (((at2 W).imp (fun _ hφ => hφ.cons _)).as rfl rfl)).mono ?_))
    rintro v H' ⟨rfl, rfl⟩
    rw [decide_eq_true rfl]
    repeat' first | refine Y.st ?_ | (refine nw ?_; intro _) | refine Y.kn ?_ | fail
    exact GQ.done1 rfl rfl rfl
  | true =>
    repeat' first | refine Y.st ?_ | (refine nw ?_; intro _) | refine Y.kn ?_ | fail
    rename_i b1
    refine G.ef rfl rfl rfl (Eff.callF (vs := [S (s ++ [10, 32, 100, 101, 102, 97, 117, 108, 116, 32, 32] ++ verbL true ++ [9])]) rfl ((pparse_spec hv _ hl2).mono ?_))
    intro v H' hP2
    obtain ⟨pa2, ca2, pb2, cb2, X2, rfl, rfl, at2⟩ := parse_is hP2 hq rfl rfl rfl
    dsimp only at at2
    repeat' first | refine Y.st ?_ | (refine nw ?_; intro _) | refine Y.kn ?_ | fail
    rename_i b2
    refine G.rd (Rd.neqB rfl rfl) rfl rfl ?_
    repeat' first | refine Y.st ?_ | (refine nw ?_; intro _) | refine Y.kn ?_ | fail
    refine G.ef rfl rfl rfl (Eff.callF rfl ((psame_spec (q := p) ((at1 W).imp (fun _ hφ => ((hφ.cons _).app X2).cons _)) (((at2 W).imp (fun _ hφ => hφ.cons _)).as rfl rfl)).mono ?_))
    rintro v H' ⟨rfl, rfl⟩
    rw [decide_eq_true rfl]
    repeat' first | refine Y.st ?_ | (refine nw ?_; intro _) | refine Y.kn ?_ | fail
    exact GQ.done1 rfl rfl rfl
theorem PolicyDefault_walk (W : World) (vts : List VT) (hv : Vars W) (h : VT.LiesEach Tryz.prog W [9, 4] vts) : T Tryz.prog W 5 (vts.map VT.val).toArray [] (fun v _ => v = .bool true) := by
  obtain ⟨v0, r, rfl, h0, h⟩ := lies_one h
  obtain ⟨v1, r, rfl, h1, h⟩ := lies_one h
  obtain rfl := lies_nil h
  obtain ⟨s, rfl, hs⟩ := Go.Own.Lies.str h0
  obtain ⟨m, rfl⟩ := Go.Own.Lies.bool h1
  exact PolicyDefault_core W hv s m hs
end Go.Pol
namespace Go.Proofs.YtohblhfdgoigdaaGreatDoor.LPolicyDefault
open Go.Own
theorem own : ownKnob Tryz.prog.godebug = none := by kernel_rfl
theorem reads (os : Os) {H : Type} (enc : TypeId × Value → H) : ∃ x, DataW.whole enc Tryz.prog ((laidWorld os).forCall (fun _ _ => 0) ⟨#[], #[.string ⟨#[]⟩, .bool false], []⟩).memory Tryz.f5.params.toList Rows.policyDefaultSpec.vars false #[.string ⟨#[]⟩, .bool false].toList 8 = some x :=
  Option.isSome_iff_exists.1 (by kernel_rfl)
set_option maxRecDepth 100000 in
theorem lifted (os : Os) (started : os.Started) (H : Type) (enc : TypeId × Value → H) (F : Stop.Interp) :
    ReturnsInHanded {} Tryz.checked os 5 .any ((OpenSpec.ofChange Rows.policyDefaultSpec).preRow enc Tryz.prog Tryz.f5 Rows.policyDefaultRow.domain false Rows.policyDefaultRow.laid) (((OpenSpec.ofChange Rows.policyDefaultSpec).at F).post enc Tryz.prog Tryz.f5 false true false false) := by
  obtain ⟨x, hx⟩ := reads os enc
  exact law_laid (C := Tryz.checked) (D := 20) (tb := 4) own started (by kernel_rfl) Tryz.func5 rfl rfl Tryz.underlying4 (by kernel_rfl) (by kernel_rfl) (by kernel_rfl)
    (fun K ds h => by match ds, h with | [_, _], _ => rfl)
    (witness_row_atRef (enc := enc) (C := Tryz.checked) false (laidWorld os) #[.string ⟨#[]⟩, .bool false] rfl (laid_shaped1 os _) (laid_shaped2 os _) (by kernel_rfl)
      (OpenSpec.preRow_of_cond 8 hx (by kernel_rfl) (fun k hk => by cases hk) (by kernel_rfl) (laid_met os _)))
    (fun W vts hsh hL h => Go.Pol.PolicyDefault_walk W vts (Go.Nam.vars_of hsh hL) (by rw [Tryz.params5] at h; exact h))
theorem said : Rows.PolicyDefaultSaid :=
  OpenClaim.holds_of_cond 5 Tryz.f5 rfl rfl rfl rfl rfl rfl rfl ⟨rfl, rfl, rfl, rfl, rfl⟩ rfl rfl rfl rfl rfl (by kernel_rfl) Tryz.func5 (by kernel_rfl)
    (of_decide_eq_true (by kernel_rfl)) (by unfold Func.isWrapper; first | (rw [if_pos (by decide +kernel)]; kernel_rfl) | (rw [if_neg (by decide +kernel)]; exact ⟨rfl, rfl⟩))
    (fun os started H enc _ F => by rw [OpenClaim.pre_eq_preRow]; exact lifted os started H enc F)
theorem plain (f : FuncId) (fn : Func) (hf : Tryz.pinned.checked.prog.funcNamed "hagioscope/hagioscopelaw19.PolicyDefault" = some f) (hfn : Tryz.pinned.checked.prog.funcs[f]? = some fn) :
    true = Tryz.pinned.checked.prog.looks [] ∧ ∀ (j : Nat) t, fn.params[j]? = some t → Tryz.pinned.checked.prog.wantsStandIn t = false := by
  obtain rfl : f = 5 := Option.some.inj ((show Tryz.prog.funcNamed "hagioscope/hagioscopelaw19.PolicyDefault" = some 5 by kernel_rfl).symm.trans hf) |>.symm
  obtain rfl : fn = Tryz.f5 := (Option.some.inj (Tryz.func5.symm.trans hfn)).symm
  refine ⟨by kernel_rfl, fun j t ht => ?_⟩
  have hall : Tryz.f5.params.toList.all (fun t => !Tryz.prog.wantsStandIn t) = true := by kernel_rfl
  have := List.all_eq_true.1 hall t (Array.mem_toList_iff.2 (Array.mem_of_getElem? ht))
  have h2 : Tryz.prog.wantsStandIn t = false := by simpa using this
  exact h2
end Go.Proofs.YtohblhfdgoigdaaGreatDoor.LPolicyDefault
namespace Go.Proofs.YtohblhfdgoigdaaGreatDoor
/-- The law PolicyDefault holds: its card. -/
theorem policyDefault_holds : Rows.PolicyDefaultCardSaid :=
  Claim7.holds_tied_plain_at .later [] _ _ _ _ LPolicyDefault.said (fun _ h => by cases h) (by kernel_rfl) (fun _ h => by cases h) policyDefault_row_tie rfl ⟨rfl, rfl⟩ (by kernel_rfl) rfl LPolicyDefault.plain (by kernel_rfl)
#print axioms policyDefault_holds
end Go.Proofs.YtohblhfdgoigdaaGreatDoor
