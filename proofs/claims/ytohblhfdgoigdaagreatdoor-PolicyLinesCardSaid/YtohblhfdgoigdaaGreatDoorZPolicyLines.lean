/-
  PolicyLines: comments and blanks do not matter; the first wrong line tells: of any texts: no condition.
-/
import Derived.Test.YtohblhfdgoigdaaGreatDoorRows
import Derived.Test.YtohblhfdgoigdaaGreatDoorTie
import Derived.Test.YtohblhfdgoigdaaGreatDoorCards
import Derived.Test.YtohblhfdgoigdaaGreatDoorNam5
import Derived.Test.YtohblhfdgoigdaaGreatDoorGPc
import Derived.Test.YtohblhfdgoigdaaGreatDoorWit
import Derived.SevenTiedPlain
namespace Go.Pol
open Go.Own Go.Proofs Go.RowKit Go.Lib Go.Asc Go.Adr Go.Nam Go.Tri Go.Cid Go.Bld
attribute [local irreducible] GC GQ G Rd Eff T
set_option maxRecDepth 20000
set_option maxHeartbeats 4000000
attribute [local irreducible] parseP Lit.wf
theorem PolicyLines_core (W : World) (hv : Vars W) (s more : Lb) (hl1 : s.length ≤ 140737488351232) (hl2 : more.length ≤ 140737488351232) : T Tryz.prog W 4 #[S s, S more] [] (fun v _ => v = .bool true) := by
  refine T.intro (args := [_, _]) Tryz.func4 rfl Tryz.ntmps4 rfl ?_
  repeat' first | refine Y.st ?_ | (refine nw ?_; intro _) | refine Y.kn ?_ | fail
  refine G.ef rfl rfl rfl (Eff.callF rfl ((psmall_spec hv).mono ?_))
  rintro v H' ⟨rfl, rfl⟩
  by_cases h1 : 1000 < s.length
  · repeat' first | refine Y.st ?_ | (refine nw ?_; intro _) | refine Y.kn ?_ | fail
    exact GQ.done1 rfl rfl rfl
  by_cases h2 : 1000 < more.length
  · repeat' first | refine Y.st ?_ | (refine nw ?_; intro _) | refine Y.kn ?_ | fail
    exact GQ.done1 rfl rfl rfl
  repeat' first | refine Y.st ?_ | (refine nw ?_; intro _) | refine Y.kn ?_ | fail
  refine G.ef rfl rfl rfl (Eff.callF rfl ((pparse_spec hv s (by omega)).mono ?_))
  intro v H' hP
  have hle := parse_le s
  have hz := @parse_zero s
  have hb := @parse_bad s
  have hlb := @lines_bad s
  have hlo := @lines_ok s
  have h3e := parse_app s more
  have hz3 := zero_same (s ++ 10 :: more)
  obtain ⟨p, n, e, hps⟩ : ∃ p n e, parseP s = (p, n, e) := ⟨_, _, _, rfl⟩
  rw [hps] at hle hz hb hlb hlo h3e
  dsimp only at hle hz hb hlb hlo h3e
  obtain ⟨pa1, ca1, pb1, cb1, X1, rfl, rfl, at1⟩ := parse_is hP hps rfl rfl rfl
  repeat' first | refine Y.st ?_ | (refine nw ?_; intro _) | refine Y.kn ?_ | fail
  rename_i b1
  have e3 : s ++ [10] ++ more = s ++ 10 :: more := by simp
  rw [← e3] at h3e hz3
  have hl2' : (preL ++ s ++ postL).length ≤ 900000 := by simp only [List.length_append, preL, postL, List.length_cons, List.length_nil]; omega
  have hl3' : (s ++ [10] ++ more).length ≤ 900000 := by simp only [List.length_append, List.length_cons, List.length_nil]; omega
  by_cases he : e = 0
  case neg =>
    obtain ⟨rfl, hn⟩ := hb he
    have hq := hlb he
    rw [if_neg he] at h3e
    refine G.ef rfl rfl rfl (Eff.callF (vs := [S (preL ++ s ++ postL)]) rfl ((pparse_spec hv (preL ++ s ++ postL) hl2').mono ?_))
    intro v H' hP2
    obtain ⟨pa2, ca2, pb2, cb2, X2, rfl, rfl, at2⟩ := parse_is hP2 hq (m := (n : Int) + 2) (by omega) rfl rfl
    repeat' first | refine Y.st ?_ | (refine nw ?_; intro _) | refine Y.kn ?_ | fail
    refine G.ef rfl rfl rfl (Eff.callF (vs := [S (s ++ [10] ++ more)]) rfl ((pparse_spec hv (s ++ [10] ++ more) hl3').mono ?_))
    intro v H' hP3
    obtain ⟨pa3, ca3, pb3, cb3, X3, rfl, rfl, at3⟩ := parse_is hP3 h3e rfl rfl rfl
    repeat' first | refine Y.st ?_ | (refine nw ?_; intro _) | refine Y.kn ?_ | fail
    exact GQ.done1 rfl rfl rfl
  subst he
  obtain rfl := hz rfl
  have hq := hlo rfl
  refine G.ef rfl rfl rfl (Eff.callF (vs := [S (preL ++ s ++ postL)]) rfl ((pparse_spec hv (preL ++ s ++ postL) hl2').mono ?_))
  intro v H' hP2
  obtain ⟨pa2, ca2, pb2, cb2, X2, rfl, rfl, at2⟩ := parse_is hP2 hq (m := 0) rfl rfl rfl
  repeat' first | refine Y.st ?_ | (refine nw ?_; intro _) | refine Y.kn ?_ | fail
  rename_i b2
  refine G.ef rfl rfl rfl (Eff.callF (vs := [S (s ++ [10] ++ more)]) rfl ((pparse_spec hv (s ++ [10] ++ more) hl3').mono ?_))
  intro v H' hP3
  have hz3 := zero_same (s ++ [10] ++ more)
  obtain ⟨p3, n3, e3, hps3⟩ : ∃ p n e, parseP (s ++ [10] ++ more) = (p, n, e) := ⟨_, _, _, rfl⟩
  rw [hps3] at hz3
  dsimp only at hz3
  obtain ⟨pa3, ca3, pb3, cb3, X3, rfl, rfl, at3⟩ := parse_is hP3 hps3 rfl rfl rfl
  repeat' first | refine Y.st ?_ | (refine nw ?_; intro _) | refine Y.kn ?_ | fail
  rename_i b3
  refine G.ef rfl rfl rfl (Eff.callF rfl ((psame_spec ((at1 W).imp (fun _ hφ => ((((hφ.cons _).app X2).cons _).app X3).cons _)) ((at2 W).imp (fun _ hφ => ((hφ.cons _).app X3).cons _))).mono ?_))
  rintro v H' ⟨rfl, rfl⟩
  rw [decide_eq_true rfl]
  repeat' first | refine Y.st ?_ | (refine nw ?_; intro _) | refine Y.kn ?_ | fail
  refine G.rd (Rd.eqlB rfl rfl) rfl rfl ?_
  rw [show (decide (e3 = 0) == decide ((n3 : Int) = 0)) = true by rw [hz3]; simp]
  repeat' first | refine Y.st ?_ | (refine nw ?_; intro _) | refine Y.kn ?_ | fail
  exact GQ.done1 rfl rfl rfl
theorem PolicyLines_walk (W : World) (vts : List VT) (hv : Vars W) (h : VT.LiesEach Tryz.prog W [9, 9] vts) : T Tryz.prog W 4 (vts.map VT.val).toArray [] (fun v _ => v = .bool true) := by
  obtain ⟨v0, r, rfl, h0, h⟩ := lies_one h
  obtain ⟨v1, r, rfl, h1, h⟩ := lies_one h
  obtain rfl := lies_nil h
  obtain ⟨s, rfl, hs⟩ := Go.Own.Lies.str h0
  obtain ⟨m, rfl, hm⟩ := Go.Own.Lies.str h1
  exact PolicyLines_core W hv s m hs hm
end Go.Pol
namespace Go.Proofs.YtohblhfdgoigdaaGreatDoor.LPolicyLines
open Go.Own
theorem own : ownKnob Tryz.prog.godebug = none := by kernel_rfl
theorem reads (os : Os) {H : Type} (enc : TypeId × Value → H) : ∃ x, DataW.whole enc Tryz.prog ((laidWorld os).forCall (fun _ _ => 0) ⟨#[], #[.string ⟨#[]⟩, .string ⟨#[]⟩], []⟩).memory Tryz.f4.params.toList Rows.policyLinesSpec.vars false #[.string ⟨#[]⟩, .string ⟨#[]⟩].toList 8 = some x :=
  Option.isSome_iff_exists.1 (by kernel_rfl)
set_option maxRecDepth 100000 in
theorem lifted (os : Os) (started : os.Started) (H : Type) (enc : TypeId × Value → H) (F : Stop.Interp) :
    ReturnsInHanded {} Tryz.checked os 4 .any ((OpenSpec.ofChange Rows.policyLinesSpec).preRow enc Tryz.prog Tryz.f4 Rows.policyLinesRow.domain false Rows.policyLinesRow.laid) (((OpenSpec.ofChange Rows.policyLinesSpec).at F).post enc Tryz.prog Tryz.f4 false true false false) := by
  obtain ⟨x, hx⟩ := reads os enc
  exact law_laid (C := Tryz.checked) (D := 20) (tb := 4) own started (by kernel_rfl) Tryz.func4 rfl rfl Tryz.underlying4 (by kernel_rfl) (by kernel_rfl) (by kernel_rfl)
    (fun K ds h => by match ds, h with | [_, _], _ => rfl)
    (witness_row_atRef (enc := enc) (C := Tryz.checked) false (laidWorld os) #[.string ⟨#[]⟩, .string ⟨#[]⟩] rfl (laid_shaped1 os _) (laid_shaped2 os _) (by kernel_rfl)
      (OpenSpec.preRow_of_cond 8 hx (by kernel_rfl) (fun k hk => by cases hk) (by kernel_rfl) (laid_met os _)))
    (fun W vts hsh hL h => Go.Pol.PolicyLines_walk W vts (Go.Nam.vars_of hsh hL) (by rw [Tryz.params4] at h; exact h))
theorem said : Rows.PolicyLinesSaid :=
  OpenClaim.holds_of_cond 4 Tryz.f4 rfl rfl rfl rfl rfl rfl rfl ⟨rfl, rfl, rfl, rfl, rfl⟩ rfl rfl rfl rfl rfl (by kernel_rfl) Tryz.func4 (by kernel_rfl)
    (of_decide_eq_true (by kernel_rfl)) (by unfold Func.isWrapper; first | (rw [if_pos (by decide +kernel)]; kernel_rfl) | (rw [if_neg (by decide +kernel)]; exact ⟨rfl, rfl⟩))
    (fun os started H enc _ F => by rw [OpenClaim.pre_eq_preRow]; exact lifted os started H enc F)
theorem plain (f : FuncId) (fn : Func) (hf : Tryz.pinned.checked.prog.funcNamed "hagioscope/hagioscopelaw19.PolicyLines" = some f) (hfn : Tryz.pinned.checked.prog.funcs[f]? = some fn) :
    true = Tryz.pinned.checked.prog.looks [] ∧ ∀ (j : Nat) t, fn.params[j]? = some t → Tryz.pinned.checked.prog.wantsStandIn t = false := by
  obtain rfl : f = 4 := Option.some.inj ((show Tryz.prog.funcNamed "hagioscope/hagioscopelaw19.PolicyLines" = some 4 by kernel_rfl).symm.trans hf) |>.symm
  obtain rfl : fn = Tryz.f4 := (Option.some.inj (Tryz.func4.symm.trans hfn)).symm
  refine ⟨by kernel_rfl, fun j t ht => ?_⟩
  have hall : Tryz.f4.params.toList.all (fun t => !Tryz.prog.wantsStandIn t) = true := by kernel_rfl
  have := List.all_eq_true.1 hall t (Array.mem_toList_iff.2 (Array.mem_of_getElem? ht))
  have h2 : Tryz.prog.wantsStandIn t = false := by simpa using this
  exact h2
end Go.Proofs.YtohblhfdgoigdaaGreatDoor.LPolicyLines
namespace Go.Proofs.YtohblhfdgoigdaaGreatDoor
/-- The law PolicyLines holds: its card. -/
theorem policyLines_holds : Rows.PolicyLinesCardSaid :=
  Claim7.holds_tied_plain_at .later [] _ _ _ _ LPolicyLines.said (fun _ h => by cases h) (by kernel_rfl) (fun _ h => by cases h) policyLines_row_tie rfl ⟨rfl, rfl⟩ (by kernel_rfl) rfl LPolicyLines.plain (by kernel_rfl)
#print axioms policyLines_holds
end Go.Proofs.YtohblhfdgoigdaaGreatDoor
