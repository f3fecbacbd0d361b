/-
  PolicyJoin: a file behind another: the rules of both, the pins of both: of any texts: no condition.
-/
import Derived.Test.YtohblhfdgoigdaaGreatDoorRows
import Derived.Test.YtohblhfdgoigdaaGreatDoorTie
import Derived.Test.YtohblhfdgoigdaaGreatDoorCards
import Derived.Test.YtohblhfdgoigdaaGreatDoorNam5
import Derived.Test.YtohblhfdgoigdaaGreatDoorGPc
import Derived.Test.YtohblhfdgoigdaaGreatDoorWit
import Derived.SevenTiedPlain
namespace Go.Pol
open Go.Own Go.Proofs Go.RowKit Go.Lib Go.Asc Go.Adr Go.Nam Go.Tri Go.Cid Go.Bld
attribute [local irreducible] GC GQ G Rd Eff T
set_option maxRecDepth 20000
set_option maxHeartbeats 4000000
attribute [local irreducible] parseP Lit.wf
theorem PolicyJoin_core (W : World) (hv : Vars W) (s t : Lb) (hl1 : s.length ≤ 140737488351232) (hl2 : t.length ≤ 140737488351232) : T Tryz.prog W 6 #[S s, S t] [] (fun v _ => v = .bool true) := by
  refine T.intro (args := [_, _]) Tryz.func6 rfl Tryz.ntmps6 rfl ?_
  repeat' first | refine Y.st ?_ | (refine nw ?_; intro _) | refine Y.kn ?_ | fail
  refine G.ef rfl rfl rfl (Eff.callF rfl ((psmall_spec hv).mono ?_))
  rintro v H' ⟨rfl, rfl⟩
  by_cases h1 : 700 < s.length
  · repeat' first | refine Y.st ?_ | (refine nw ?_; intro _) | refine Y.kn ?_ | fail
    exact GQ.done1 rfl rfl rfl
  by_cases h2 : 700 < t.length
  · repeat' first | refine Y.st ?_ | (refine nw ?_; intro _) | refine Y.kn ?_ | fail
    exact GQ.done1 rfl rfl rfl
  have e3 : s ++ [10] ++ t = s ++ 10 :: t := by simp
  have hj := @join_law s t
  have ha := parse_app s t
  rw [← e3] at hj ha
  obtain ⟨p1, n1, c1, hps1⟩ : ∃ p n e, parseP s = (p, n, e) := ⟨_, _, _, rfl⟩
  obtain ⟨p2, n2, c2, hps2⟩ : ∃ p n e, parseP t = (p, n, e) := ⟨_, _, _, rfl⟩
  obtain ⟨p3, n3, c3, hps3⟩ : ∃ p n e, parseP (s ++ [10] ++ t) = (p, n, e) := ⟨_, _, _, rfl⟩
  rw [hps1, hps3] at ha
  rw [hps1, hps2, hps3] at hj
  dsimp only at ha hj
  repeat' first | refine Y.st ?_ | (refine nw ?_; intro _) | refine Y.kn ?_ | fail
  refine G.ef rfl rfl rfl (Eff.callF (vs := [S s]) rfl ((pparse_spec hv s (by omega)).mono ?_))
  intro v H' hP1
  obtain ⟨pa1, ca1, pb1, cb1, X1, rfl, rfl, at1⟩ := parse_is hP1 hps1 rfl rfl rfl
  repeat' first | refine Y.st ?_ | (refine nw ?_; intro _) | refine Y.kn ?_ | fail
  rename_i b1
  refine G.ef rfl rfl rfl (Eff.callF (vs := [S t]) rfl ((pparse_spec hv t (by omega)).mono ?_))
  intro v H' hP2
  obtain ⟨pa2, ca2, pb2, cb2, X2, rfl, rfl, at2⟩ := parse_is hP2 hps2 rfl rfl rfl
  repeat' first | refine Y.st ?_ | (refine nw ?_; intro _) | refine Y.kn ?_ | fail
  rename_i b2
  refine G.ef rfl rfl rfl (Eff.callF (vs := [S (s ++ [10] ++ t)]) rfl ((pparse_spec hv _ (by simp only [List.length_append, List.length_cons, List.length_nil]; omega)).mono ?_))
  intro v H' hP3
  obtain ⟨pa3, ca3, pb3, cb3, X3, rfl, rfl, at3⟩ := parse_is hP3 hps3 rfl rfl rfl
  by_cases h01 : c1 = 0
  case neg =>
    rw [if_neg h01] at ha
    have hc : c3 = c1 := congrArg (fun x => x.2.2) ha
    subst hc
    repeat' first | refine Y.st ?_ | (refine nw ?_; intro _) | refine Y.kn ?_ | fail
    exact GQ.done1 rfl rfl rfl
  by_cases h03 : c3 = 0
  case neg =>
    by_cases h02 : c2 = 0
    · repeat' first | refine Y.st ?_ | (refine nw ?_; intro _) | refine Y.kn ?_ | fail
      exact GQ.done1 rfl rfl rfl
    · repeat' first | refine Y.st ?_ | (refine nw ?_; intro _) | refine Y.kn ?_ | fail
      exact GQ.done1 rfl rfl rfl
  by_cases h02 : c2 = 0
  case neg =>
    repeat' first | refine Y.st ?_ | (refine nw ?_; intro _) | refine Y.kn ?_ | fail
    exact GQ.done1 rfl rfl rfl
  subst h01 h02 h03
  obtain ⟨j1, j2⟩ := hj rfl rfl rfl
  repeat' first | refine Y.st ?_ | (refine nw ?_; intro _) | refine Y.kn ?_ | fail
  rename_i b3
  refine GC.drawn [(0, .read), (1, .read), (2, .read), (3, .read), (5, .read), (6, .read), (8, .read), (9, .read), (4, .eff), (7, .eff), (10, .eff), (11, .eff), (12, .read), (13, .read), (14, .read), (15, .read), (16, .read), (17, .read), (18, .read), (19, .read), (20, .read), (21, .read), (22, .read), (23, .read), (24, .read), (25, .read), (26, .read)] ([(b3, .cells #[.bool p3.allow, .slice pa3 p3.rules.length ca3, .slice pb3 p3.pins.length cb3] 25 (0, 0)), (b2, .cells #[.bool p2.allow, .slice pa2 p2.rules.length ca2, .slice pb2 p2.pins.length cb2] 25 (0, 0)), (b1, .cells #[.bool p1.allow, .slice pa1 p1.rules.length ca1, .slice pb1 p1.pins.length cb1] 25 (0, 0))]) (by kernel_rfl) (by kernel_rfl) rfl ?_
  have w1 := (at1 W).pl; have w2 := (at2 W).pl; have w3 := (at3 W).pl
  have w4 := (at1 W).rl; have w5 := (at2 W).rl; have w6 := (at3 W).rl
  have s1 := List.Sublist.cons_cons (b1, Obj.cells #[.bool p1.allow, .slice pa1 p1.rules.length ca1, .slice pb1 p1.pins.length cb1] 25 (0, 0)) (List.nil_sublist (X1 ++ []))
  have s2 := List.Sublist.cons_cons (b2, Obj.cells #[.bool p2.allow, .slice pa2 p2.rules.length ca2, .slice pb2 p2.pins.length cb2] 25 (0, 0)) (s1.trans (List.sublist_append_right X2 _))
  have s3 := List.Sublist.cons_cons (b3, Obj.cells #[.bool p3.allow, .slice pa3 p3.rules.length ca3, .slice pb3 p3.pins.length cb3] 25 (0, 0)) (s2.trans (List.sublist_append_right X3 _))
  repeat' first | refine Y.st ?_ | (refine nw ?_; intro _) | refine Y.kn ?_ | fail
  refine G.eeP rfl rfl rfl (Eff.buildSlice (cells := #[]) rfl (by kernel_rfl) (by omega) (fun bA => ⟨fun w hw => hw.sub (s3.cons _), ?_⟩))
  repeat' first | refine Y.st ?_ | (refine nw ?_; intro _) | refine Y.kn ?_ | fail
  have r1 : RulesAt W ((bA, .cells #[] 61 (0, 0)) :: (b3, Obj.cells #[.bool p3.allow, .slice pa3 p3.rules.length ca3, .slice pb3 p3.pins.length cb3] 25 (0, 0)) :: (X3 ++ ((b2, Obj.cells #[.bool p2.allow, .slice pa2 p2.rules.length ca2, .slice pb2 p2.pins.length cb2] 25 (0, 0)) :: (X2 ++ ((b1, Obj.cells #[.bool p1.allow, .slice pa1 p1.rules.length ca1, .slice pb1 p1.pins.length cb1] 25 (0, 0)) :: (X1 ++ [])))))) (.slice pa1 p1.rules.length ca1) p1.rules := (at1 W).rules.imp (fun _ hφ => ((((((hφ.cons _).app X2).cons _).app X3).cons _).cons _))
  obtain ⟨q1, d1, e1, hd1, hl1'⟩ := r1
  obtain ⟨rfl, -, rfl⟩ := Value.slice.inj e1
  refine G.eeP rfl rfl rfl (Eff.append (ys := p1.rules.flatMap ruC) (F := (b3, Obj.cells #[.bool p3.allow, .slice pa3 p3.rules.length ca3, .slice pb3 p3.pins.length cb3] 25 (0, 0)) :: (X3 ++ ((b2, Obj.cells #[.bool p2.allow, .slice pa2 p2.rules.length ca2, .slice pb2 p2.pins.length cb2] 25 (0, 0)) :: (X2 ++ ((b1, Obj.cells #[.bool p1.allow, .slice pa1 p1.rules.length ca1, .slice pb1 p1.pins.length cb1] 25 (0, 0)) :: (X1 ++ [])))))) (by omega) rfl (Buf.row bA 0 0 [] [] rfl rfl (Nat.le_refl _) (by omega)) rfl (.refl _) (rules_len _) (fun w hw => hl1'.ro.here hw) (rules_one _) (by omega) (by omega) (fun v1 B1 hB1 => ⟨fun w hw => hw.sub (s3.trans (List.sublist_append_right _ _)), ?_⟩))
  repeat' first | refine Y.st ?_ | (refine nw ?_; intro _) | refine Y.kn ?_ | fail
  have r2 : RulesAt W (B1 ++ ((b3, Obj.cells #[.bool p3.allow, .slice pa3 p3.rules.length ca3, .slice pb3 p3.pins.length cb3] 25 (0, 0)) :: (X3 ++ ((b2, Obj.cells #[.bool p2.allow, .slice pa2 p2.rules.length ca2, .slice pb2 p2.pins.length cb2] 25 (0, 0)) :: (X2 ++ ((b1, Obj.cells #[.bool p1.allow, .slice pa1 p1.rules.length ca1, .slice pb1 p1.pins.length cb1] 25 (0, 0)) :: (X1 ++ []))))))) (.slice pa2 p2.rules.length ca2) p2.rules := (at2 W).rules.imp (fun _ hφ => ((((hφ.cons _).app X3).cons _).app B1))
  obtain ⟨q2, d2, e2, hd2, hl2'⟩ := r2
  obtain ⟨rfl, -, rfl⟩ := Value.slice.inj e2
  refine G.eeP rfl rfl rfl (Eff.append (ys := p2.rules.flatMap ruC) (F := (b3, Obj.cells #[.bool p3.allow, .slice pa3 p3.rules.length ca3, .slice pb3 p3.pins.length cb3] 25 (0, 0)) :: (X3 ++ ((b2, Obj.cells #[.bool p2.allow, .slice pa2 p2.rules.length ca2, .slice pb2 p2.pins.length cb2] 25 (0, 0)) :: (X2 ++ ((b1, Obj.cells #[.bool p1.allow, .slice pa1 p1.rules.length ca1, .slice pb1 p1.pins.length cb1] 25 (0, 0)) :: (X1 ++ [])))))) (by omega) rfl hB1 rfl (.refl _) (rules_len _) (fun w hw => hl2'.ro.here hw) (rules_one _) (by omega) (by omega) (fun v2 B2 hB2 => ⟨fun w hw => hw.sub (s3.trans (List.sublist_append_right _ _)), ?_⟩))
  repeat' first | refine Y.st ?_ | (refine nw ?_; intro _) | refine Y.kn ?_ | fail
  obtain ⟨q4, d4, rfl, hd4, hl4⟩ := Go.Tri.Buf.see hB2
  have n4 : 0 + p1.rules.length + p2.rules.length = (p1.rules ++ p2.rules).length := by rw [List.length_append]; omega
  have f4 : [] ++ p1.rules.flatMap ruC ++ p2.rules.flatMap ruC = (p1.rules ++ p2.rules).flatMap ruC := by rw [List.flatMap_append]; rfl
  rw [n4] at hd4 ⊢
  have r4 : RulesAt W (B2 ++ ((b3, Obj.cells #[.bool p3.allow, .slice pa3 p3.rules.length ca3, .slice pb3 p3.pins.length cb3] 25 (0, 0)) :: (X3 ++ ((b2, Obj.cells #[.bool p2.allow, .slice pa2 p2.rules.length ca2, .slice pb2 p2.pins.length cb2] 25 (0, 0)) :: (X2 ++ ((b1, Obj.cells #[.bool p1.allow, .slice pa1 p1.rules.length ca1, .slice pb1 p1.pins.length cb1] 25 (0, 0)) :: (X1 ++ []))))))) (.slice q4 (p1.rules ++ p2.rules).length d4) (p1.rules ++ p2.rules) := ⟨q4, d4, rfl, hd4, by
    have := hl4 W
    rw [f4] at this
    exact (this.app ((b3, Obj.cells #[.bool p3.allow, .slice pa3 p3.rules.length ca3, .slice pb3 p3.pins.length cb3] 25 (0, 0)) :: (X3 ++ ((b2, Obj.cells #[.bool p2.allow, .slice pa2 p2.rules.length ca2, .slice pb2 p2.pins.length cb2] 25 (0, 0)) :: (X2 ++ ((b1, Obj.cells #[.bool p1.allow, .slice pa1 p1.rules.length ca1, .slice pb1 p1.pins.length cb1] 25 (0, 0)) :: (X1 ++ []))))))).perm List.perm_append_comm⟩
  have r3 : RulesAt W (B2 ++ ((b3, Obj.cells #[.bool p3.allow, .slice pa3 p3.rules.length ca3, .slice pb3 p3.pins.length cb3] 25 (0, 0)) :: (X3 ++ ((b2, Obj.cells #[.bool p2.allow, .slice pa2 p2.rules.length ca2, .slice pb2 p2.pins.length cb2] 25 (0, 0)) :: (X2 ++ ((b1, Obj.cells #[.bool p1.allow, .slice pa1 p1.rules.length ca1, .slice pb1 p1.pins.length cb1] 25 (0, 0)) :: (X1 ++ []))))))) (.slice pa3 p3.rules.length ca3) p3.rules := (at3 W).rules.imp (fun _ hφ => (hφ.cons _).app B2)
  refine G.eeP rfl rfl rfl (Eff.callF rfl ((same_spec _ _ p3.rules (p1.rules ++ p2.rules) r3 r4 (at3 W).sr (fun r hr => (List.mem_append.1 hr).elim ((at1 W).sr r) ((at2 W).sr r)) w6).mono ?_))
  rintro v H' ⟨rfl, rfl⟩
  refine ⟨fun w hw => hw.sub (s3.trans (List.sublist_append_right _ _)), ?_⟩
  rw [decide_eq_true j1]
  repeat' first | refine Y.st ?_ | (refine nw ?_; intro _) | refine Y.kn ?_ | fail
  exact GQ.done1 rfl rfl rfl
theorem PolicyJoin_walk (W : World) (vts : List VT) (hv : Vars W) (h : VT.LiesEach Tryz.prog W [9, 9] vts) : T Tryz.prog W 6 (vts.map VT.val).toArray [] (fun v _ => v = .bool true) := by
  obtain ⟨v0, r, rfl, h0, h⟩ := lies_one h
  obtain ⟨v1, r, rfl, h1, h⟩ := lies_one h
  obtain rfl := lies_nil h
  obtain ⟨s, rfl, hs⟩ := Go.Own.Lies.str h0
  obtain ⟨m, rfl, hm⟩ := Go.Own.Lies.str h1
  exact PolicyJoin_core W hv s m hs hm
end Go.Pol
namespace Go.Proofs.YtohblhfdgoigdaaGreatDoor.LPolicyJoin
open Go.Own
theorem own : ownKnob Tryz.prog.godebug = none := by kernel_rfl
theorem reads (os : Os) {H : Type} (enc : TypeId × Value → H) : ∃ x, DataW.whole enc Tryz.prog ((laidWorld os).forCall (fun _ _ => 0) ⟨#[], #[.string ⟨#[]⟩, .string ⟨#[]⟩], []⟩).memory Tryz.f6.params.toList Rows.policyJoinSpec.vars false #[.string ⟨#[]⟩, .string ⟨#[]⟩].toList 8 = some x :=
  Option.isSome_iff_exists.1 (by kernel_rfl)
set_option maxRecDepth 100000 in
theorem lifted (os : Os) (started : os.Started) (H : Type) (enc : TypeId × Value → H) (F : Stop.Interp) :
    ReturnsInHanded {} Tryz.checked os 6 .any ((OpenSpec.ofChange Rows.policyJoinSpec).preRow enc Tryz.prog Tryz.f6 Rows.policyJoinRow.domain false Rows.policyJoinRow.laid) (((OpenSpec.ofChange Rows.policyJoinSpec).at F).post enc Tryz.prog Tryz.f6 false true false false) := by
  obtain ⟨x, hx⟩ := reads os enc
  exact law_laid (C := Tryz.checked) (D := 20) (tb := 4) own started (by kernel_rfl) Tryz.func6 rfl rfl Tryz.underlying4 (by kernel_rfl) (by kernel_rfl) (by kernel_rfl)
    (fun K ds h => by match ds, h with | [_, _], _ => rfl)
    (witness_row_atRef (enc := enc) (C := Tryz.checked) false (laidWorld os) #[.string ⟨#[]⟩, .string ⟨#[]⟩] rfl (laid_shaped1 os _) (laid_shaped2 os _) (by kernel_rfl)
      (OpenSpec.preRow_of_cond 8 hx (by kernel_rfl) (fun k hk => by cases hk) (by kernel_rfl) (laid_met os _)))
    (fun W vts hsh hL h => Go.Pol.PolicyJoin_walk _ vts (Go.Nam.vars_of hsh hL) (by rw [Tryz.params6] at h; exact h))
theorem said : Rows.PolicyJoinSaid :=
  OpenClaim.holds_of_cond 6 Tryz.f6 rfl rfl rfl rfl rfl rfl rfl ⟨rfl, rfl, rfl, rfl, rfl⟩ rfl rfl rfl rfl rfl (by kernel_rfl) Tryz.func6 (by kernel_rfl)
    (of_decide_eq_true (by kernel_rfl)) (by unfold Func.isWrapper; first | (rw [if_pos (by decide +kernel)]; kernel_rfl) | (rw [if_neg (by decide +kernel)]; exact ⟨rfl, rfl⟩))
    (fun os started H enc _ F => by rw [OpenClaim.pre_eq_preRow]; exact lifted os started H enc F)
theorem plain (f : FuncId) (fn : Func) (hf : Tryz.pinned.checked.prog.funcNamed "hagioscope/hagioscopelaw19.PolicyJoin" = some f) (hfn : Tryz.pinned.checked.prog.funcs[f]? = some fn) :
    true = Tryz.pinned.checked.prog.looks [] ∧ ∀ (j : Nat) t, fn.params[j]? = some t → Tryz.pinned.checked.prog.wantsStandIn t = false := by
  obtain rfl : f = 6 := Option.some.inj ((show Tryz.prog.funcNamed "hagioscope/hagioscopelaw19.PolicyJoin" = some 6 by kernel_rfl).symm.trans hf) |>.symm
  obtain rfl : fn = Tryz.f6 := (Option.some.inj (Tryz.func6.symm.trans hfn)).symm
  refine ⟨by kernel_rfl, fun j t ht => ?_⟩
  have hall : Tryz.f6.params.toList.all (fun t => !Tryz.prog.wantsStandIn t) = true := by kernel_rfl
  have := List.all_eq_true.1 hall t (Array.mem_toList_iff.2 (Array.mem_of_getElem? ht))
  have h2 : Tryz.prog.wantsStandIn t = false := by simpa using this
  exact h2
end Go.Proofs.YtohblhfdgoigdaaGreatDoor.LPolicyJoin
namespace Go.Proofs.YtohblhfdgoigdaaGreatDoor
/-- The law PolicyJoin holds: its card. -/
theorem policyJoin_holds : Rows.PolicyJoinCardSaid :=
  Claim7.holds_tied_plain_at .later [] _ _ _ _ LPolicyJoin.said (fun _ h => by cases h) (by kernel_rfl) (fun _ h => by cases h) policyJoin_row_tie rfl ⟨rfl, rfl⟩ (by kernel_rfl) rfl LPolicyJoin.plain (by kernel_rfl)
#print axioms policyJoin_holds
end Go.Proofs.YtohblhfdgoigdaaGreatDoor
