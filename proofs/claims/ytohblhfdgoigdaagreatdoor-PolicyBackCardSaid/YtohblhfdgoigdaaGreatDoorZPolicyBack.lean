/-
  PolicyBack: what is printed comes back; what is read is right and comes back: of any small file, any text: no condition.
-/
import Derived.Test.YtohblhfdgoigdaaGreatDoorRows
import Derived.Test.YtohblhfdgoigdaaGreatDoorTie
import Derived.Test.YtohblhfdgoigdaaGreatDoorCards
import Derived.Test.YtohblhfdgoigdaaGreatDoorNam5
import Derived.Test.YtohblhfdgoigdaaGreatDoorGPc
import Derived.Test.YtohblhfdgoigdaaGreatDoorWit
import Derived.SevenTiedPlain
namespace Go.Pol
open Go.Own Go.Proofs Go.RowKit Go.Lib Go.Asc Go.Adr Go.Nam Go.Tri Go.Cid Go.Bld
attribute [local irreducible] GC GQ G Rd Eff T
set_option maxRecDepth 20000
set_option maxHeartbeats 4000000
attribute [local irreducible] parseP Lit.wf printP rightP fewP
theorem PolicyBack_core (W : World) (hv : Vars W) (p : Pol) (rv pv : Value) (sr : ∀ r ∈ p.rules, Sized r) (sp : ∀ x ∈ p.pins, SizP x) (hrl : p.rules.length ≤ 140737488351232) (hpl : p.pins.length ≤ 140737488351232) (hr : ∀ F, RulesAt W F rv p.rules) (hp : ∀ F, PinsAt W F pv p.pins)
    (s : Lb) (hl1 : s.length ≤ 140737488351232) : T Tryz.prog W 3 #[polV p rv pv, S s] [] (fun v _ => v = .bool true) := by
  obtain ⟨pa, ca, e1, _⟩ := hr []
  obtain ⟨pb, cb, e2, _⟩ := hp []
  subst e1 e2
  refine T.intro (args := [_, _]) Tryz.func3 rfl Tryz.ntmps3 rfl ?_
  repeat' first | refine Y.st ?_ | (refine nw ?_; intro _) | refine Y.kn ?_ | fail
  refine G.ef rfl rfl rfl (Eff.callF rfl ((psmall_spec hv).mono ?_))
  rintro v H' ⟨rfl, rfl⟩
  repeat' first | refine Y.st ?_ | (refine nw ?_; intro _) | refine Y.kn ?_ | fail
  refine G.ef rfl rfl rfl (Eff.callF rfl ((pfew_spec (hr _) (hp _) sp hrl hpl).mono ?_))
  rintro v H' ⟨rfl, rfl⟩
  cases hfew : fewP p with
  | false =>
    repeat' first | refine Y.st ?_ | (refine nw ?_; intro _) | refine Y.kn ?_ | fail
    exact GQ.done1 rfl rfl rfl
  | true =>
    by_cases h3 : 3000 < s.length
    · repeat' first | refine Y.st ?_ | (refine nw ?_; intro _) | refine Y.kn ?_ | fail
      exact GQ.done1 rfl rfl rfl
    have A : ∀ F, PolAt W F p (.slice pa p.rules.length ca) (.slice pb p.pins.length cb) := fun F => few_at hfew sr sp (hr F) (hp F)
    have hpl' := print_len2 hfew sr sp
    -- what is read
    have hz := @parse_zero s
    have hbad := @parse_bad s
    have hqr := parse_right2 s
    have hqw := parse_wf s
    obtain ⟨q, m, f, hps⟩ : ∃ q m f, parseP s = (q, m, f) := ⟨_, _, _, rfl⟩
    rw [hps] at hz hbad hqr hqw
    dsimp only at hz hbad hqr hqw
    have hqf := right_few hqr
    have hqb : parseP (printP q) = (q, 0, 0) := backP hqr hqw
    have hqs : (∀ r ∈ q.rules, Sized r) ∧ ∀ x ∈ q.pins, SizP x := by
      obtain ⟨h1, h2, h3⟩ := rightP_iff.1 hqr
      refine ⟨fun r hr => (small_right (rulesErr_mem h1 r hr)).1.1, fun x hx => ?_⟩
      obtain ⟨k1, k2, k3, k4⟩ := pinsErr_mem h3 x hx
      have := named_len k1
      exact ⟨siz_right k2 (hqw x hx), wf_small (by omega) (by omega), by omega⟩
    have hql := print_len2 hqf hqs.1 hqs.2
    repeat' first | refine Y.st ?_ | (refine nw ?_; intro _) | refine Y.kn ?_ | fail
    rename_i b2
    refine G.ef rfl rfl rfl (Eff.callF rfl ((pright_spec hv p _ _ (hr _) (hp _) (fun r hr => ⟨((A []).sr r hr).1, ((A []).sr r hr).2.1⟩) (A []).sp (A []).sn (A []).rl (A []).pl).mono ?_))
    rintro v H' ⟨rfl, rfl⟩
    by_cases hR : rightP p = 0
    case neg =>
      repeat' first | refine Y.st ?_ | (refine nw ?_; intro _) | refine Y.kn ?_ | fail
      refine G.ef rfl rfl rfl (Eff.callF rfl ((pparse_spec hv s (by omega)).mono ?_))
      intro v H' hP4
      by_cases hf0 : f = 0
      case neg =>
        obtain ⟨rfl, hm⟩ := hbad hf0
        obtain ⟨pa4, ca4, pb4, cb4, X4, rfl, rfl, at4⟩ := parse_is hP4 hps rfl (nr := 0) (np := 0) rfl rfl
        repeat' first | refine Y.st ?_ | (refine nw ?_; intro _) | refine Y.kn ?_ | fail
        exact GQ.done1 rfl rfl rfl
      subst hf0
      obtain rfl := hz rfl
      obtain ⟨pa4, ca4, pb4, cb4, X4, rfl, rfl, at4⟩ := parse_is hP4 hps (m := 0) rfl rfl rfl
      repeat' first | refine Y.st ?_ | (refine nw ?_; intro _) | refine Y.kn ?_ | fail
      rename_i b4
      have A4 := (at4 W).imp (fun _ hφ => hφ.cons (b4, .cells #[.bool q.allow, .slice pa4 q.rules.length ca4, .slice pb4 q.pins.length cb4] 25 (0, 0)))
      refine G.ef rfl rfl rfl (Eff.callF rfl ((print_spec hv q _ _ (A4).rules (A4).pins (fun r hr => ((A4).sr r hr).1) (A4).sp hql (A4).rl (A4).pl).mono ?_))
      rintro v H' ⟨rfl, rfl⟩
      refine G.ef rfl rfl rfl (Eff.callF rfl ((pparse_spec hv (printP q) (by omega)).mono ?_))
      intro v H' hP5
      obtain ⟨pa5, ca5, pb5, cb5, X5, rfl, rfl, at5⟩ := parse_is hP5 hqb (m := 0) rfl rfl rfl
      repeat' first | refine Y.st ?_ | (refine nw ?_; intro _) | refine Y.kn ?_ | fail
      rename_i b5
      have A4 := ((at4 W).imp (fun _ hφ => ((hφ.cons (b4, .cells #[.bool q.allow, .slice pa4 q.rules.length ca4, .slice pb4 q.pins.length cb4] 25 (0, 0))).app X5).cons (b5, .cells #[.bool q.allow, .slice pa5 q.rules.length ca5, .slice pb5 q.pins.length cb5] 25 (0, 0))))
      have A5 := (at5 W).imp (fun _ hφ => hφ.cons (b5, .cells #[.bool q.allow, .slice pa5 q.rules.length ca5, .slice pb5 q.pins.length cb5] 25 (0, 0)))
      refine G.ef rfl rfl rfl (Eff.callF rfl ((pright_spec hv q _ _ (A4).rules (A4).pins (fun r hr => ⟨((A4).sr r hr).1, ((A4).sr r hr).2.1⟩) (A4).sp (A4).sn (A4).rl (A4).pl).mono ?_))
      rintro v H' ⟨rfl, rfl⟩
      rw [hqr]
      repeat' first | refine Y.st ?_ | (refine nw ?_; intro _) | refine Y.kn ?_ | fail
      refine G.ef rfl rfl rfl (Eff.callF rfl ((psame_spec A4 A5).mono ?_))
      rintro v H' ⟨rfl, rfl⟩
      rw [decide_eq_true rfl]
      repeat' first | refine Y.st ?_ | (refine nw ?_; intro _) | refine Y.kn ?_ | fail
      exact GQ.done1 rfl rfl rfl
    · have hpb : parseP (printP p) = (p, 0, 0) := backP hR (fun x hx => (sp x hx).1.1)
      repeat' first | refine Y.st ?_ | (refine nw ?_; intro _) | refine Y.kn ?_ | fail
      refine G.ef rfl rfl rfl (Eff.callF rfl ((print_spec hv p _ _ (hr _) (hp _) (fun r hr => ((A []).sr r hr).1) (A []).sp hpl' (A []).rl (A []).pl).mono ?_))
      rintro v H' ⟨rfl, rfl⟩
      refine G.ef rfl rfl rfl (Eff.callF rfl ((pparse_spec hv (printP p) (by omega)).mono ?_))
      intro v H' hP2
      obtain ⟨pa3, ca3, pb3, cb3, X3, rfl, rfl, at3⟩ := parse_is hP2 hpb (m := 0) rfl rfl rfl
      repeat' first | refine Y.st ?_ | (refine nw ?_; intro _) | refine Y.kn ?_ | fail
      rename_i b3
      refine G.ef rfl rfl rfl (Eff.callF rfl ((psame_spec ((at3 W).imp (fun _ hφ => hφ.cons _)) (A _)).mono ?_))
      rintro v H' ⟨rfl, rfl⟩
      rw [decide_eq_true rfl]
      repeat' first | refine Y.st ?_ | (refine nw ?_; intro _) | refine Y.kn ?_ | fail
      refine G.ef rfl rfl rfl (Eff.callF rfl ((pparse_spec hv s (by omega)).mono ?_))
      intro v H' hP4
      by_cases hf0 : f = 0
      case neg =>
        obtain ⟨rfl, hm⟩ := hbad hf0
        obtain ⟨pa4, ca4, pb4, cb4, X4, rfl, rfl, at4⟩ := parse_is hP4 hps rfl (nr := 0) (np := 0) rfl rfl
        repeat' first | refine Y.st ?_ | (refine nw ?_; intro _) | refine Y.kn ?_ | fail
        exact GQ.done1 rfl rfl rfl
      subst hf0
      obtain rfl := hz rfl
      obtain ⟨pa4, ca4, pb4, cb4, X4, rfl, rfl, at4⟩ := parse_is hP4 hps (m := 0) rfl rfl rfl
      repeat' first | refine Y.st ?_ | (refine nw ?_; intro _) | refine Y.kn ?_ | fail
      rename_i b4
      have A4 := (at4 W).imp (fun _ hφ => hφ.cons (b4, .cells #[.bool q.allow, .slice pa4 q.rules.length ca4, .slice pb4 q.pins.length cb4] 25 (0, 0)))
      refine G.ef rfl rfl rfl (Eff.callF rfl ((print_spec hv q _ _ (A4).rules (A4).pins (fun r hr => ((A4).sr r hr).1) (A4).sp hql (A4).rl (A4).pl).mono ?_))
      rintro v H' ⟨rfl, rfl⟩
      refine G.ef rfl rfl rfl (Eff.callF rfl ((pparse_spec hv (printP q) (by omega)).mono ?_))
      intro v H' hP5
      obtain ⟨pa5, ca5, pb5, cb5, X5, rfl, rfl, at5⟩ := parse_is hP5 hqb (m := 0) rfl rfl rfl
      repeat' first | refine Y.st ?_ | (refine nw ?_; intro _) | refine Y.kn ?_ | fail
      rename_i b5
      have A4 := ((at4 W).imp (fun _ hφ => ((hφ.cons (b4, .cells #[.bool q.allow, .slice pa4 q.rules.length ca4, .slice pb4 q.pins.length cb4] 25 (0, 0))).app X5).cons (b5, .cells #[.bool q.allow, .slice pa5 q.rules.length ca5, .slice pb5 q.pins.length cb5] 25 (0, 0))))
      have A5 := (at5 W).imp (fun _ hφ => hφ.cons (b5, .cells #[.bool q.allow, .slice pa5 q.rules.length ca5, .slice pb5 q.pins.length cb5] 25 (0, 0)))
      refine G.ef rfl rfl rfl (Eff.callF rfl ((pright_spec hv q _ _ (A4).rules (A4).pins (fun r hr => ⟨((A4).sr r hr).1, ((A4).sr r hr).2.1⟩) (A4).sp (A4).sn (A4).rl (A4).pl).mono ?_))
      rintro v H' ⟨rfl, rfl⟩
      rw [hqr]
      repeat' first | refine Y.st ?_ | (refine nw ?_; intro _) | refine Y.kn ?_ | fail
      refine G.ef rfl rfl rfl (Eff.callF rfl ((psame_spec A4 A5).mono ?_))
      rintro v H' ⟨rfl, rfl⟩
      rw [decide_eq_true rfl]
      repeat' first | refine Y.st ?_ | (refine nw ?_; intro _) | refine Y.kn ?_ | fail
      exact GQ.done1 rfl rfl rfl
theorem PolicyBack_walk (W : World) (vts : List VT) (hv : Vars W) (h : VT.LiesEach Tryz.prog W [25, 9] vts) : T Tryz.prog W 3 (vts.map VT.val).toArray [] (fun v _ => v = .bool true) := by
  obtain ⟨v0, r, rfl, h0, h⟩ := lies_one h
  obtain ⟨v1, r, rfl, h1, h⟩ := lies_one h
  obtain rfl := lies_nil h
  obtain ⟨p, rv, pv, e0, sr, sp, hrl, hpl, hr, hp⟩ := lies_policy h0
  obtain ⟨s, rfl, hs⟩ := Go.Own.Lies.str h1
  simp only [List.map_cons, List.map_nil, e0]
  exact PolicyBack_core W hv p rv pv sr sp hrl hpl hr hp s hs
end Go.Pol
namespace Go.Proofs.YtohblhfdgoigdaaGreatDoor.LPolicyBack
open Go.Own
theorem own : ownKnob Tryz.prog.godebug = none := by kernel_rfl
theorem reads (os : Os) {H : Type} (enc : TypeId × Value → H) : ∃ x, DataW.whole enc Tryz.prog ((laidWorld os).forCall (fun _ _ => 0) ⟨#[], #[.agg #[.bool false, .slice none 0 0, .slice none 0 0], .string ⟨#[]⟩], []⟩).memory Tryz.f3.params.toList Rows.policyBackSpec.vars false #[.agg #[.bool false, .slice none 0 0, .slice none 0 0], .string ⟨#[]⟩].toList 8 = some x :=
  Option.isSome_iff_exists.1 (by kernel_rfl)
set_option maxRecDepth 100000 in
theorem lifted (os : Os) (started : os.Started) (H : Type) (enc : TypeId × Value → H) (F : Stop.Interp) :
    ReturnsInHanded {} Tryz.checked os 3 .any ((OpenSpec.ofChange Rows.policyBackSpec).preRow enc Tryz.prog Tryz.f3 Rows.policyBackRow.domain false Rows.policyBackRow.laid) (((OpenSpec.ofChange Rows.policyBackSpec).at F).post enc Tryz.prog Tryz.f3 false true false false) := by
  obtain ⟨x, hx⟩ := reads os enc
  exact law_laid (C := Tryz.checked) (D := 20) (tb := 4) own started (by kernel_rfl) Tryz.func3 rfl rfl Tryz.underlying4 (by kernel_rfl) (by kernel_rfl) (by kernel_rfl)
    (fun K ds h => by match ds, h with | [_, _], _ => rfl)
    (witness_row_atRef (enc := enc) (C := Tryz.checked) false (laidWorld os) #[.agg #[.bool false, .slice none 0 0, .slice none 0 0], .string ⟨#[]⟩] rfl (laid_shaped1 os _) (laid_shaped2 os _) (by kernel_rfl)
      (OpenSpec.preRow_of_cond 8 hx (by kernel_rfl) (fun k hk => by cases hk) (by kernel_rfl) (laid_met os _)))
    (fun W vts hsh hL h => Go.Pol.PolicyBack_walk _ vts (Go.Nam.vars_of hsh hL) (by rw [Tryz.params3] at h; exact h))
theorem said : Rows.PolicyBackSaid :=
  OpenClaim.holds_of_cond 3 Tryz.f3 rfl rfl rfl rfl rfl rfl rfl ⟨rfl, rfl, rfl, rfl, rfl⟩ rfl rfl rfl rfl rfl (by kernel_rfl) Tryz.func3 (by kernel_rfl)
    (of_decide_eq_true (by kernel_rfl)) (by unfold Func.isWrapper; first | (rw [if_pos (by decide +kernel)]; kernel_rfl) | (rw [if_neg (by decide +kernel)]; exact ⟨rfl, rfl⟩))
    (fun os started H enc _ F => by rw [OpenClaim.pre_eq_preRow]; exact lifted os started H enc F)
theorem plain (f : FuncId) (fn : Func) (hf : Tryz.pinned.checked.prog.funcNamed "hagioscope/hagioscopelaw19.PolicyBack" = some f) (hfn : Tryz.pinned.checked.prog.funcs[f]? = some fn) :
    true = Tryz.pinned.checked.prog.looks [] ∧ ∀ (j : Nat) t, fn.params[j]? = some t → Tryz.pinned.checked.prog.wantsStandIn t = false := by
  obtain rfl : f = 3 := Option.some.inj ((show Tryz.prog.funcNamed "hagioscope/hagioscopelaw19.PolicyBack" = some 3 by kernel_rfl).symm.trans hf) |>.symm
  obtain rfl : fn = Tryz.f3 := (Option.some.inj (Tryz.func3.symm.trans hfn)).symm
  refine ⟨by kernel_rfl, fun j t ht => ?_⟩
  have hall : Tryz.f3.params.toList.all (fun t => !Tryz.prog.wantsStandIn t) = true := by kernel_rfl
  have := List.all_eq_true.1 hall t (Array.mem_toList_iff.2 (Array.mem_of_getElem? ht))
  have h2 : Tryz.prog.wantsStandIn t = false := by simpa using this
  exact h2
end Go.Proofs.YtohblhfdgoigdaaGreatDoor.LPolicyBack
namespace Go.Proofs.YtohblhfdgoigdaaGreatDoor
/-- The law PolicyBack holds: its card. -/
theorem policyBack_holds : Rows.PolicyBackCardSaid :=
  Claim7.holds_tied_plain_at .later [] _ _ _ _ LPolicyBack.said (fun _ h => by cases h) (by kernel_rfl) (fun _ h => by cases h) policyBack_row_tie rfl ⟨rfl, rfl⟩ (by kernel_rfl) rfl LPolicyBack.plain (by kernel_rfl)
#print axioms policyBack_holds
end Go.Proofs.YtohblhfdgoigdaaGreatDoor
