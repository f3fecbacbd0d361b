/-
  THE LAW DecideRule: the rule that is told is the one that counts, and allows so: of any policy, any verdict.
-/
import Derived.Test.YtajkpdhcefkopaaGreatDoorRows
import Derived.Test.YtajkpdhcefkopaaGreatDoorTie
import Derived.Test.YtajkpdhcefkopaaGreatDoorCards
import Derived.Test.YtajkpdhcefkopaaGreatDoorGNm
import Derived.Test.YtajkpdhcefkopaaGreatDoorGDf
import Derived.Test.YtajkpdhcefkopaaGreatDoorGDe
import Derived.SevenTiedPlain
namespace Go.Dec
open Go.Own Go.Proofs Go.RowKit Go.Lib Go.Asc Go.Adr Go.Nam Go.Tri Go.Cid Go.Pol Go.Pin
attribute [local irreducible] GC GQ G Rd Eff T
set_option maxRecDepth 20000
set_option maxHeartbeats 4000000
attribute [local irreducible] Lit.wf addT addAllT checkT liveL okP rightC ofL decL rightP fewD

theorem DecideRule_core (W : World) (hv : Vars W) (p : Pol) (rv pv : Value) (sr : ∀ r ∈ p.rules, Go.Tri.Sized r) (sp : ∀ x ∈ p.pins, SizP x) (hl : p.rules.length ≤ 140737488351232) (hl2 : p.pins.length ≤ 140737488351232) (hr : ∀ F, RulesAt W F rv p.rules) (hp : ∀ F, PinsAt W F pv p.pins)
    (v : Vw) (alpn : List Lb) (q : Option Addr) (c : Nat) (hal : v.al = .slice q alpn.length c) (_ : (Lit.int .i64 v.port).wf = true) (_ : (Lit.int .i64 v.st).wf = true) (at_ : ∀ F, alpn.length ≤ 1000000 → AlpnAt W F v.al alpn) (a : List UInt8) (n : Int) (ha : a.length = 16) (_ : (Lit.int .i64 n).wf = true) (now : Int) :
    T Tryz.prog W 13 #[polV p rv pv, vwV v, dsV a n, .int .i64 now] [] (fun v _ => v = .bool true) := by
  obtain ⟨pa, ca, rfl, hca, hat⟩ := hr []
  obtain ⟨pb, cb, rfl, hcb, hbt⟩ := hp []
  refine T.intro (args := [_, _, _, _]) Tryz.func13 rfl Tryz.ntmps13 rfl ?_
  repeat' first | refine Y.st ?_ | (refine nw ?_; intro _) | refine Y.kn ?_ | fail
  rename_i b4 b5 b6
  refine G.ef rfl rfl rfl (Eff.callF rfl ((dsmall_spec hv).mono ?_))
  rintro u H' ⟨rfl, rfl⟩
  repeat' first | refine Y.st ?_ | (refine nw ?_; intro _) | refine Y.kn ?_ | fail
  refine G.ef rfl rfl rfl (Eff.callF rfl ((dfew_spec (hr _) (hp _) sp hl hl2 v hal).mono ?_))
  rintro u H' ⟨rfl, rfl⟩
  cases hf : fewD p v alpn.length with
  | false =>
    repeat' first | refine Y.st ?_ | (refine nw ?_; intro _) | refine Y.kn ?_ | fail
    exact GQ.done1 rfl rfl rfl
  | true =>
  obtain ⟨hf1, hh, hna⟩ := few_iff hf
  obtain ⟨hPol, hrl, hpl⟩ := few_polAt (W0 := W) hf1 sr sp hr hp
  have hAl : ∀ F, AlpnAt W F v.al alpn := fun F => at_ F (by omega)
  repeat' first | refine Y.st ?_ | (refine nw ?_; intro _) | refine Y.kn ?_ | fail
  refine G.ef rfl rfl rfl (Eff.callF rfl ((dnew_spec hv (hPol _)).mono ?_))
  rintro u H' (⟨hR, rfl, rfl⟩ | ⟨hR, bj, JH, rfl, hJ, rfl⟩)
  · repeat' first | refine Y.st ?_ | (refine nw ?_; intro _) | refine Y.kn ?_ | fail
    exact GQ.done1 rfl rfl rfl
  repeat' first | refine Y.st ?_ | (refine nw ?_; intro _) | refine Y.kn ?_ | fail
  refine G.rd (Rd.loadAggC (cs := dsC a n) rfl (cellsH (fun j u hj => by simpa using hj)) (dsC_len ha n)) rfl rfl ?_
  repeat' first | refine Y.st ?_ | (refine nw ?_; intro _) | refine Y.kn ?_ | fail
  refine G.ef rfl rfl rfl (Eff.callF rfl ((ddecide_spec hv hJ v a n ha now (by omega) alpn (hAl _)).mono ?_))
  rintro u H' ⟨rfl, rfl⟩
  have hno : ∀ d : Dc, d = decL p v.st v.host v.port alpn a n now → d.why ≠ 0 → d.rule = -1 := by
    rintro d rfl h
    by_cases hb : refuseL p v.st v.host v.port a n now = -1
    · rw [dec_pass hb] at h ⊢
      cases hfb : findB p.rules v.host n alpn with
      | none => rfl
      | some i => rw [hfb] at h; exact absurd rfl h
    · rw [dec_stop hb]
  by_cases hw : (decL p v.st v.host v.port alpn a n now).why = 0
  case neg =>
    have hr1 := hno _ rfl hw
    generalize decL p v.st v.host v.port alpn a n now = d at hw hr1 ⊢
    repeat' first | refine Y.st ?_ | (refine nw ?_; intro _) | refine Y.kn ?_ | fail
    exact GQ.done1 rfl rfl rfl
  have hcs := refuse_cases (p := p) (st := v.st) (host := v.host) (vport := v.port) (addr := a) (port := n) (now := now)
  by_cases hb : refuseL p v.st v.host v.port a n now = -1
  case neg => rw [dec_stop hb] at hw; simp only at hw; omega
  rw [dec_pass hb] at hw ⊢
  cases hfb : findB p.rules v.host n alpn with
  | none => rw [hfb] at hw; simp [ruleD] at hw
  | some i =>
    obtain ⟨hi, hc⟩ := find_lt (right_fine hR) hfb
    have hmt := counts_match hc
    have hft : (p.rules.getD i zeroR).port = 0 ∨ (p.rules.getD i zeroR).port = n := by
      simp only [countsL, fitsL, Bool.and_eq_true, Bool.or_eq_true, decide_eq_true_eq] at hc
      exact hc.2.1
    have hsr := (hPol []).sr _ (getD_mem hi)
    have hpl2 := hsr.2.1
    rw [show ruleD p (some i) = ⟨(p.rules.getD i zeroR).allow, 0, (i : Int)⟩ from rfl]
    dsimp only [dcV, dcA]
    have hatA : ∀ H, Go.Tri.Lies W H pa (p.rules.flatMap ruC) := fun H => by
      obtain ⟨p', c', hpc, _, h⟩ := hr H
      cases hpc; exact h
    have c1 : ∀ (H : Heap), ∃ b o, pa = some ⟨b, o, none⟩ ∧ ∀ w, Own W H w → CellsAt w b (o + i * 5) (ruC (p.rules.getD i zeroR)) := fun H => by
      obtain ⟨b', o', hb, a'⟩ := lies_get (hatA H) hi
      exact ⟨b', o', hb, a' i hi⟩
    obtain ⟨b, o, rfl, _⟩ := c1 []
    have c2 : ∀ (H : Heap) (w : World), Own W H w → CellsAt w b (o + i * 5) (ruC (p.rules.getD i zeroR)) := fun H => by
      obtain ⟨b', o', hb, a'⟩ := c1 H
      cases hb; exact a'
    generalize p.rules.getD i zeroR = r at c2 hmt hft hsr hpl2 ⊢
    repeat' first | refine Y.st ?_ | (refine nw ?_; intro _) | refine Y.kn ?_ | fail
    refine G.rd (Rd.loadAggC rfl (c2 _) rfl) rfl rfl ?_
    repeat' first | refine Y.st ?_ | (refine nw ?_; intro _) | refine Y.kn ?_ | fail
    refine G.rd (Rd.eqlB rfl rfl) rfl rfl ?_
    rw [show (r.allow == r.allow) = true by simp]
    repeat' first | refine Y.st ?_ | (refine nw ?_; intro _) | refine Y.kn ?_ | fail
    rw [hmt]
    by_cases h0 : r.port = 0
    · repeat' first | refine Y.st ?_ | (refine nw ?_; intro _) | refine Y.kn ?_ | fail
      exact GQ.done1 rfl rfl rfl
    · have h1 : r.port = n := hft.elim (fun h => absurd h h0) id
      repeat' first | refine Y.st ?_ | (refine nw ?_; intro _) | refine Y.kn ?_ | fail
      refine G.rd (Rd.dsPort rfl rfl ha) rfl rfl ?_
      repeat' first | refine Y.st ?_ | (refine nw ?_; intro _) | refine Y.kn ?_ | fail
      exact GQ.done1 rfl rfl rfl
theorem DecideRule_walk (W : World) (vts : List VT) (hv : Vars W) (h : VT.LiesEach Tryz.prog W [49, 56, 58, 3] vts) : T Tryz.prog W 13 (vts.map VT.val).toArray [] (fun v _ => v = .bool true) := by
  obtain ⟨v0, r, rfl, h0, h⟩ := lies_one h
  obtain ⟨v1, r, rfl, h1, h⟩ := lies_one h
  obtain ⟨v2, r, rfl, h2, h⟩ := lies_one h
  obtain ⟨v3, r, rfl, h3, h⟩ := lies_one h
  obtain rfl := lies_nil h
  obtain ⟨p, rv, pv, e0, sr, sp, hl, hl2, hr, hp⟩ := lies_policy h0
  obtain ⟨v, alpn, q, c, e1, hal, _, wp, ws, _, hA⟩ := lies_verdict h1
  obtain ⟨a, n, e2, ha, wn⟩ := lies_dest h2
  obtain ⟨now, rfl, _⟩ := Go.Own.Lies.int h3
  rw [show (([v0, v1, v2, .int .i64 now] : List VT).map VT.val).toArray = #[polV p rv pv, vwV v, dsV a n, .int .i64 now] by simp only [List.map_cons, List.map_nil, e0, e1, e2]; rfl]
  exact DecideRule_core W hv p rv pv sr sp hl hl2 hr hp v alpn q c hal wp ws hA a n ha wn now
end Go.Dec
namespace Go.Proofs.YtajkpdhcefkopaaGreatDoor.LDecideRule
open Go.Own
theorem own : ownKnob Tryz.prog.godebug = none := by kernel_rfl
theorem reads (os : Os) {H : Type} (enc : TypeId × Value → H) : ∃ x, DataW.whole enc Tryz.prog ((laidWorld os).forCall (fun _ _ => 0) ⟨#[], #[Value.agg #[.bool false, .slice none 0 0, .slice none 0 0], Value.agg #[.int .i64 0, .int .i64 0, .int .i64 0, .int .i64 0, .string ⟨#[]⟩, .int .i64 0, .bool false, .string ⟨#[]⟩, .slice none 0 0, .slice none 0 0, .bool false], Value.agg #[.int .u8 0, .int .u8 0, .int .u8 0, .int .u8 0, .int .u8 0, .int .u8 0, .int .u8 0, .int .u8 0, .int .u8 0, .int .u8 0, .int .u8 0, .int .u8 0, .int .u8 0, .int .u8 0, .int .u8 0, .int .u8 0, .int .i64 0], .int .i64 0], []⟩).memory Tryz.f13.params.toList Rows.decideRuleSpec.vars false #[Value.agg #[.bool false, .slice none 0 0, .slice none 0 0], Value.agg #[.int .i64 0, .int .i64 0, .int .i64 0, .int .i64 0, .string ⟨#[]⟩, .int .i64 0, .bool false, .string ⟨#[]⟩, .slice none 0 0, .slice none 0 0, .bool false], Value.agg #[.int .u8 0, .int .u8 0, .int .u8 0, .int .u8 0, .int .u8 0, .int .u8 0, .int .u8 0, .int .u8 0, .int .u8 0, .int .u8 0, .int .u8 0, .int .u8 0, .int .u8 0, .int .u8 0, .int .u8 0, .int .u8 0, .int .i64 0], .int .i64 0].toList 8 = some x :=
  Option.isSome_iff_exists.1 (by kernel_rfl)
set_option maxRecDepth 100000 in
theorem lifted (os : Os) (started : os.Started) (H : Type) (enc : TypeId × Value → H) (F : Stop.Interp) :
    ReturnsInHanded {} Tryz.checked os 13 .any ((OpenSpec.ofChange Rows.decideRuleSpec).preRow enc Tryz.prog Tryz.f13 Rows.decideRuleRow.domain false Rows.decideRuleRow.laid) (((OpenSpec.ofChange Rows.decideRuleSpec).at F).post enc Tryz.prog Tryz.f13 false true false false) := by
  obtain ⟨x, hx⟩ := reads os enc
  exact law_laid (C := Tryz.checked) (D := 20) (tb := 4) own started (by kernel_rfl) Tryz.func13 rfl rfl Tryz.underlying4 (by kernel_rfl) (by kernel_rfl) (by kernel_rfl)
    (fun K ds h => by match ds, h with | [_, _, _, _], _ => rfl)
    (witness_row_atRef (enc := enc) (C := Tryz.checked) false (laidWorld os) #[Value.agg #[.bool false, .slice none 0 0, .slice none 0 0], Value.agg #[.int .i64 0, .int .i64 0, .int .i64 0, .int .i64 0, .string ⟨#[]⟩, .int .i64 0, .bool false, .string ⟨#[]⟩, .slice none 0 0, .slice none 0 0, .bool false], Value.agg #[.int .u8 0, .int .u8 0, .int .u8 0, .int .u8 0, .int .u8 0, .int .u8 0, .int .u8 0, .int .u8 0, .int .u8 0, .int .u8 0, .int .u8 0, .int .u8 0, .int .u8 0, .int .u8 0, .int .u8 0, .int .u8 0, .int .i64 0], .int .i64 0] rfl (laid_shaped1 os _) (laid_shaped2 os _) (by kernel_rfl)
      (OpenSpec.preRow_of_cond 8 hx (by kernel_rfl) (fun k hk => by cases hk) (by kernel_rfl) (laid_met os _)))
    (fun W vts hsh hL h => Go.Dec.DecideRule_walk _ vts (Go.Nam.vars_of hsh hL) (by rw [Tryz.params13] at h; exact h))
theorem j1 : Tryz.prog.inPlace 13 = Rows.decideRuleRow.inPlace := eq_of_beq (by kernel_rfl)
theorem j2 : Tryz.prog.unfollowed 13 = Rows.decideRuleRow.unfollowed := eq_of_beq (by kernel_rfl)
theorem j3 : Tryz.prog.recurses 13 = Rows.decideRuleRow.recurses := eq_of_beq (by kernel_rfl)
theorem j4 : Tryz.prog.varsNamed 13 = Rows.decideRuleRow.named := eq_of_beq (by kernel_rfl)
theorem joined : joinedFacts Tryz.prog 13 Tryz.f13 (OpenSpec.ofChange Rows.decideRuleSpec).bare Rows.decideRuleRow = true := by
  unfold joinedFacts
  rw [j1, j2, j3, j4]
  kernel_rfl
theorem said : Rows.DecideRuleSaid :=
  OpenClaim.holds_of_cond 13 Tryz.f13 rfl rfl rfl rfl rfl rfl rfl ⟨rfl, rfl, rfl, rfl, rfl⟩ rfl rfl rfl rfl rfl (by kernel_rfl) Tryz.func13 joined
    (of_decide_eq_true (by kernel_rfl)) (by unfold Func.isWrapper; first | (rw [if_pos (by decide +kernel)]; kernel_rfl) | (rw [if_neg (by decide +kernel)]; exact ⟨rfl, rfl⟩))
    (fun os started H enc _ F => by rw [OpenClaim.pre_eq_preRow]; exact lifted os started H enc F)
theorem plain (f : FuncId) (fn : Func) (hf : Tryz.pinned.checked.prog.funcNamed "hagioscope/hagioscopelaw21.DecideRule" = some f) (hfn : Tryz.pinned.checked.prog.funcs[f]? = some fn) :
    true = Tryz.pinned.checked.prog.looks [] ∧ ∀ (j : Nat) t, fn.params[j]? = some t → Tryz.pinned.checked.prog.wantsStandIn t = false := by
  obtain rfl : f = 13 := Option.some.inj ((show Tryz.prog.funcNamed "hagioscope/hagioscopelaw21.DecideRule" = some 13 by kernel_rfl).symm.trans hf) |>.symm
  obtain rfl : fn = Tryz.f13 := (Option.some.inj (Tryz.func13.symm.trans hfn)).symm
  refine ⟨by kernel_rfl, fun j t ht => ?_⟩
  have hall : Tryz.f13.params.toList.all (fun t => !Tryz.prog.wantsStandIn t) = true := by kernel_rfl
  have := List.all_eq_true.1 hall t (Array.mem_toList_iff.2 (Array.mem_of_getElem? ht))
  have h2 : Tryz.prog.wantsStandIn t = false := by simpa using this
  exact h2
end Go.Proofs.YtajkpdhcefkopaaGreatDoor.LDecideRule
namespace Go.Proofs.YtajkpdhcefkopaaGreatDoor
/-- The law DecideRule holds: its card. -/
theorem decideRule_holds : Rows.DecideRuleCardSaid :=
  Claim7.holds_tied_plain_at .later [] _ _ _ _ LDecideRule.said (fun _ h => by cases h) (by kernel_rfl) (fun _ h => by cases h) decideRule_row_tie rfl ⟨rfl, rfl⟩ (by kernel_rfl) rfl LDecideRule.plain (by kernel_rfl)
#print axioms decideRule_holds
end Go.Proofs.YtajkpdhcefkopaaGreatDoor
