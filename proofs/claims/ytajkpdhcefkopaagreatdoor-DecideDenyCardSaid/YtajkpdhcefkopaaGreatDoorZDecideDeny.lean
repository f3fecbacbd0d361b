/-
  THE LAW DecideDeny: a rule for all with the greatest priority decides alone, where the pins, the port, and what was seen do not: of any policy, any verdict.
-/
import Derived.Test.YtajkpdhcefkopaaGreatDoorRows
import Derived.Test.YtajkpdhcefkopaaGreatDoorTie
import Derived.Test.YtajkpdhcefkopaaGreatDoorCards
import Derived.Test.YtajkpdhcefkopaaGreatDoorGNm
import Derived.Test.YtajkpdhcefkopaaGreatDoorGDf
import Derived.Test.YtajkpdhcefkopaaGreatDoorGDe
import Derived.SevenTiedPlain
namespace Go.Dec
open Go.Own Go.Proofs Go.RowKit Go.Lib Go.Asc Go.Adr Go.Nam Go.Tri Go.Cid Go.Pol Go.Pin
attribute [local irreducible] GC GQ G Rd Eff T
set_option maxRecDepth 20000
set_option maxHeartbeats 4000000
attribute [local irreducible] Lit.wf addT addAllT checkT liveL okP rightC ofL decL rightP fewD

theorem DecideDeny_core (W : World) (hv : Vars W) (p : Pol) (rv pv : Value) (sr : ∀ r ∈ p.rules, Go.Tri.Sized r) (sp : ∀ x ∈ p.pins, SizP x) (hl : p.rules.length ≤ 140737488351232) (hl2 : p.pins.length ≤ 140737488351232) (hr : ∀ F, RulesAt W F rv p.rules) (hp : ∀ F, PinsAt W F pv p.pins)
    (v : Vw) (alpn : List Lb) (q : Option Addr) (c : Nat) (hal : v.al = .slice q alpn.length c) (_ : (Lit.int .i64 v.port).wf = true) (_ : (Lit.int .i64 v.st).wf = true) (at_ : ∀ F, alpn.length ≤ 1000000 → AlpnAt W F v.al alpn) (a : List UInt8) (n : Int) (ha : a.length = 16) (_ : (Lit.int .i64 n).wf = true) (now : Int) (flag : Bool) :
    T Tryz.prog W 10 #[polV p rv pv, vwV v, dsV a n, .int .i64 now, .bool flag] [] (fun v _ => v = .bool true) := by
  obtain ⟨pa, ca, rfl, hca, hat⟩ := hr []
  obtain ⟨pb, cb, rfl, hcb, hbt⟩ := hp []
  refine T.intro (args := [_, _, _, _, _]) Tryz.func10 rfl Tryz.ntmps10 rfl ?_
  repeat' first | refine Y.st ?_ | (refine nw ?_; intro _) | refine Y.kn ?_ | fail
  rename_i b5 b6 b7
  refine G.ef rfl rfl rfl (Eff.callF rfl ((dsmall_spec hv).mono ?_))
  rintro u H' ⟨rfl, rfl⟩
  repeat' first | refine Y.st ?_ | (refine nw ?_; intro _) | refine Y.kn ?_ | fail
  refine G.ef rfl rfl rfl (Eff.callF rfl ((dfew_spec (hr _) (hp _) sp hl hl2 v hal).mono ?_))
  rintro u H' ⟨rfl, rfl⟩
  cases hf : fewD p v alpn.length with
  | false =>
    repeat' first | refine Y.st ?_ | (refine nw ?_; intro _) | refine Y.kn ?_ | fail
    exact GQ.done1 rfl rfl rfl
  | true =>
  obtain ⟨hf1, hh, hna⟩ := few_iff hf
  obtain ⟨hPol, hrl, hpl⟩ := few_polAt (W0 := W) hf1 sr sp hr hp
  have hAl : ∀ F, AlpnAt W F v.al alpn := fun F => at_ F (by omega)
  have hatA : ∀ H, Go.Tri.Lies W H pa (p.rules.flatMap ruC) := fun H => by
    obtain ⟨p', c', hpc, _, h⟩ := hr H
    cases hpc; exact h
  by_cases h150 : 150 < p.rules.length
  · repeat' first | refine Y.st ?_ | (refine nw ?_; intro _) | refine Y.kn ?_ | fail
    exact GQ.done1 rfl rfl rfl
  repeat' first | refine Y.st ?_ | (refine nw ?_; intro _) | refine Y.kn ?_ | fail
  refine GC.loopE (ι := { k : Nat // k ≤ p.rules.length ∧ ∀ x ∈ p.rules.take k, x.prio < 1000 }) (fun i => [(13, .int .i64 (i.1 : Int))]) [(3, _), (4, _), (5, _), (6, _), (7, _), (11, _)] (fun _ => [(b7, .cells (dsC a n).toArray 58 (0, 0)), (b6, .cells (vwA v) 56 (0, 0)), (b5, .cells #[.bool p.allow, .slice pa p.rules.length ca, .slice pb p.pins.length cb] 49 (0, 0))]) (fun k => p.rules.length - k.1) ⟨0, Nat.zero_le _, by simp⟩ ⟨rfl, rfl, rfl, rfl, rfl, rfl, rfl, trivial⟩ (fun _ h => h) ?_
  rintro ⟨k, hk, hall⟩
  dsimp only at hk hall ⊢
  by_cases hlt : k < p.rules.length
  · obtain ⟨b, o, rfl, hc1⟩ := lies_get (hatA [(b7, .cells (dsC a n).toArray 58 (0, 0)), (b6, .cells (vwA v) 56 (0, 0)), (b5, .cells #[.bool p.allow, .slice pa p.rules.length ca, .slice pb p.pins.length cb] 49 (0, 0))]) hlt
    have c1 := hc1 k hlt
    have htk := take_getD p.rules zeroR hlt
    generalize p.rules.getD k zeroR = r at c1 htk
    by_cases hpr : r.prio < 1000
    · repeat' first | refine Y.st ?_ | (refine nw ?_; intro _) | refine Y.kn ?_ | fail
      refine G.rd (Rd.load (v := .int .i64 r.prio) rfl (fun w hw => c1 w hw 1 _ rfl)) rfl rfl ?_
      repeat' first | refine Y.st ?_ | (refine nw ?_; intro _) | refine Y.kn ?_ | fail
      exact GQ.back ⟨k + 1, by omega, by rw [htk]; intro x hx; rcases List.mem_append.1 hx with h | h; exact hall x h; rw [List.mem_singleton.1 h]; exact hpr⟩ (by simp only; omega) ⟨rfl, rfl, rfl, rfl, rfl, rfl, rfl, trivial⟩ (fun w hw => hw)
    · repeat' first | refine Y.st ?_ | (refine nw ?_; intro _) | refine Y.kn ?_ | fail
      refine G.rd (Rd.load (v := .int .i64 r.prio) rfl (fun w hw => c1 w hw 1 _ rfl)) rfl rfl ?_
      repeat' first | refine Y.st ?_ | (refine nw ?_; intro _) | refine Y.kn ?_ | fail
      exact GQ.done1 rfl rfl rfl
  obtain rfl : k = p.rules.length := by omega
  rw [List.take_length] at hall
  repeat' first | refine Y.st ?_ | (refine nw ?_; intro _) | refine Y.kn ?_ | fail
  have hql : 1 + p.rules.length = (starB flag :: p.rules).length := by simp; omega
  have hqs : ∀ r ∈ starB flag :: p.rules, Small r := fun r hr => by
    rcases List.mem_cons.1 hr with rfl | hr
    · exact ⟨⟨wf_small (by show (-9223372036854775808 : Int) ≤ 1000; omega) (by show (1000 : Int) ≤ 9223372036854775807; omega), wf_small (by show (-9223372036854775808 : Int) ≤ 0; omega) (by show (0 : Int) ≤ 9223372036854775807; omega), by show 1 ≤ _; omega, by show 0 ≤ _; omega⟩, by show 1 ≤ _; omega, by show 0 ≤ _; omega⟩
    · exact (hPol []).sr r hr
  refine G.rd (Rd.build (cells := ruA (starB flag)) rfl (by rfl)) rfl rfl ?_
  refine G.ef rfl rfl rfl (Eff.buildSlice (cells := (ruC (starB flag) ++ []).toArray) rfl (by kernel_rfl) (by omega) (fun b52 => ?_))
  repeat' first | refine Y.st ?_ | (refine nw ?_; intro _) | refine Y.kn ?_ | fail
  refine G.ef rfl rfl rfl (Eff.app (ys := p.rules.flatMap ruC) (hB := Buf.row b52 1 1 (ruC (starB flag)) [] rfl rfl (Nat.le_refl _) (by omega)) rfl rfl (hH := ⟨.refl _⟩) (by omega) (rules_len p.rules) (fun w hw => (hatA _).ro.here hw) (rules_one p.rules) (by omega) (by omega) (fun v2 B2 hB2 => ?_))
  obtain ⟨p2, c2, rfl, hc2, hl2'⟩ := Go.Tri.Buf.see hB2
  have hPo := hPol []
  have hQ : ∀ F, PolAt W (B2 ++ F) ⟨p.allow, starB flag :: p.rules, p.pins⟩ (.slice p2 (1 + p.rules.length) c2) (.slice pb p.pins.length cb) := fun F => ⟨⟨p2, c2, by rw [hql], by rw [← hql]; exact hc2, ((hl2' W).app F).perm List.perm_append_comm⟩, hp _, hqs, sp, hPo.sn, by rw [← hql]; omega, hPo.pl⟩
  have hRs := right_star (p := p) (by omega) hall flag
  repeat' first | refine Y.st ?_ | (refine nw ?_; intro _) | refine Y.kn ?_ | fail
  refine G.ef rfl rfl rfl (Eff.callF rfl ((dnew_spec hv (hPol _)).mono ?_))
  rintro u H' (⟨hR, rfl, rfl⟩ | ⟨hR, bj, JH, rfl, hJ, rfl⟩)
  · repeat' first | refine Y.st ?_ | (refine nw ?_; intro _) | refine Y.kn ?_ | fail
    refine G.ef rfl rfl rfl (Eff.callF rfl ((dnew_spec hv (hQ _)).mono ?_))
    rintro u H' (⟨hR2, rfl, rfl⟩ | ⟨hR2, _⟩)
    case inr => exact absurd (hRs.symm.trans hR2) hR
    rw [hRs]
    repeat' first | refine Y.st ?_ | (refine nw ?_; intro _) | refine Y.kn ?_ | fail
    exact GQ.done1 rfl rfl rfl
  repeat' first | refine Y.st ?_ | (refine nw ?_; intro _) | refine Y.kn ?_ | fail
  refine G.ef rfl rfl rfl (Eff.callF rfl ((dnew_spec hv ((hQ _).imp (fun _ hφ => hφ.app JH))).mono ?_))
  rintro u H' (⟨hR2, _⟩ | ⟨hR2, bk, KH, rfl, hK, rfl⟩)
  · exact absurd (hRs.trans hR) hR2
  repeat' first | refine Y.st ?_ | (refine nw ?_; intro _) | refine Y.kn ?_ | fail
  refine G.rd (Rd.loadAggC (cs := dsC a n) rfl (cellsH (fun j u hj => by simpa using hj)) (dsC_len ha n)) rfl rfl ?_
  repeat' first | refine Y.st ?_ | (refine nw ?_; intro _) | refine Y.kn ?_ | fail
  refine G.ef rfl rfl rfl (Eff.callP (first := #[]) (captured := #[]) rfl rfl (List.perm_append_comm_assoc _ _ _) ((ddecide_spec hv hJ v a n ha now (by omega) alpn (hAl _)).mono ?_))
  rintro u H' ⟨rfl, rfl⟩
  have hz1 := dec_siz (p := p) (st := v.st) (host := v.host) (vport := v.port) (alpn := alpn) (addr := a) (port := n) (now := now) hR
  have hz2 := dec_siz (p := ⟨p.allow, starB flag :: p.rules, p.pins⟩) (st := v.st) (host := v.host) (vport := v.port) (alpn := alpn) (addr := a) (port := n) (now := now) hR2
  have hre : refuseL ⟨p.allow, starB flag :: p.rules, p.pins⟩ v.st v.host v.port a n now = refuseL p v.st v.host v.port a n now := rfl
  have key : (1 < (decL p v.st v.host v.port alpn a n now).why ∧ decL ⟨p.allow, starB flag :: p.rules, p.pins⟩ v.st v.host v.port alpn a n now = decL p v.st v.host v.port alpn a n now) ∨ ((decL p v.st v.host v.port alpn a n now).why ≤ 1 ∧ decL ⟨p.allow, starB flag :: p.rules, p.pins⟩ v.st v.host v.port alpn a n now = ⟨flag, 0, 0⟩) := by
    have hcs := refuse_cases (p := p) (st := v.st) (host := v.host) (vport := v.port) (addr := a) (port := n) (now := now)
    by_cases hb : refuseL p v.st v.host v.port a n now = -1
    · right
      rw [dec_pass hb, dec_pass (hre.trans hb)]
      refine ⟨by cases findB p.rules v.host n alpn <;> simp [ruleD], ?_⟩
      rw [find_star (right_fine hR) hall]
      rfl
    · left
      rw [dec_stop hb, dec_stop (fun e => hb (hre.symm.trans e)), hre]
      refine ⟨?_, rfl⟩
      show 1 < refuseL p v.st v.host v.port a n now
      omega
  generalize decL p v.st v.host v.port alpn a n now = d at hz1 key ⊢
  repeat' first | refine Y.st ?_ | (refine nw ?_; intro _) | refine Y.kn ?_ | fail
  refine G.rd (Rd.loadAggC (cs := dsC a n) rfl (cellsH (fun j u hj => by simpa using hj)) (dsC_len ha n)) rfl rfl ?_
  repeat' first | refine Y.st ?_ | (refine nw ?_; intro _) | refine Y.kn ?_ | fail
  refine G.ef rfl rfl rfl (Eff.callP (first := #[]) (captured := #[]) rfl rfl (((List.perm_append_comm_assoc _ _ _).cons _).trans List.perm_middle.symm) ((ddecide_spec hv hK v a n ha now (by omega) alpn (hAl _)).mono ?_))
  rintro u H' ⟨rfl, rfl⟩
  generalize decL ⟨p.allow, starB flag :: p.rules, p.pins⟩ v.st v.host v.port alpn a n now = d2 at hz2 key ⊢
  rcases key with ⟨hw, rfl⟩ | ⟨hw, rfl⟩
  · repeat' first | refine Y.st ?_ | (refine nw ?_; intro _) | refine Y.kn ?_ | fail
    refine G.rd (Rd.eqlDc d2 d2 rfl rfl hz1 hz1) rfl rfl ?_
    rw [decide_eq_true rfl]
    repeat' first | refine Y.st ?_ | (refine nw ?_; intro _) | refine Y.kn ?_ | fail
    exact GQ.done1 rfl rfl rfl
  · repeat' first | refine Y.st ?_ | (refine nw ?_; intro _) | refine Y.kn ?_ | fail
    refine G.rd (Rd.build (cells := dcA ⟨flag, 0, 0⟩) rfl (by rfl)) rfl rfl ?_
    refine G.rd (Rd.eqlDc ⟨flag, 0, 0⟩ ⟨flag, 0, 0⟩ rfl rfl hz2 hz2) rfl rfl ?_
    rw [decide_eq_true rfl]
    repeat' first | refine Y.st ?_ | (refine nw ?_; intro _) | refine Y.kn ?_ | fail
    exact GQ.done1 rfl rfl rfl
theorem DecideDeny_walk (W : World) (vts : List VT) (hv : Vars W) (h : VT.LiesEach Tryz.prog W [49, 56, 58, 3, 4] vts) : T Tryz.prog W 10 (vts.map VT.val).toArray [] (fun v _ => v = .bool true) := by
  obtain ⟨v0, r, rfl, h0, h⟩ := lies_one h
  obtain ⟨v1, r, rfl, h1, h⟩ := lies_one h
  obtain ⟨v2, r, rfl, h2, h⟩ := lies_one h
  obtain ⟨v3, r, rfl, h3, h⟩ := lies_one h
  obtain ⟨v4, r, rfl, h4, h⟩ := lies_one h
  obtain rfl := lies_nil h
  obtain ⟨p, rv, pv, e0, sr, sp, hl, hl2, hr, hp⟩ := lies_policy h0
  obtain ⟨v, alpn, q, c, e1, hal, _, wp, ws, _, hA⟩ := lies_verdict h1
  obtain ⟨a, n, e2, ha, wn⟩ := lies_dest h2
  obtain ⟨now, rfl, _⟩ := Go.Own.Lies.int h3
  obtain ⟨flag, rfl⟩ := Go.Own.Lies.bool h4
  rw [show (([v0, v1, v2, .int .i64 now, .bool flag] : List VT).map VT.val).toArray = #[polV p rv pv, vwV v, dsV a n, .int .i64 now, .bool flag] by simp only [List.map_cons, List.map_nil, e0, e1, e2]; rfl]
  exact DecideDeny_core W hv p rv pv sr sp hl hl2 hr hp v alpn q c hal wp ws hA a n ha wn now flag
end Go.Dec
namespace Go.Proofs.YtajkpdhcefkopaaGreatDoor.LDecideDeny
open Go.Own
theorem own : ownKnob Tryz.prog.godebug = none := by kernel_rfl
theorem reads (os : Os) {H : Type} (enc : TypeId × Value → H) : ∃ x, DataW.whole enc Tryz.prog ((laidWorld os).forCall (fun _ _ => 0) ⟨#[], #[Value.agg #[.bool false, .slice none 0 0, .slice none 0 0], Value.agg #[.int .i64 0, .int .i64 0, .int .i64 0, .int .i64 0, .string ⟨#[]⟩, .int .i64 0, .bool false, .string ⟨#[]⟩, .slice none 0 0, .slice none 0 0, .bool false], Value.agg #[.int .u8 0, .int .u8 0, .int .u8 0, .int .u8 0, .int .u8 0, .int .u8 0, .int .u8 0, .int .u8 0, .int .u8 0, .int .u8 0, .int .u8 0, .int .u8 0, .int .u8 0, .int .u8 0, .int .u8 0, .int .u8 0, .int .i64 0], .int .i64 0, .bool false], []⟩).memory Tryz.f10.params.toList Rows.decideDenySpec.vars false #[Value.agg #[.bool false, .slice none 0 0, .slice none 0 0], Value.agg #[.int .i64 0, .int .i64 0, .int .i64 0, .int .i64 0, .string ⟨#[]⟩, .int .i64 0, .bool false, .string ⟨#[]⟩, .slice none 0 0, .slice none 0 0, .bool false], Value.agg #[.int .u8 0, .int .u8 0, .int .u8 0, .int .u8 0, .int .u8 0, .int .u8 0, .int .u8 0, .int .u8 0, .int .u8 0, .int .u8 0, .int .u8 0, .int .u8 0, .int .u8 0, .int .u8 0, .int .u8 0, .int .u8 0, .int .i64 0], .int .i64 0, .bool false].toList 8 = some x :=
  Option.isSome_iff_exists.1 (by kernel_rfl)
set_option maxRecDepth 100000 in
theorem lifted (os : Os) (started : os.Started) (H : Type) (enc : TypeId × Value → H) (F : Stop.Interp) :
    ReturnsInHanded {} Tryz.checked os 10 .any ((OpenSpec.ofChange Rows.decideDenySpec).preRow enc Tryz.prog Tryz.f10 Rows.decideDenyRow.domain false Rows.decideDenyRow.laid) (((OpenSpec.ofChange Rows.decideDenySpec).at F).post enc Tryz.prog Tryz.f10 false true false false) := by
  obtain ⟨x, hx⟩ := reads os enc
  exact law_laid (C := Tryz.checked) (D := 20) (tb := 4) own started (by kernel_rfl) Tryz.func10 rfl rfl Tryz.underlying4 (by kernel_rfl) (by kernel_rfl) (by kernel_rfl)
    (fun K ds h => by match ds, h with | [_, _, _, _, _], _ => rfl)
    (witness_row_atRef (enc := enc) (C := Tryz.checked) false (laidWorld os) #[Value.agg #[.bool false, .slice none 0 0, .slice none 0 0], Value.agg #[.int .i64 0, .int .i64 0, .int .i64 0, .int .i64 0, .string ⟨#[]⟩, .int .i64 0, .bool false, .string ⟨#[]⟩, .slice none 0 0, .slice none 0 0, .bool false], Value.agg #[.int .u8 0, .int .u8 0, .int .u8 0, .int .u8 0, .int .u8 0, .int .u8 0, .int .u8 0, .int .u8 0, .int .u8 0, .int .u8 0, .int .u8 0, .int .u8 0, .int .u8 0, .int .u8 0, .int .u8 0, .int .u8 0, .int .i64 0], .int .i64 0, .bool false] rfl (laid_shaped1 os _) (laid_shaped2 os _) (by kernel_rfl)
      (OpenSpec.preRow_of_cond 8 hx (by kernel_rfl) (fun k hk => by cases hk) (by kernel_rfl) (laid_met os _)))
    (fun W vts hsh hL h => Go.Dec.DecideDeny_walk _ vts (Go.Nam.vars_of hsh hL) (by rw [Tryz.params10] at h; exact h))
theorem j1 : Tryz.prog.inPlace 10 = Rows.decideDenyRow.inPlace := eq_of_beq (by kernel_rfl)
theorem j2 : Tryz.prog.unfollowed 10 = Rows.decideDenyRow.unfollowed := eq_of_beq (by kernel_rfl)
theorem j3 : Tryz.prog.recurses 10 = Rows.decideDenyRow.recurses := eq_of_beq (by kernel_rfl)
theorem j4 : Tryz.prog.varsNamed 10 = Rows.decideDenyRow.named := eq_of_beq (by kernel_rfl)
theorem joined : joinedFacts Tryz.prog 10 Tryz.f10 (OpenSpec.ofChange Rows.decideDenySpec).bare Rows.decideDenyRow = true := by
  unfold joinedFacts
  rw [j1, j2, j3, j4]
  kernel_rfl
theorem said : Rows.DecideDenySaid :=
  OpenClaim.holds_of_cond 10 Tryz.f10 rfl rfl rfl rfl rfl rfl rfl ⟨rfl, rfl, rfl, rfl, rfl⟩ rfl rfl rfl rfl rfl (by kernel_rfl) Tryz.func10 joined
    (of_decide_eq_true (by kernel_rfl)) (by unfold Func.isWrapper; first | (rw [if_pos (by decide +kernel)]; kernel_rfl) | (rw [if_neg (by decide +kernel)]; exact ⟨rfl, rfl⟩))
    (fun os started H enc _ F => by rw [OpenClaim.pre_eq_preRow]; exact lifted os started H enc F)
theorem plain (f : FuncId) (fn : Func) (hf : Tryz.pinned.checked.prog.funcNamed "hagioscope/hagioscopelaw21.DecideDeny" = some f) (hfn : Tryz.pinned.checked.prog.funcs[f]? = some fn) :
    true = Tryz.pinned.checked.prog.looks [] ∧ ∀ (j : Nat) t, fn.params[j]? = some t → Tryz.pinned.checked.prog.wantsStandIn t = false := by
  obtain rfl : f = 10 := Option.some.inj ((show Tryz.prog.funcNamed "hagioscope/hagioscopelaw21.DecideDeny" = some 10 by kernel_rfl).symm.trans hf) |>.symm
  obtain rfl : fn = Tryz.f10 := (Option.some.inj (Tryz.func10.symm.trans hfn)).symm
  refine ⟨by kernel_rfl, fun j t ht => ?_⟩
  have hall : Tryz.f10.params.toList.all (fun t => !Tryz.prog.wantsStandIn t) = true := by kernel_rfl
  have := List.all_eq_true.1 hall t (Array.mem_toList_iff.2 (Array.mem_of_getElem? ht))
  have h2 : Tryz.prog.wantsStandIn t = false := by simpa using this
  exact h2
end Go.Proofs.YtajkpdhcefkopaaGreatDoor.LDecideDeny
namespace Go.Proofs.YtajkpdhcefkopaaGreatDoor
/-- The law DecideDeny holds: its card. -/
theorem decideDeny_holds : Rows.DecideDenyCardSaid :=
  Claim7.holds_tied_plain_at .later [] _ _ _ _ LDecideDeny.said (fun _ h => by cases h) (by kernel_rfl) (fun _ h => by cases h) decideDeny_row_tie rfl ⟨rfl, rfl⟩ (by kernel_rfl) rfl LDecideDeny.plain (by kernel_rfl)
#print axioms decideDeny_holds
end Go.Proofs.YtajkpdhcefkopaaGreatDoor
