/-
  THE LAW DecidePort: a request that tells the port to which it goes is decided as one that tells none: of any policy, any verdict.
-/
import Derived.Test.YtajkpdhcefkopaaGreatDoorRows
import Derived.Test.YtajkpdhcefkopaaGreatDoorTie
import Derived.Test.YtajkpdhcefkopaaGreatDoorCards
import Derived.Test.YtajkpdhcefkopaaGreatDoorGNm
import Derived.Test.YtajkpdhcefkopaaGreatDoorGDf
import Derived.Test.YtajkpdhcefkopaaGreatDoorGDe
import Derived.SevenTiedPlain
namespace Go.Dec
open Go.Own Go.Proofs Go.RowKit Go.Lib Go.Asc Go.Adr Go.Nam Go.Tri Go.Cid Go.Pol Go.Pin
attribute [local irreducible] GC GQ G Rd Eff T
set_option maxRecDepth 20000
set_option maxHeartbeats 4000000
attribute [local irreducible] Lit.wf addT addAllT checkT liveL okP rightC ofL decL rightP fewD
abbrev atP (v : Vw) (n : Int) : Vw := { v with port := n }

theorem DecidePort_core (W : World) (hv : Vars W) (p : Pol) (rv pv : Value) (sr : ∀ r ∈ p.rules, Go.Tri.Sized r) (sp : ∀ x ∈ p.pins, SizP x) (hl : p.rules.length ≤ 140737488351232) (hl2 : p.pins.length ≤ 140737488351232) (hr : ∀ F, RulesAt W F rv p.rules) (hp : ∀ F, PinsAt W F pv p.pins)
    (v : Vw) (alpn : List Lb) (q : Option Addr) (c : Nat) (hal : v.al = .slice q alpn.length c) (_ : (Lit.int .i64 v.port).wf = true) (_ : (Lit.int .i64 v.st).wf = true) (at_ : ∀ F, alpn.length ≤ 1000000 → AlpnAt W F v.al alpn) (a : List UInt8) (n : Int) (ha : a.length = 16) (_ : (Lit.int .i64 n).wf = true) (now : Int) :
    T Tryz.prog W 12 #[polV p rv pv, vwV v, dsV a n, .int .i64 now] [] (fun v _ => v = .bool true) := by
  obtain ⟨pa, ca, rfl, hca, hat⟩ := hr []
  obtain ⟨pb, cb, rfl, hcb, hbt⟩ := hp []
  refine T.intro (args := [_, _, _, _]) Tryz.func12 rfl Tryz.ntmps12 rfl ?_
  repeat' first | refine Y.st ?_ | (refine nw ?_; intro _) | refine Y.kn ?_ | fail
  rename_i b4 b5 b6
  refine G.ef rfl rfl rfl (Eff.callF rfl ((dsmall_spec hv).mono ?_))
  rintro u H' ⟨rfl, rfl⟩
  repeat' first | refine Y.st ?_ | (refine nw ?_; intro _) | refine Y.kn ?_ | fail
  refine G.ef rfl rfl rfl (Eff.callF rfl ((dfew_spec (hr _) (hp _) sp hl hl2 v hal).mono ?_))
  rintro u H' ⟨rfl, rfl⟩
  cases hf : fewD p v alpn.length with
  | false =>
    repeat' first | refine Y.st ?_ | (refine nw ?_; intro _) | refine Y.kn ?_ | fail
    exact GQ.done1 rfl rfl rfl
  | true =>
  obtain ⟨hf1, hh, hna⟩ := few_iff hf
  obtain ⟨hPol, hrl, hpl⟩ := few_polAt (W0 := W) hf1 sr sp hr hp
  have hAl : ∀ F, AlpnAt W F v.al alpn := fun F => at_ F (by omega)
  repeat' first | refine Y.st ?_ | (refine nw ?_; intro _) | refine Y.kn ?_ | fail
  refine G.ef rfl rfl rfl (Eff.callF rfl ((dnew_spec hv (hPol _)).mono ?_))
  rintro u H' (⟨hR, rfl, rfl⟩ | ⟨hR, bj, JH, rfl, hJ, rfl⟩)
  · repeat' first | refine Y.st ?_ | (refine nw ?_; intro _) | refine Y.kn ?_ | fail
    exact GQ.done1 rfl rfl rfl
  repeat' first | refine Y.st ?_ | (refine nw ?_; intro _) | refine Y.kn ?_ | fail
  refine G.rd (Rd.loadAggC (cs := dsC a n) rfl (cellsH (fun j u hj => by simpa using hj)) (dsC_len ha n)) rfl rfl ?_
  repeat' first | refine Y.st ?_ | (refine nw ?_; intro _) | refine Y.kn ?_ | fail
  refine G.ef rfl rfl rfl (Eff.callF rfl ((ddecide_spec hv hJ { v with port := 0 } a n ha now (by show v.host.length < _; omega) alpn (hAl _)).mono ?_))
  rintro u H' ⟨rfl, rfl⟩
  have hw : ∀ k : Int, k = 0 ∨ k = n → decL p v.st v.host k alpn a n now = decL p v.st v.host 0 alpn a n now := fun k hk => dec_port hk
  have hsz := dec_siz (p := p) (st := v.st) (host := v.host) (vport := 0) (alpn := alpn) (addr := a) (port := n) (now := now) hR
  have hy3 := dec_why3 (p := p) (st := v.st) (host := v.host) (alpn := alpn) (addr := a) (port := n) (now := now)
  have hwn := hw n (.inr rfl)
  dsimp only
  generalize decL p v.st v.host 0 alpn a n now = d at hwn hsz hy3 ⊢
  repeat' first | refine Y.st ?_ | (refine nw ?_; intro _) | refine Y.kn ?_ | fail
  rename_i b13
  refine G.rd (Rd.dsPort rfl rfl ha) rfl rfl ?_
  repeat' first | refine Y.st ?_ | (refine nw ?_; intro _) | refine Y.kn ?_ | fail
  refine GC.heap (H' := (b13, .cells (dcA d) 71 (0, 0)) :: (JH ++ [(b6, .cells (dsC a n).toArray 58 (0, 0)), (b5, .cells (vwA (atP v n)) 56 (0, 0)), (b4, .cells #[.bool p.allow, .slice pa p.rules.length ca, .slice pb p.pins.length cb] 49 (0, 0))])) ?_ (fun _ h => h)
  refine GC.drawn [(0, .read), (1, .read), (2, .read), (3, .read), (4, .read), (5, .read), (7, .read), (6, .eff), (8, .read), (9, .read), (10, .read), (11, .read), (12, .read), (13, .read), (14, .read), (15, .read)] ([(b13, .cells (dcA d) 71 (0, 0)), (b6, .cells (dsC a n).toArray 58 (0, 0)), (b5, .cells (vwA (atP v n)) 56 (0, 0))]) (by kernel_rfl) (by kernel_rfl) rfl ?_
  iterate 4 refine Y.one ?_
  refine G.rd (Rd.loadAggC (cs := dsC a n) rfl (cellsH (fun j u hj => by simpa using hj)) (dsC_len ha n)) rfl rfl ?_
  iterate 2 refine Y.one ?_
  refine G.ee rfl rfl rfl (Eff.callP (first := #[]) (captured := #[]) rfl rfl List.perm_middle.symm ((ddecide_spec hv hJ (atP v n) a n ha now (by show v.host.length < _; omega) alpn (hAl _)).mono ?_))
  rintro u H' ⟨rfl, rfl⟩
  haveI s1 : SubH [(b13, .cells (dcA d) 71 (0, 0)), (b6, .cells (dsC a n).toArray 58 (0, 0)), (b5, .cells (vwA (atP v n)) 56 (0, 0))] (JH ++ ((b13, .cells (dcA d) 71 (0, 0)) :: [(b6, .cells (dsC a n).toArray 58 (0, 0)), (b5, .cells (vwA (atP v n)) 56 (0, 0)), (b4, .cells #[.bool p.allow, .slice pa p.rules.length ca, .slice pb p.pins.length cb] 49 (0, 0))])) := SubH.app (h := SubH.cons2 (h := SubH.cons2 (h := SubH.cons2 (h := SubH.nil))))
  refine ⟨s1, ?_⟩
  rw [show decL p (atP v n).st (atP v n).host (atP v n).port alpn a n now = d from hwn]
  refine G.rd (Rd.eqlDc d d rfl rfl hsz hsz) rfl rfl ?_
  rw [decide_eq_true rfl]
  repeat' first | refine Y.st ?_ | (refine nw ?_; intro _) | refine Y.kn ?_ | fail
  exact GQ.done1 rfl rfl rfl
theorem DecidePort_walk (W : World) (vts : List VT) (hv : Vars W) (h : VT.LiesEach Tryz.prog W [49, 56, 58, 3] vts) : T Tryz.prog W 12 (vts.map VT.val).toArray [] (fun v _ => v = .bool true) := by
  obtain ⟨v0, r, rfl, h0, h⟩ := lies_one h
  obtain ⟨v1, r, rfl, h1, h⟩ := lies_one h
  obtain ⟨v2, r, rfl, h2, h⟩ := lies_one h
  obtain ⟨v3, r, rfl, h3, h⟩ := lies_one h
  obtain rfl := lies_nil h
  obtain ⟨p, rv, pv, e0, sr, sp, hl, hl2, hr, hp⟩ := lies_policy h0
  obtain ⟨v, alpn, q, c, e1, hal, _, wp, ws, _, hA⟩ := lies_verdict h1
  obtain ⟨a, n, e2, ha, wn⟩ := lies_dest h2
  obtain ⟨now, rfl, _⟩ := Go.Own.Lies.int h3
  rw [show (([v0, v1, v2, .int .i64 now] : List VT).map VT.val).toArray = #[polV p rv pv, vwV v, dsV a n, .int .i64 now] by simp only [List.map_cons, List.map_nil, e0, e1, e2]; rfl]
  exact DecidePort_core W hv p rv pv sr sp hl hl2 hr hp v alpn q c hal wp ws hA a n ha wn now
end Go.Dec
namespace Go.Proofs.YtajkpdhcefkopaaGreatDoor.LDecidePort
open Go.Own
theorem own : ownKnob Tryz.prog.godebug = none := by kernel_rfl
theorem reads (os : Os) {H : Type} (enc : TypeId × Value → H) : ∃ x, DataW.whole enc Tryz.prog ((laidWorld os).forCall (fun _ _ => 0) ⟨#[], #[Value.agg #[.bool false, .slice none 0 0, .slice none 0 0], Value.agg #[.int .i64 0, .int .i64 0, .int .i64 0, .int .i64 0, .string ⟨#[]⟩, .int .i64 0, .bool false, .string ⟨#[]⟩, .slice none 0 0, .slice none 0 0, .bool false], Value.agg #[.int .u8 0, .int .u8 0, .int .u8 0, .int .u8 0, .int .u8 0, .int .u8 0, .int .u8 0, .int .u8 0, .int .u8 0, .int .u8 0, .int .u8 0, .int .u8 0, .int .u8 0, .int .u8 0, .int .u8 0, .int .u8 0, .int .i64 0], .int .i64 0], []⟩).memory Tryz.f12.params.toList Rows.decidePortSpec.vars false #[Value.agg #[.bool false, .slice none 0 0, .slice none 0 0], Value.agg #[.int .i64 0, .int .i64 0, .int .i64 0, .int .i64 0, .string ⟨#[]⟩, .int .i64 0, .bool false, .string ⟨#[]⟩, .slice none 0 0, .slice none 0 0, .bool false], Value.agg #[.int .u8 0, .int .u8 0, .int .u8 0, .int .u8 0, .int .u8 0, .int .u8 0, .int .u8 0, .int .u8 0, .int .u8 0, .int .u8 0, .int .u8 0, .int .u8 0, .int .u8 0, .int .u8 0, .int .u8 0, .int .u8 0, .int .i64 0], .int .i64 0].toList 8 = some x :=
  Option.isSome_iff_exists.1 (by kernel_rfl)
set_option maxRecDepth 100000 in
theorem lifted (os : Os) (started : os.Started) (H : Type) (enc : TypeId × Value → H) (F : Stop.Interp) :
    ReturnsInHanded {} Tryz.checked os 12 .any ((OpenSpec.ofChange Rows.decidePortSpec).preRow enc Tryz.prog Tryz.f12 Rows.decidePortRow.domain false Rows.decidePortRow.laid) (((OpenSpec.ofChange Rows.decidePortSpec).at F).post enc Tryz.prog Tryz.f12 false true false false) := by
  obtain ⟨x, hx⟩ := reads os enc
  exact law_laid (C := Tryz.checked) (D := 20) (tb := 4) own started (by kernel_rfl) Tryz.func12 rfl rfl Tryz.underlying4 (by kernel_rfl) (by kernel_rfl) (by kernel_rfl)
    (fun K ds h => by match ds, h with | [_, _, _, _], _ => rfl)
    (witness_row_atRef (enc := enc) (C := Tryz.checked) false (laidWorld os) #[Value.agg #[.bool false, .slice none 0 0, .slice none 0 0], Value.agg #[.int .i64 0, .int .i64 0, .int .i64 0, .int .i64 0, .string ⟨#[]⟩, .int .i64 0, .bool false, .string ⟨#[]⟩, .slice none 0 0, .slice none 0 0, .bool false], Value.agg #[.int .u8 0, .int .u8 0, .int .u8 0, .int .u8 0, .int .u8 0, .int .u8 0, .int .u8 0, .int .u8 0, .int .u8 0, .int .u8 0, .int .u8 0, .int .u8 0, .int .u8 0, .int .u8 0, .int .u8 0, .int .u8 0, .int .i64 0], .int .i64 0] rfl (laid_shaped1 os _) (laid_shaped2 os _) (by kernel_rfl)
      (OpenSpec.preRow_of_cond 8 hx (by kernel_rfl) (fun k hk => by cases hk) (by kernel_rfl) (laid_met os _)))
    (fun W vts hsh hL h => Go.Dec.DecidePort_walk _ vts (Go.Nam.vars_of hsh hL) (by rw [Tryz.params12] at h; exact h))
theorem j1 : Tryz.prog.inPlace 12 = Rows.decidePortRow.inPlace := eq_of_beq (by kernel_rfl)
theorem j2 : Tryz.prog.unfollowed 12 = Rows.decidePortRow.unfollowed := eq_of_beq (by kernel_rfl)
theorem j3 : Tryz.prog.recurses 12 = Rows.decidePortRow.recurses := eq_of_beq (by kernel_rfl)
theorem j4 : Tryz.prog.varsNamed 12 = Rows.decidePortRow.named := eq_of_beq (by kernel_rfl)
theorem joined : joinedFacts Tryz.prog 12 Tryz.f12 (OpenSpec.ofChange Rows.decidePortSpec).bare Rows.decidePortRow = true := by
  unfold joinedFacts
  rw [j1, j2, j3, j4]
  kernel_rfl
theorem said : Rows.DecidePortSaid :=
  OpenClaim.holds_of_cond 12 Tryz.f12 rfl rfl rfl rfl rfl rfl rfl ⟨rfl, rfl, rfl, rfl, rfl⟩ rfl rfl rfl rfl rfl (by kernel_rfl) Tryz.func12 joined
    (of_decide_eq_true (by kernel_rfl)) (by unfold Func.isWrapper; first | (rw [if_pos (by decide +kernel)]; kernel_rfl) | (rw [if_neg (by decide +kernel)]; exact ⟨rfl, rfl⟩))
    (fun os started H enc _ F => by rw [OpenClaim.pre_eq_preRow]; exact lifted os started H enc F)
theorem plain (f : FuncId) (fn : Func) (hf : Tryz.pinned.checked.prog.funcNamed "hagioscope/hagioscopelaw21.DecidePort" = some f) (hfn : Tryz.pinned.checked.prog.funcs[f]? = some fn) :
    true = Tryz.pinned.checked.prog.looks [] ∧ ∀ (j : Nat) t, fn.params[j]? = some t → Tryz.pinned.checked.prog.wantsStandIn t = false := by
  obtain rfl : f = 12 := Option.some.inj ((show Tryz.prog.funcNamed "hagioscope/hagioscopelaw21.DecidePort" = some 12 by kernel_rfl).symm.trans hf) |>.symm
  obtain rfl : fn = Tryz.f12 := (Option.some.inj (Tryz.func12.symm.trans hfn)).symm
  refine ⟨by kernel_rfl, fun j t ht => ?_⟩
  have hall : Tryz.f12.params.toList.all (fun t => !Tryz.prog.wantsStandIn t) = true := by kernel_rfl
  have := List.all_eq_true.1 hall t (Array.mem_toList_iff.2 (Array.mem_of_getElem? ht))
  have h2 : Tryz.prog.wantsStandIn t = false := by simpa using this
  exact h2
end Go.Proofs.YtajkpdhcefkopaaGreatDoor.LDecidePort
namespace Go.Proofs.YtajkpdhcefkopaaGreatDoor
/-- The law DecidePort holds: its card. -/
theorem decidePort_holds : Rows.DecidePortCardSaid :=
  Claim7.holds_tied_plain_at .later [] _ _ _ _ LDecidePort.said (fun _ h => by cases h) (by kernel_rfl) (fun _ h => by cases h) decidePort_row_tie rfl ⟨rfl, rfl⟩ (by kernel_rfl) rfl LDecidePort.plain (by kernel_rfl)
#print axioms decidePort_holds
end Go.Proofs.YtajkpdhcefkopaaGreatDoor
