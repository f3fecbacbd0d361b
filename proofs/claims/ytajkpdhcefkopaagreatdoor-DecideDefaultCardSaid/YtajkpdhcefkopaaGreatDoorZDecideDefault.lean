/-
  THE LAW DecideDefault: what counts elsewhere counts just where no rule does: of any policy, any verdict.
-/
import Derived.Test.YtajkpdhcefkopaaGreatDoorRows
import Derived.Test.YtajkpdhcefkopaaGreatDoorTie
import Derived.Test.YtajkpdhcefkopaaGreatDoorCards
import Derived.Test.YtajkpdhcefkopaaGreatDoorGNm
import Derived.Test.YtajkpdhcefkopaaGreatDoorGDf
import Derived.Test.YtajkpdhcefkopaaGreatDoorGDe
import Derived.SevenTiedPlain
namespace Go.Dec
open Go.Own Go.Proofs Go.RowKit Go.Lib Go.Asc Go.Adr Go.Nam Go.Tri Go.Cid Go.Pol Go.Pin
attribute [local irreducible] GC GQ G Rd Eff T
set_option maxRecDepth 20000
set_option maxHeartbeats 4000000
attribute [local irreducible] Lit.wf addT addAllT checkT liveL okP rightC ofL decL rightP fewD

theorem DecideDefault_core (W : World) (hv : Vars W) (p : Pol) (rv pv : Value) (sr : ∀ r ∈ p.rules, Go.Tri.Sized r) (sp : ∀ x ∈ p.pins, SizP x) (hl : p.rules.length ≤ 140737488351232) (hl2 : p.pins.length ≤ 140737488351232) (hr : ∀ F, RulesAt W F rv p.rules) (hp : ∀ F, PinsAt W F pv p.pins)
    (v : Vw) (alpn : List Lb) (q : Option Addr) (c : Nat) (hal : v.al = .slice q alpn.length c) (_ : (Lit.int .i64 v.port).wf = true) (_ : (Lit.int .i64 v.st).wf = true) (at_ : ∀ F, alpn.length ≤ 1000000 → AlpnAt W F v.al alpn) (a : List UInt8) (n : Int) (ha : a.length = 16) (_ : (Lit.int .i64 n).wf = true) (now : Int) :
    T Tryz.prog W 11 #[polV p rv pv, vwV v, dsV a n, .int .i64 now] [] (fun v _ => v = .bool true) := by
  obtain ⟨pa, ca, rfl, hca, hat⟩ := hr []
  obtain ⟨pb, cb, rfl, hcb, hbt⟩ := hp []
  refine T.intro (args := [_, _, _, _]) Tryz.func11 rfl Tryz.ntmps11 rfl ?_
  repeat' first | refine Y.st ?_ | (refine nw ?_; intro _) | refine Y.kn ?_ | fail
  rename_i b4 b5 b6
  refine G.ef rfl rfl rfl (Eff.callF rfl ((dsmall_spec hv).mono ?_))
  rintro u H' ⟨rfl, rfl⟩
  repeat' first | refine Y.st ?_ | (refine nw ?_; intro _) | refine Y.kn ?_ | fail
  refine G.ef rfl rfl rfl (Eff.callF rfl ((dfew_spec (hr _) (hp _) sp hl hl2 v hal).mono ?_))
  rintro u H' ⟨rfl, rfl⟩
  cases hf : fewD p v alpn.length with
  | false =>
    repeat' first | refine Y.st ?_ | (refine nw ?_; intro _) | refine Y.kn ?_ | fail
    exact GQ.done1 rfl rfl rfl
  | true =>
  obtain ⟨hf1, hh, hna⟩ := few_iff hf
  obtain ⟨hPol, hrl, hpl⟩ := few_polAt (W0 := W) hf1 sr sp hr hp
  have hAl : ∀ F, AlpnAt W F v.al alpn := fun F => at_ F (by omega)
  have hQ : ∀ F, PolAt W F (flipP p) (.slice pa p.rules.length ca) (.slice pb p.pins.length cb) := fun F => ⟨(hPol F).rules, (hPol F).pins, (hPol F).sr, (hPol F).sp, (hPol F).sn, (hPol F).rl, (hPol F).pl⟩
  repeat' first | refine Y.st ?_ | (refine nw ?_; intro _) | refine Y.kn ?_ | fail
  refine G.ef rfl rfl rfl (Eff.callF rfl ((dnew_spec hv (hPol _)).mono ?_))
  rintro u H' (⟨hR, rfl, rfl⟩ | ⟨hR, bj, JH, rfl, hJ, rfl⟩)
  · repeat' first | refine Y.st ?_ | (refine nw ?_; intro _) | refine Y.kn ?_ | fail
    refine G.ef rfl rfl rfl (Eff.callF rfl ((dnew_spec hv (hQ _)).mono ?_))
    rintro u H' (⟨hR2, rfl, rfl⟩ | ⟨hR2, _⟩)
    case inr => exact absurd ((right_flip p).symm.trans hR2) hR
    repeat' first | refine Y.st ?_ | (refine nw ?_; intro _) | refine Y.kn ?_ | fail
    exact GQ.done1 rfl rfl rfl
  repeat' first | refine Y.st ?_ | (refine nw ?_; intro _) | refine Y.kn ?_ | fail
  refine G.ef rfl rfl rfl (Eff.callF rfl ((dnew_spec hv (hQ _)).mono ?_))
  rintro u H' (⟨hR2, _⟩ | ⟨hR2, bk, KH, rfl, hK, rfl⟩)
  · exact absurd ((right_flip p).trans hR) hR2
  repeat' first | refine Y.st ?_ | (refine nw ?_; intro _) | refine Y.kn ?_ | fail
  refine G.rd (Rd.loadAggC (cs := dsC a n) rfl (cellsH (fun j u hj => by simpa using hj)) (dsC_len ha n)) rfl rfl ?_
  repeat' first | refine Y.st ?_ | (refine nw ?_; intro _) | refine Y.kn ?_ | fail
  refine G.ef rfl rfl rfl (Eff.callP (first := #[]) (captured := #[]) rfl rfl (List.perm_append_comm_assoc _ _ _) ((ddecide_spec hv hJ v a n ha now (by omega) alpn (hAl _)).mono ?_))
  rintro u H' ⟨rfl, rfl⟩
  have hfl := dec_flip p v.st v.host v.port alpn a n now
  generalize decL p v.st v.host v.port alpn a n now = d at hfl ⊢
  repeat' first | refine Y.st ?_ | (refine nw ?_; intro _) | refine Y.kn ?_ | fail
  refine G.rd (Rd.loadAggC (cs := dsC a n) rfl (cellsH (fun j u hj => by simpa using hj)) (dsC_len ha n)) rfl rfl ?_
  repeat' first | refine Y.st ?_ | (refine nw ?_; intro _) | refine Y.kn ?_ | fail
  refine G.ef rfl rfl rfl (Eff.callP (first := #[]) (captured := #[]) rfl rfl (((List.perm_append_comm_assoc _ _ _).cons _).trans List.perm_middle.symm) ((ddecide_spec hv hK v a n ha now (by omega) alpn (hAl _)).mono ?_))
  rintro u H' ⟨rfl, rfl⟩
  generalize decL (flipP p) v.st v.host v.port alpn a n now = d2 at hfl ⊢
  obtain ⟨x1, x2, x3⟩ := d
  obtain ⟨y1, y2, y3⟩ := d2
  simp only at hfl
  dsimp only [dcV, dcA]
  obtain ⟨rfl, rfl, hfl⟩ := hfl
  rcases hfl with ⟨rfl, rfl⟩ | ⟨hne, rfl⟩
  · repeat' first | refine Y.st ?_ | (refine nw ?_; intro _) | refine Y.kn ?_ | fail
    refine G.rd (Rd.neqB rfl rfl) rfl rfl ?_
    repeat' first | refine Y.st ?_ | (refine nw ?_; intro _) | refine Y.kn ?_ | fail
    refine G.rd (Rd.eqlB rfl rfl) rfl rfl ?_
    rw [show ((!(x1 == !x1)) == true) = true by cases x1 <;> rfl]
    repeat' first | refine Y.st ?_ | (refine nw ?_; intro _) | refine Y.kn ?_ | fail
    exact GQ.done1 rfl rfl rfl
  · repeat' first | refine Y.st ?_ | (refine nw ?_; intro _) | refine Y.kn ?_ | fail
    refine G.rd (Rd.neqB rfl rfl) rfl rfl ?_
    repeat' first | refine Y.st ?_ | (refine nw ?_; intro _) | refine Y.kn ?_ | fail
    refine G.rd (Rd.eqlB rfl rfl) rfl rfl ?_
    rw [show ((!(y1 == y1)) == false) = true by cases y1 <;> rfl]
    repeat' first | refine Y.st ?_ | (refine nw ?_; intro _) | refine Y.kn ?_ | fail
    exact GQ.done1 rfl rfl rfl
theorem DecideDefault_walk (W : World) (vts : List VT) (hv : Vars W) (h : VT.LiesEach Tryz.prog W [49, 56, 58, 3] vts) : T Tryz.prog W 11 (vts.map VT.val).toArray [] (fun v _ => v = .bool true) := by
  obtain ⟨v0, r, rfl, h0, h⟩ := lies_one h
  obtain ⟨v1, r, rfl, h1, h⟩ := lies_one h
  obtain ⟨v2, r, rfl, h2, h⟩ := lies_one h
  obtain ⟨v3, r, rfl, h3, h⟩ := lies_one h
  obtain rfl := lies_nil h
  obtain ⟨p, rv, pv, e0, sr, sp, hl, hl2, hr, hp⟩ := lies_policy h0
  obtain ⟨v, alpn, q, c, e1, hal, _, wp, ws, _, hA⟩ := lies_verdict h1
  obtain ⟨a, n, e2, ha, wn⟩ := lies_dest h2
  obtain ⟨now, rfl, _⟩ := Go.Own.Lies.int h3
  rw [show (([v0, v1, v2, .int .i64 now] : List VT).map VT.val).toArray = #[polV p rv pv, vwV v, dsV a n, .int .i64 now] by simp only [List.map_cons, List.map_nil, e0, e1, e2]; rfl]
  exact DecideDefault_core W hv p rv pv sr sp hl hl2 hr hp v alpn q c hal wp ws hA a n ha wn now
end Go.Dec
namespace Go.Proofs.YtajkpdhcefkopaaGreatDoor.LDecideDefault
open Go.Own
theorem own : ownKnob Tryz.prog.godebug = none := by kernel_rfl
theorem reads (os : Os) {H : Type} (enc : TypeId × Value → H) : ∃ x, DataW.whole enc Tryz.prog ((laidWorld os).forCall (fun _ _ => 0) ⟨#[], #[Value.agg #[.bool false, .slice none 0 0, .slice none 0 0], Value.agg #[.int .i64 0, .int .i64 0, .int .i64 0, .int .i64 0, .string ⟨#[]⟩, .int .i64 0, .bool false, .string ⟨#[]⟩, .slice none 0 0, .slice none 0 0, .bool false], Value.agg #[.int .u8 0, .int .u8 0, .int .u8 0, .int .u8 0, .int .u8 0, .int .u8 0, .int .u8 0, .int .u8 0, .int .u8 0, .int .u8 0, .int .u8 0, .int .u8 0, .int .u8 0, .int .u8 0, .int .u8 0, .int .u8 0, .int .i64 0], .int .i64 0], []⟩).memory Tryz.f11.params.toList Rows.decideDefaultSpec.vars false #[Value.agg #[.bool false, .slice none 0 0, .slice none 0 0], Value.agg #[.int .i64 0, .int .i64 0, .int .i64 0, .int .i64 0, .string ⟨#[]⟩, .int .i64 0, .bool false, .string ⟨#[]⟩, .slice none 0 0, .slice none 0 0, .bool false], Value.agg #[.int .u8 0, .int .u8 0, .int .u8 0, .int .u8 0, .int .u8 0, .int .u8 0, .int .u8 0, .int .u8 0, .int .u8 0, .int .u8 0, .int .u8 0, .int .u8 0, .int .u8 0, .int .u8 0, .int .u8 0, .int .u8 0, .int .i64 0], .int .i64 0].toList 8 = some x :=
  Option.isSome_iff_exists.1 (by kernel_rfl)
set_option maxRecDepth 100000 in
theorem lifted (os : Os) (started : os.Started) (H : Type) (enc : TypeId × Value → H) (F : Stop.Interp) :
    ReturnsInHanded {} Tryz.checked os 11 .any ((OpenSpec.ofChange Rows.decideDefaultSpec).preRow enc Tryz.prog Tryz.f11 Rows.decideDefaultRow.domain false Rows.decideDefaultRow.laid) (((OpenSpec.ofChange Rows.decideDefaultSpec).at F).post enc Tryz.prog Tryz.f11 false true false false) := by
  obtain ⟨x, hx⟩ := reads os enc
  exact law_laid (C := Tryz.checked) (D := 20) (tb := 4) own started (by kernel_rfl) Tryz.func11 rfl rfl Tryz.underlying4 (by kernel_rfl) (by kernel_rfl) (by kernel_rfl)
    (fun K ds h => by match ds, h with | [_, _, _, _], _ => rfl)
    (witness_row_atRef (enc := enc) (C := Tryz.checked) false (laidWorld os) #[Value.agg #[.bool false, .slice none 0 0, .slice none 0 0], Value.agg #[.int .i64 0, .int .i64 0, .int .i64 0, .int .i64 0, .string ⟨#[]⟩, .int .i64 0, .bool false, .string ⟨#[]⟩, .slice none 0 0, .slice none 0 0, .bool false], Value.agg #[.int .u8 0, .int .u8 0, .int .u8 0, .int .u8 0, .int .u8 0, .int .u8 0, .int .u8 0, .int .u8 0, .int .u8 0, .int .u8 0, .int .u8 0, .int .u8 0, .int .u8 0, .int .u8 0, .int .u8 0, .int .u8 0, .int .i64 0], .int .i64 0] rfl (laid_shaped1 os _) (laid_shaped2 os _) (by kernel_rfl)
      (OpenSpec.preRow_of_cond 8 hx (by kernel_rfl) (fun k hk => by cases hk) (by kernel_rfl) (laid_met os _)))
    (fun W vts hsh hL h => Go.Dec.DecideDefault_walk _ vts (Go.Nam.vars_of hsh hL) (by rw [Tryz.params11] at h; exact h))
theorem j1 : Tryz.prog.inPlace 11 = Rows.decideDefaultRow.inPlace := eq_of_beq (by kernel_rfl)
theorem j2 : Tryz.prog.unfollowed 11 = Rows.decideDefaultRow.unfollowed := eq_of_beq (by kernel_rfl)
theorem j3 : Tryz.prog.recurses 11 = Rows.decideDefaultRow.recurses := eq_of_beq (by kernel_rfl)
theorem j4 : Tryz.prog.varsNamed 11 = Rows.decideDefaultRow.named := eq_of_beq (by kernel_rfl)
theorem joined : joinedFacts Tryz.prog 11 Tryz.f11 (OpenSpec.ofChange Rows.decideDefaultSpec).bare Rows.decideDefaultRow = true := by
  unfold joinedFacts
  rw [j1, j2, j3, j4]
  kernel_rfl
theorem said : Rows.DecideDefaultSaid :=
  OpenClaim.holds_of_cond 11 Tryz.f11 rfl rfl rfl rfl rfl rfl rfl ⟨rfl, rfl, rfl, rfl, rfl⟩ rfl rfl rfl rfl rfl (by kernel_rfl) Tryz.func11 joined
    (of_decide_eq_true (by kernel_rfl)) (by unfold Func.isWrapper; first | (rw [if_pos (by decide +kernel)]; kernel_rfl) | (rw [if_neg (by decide +kernel)]; exact ⟨rfl, rfl⟩))
    (fun os started H enc _ F => by rw [OpenClaim.pre_eq_preRow]; exact lifted os started H enc F)
theorem plain (f : FuncId) (fn : Func) (hf : Tryz.pinned.checked.prog.funcNamed "hagioscope/hagioscopelaw21.DecideDefault" = some f) (hfn : Tryz.pinned.checked.prog.funcs[f]? = some fn) :
    true = Tryz.pinned.checked.prog.looks [] ∧ ∀ (j : Nat) t, fn.params[j]? = some t → Tryz.pinned.checked.prog.wantsStandIn t = false := by
  obtain rfl : f = 11 := Option.some.inj ((show Tryz.prog.funcNamed "hagioscope/hagioscopelaw21.DecideDefault" = some 11 by kernel_rfl).symm.trans hf) |>.symm
  obtain rfl : fn = Tryz.f11 := (Option.some.inj (Tryz.func11.symm.trans hfn)).symm
  refine ⟨by kernel_rfl, fun j t ht => ?_⟩
  have hall : Tryz.f11.params.toList.all (fun t => !Tryz.prog.wantsStandIn t) = true := by kernel_rfl
  have := List.all_eq_true.1 hall t (Array.mem_toList_iff.2 (Array.mem_of_getElem? ht))
  have h2 : Tryz.prog.wantsStandIn t = false := by simpa using this
  exact h2
end Go.Proofs.YtajkpdhcefkopaaGreatDoor.LDecideDefault
namespace Go.Proofs.YtajkpdhcefkopaaGreatDoor
/-- The law DecideDefault holds: its card. -/
theorem decideDefault_holds : Rows.DecideDefaultCardSaid :=
  Claim7.holds_tied_plain_at .later [] _ _ _ _ LDecideDefault.said (fun _ h => by cases h) (by kernel_rfl) (fun _ h => by cases h) decideDefault_row_tie rfl ⟨rfl, rfl⟩ (by kernel_rfl) rfl LDecideDefault.plain (by kernel_rfl)
#print axioms decideDefault_holds
end Go.Proofs.YtajkpdhcefkopaaGreatDoor
