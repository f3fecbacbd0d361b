/-
  THE LAW PinsApart: pins of one name say nothing of another.
-/
import Derived.Test.YtajkpdhcefkopaaGreatDoorRows
import Derived.Test.YtajkpdhcefkopaaGreatDoorTie
import Derived.Test.YtajkpdhcefkopaaGreatDoorCards
import Derived.Test.YtajkpdhcefkopaaGreatDoorNam5
import Derived.Test.YtajkpdhcefkopaaGreatDoorGPn
import Derived.Test.YtajkpdhcefkopaaGreatDoorGBk
import Derived.Test.YtajkpdhcefkopaaGreatDoorWit
import Derived.SevenTiedPlain
namespace Go.Pin
open Go.Own Go.Proofs Go.RowKit Go.Lib Go.Asc Go.Adr Go.Nam Go.Tri Go.Cid Go.Pol
attribute [local irreducible] GC GQ G Rd Eff T
set_option maxRecDepth 20000
set_option maxHeartbeats 4000000
attribute [local irreducible] Lit.wf addT addAllT checkT liveL okP rightC ofL
theorem PinsApart_core (W : World) (hv : Vars W) (v : Value) (l : List Pn) (x : Pn) (host : Lb) (a : List UInt8) (now : Int) (hp : ∀ F, PinsAt W F v l) (sp : ∀ y ∈ l, SizP y) (sn : ∀ y ∈ l, y.name.length ≤ 2000000) (hl : l.length ≤ 2000000) (sx : SizP x) (nx : x.name.length ≤ 2000000) (nh : host.length ≤ 2000000) (ha : a.length = 16) :
    T Tryz.prog W 7 #[v, pnV x, S host, .agg (u8s a).toArray, .int .i64 now] [] (fun v _ => v = .bool true) := by
  have hlx := pnC_len sx.1.1
  refine T.intro (args := [_, _, _, _, _]) Tryz.func7 rfl Tryz.ntmps7 rfl ?_
  repeat' first | refine Y.st ?_ | (refine nw ?_; intro _) | refine Y.kn ?_ | fail
  rename_i b6 b8
  have hpn := hp ((b8, .cells (u8s a).toArray 24 (0, 0)) :: (b6, .cells (pnC x).toArray 35 (0, 0)) :: [])
  refine G.ef rfl rfl rfl (Eff.callF rfl ((psmall_spec hv).mono ?_))
  rintro u H' ⟨rfl, rfl⟩
  repeat' first | refine Y.st ?_ | (refine nw ?_; intro _) | refine Y.kn ?_ | fail
  refine G.ef rfl rfl rfl (Eff.callF rfl ((pfew_spec hpn sp hl).mono ?_))
  rintro u H' ⟨rfl, rfl⟩
  repeat' first | refine Y.st ?_ | (refine nw ?_; intro _) | refine Y.kn ?_ | fail
  refine G.ef rfl rfl rfl (Eff.callF rfl ((pnew_spec hv hpn sp sn hl).mono ?_))
  rintro u H' ⟨bt, TH, rfl, hT, rfl⟩
  have hkn := nodup_all l
  have hkr := right_keys (l := l)
  have hkz := siz_keys sp
  have hle := all_le l
  cases hf : fewP l with
  | false =>
    repeat' first | refine Y.st ?_ | (refine nw ?_; intro _) | refine Y.kn ?_ | fail
    exact GQ.done1 rfl rfl rfl
  | true =>
    obtain ⟨hf1, hf2⟩ := fewP_iff.1 hf
    by_cases hh : host.length ≤ 300
    case neg =>
      repeat' first | refine Y.st ?_ | (refine nw ?_; intro _) | refine Y.kn ?_ | fail
      exact GQ.done1 rfl rfl rfl
    by_cases hx : x.name.length ≤ 300
    case neg =>
      repeat' first | refine Y.st ?_ | (refine nw ?_; intro _) | refine Y.kn ?_ | fail
      exact GQ.done1 rfl rfl rfl
    by_cases he : x.name = host
    case pos =>
      repeat' first | refine Y.st ?_ | (refine nw ?_; intro _) | refine Y.kn ?_ | fail
      exact GQ.done1 rfl rfl rfl
    repeat' first | refine Y.st ?_ | (refine nw ?_; intro _) | refine Y.kn ?_ | fail
    refine G.ef rfl rfl rfl (Eff.callF rfl ((pcheck_spec hT hkn hkr hkz (by omega) host a ha now).mono ?_))
    rintro u H' ⟨rfl, rfl⟩
    repeat' first | refine Y.st ?_ | (refine nw ?_; intro _) | refine Y.kn ?_ | fail
    refine G.ef rfl rfl rfl (Eff.callF rfl ((padd_spec hv hT x sx nx (by omega)).mono ?_))
    rintro u H' ⟨rfl, TH2, hT2, rfl⟩
    have hap : addT (addAllT l) x = addAllT (l ++ [x]) := by rw [addAllT, addAllT, List.foldl_append]; rfl
    have hca := check_apart he hkn a now
    have hle2 := all_le (l ++ [x])
    rw [List.length_append, List.length_singleton] at hle2
    rw [hap] at hT2 hca
    repeat' first | refine Y.st ?_ | (refine nw ?_; intro _) | refine Y.kn ?_ | fail
    refine G.ef rfl rfl rfl (Eff.callF rfl ((pcheck_spec hT2 (nodup_all _) right_keys (siz_keys (fun y hy => by rcases List.mem_append.1 hy with h | h; exact sp y h; rw [List.mem_singleton.1 h]; exact sx)) (by omega) host a ha now).mono ?_))
    rintro u H' ⟨rfl, rfl⟩
    rw [hca]
    repeat' first | refine Y.st ?_ | (refine nw ?_; intro _) | refine Y.kn ?_ | fail
    trace_state
    exact GQ.done1 rfl rfl rfl
theorem PinsApart_walk (W : World) (vts : List VT) (hv : Vars W) (h : VT.LiesEach Tryz.prog W [22, 35, 9, 24, 3] vts) (hb : VT.bulkL vts ≤ 1048576) : T Tryz.prog W 7 (vts.map VT.val).toArray [] (fun v _ => v = .bool true) := by
  obtain ⟨v0, r, rfl, h0, h⟩ := lies_one h
  obtain ⟨v1, r, rfl, h1, h⟩ := lies_one h
  obtain ⟨v2, r, rfl, h2, h⟩ := lies_one h
  obtain ⟨v3, r, rfl, h3, h⟩ := lies_one h
  obtain ⟨v4, r, rfl, h4, h⟩ := lies_one h
  obtain rfl := lies_nil h
  simp only [VT.bulkL] at hb
  obtain ⟨l, hp, sp, sn, hl⟩ := lies_pinsAt h0
  obtain ⟨x, hxv, _, sx, nx⟩ := lies_pinB h1
  obtain ⟨s, rfl, _⟩ := Go.Own.Lies.str h2
  obtain ⟨a, ha, hav, _⟩ := lies_addr h3
  obtain ⟨n, rfl, _⟩ := Go.Own.Lies.int h4
  simp only [VT.bulk] at hb
  rw [show (([v0, v1, .str s, v3, .int .i64 n] : List VT).map VT.val).toArray = #[v0.val, pnV x, S s, .agg (u8s a).toArray, .int .i64 n] by simp only [List.map_cons, List.map_nil, hxv, hav]; rfl]
  exact PinsApart_core W hv _ l x s a n hp sp (fun y hy => by have := sn y hy; omega) (by omega) sx (by omega) (by omega) ha
end Go.Pin
namespace Go.Proofs.YtajkpdhcefkopaaGreatDoor.LPinsApart
open Go.Own
theorem own : ownKnob Tryz.prog.godebug = none := by kernel_rfl
theorem reads (os : Os) {H : Type} (enc : TypeId × Value → H) : ∃ x, DataW.whole enc Tryz.prog ((laidWorld os).forCall (fun _ _ => 0) ⟨#[], #[.slice none 0 0, Value.agg #[.string ⟨#[]⟩, .int .u8 0, .int .u8 0, .int .u8 0, .int .u8 0, .int .u8 0, .int .u8 0, .int .u8 0, .int .u8 0, .int .u8 0, .int .u8 0, .int .u8 0, .int .u8 0, .int .u8 0, .int .u8 0, .int .u8 0, .int .u8 0, .int .i64 0, .int .i64 0], .string ⟨#[]⟩, Value.agg #[.int .u8 0, .int .u8 0, .int .u8 0, .int .u8 0, .int .u8 0, .int .u8 0, .int .u8 0, .int .u8 0, .int .u8 0, .int .u8 0, .int .u8 0, .int .u8 0, .int .u8 0, .int .u8 0, .int .u8 0, .int .u8 0], .int .i64 0], []⟩).memory Tryz.f7.params.toList Rows.pinsApartSpec.vars false #[.slice none 0 0, Value.agg #[.string ⟨#[]⟩, .int .u8 0, .int .u8 0, .int .u8 0, .int .u8 0, .int .u8 0, .int .u8 0, .int .u8 0, .int .u8 0, .int .u8 0, .int .u8 0, .int .u8 0, .int .u8 0, .int .u8 0, .int .u8 0, .int .u8 0, .int .u8 0, .int .i64 0, .int .i64 0], .string ⟨#[]⟩, Value.agg #[.int .u8 0, .int .u8 0, .int .u8 0, .int .u8 0, .int .u8 0, .int .u8 0, .int .u8 0, .int .u8 0, .int .u8 0, .int .u8 0, .int .u8 0, .int .u8 0, .int .u8 0, .int .u8 0, .int .u8 0, .int .u8 0], .int .i64 0].toList 8 = some x ∧ Rows.uptoSmall H (x.1 ++ x.2.1) = true := by
  have h : ((DataW.whole enc Tryz.prog ((laidWorld os).forCall (fun _ _ => 0) ⟨#[], #[.slice none 0 0, Value.agg #[.string ⟨#[]⟩, .int .u8 0, .int .u8 0, .int .u8 0, .int .u8 0, .int .u8 0, .int .u8 0, .int .u8 0, .int .u8 0, .int .u8 0, .int .u8 0, .int .u8 0, .int .u8 0, .int .u8 0, .int .u8 0, .int .u8 0, .int .u8 0, .int .i64 0, .int .i64 0], .string ⟨#[]⟩, Value.agg #[.int .u8 0, .int .u8 0, .int .u8 0, .int .u8 0, .int .u8 0, .int .u8 0, .int .u8 0, .int .u8 0, .int .u8 0, .int .u8 0, .int .u8 0, .int .u8 0, .int .u8 0, .int .u8 0, .int .u8 0, .int .u8 0], .int .i64 0], []⟩).memory Tryz.f7.params.toList Rows.pinsApartSpec.vars false #[.slice none 0 0, Value.agg #[.string ⟨#[]⟩, .int .u8 0, .int .u8 0, .int .u8 0, .int .u8 0, .int .u8 0, .int .u8 0, .int .u8 0, .int .u8 0, .int .u8 0, .int .u8 0, .int .u8 0, .int .u8 0, .int .u8 0, .int .u8 0, .int .u8 0, .int .u8 0, .int .i64 0, .int .i64 0], .string ⟨#[]⟩, Value.agg #[.int .u8 0, .int .u8 0, .int .u8 0, .int .u8 0, .int .u8 0, .int .u8 0, .int .u8 0, .int .u8 0, .int .u8 0, .int .u8 0, .int .u8 0, .int .u8 0, .int .u8 0, .int .u8 0, .int .u8 0, .int .u8 0], .int .i64 0].toList 8).map fun x => Rows.uptoSmall H (x.1 ++ x.2.1)) = some true := by kernel_rfl
  obtain ⟨x, hx, h2⟩ := Option.map_eq_some_iff.1 h
  exact ⟨x, hx, h2⟩
set_option maxRecDepth 100000 in
theorem lifted (os : Os) (started : os.Started) (H : Type) (enc : TypeId × Value → H) (F : Stop.Interp) :
    ReturnsInHanded {} Tryz.checked os 7 .any ((Rows.OpenSpec.upto Rows.pinsApartSpec).preRow enc Tryz.prog Tryz.f7 Rows.pinsApartUptoRow.domain false Rows.pinsApartUptoRow.laid) (((Rows.OpenSpec.upto Rows.pinsApartSpec).at F).post enc Tryz.prog Tryz.f7 false true false false) := by
  obtain ⟨x, hx, hx2⟩ := reads os enc
  exact law_upto (kc := Rows.uptoSmall) (N := 1048576) (Go.Own.countsU H) (fun ds h => of_decide_eq_true h) (C := Tryz.checked) (D := 20) (tb := 4) own started (by kernel_rfl) Tryz.func7 rfl rfl Tryz.underlying4 (by kernel_rfl) (by kernel_rfl) (by kernel_rfl)
    (fun K ds h => by match ds, h with | [_, _, _, _, _], _ => rfl)
    (witness_row_atRef (enc := enc) (C := Tryz.checked) false (laidWorld os) #[.slice none 0 0, Value.agg #[.string ⟨#[]⟩, .int .u8 0, .int .u8 0, .int .u8 0, .int .u8 0, .int .u8 0, .int .u8 0, .int .u8 0, .int .u8 0, .int .u8 0, .int .u8 0, .int .u8 0, .int .u8 0, .int .u8 0, .int .u8 0, .int .u8 0, .int .u8 0, .int .i64 0, .int .i64 0], .string ⟨#[]⟩, Value.agg #[.int .u8 0, .int .u8 0, .int .u8 0, .int .u8 0, .int .u8 0, .int .u8 0, .int .u8 0, .int .u8 0, .int .u8 0, .int .u8 0, .int .u8 0, .int .u8 0, .int .u8 0, .int .u8 0, .int .u8 0, .int .u8 0], .int .i64 0] rfl (laid_shaped1 os _) (laid_shaped2 os _) (by kernel_rfl)
      (OpenSpec.preRow_of_cond 8 hx (by kernel_rfl) (fun k hk => by cases hk; exact hx2) (by kernel_rfl) (laid_met os _)))
    (fun W vts hsh hL h hb => Go.Pin.PinsApart_walk _ vts (Go.Nam.vars_of hsh hL) (by rw [Tryz.params7] at h; exact h) hb)
theorem j1 : Tryz.prog.inPlace 7 = Rows.pinsApartUptoRow.inPlace := eq_of_beq (by kernel_rfl)
theorem j2 : Tryz.prog.unfollowed 7 = Rows.pinsApartUptoRow.unfollowed := eq_of_beq (by kernel_rfl)
theorem j3 : Tryz.prog.recurses 7 = Rows.pinsApartUptoRow.recurses := eq_of_beq (by kernel_rfl)
theorem j4 : Tryz.prog.varsNamed 7 = Rows.pinsApartUptoRow.named := eq_of_beq (by kernel_rfl)
theorem joined : joinedFacts Tryz.prog 7 Tryz.f7 (Rows.OpenSpec.upto Rows.pinsApartSpec).bare Rows.pinsApartUptoRow = true := by
  unfold joinedFacts
  rw [j1, j2, j3, j4]
  kernel_rfl
theorem said : Rows.PinsApartUptoSaid :=
  OpenClaim.holds_of_cond 7 Tryz.f7 rfl rfl rfl rfl rfl rfl rfl ⟨rfl, rfl, rfl, rfl, rfl⟩ rfl rfl rfl rfl rfl (by kernel_rfl) Tryz.func7 joined
    (of_decide_eq_true (by kernel_rfl)) (by unfold Func.isWrapper; first | (rw [if_pos (by decide +kernel)]; kernel_rfl) | (rw [if_neg (by decide +kernel)]; exact ⟨rfl, rfl⟩))
    (fun os started H enc _ F => by rw [OpenClaim.pre_eq_preRow]; exact lifted os started H enc F)
theorem plain (f : FuncId) (fn : Func) (hf : Tryz.pinned.checked.prog.funcNamed "hagioscope/hagioscopelaw20.PinsApart" = some f) (hfn : Tryz.pinned.checked.prog.funcs[f]? = some fn) :
    true = Tryz.pinned.checked.prog.looks [] ∧ ∀ (j : Nat) t, fn.params[j]? = some t → Tryz.pinned.checked.prog.wantsStandIn t = false := by
  obtain rfl : f = 7 := Option.some.inj ((show Tryz.prog.funcNamed "hagioscope/hagioscopelaw20.PinsApart" = some 7 by kernel_rfl).symm.trans hf) |>.symm
  obtain rfl : fn = Tryz.f7 := (Option.some.inj (Tryz.func7.symm.trans hfn)).symm
  refine ⟨by kernel_rfl, fun j t ht => ?_⟩
  have hall : Tryz.f7.params.toList.all (fun t => !Tryz.prog.wantsStandIn t) = true := by kernel_rfl
  have := List.all_eq_true.1 hall t (Array.mem_toList_iff.2 (Array.mem_of_getElem? ht))
  have h2 : Tryz.prog.wantsStandIn t = false := by simpa using this
  exact h2
end Go.Proofs.YtajkpdhcefkopaaGreatDoor.LPinsApart
namespace Go.Proofs.YtajkpdhcefkopaaGreatDoor
/-- The law PinsApart holds: its card. -/
theorem pinsApart_holds : Rows.PinsApartUptoCardSaid :=
  Claim7.holds_tied_plain_at .later [] _ _ _ _ LPinsApart.said (fun _ h => by cases h) (by kernel_rfl) (fun _ h => by cases h) pinsApartUpto_row_tie rfl ⟨rfl, rfl⟩ (by kernel_rfl) rfl LPinsApart.plain (by kernel_rfl)
#print axioms pinsApart_holds
end Go.Proofs.YtajkpdhcefkopaaGreatDoor
