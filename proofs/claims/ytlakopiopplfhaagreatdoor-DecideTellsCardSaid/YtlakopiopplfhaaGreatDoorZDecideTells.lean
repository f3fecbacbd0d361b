/-
  THE LAW DecideTells: what is decided: of any policy, any verdict.
-/
import Derived.Test.YtlakopiopplfhaaGreatDoorRows
import Derived.Test.YtlakopiopplfhaaGreatDoorTie
import Derived.Test.YtlakopiopplfhaaGreatDoorCards
import Derived.Test.YtlakopiopplfhaaGreatDoorGNm
import Derived.Test.YtlakopiopplfhaaGreatDoorGTe
import Derived.Test.YtlakopiopplfhaaGreatDoorGDe
import Derived.Test.YtlakopiopplfhaaGreatDoorGDf
import Derived.Test.YtlakopiopplfhaaGreatDoorGOwn
import Derived.SevenTiedPlain
namespace Go.Dec
open Go.Own Go.Proofs Go.RowKit Go.Lib Go.Asc Go.Adr Go.Nam Go.Tri Go.Cid Go.Pol Go.Pin
attribute [local irreducible] GC GQ G Rd Eff T
set_option maxRecDepth 20000
set_option maxHeartbeats 4000000
attribute [local irreducible] Lit.wf addT addAllT checkT liveL okP rightC ofL decL rightP fewD

theorem DecideTells_core (W : World) (hv : Vars W) (p : Pol) (rv pv : Value) (sr : ∀ r ∈ p.rules, Go.Tri.Sized r) (sp : ∀ x ∈ p.pins, SizP x) (hl : p.rules.length ≤ 140737488351232) (hl2 : p.pins.length ≤ 140737488351232) (hr : ∀ F, RulesAt W F rv p.rules) (hp : ∀ F, PinsAt W F pv p.pins)
    (v : Vw) (alpn : List Lb) (q : Option Addr) (c : Nat) (hal : v.al = .slice q alpn.length c) (_ : (Lit.int .i64 v.port).wf = true) (_ : (Lit.int .i64 v.st).wf = true) (at_ : ∀ F, alpn.length ≤ 2000000 → AlpnAt W F v.al alpn) (a : List UInt8) (n : Int) (ha : a.length = 16) (_ : (Lit.int .i64 n).wf = true) (now : Int) :
    T Tryz.prog W 3 #[polV p rv pv, vwV v, dsV a n, .int .i64 now] [] (fun v _ => v = .bool true) := by
  obtain ⟨pa, ca, rfl, hca, hat⟩ := hr []
  obtain ⟨pb, cb, rfl, hcb, hbt⟩ := hp []
  refine T.intro (args := [_, _, _, _]) Tryz.func3 rfl Tryz.ntmps3 rfl ?_
  repeat' first | refine Y.st ?_ | (refine nw ?_; intro _) | refine Y.kn ?_ | fail
  rename_i b4 b5 b6
  refine G.ef rfl rfl rfl (Eff.callF rfl ((dsmall_spec hv).mono ?_))
  rintro u H' ⟨rfl, rfl⟩
  repeat' first | refine Y.st ?_ | (refine nw ?_; intro _) | refine Y.kn ?_ | fail
  refine G.ef rfl rfl rfl (Eff.callF rfl ((dfew_spec (hr _) (hp _) sp hl hl2 v hal).mono ?_))
  rintro u H' ⟨rfl, rfl⟩
  cases hf : fewD p v alpn.length with
  | false =>
    repeat' first | refine Y.st ?_ | (refine nw ?_; intro _) | refine Y.kn ?_ | fail
    exact GQ.done1 rfl rfl rfl
  | true =>
  obtain ⟨hf1, hh, hna⟩ := few_iff hf
  obtain ⟨hPol, hrl, hpl⟩ := few_polAt (W0 := W) hf1 sr sp hr hp
  have hAl : ∀ F, AlpnAt W F v.al alpn := fun F => at_ F (by omega)
  have hRef : ∀ X, PolAt W X p (.slice pa p.rules.length ca) (.slice pb p.pins.length cb) := hPol
  repeat' first | refine Y.st ?_ | (refine nw ?_; intro _) | refine Y.kn ?_ | fail
  refine G.ef rfl rfl rfl (Eff.callF rfl ((dnew_spec hv (hPol _)).mono ?_))
  rintro u H' (⟨hR, rfl, rfl⟩ | ⟨hR, bj, JH, rfl, hJ, rfl⟩)
  · repeat' first | refine Y.st ?_ | (refine nw ?_; intro _) | refine Y.kn ?_ | fail
    refine G.ef rfl rfl rfl (Eff.callF rfl ((rdnew_spec (hPol _)).mono ?_))
    rintro u H' (⟨_, rfl, rfl⟩ | ⟨hR2, _⟩)
    case inr => exact absurd hR2 hR
    repeat' first | refine Y.st ?_ | (refine nw ?_; intro _) | refine Y.kn ?_ | fail
    refine G.rd (Rd.neqB rfl rfl) rfl rfl ?_
    repeat' first | refine Y.st ?_ | (refine nw ?_; intro _) | refine Y.kn ?_ | fail
    exact GQ.done1 rfl rfl rfl
  repeat' first | refine Y.st ?_ | (refine nw ?_; intro _) | refine Y.kn ?_ | fail
  refine G.ef rfl rfl rfl (Eff.callF rfl ((rdnew_spec (hPol _)).mono ?_))
  rintro u H' (⟨hR2, _⟩ | ⟨_, bk, KH, rfl, hK, rfl⟩)
  · exact absurd hR hR2
  repeat' first | refine Y.st ?_ | (refine nw ?_; intro _) | refine Y.kn ?_ | fail
  refine G.rd (Rd.neqB rfl rfl) rfl rfl ?_
  repeat' first | refine Y.st ?_ | (refine nw ?_; intro _) | refine Y.kn ?_ | fail
  refine G.ef rfl rfl rfl (Eff.callP (first := #[]) (captured := #[]) rfl rfl (List.perm_append_comm_assoc _ _ _) ((dpolicy_spec hJ).mono ?_))
  rintro u H' ⟨rv2, pv2, Br, Bp, rfl, hBr, hBp, rfl⟩
  obtain ⟨p2, c2, rfl, hc2, hl2r⟩ := Go.Tri.Buf.see hBr
  obtain ⟨p3, c3, rfl, hc3, hl3p⟩ := Go.Tri.Buf.see hBp
  repeat' first | refine Y.st ?_ | (refine nw ?_; intro _) | refine Y.kn ?_ | fail
  rename_i b15
  have hPo := hPol []
  have hQ : PolAt W ((b15, .cells #[.bool p.allow, .slice p2 p.rules.length c2, .slice p3 p.pins.length c3] 25 (0, 0)) :: (Bp ++ (Br ++ (JH ++ (KH ++ [(b6, .cells (u8s a ++ [Value.int .i64 n]).toArray 36 (0, 0)), (b5, .cells (vwA v) 32 (0, 0)), (b4, .cells #[.bool p.allow, .slice pa p.rules.length ca, .slice pb p.pins.length cb] 25 (0, 0))]))))) p (.slice p2 p.rules.length c2) (.slice p3 p.pins.length c3) :=
    ⟨⟨p2, c2, rfl, hc2, ((hl2r W).app ((b15, .cells #[.bool p.allow, .slice p2 p.rules.length c2, .slice p3 p.pins.length c3] 25 (0, 0)) :: (Bp ++ (JH ++ (KH ++ [(b6, .cells (u8s a ++ [Value.int .i64 n]).toArray 36 (0, 0)), (b5, .cells (vwA v) 32 (0, 0)), (b4, .cells #[.bool p.allow, .slice pa p.rules.length ca, .slice pb p.pins.length cb] 25 (0, 0))]))))).perm (by exact permC)⟩, ⟨p3, c3, rfl, hc3, ((hl3p W).app ((b15, .cells #[.bool p.allow, .slice p2 p.rules.length c2, .slice p3 p.pins.length c3] 25 (0, 0)) :: (Br ++ (JH ++ (KH ++ [(b6, .cells (u8s a ++ [Value.int .i64 n]).toArray 36 (0, 0)), (b5, .cells (vwA v) 32 (0, 0)), (b4, .cells #[.bool p.allow, .slice pa p.rules.length ca, .slice pb p.pins.length cb] 25 (0, 0))]))))).perm (by exact permC)⟩, hPo.sr, hPo.sp, hPo.sn, hPo.rl, hPo.pl⟩
  refine G.ef rfl rfl rfl (Eff.callF rfl ((psame_spec hQ (hPol _)).mono ?_))
  rintro u H' ⟨rfl, rfl⟩
  rw [decide_eq_true rfl]
  repeat' first | refine Y.st ?_ | (refine nw ?_; intro _) | refine Y.kn ?_ | fail
  refine GC.loopE (ι := { i : Nat × Heap // i.1 ≤ p.rules.length ∧ Junk 48 5 (.slice p2 p.rules.length c2) p.rules.length i.2 }) (fun i => [(17, .int .i64 (i.1.1 : Int))]) [(3, _), (4, _), (5, _), (6, _), (9, _), (11, _), (13, _), (15, _), (16, _)] (fun i => (b15, .cells #[.bool p.allow, .slice p2 p.rules.length c2, .slice p3 p.pins.length c3] 25 (0, 0)) :: (Bp ++ (i.1.2 ++ (JH ++ (KH ++ [(b6, .cells (u8s a ++ [Value.int .i64 n]).toArray 36 (0, 0)), (b5, .cells (vwA v) 32 (0, 0)), (b4, .cells #[.bool p.allow, .slice pa p.rules.length ca, .slice pb p.pins.length cb] 25 (0, 0))]))))) (fun i => p.rules.length - i.1.1) ⟨(0, Br), Nat.zero_le _, hBr.junk⟩ ⟨rfl, rfl, rfl, rfl, rfl, rfl, rfl, rfl, rfl, rfl, trivial⟩ (fun _ h => h) ?_
  rintro ⟨⟨k, B1⟩, hk, hJk⟩
  dsimp only at hk hJk ⊢
  by_cases hlt : k < p.rules.length
  · obtain ⟨bq, pre, old, post, rfl, rfl, hpre, hold, hput⟩ := hJk.get hlt
    simp only [List.cons_append, List.nil_append]
    repeat' first | refine Y.st ?_ | (refine nw ?_; intro _) | refine Y.kn ?_ | fail
    refine G.rd (Rd.build (cells := ruA zeroR) rfl (by rfl)) rfl rfl ?_
    repeat' first | refine Y.st ?_ | (refine nw ?_; intro _) | refine Y.kn ?_ | fail
    refine G.ef rfl rfl rfl (Eff.storeMidQ (pre := pre) (old := old) (post := post) (vs := ruC zeroR) rfl (by rw [hpre]; omega) rfl (by have := rules_one [zeroR]; simpa using this) (by rw [hold]; rfl) rfl ?_)
    repeat' first | refine Y.st ?_ | (refine nw ?_; intro _) | refine Y.kn ?_ | fail
    exact GQ.back ⟨(k + 1, [(bq, .cells (pre ++ (ruC zeroR ++ post)).toArray 48 (0, 0))]), by omega, hput (ruC zeroR) rfl⟩ (by simp only; omega) ⟨rfl, rfl, rfl, rfl, rfl, rfl, rfl, rfl, rfl, rfl, trivial⟩ (fun _ h => h)
  obtain rfl : k = p.rules.length := by omega
  repeat' first | refine Y.st ?_ | (refine nw ?_; intro _) | refine Y.kn ?_ | fail
  refine GC.loopE (ι := { i : Nat × Heap // i.1 ≤ p.pins.length ∧ Junk 52 19 (.slice p3 p.pins.length c3) p.pins.length i.2 }) (fun i => [(18, .int .i64 (i.1.1 : Int))]) [(3, _), (4, _), (5, _), (6, _), (9, _), (11, _), (13, _), (15, _), (16, _)] (fun i => (b15, .cells #[.bool p.allow, .slice p2 p.rules.length c2, .slice p3 p.pins.length c3] 25 (0, 0)) :: (i.1.2 ++ (B1 ++ (JH ++ (KH ++ [(b6, .cells (u8s a ++ [Value.int .i64 n]).toArray 36 (0, 0)), (b5, .cells (vwA v) 32 (0, 0)), (b4, .cells #[.bool p.allow, .slice pa p.rules.length ca, .slice pb p.pins.length cb] 25 (0, 0))]))))) (fun i => p.pins.length - i.1.1) ⟨(0, Bp), Nat.zero_le _, hBp.junk⟩ ⟨rfl, rfl, rfl, rfl, rfl, rfl, rfl, rfl, rfl, rfl, trivial⟩ (fun _ h => h) ?_
  rintro ⟨⟨k, B2⟩, hk, hJk2⟩
  dsimp only at hk hJk2 ⊢
  by_cases hlt : k < p.pins.length
  · obtain ⟨bq, pre, old, post, rfl, rfl, hpre, hold, hput⟩ := hJk2.get hlt
    simp only [List.cons_append, List.nil_append]
    repeat' first | refine Y.st ?_ | (refine nw ?_; intro _) | refine Y.kn ?_ | fail
    refine G.rd (Rd.build (cells := (pnC zeroP).toArray) rfl (by kernel_rfl)) rfl rfl ?_
    repeat' first | refine Y.st ?_ | (refine nw ?_; intro _) | refine Y.kn ?_ | fail
    refine G.ef rfl rfl rfl (Eff.storeMidQ (pre := pre) (old := old) (post := post) (vs := pnC zeroP) rfl (by rw [hpre]; omega) rfl (pnC_one _) (by rw [hold]; rfl) rfl ?_)
    repeat' first | refine Y.st ?_ | (refine nw ?_; intro _) | refine Y.kn ?_ | fail
    exact GQ.back ⟨(k + 1, [(bq, .cells (pre ++ (pnC zeroP ++ post)).toArray 52 (0, 0))]), by omega, hput (pnC zeroP) rfl⟩ (by simp only; omega) ⟨rfl, rfl, rfl, rfl, rfl, rfl, rfl, rfl, rfl, rfl, trivial⟩ (fun _ h => h)
  obtain rfl : k = p.pins.length := by omega
  repeat' first | refine Y.st ?_ | (refine nw ?_; intro _) | refine Y.kn ?_ | fail
  refine GC.heap (H' := JH ++ (KH ++ ((b15, .cells #[.bool p.allow, .slice p2 p.rules.length c2, .slice p3 p.pins.length c3] 25 (0, 0)) :: (B2 ++ (B1 ++ [(b6, .cells (u8s a ++ [Value.int .i64 n]).toArray 36 (0, 0)), (b5, .cells (vwA v) 32 (0, 0)), (b4, .cells #[.bool p.allow, .slice pa p.rules.length ca, .slice pb p.pins.length cb] 25 (0, 0))]))))) ?_ (fun w hw => hw.perm (by exact permC))
  have s0 : SubH [(b6, .cells (u8s a ++ [Value.int .i64 n]).toArray 36 (0, 0)), (b5, .cells (vwA v) 32 (0, 0)), (b4, .cells #[.bool p.allow, .slice pa p.rules.length ca, .slice pb p.pins.length cb] 25 (0, 0))] [(b6, .cells (u8s a ++ [Value.int .i64 n]).toArray 36 (0, 0)), (b5, .cells (vwA v) 32 (0, 0)), (b4, .cells #[.bool p.allow, .slice pa p.rules.length ca, .slice pb p.pins.length cb] 25 (0, 0))] := SubH.refl
  haveI s1 : SubH [(b6, .cells (u8s a ++ [Value.int .i64 n]).toArray 36 (0, 0)), (b5, .cells (vwA v) 32 (0, 0)), (b4, .cells #[.bool p.allow, .slice pa p.rules.length ca, .slice pb p.pins.length cb] 25 (0, 0))] (JH ++ (KH ++ ((b15, .cells #[.bool p.allow, .slice p2 p.rules.length c2, .slice p3 p.pins.length c3] 25 (0, 0)) :: (B2 ++ (B1 ++ [(b6, .cells (u8s a ++ [Value.int .i64 n]).toArray 36 (0, 0)), (b5, .cells (vwA v) 32 (0, 0)), (b4, .cells #[.bool p.allow, .slice pa p.rules.length ca, .slice pb p.pins.length cb] 25 (0, 0))]))))) := SubH.app (h := SubH.app (h := SubH.skip (h := SubH.app (h := SubH.app (h := s0)))))
  refine GC.drawn [(0, .read), (1, .read), (2, .read), (3, .read), (4, .read), (5, .read), (6, .read), (7, .read), (8, .read), (10, .read), (11, .read), (12, .read), (13, .read), (9, .eff), (14, .eff), (15, .read), (16, .read), (17, .read), (18, .read), (20, .read), (19, .eff), (21, .tail), (22, .tail), (23, .tail)] ([(b6, .cells (u8s a ++ [Value.int .i64 n]).toArray 36 (0, 0)), (b5, .cells (vwA v) 32 (0, 0)), (b4, .cells #[.bool p.allow, .slice pa p.rules.length ca, .slice pb p.pins.length cb] 25 (0, 0))]) (by kernel_rfl) (by kernel_rfl) rfl ?_
  iterate 7 refine Y.one ?_
  refine G.rd (Rd.loadAggC (cs := dsC a n) rfl (cellsH (fun j u hj => by simpa using hj)) (dsC_len ha n)) rfl rfl ?_
  iterate 3 refine Y.one ?_
  refine G.rd (Rd.loadAggC (cs := dsC a n) rfl (cellsH (fun j u hj => by simpa using hj)) (dsC_len ha n)) rfl rfl ?_
  iterate 1 refine Y.one ?_
  refine G.ee rfl rfl rfl (Eff.callF rfl ((ddecide_spec hv hJ v a n ha now (by omega) alpn (hAl _)).mono ?_))
  rintro u H' ⟨rfl, rfl⟩
  refine ⟨s1, ?_⟩
  have hz := dec_siz (p := p) (st := v.st) (host := v.host) (vport := v.port) (alpn := alpn) (addr := a) (port := n) (now := now) hR
  refine G.ee rfl rfl rfl (Eff.callP (first := #[]) (captured := #[]) rfl rfl (List.perm_append_comm_assoc _ _ _) ((rddecide_spec hK v a n ha now (by omega) alpn (hAl _)).mono ?_))
  rintro u H' ⟨rfl, rfl⟩
  generalize decL p v.st v.host v.port alpn a n now = d at hz ⊢
  haveI s2 : SubH [(b6, .cells (u8s a ++ [Value.int .i64 n]).toArray 36 (0, 0)), (b5, .cells (vwA v) 32 (0, 0)), (b4, .cells #[.bool p.allow, .slice pa p.rules.length ca, .slice pb p.pins.length cb] 25 (0, 0))] (KH ++ (JH ++ ((b15, .cells #[.bool p.allow, .slice p2 p.rules.length c2, .slice p3 p.pins.length c3] 25 (0, 0)) :: (B2 ++ (B1 ++ [(b6, .cells (u8s a ++ [Value.int .i64 n]).toArray 36 (0, 0)), (b5, .cells (vwA v) 32 (0, 0)), (b4, .cells #[.bool p.allow, .slice pa p.rules.length ca, .slice pb p.pins.length cb] 25 (0, 0))]))))) := SubH.app (h := SubH.app (h := SubH.skip (h := SubH.app (h := SubH.app (h := s0)))))
  refine ⟨s2, ?_⟩
  refine G.rd (Rd.eqlDc d d rfl rfl hz hz) rfl rfl ?_
  rw [decide_eq_true rfl]
  iterate 4 refine Y.one ?_
  refine G.ee rfl rfl rfl (Eff.callP (first := #[]) (captured := #[]) rfl rfl (List.perm_append_comm_assoc _ _ _) ((dpolicy_spec hJ).mono ?_))
  rintro u H' ⟨rv4, pv4, Br4, Bp4, rfl, hBr4, hBp4, rfl⟩
  obtain ⟨p4, c4, rfl, hc4, hl4r⟩ := Go.Tri.Buf.see hBr4
  obtain ⟨p5, c5, rfl, hc5, hl5p⟩ := Go.Tri.Buf.see hBp4
  refine ⟨SubH.app (h := SubH.app (h := SubH.app (h := SubH.app (h := SubH.skip (h := SubH.app (h := SubH.app (h := s0))))))), ?_⟩
  have hQ4 : PolAt W (Bp4 ++ (Br4 ++ (JH ++ (KH ++ ((b15, .cells #[.bool p.allow, .slice p2 p.rules.length c2, .slice p3 p.pins.length c3] 25 (0, 0)) :: (B2 ++ (B1 ++ [(b6, .cells (u8s a ++ [Value.int .i64 n]).toArray 36 (0, 0)), (b5, .cells (vwA v) 32 (0, 0)), (b4, .cells #[.bool p.allow, .slice pa p.rules.length ca, .slice pb p.pins.length cb] 25 (0, 0))]))))))) p (.slice p4 p.rules.length c4) (.slice p5 p.pins.length c5) :=
    ⟨⟨p4, c4, rfl, hc4, ((hl4r W).app (Bp4 ++ (JH ++ (KH ++ ((b15, .cells #[.bool p.allow, .slice p2 p.rules.length c2, .slice p3 p.pins.length c3] 25 (0, 0)) :: (B2 ++ (B1 ++ [(b6, .cells (u8s a ++ [Value.int .i64 n]).toArray 36 (0, 0)), (b5, .cells (vwA v) 32 (0, 0)), (b4, .cells #[.bool p.allow, .slice pa p.rules.length ca, .slice pb p.pins.length cb] 25 (0, 0))]))))))).perm (by exact permC)⟩, ⟨p5, c5, rfl, hc5, ((hl5p W).app (Br4 ++ (JH ++ (KH ++ ((b15, .cells #[.bool p.allow, .slice p2 p.rules.length c2, .slice p3 p.pins.length c3] 25 (0, 0)) :: (B2 ++ (B1 ++ [(b6, .cells (u8s a ++ [Value.int .i64 n]).toArray 36 (0, 0)), (b5, .cells (vwA v) 32 (0, 0)), (b4, .cells #[.bool p.allow, .slice pa p.rules.length ca, .slice pb p.pins.length cb] 25 (0, 0))]))))))).perm List.perm_append_comm⟩, hPo.sr, hPo.sp, hPo.sn, hPo.rl, hPo.pl⟩
  refine G.ef rfl rfl rfl (Eff.callF rfl ((psame_spec hQ4 (hPol _)).mono ?_))
  rintro u H' ⟨rfl, rfl⟩
  rw [decide_eq_true rfl]
  repeat' first | refine Y.st ?_ | (refine nw ?_; intro _) | refine Y.kn ?_ | fail
  exact GQ.done1 rfl rfl rfl
theorem DecideTells_walk (W : World) (vts : List VT) (hv : Vars W) (h : VT.LiesEach Tryz.prog W [25, 32, 36, 3] vts) : T Tryz.prog W 3 (vts.map VT.val).toArray [] (fun v _ => v = .bool true) := by
  obtain ⟨v0, r, rfl, h0, h⟩ := lies_one h
  obtain ⟨v1, r, rfl, h1, h⟩ := lies_one h
  obtain ⟨v2, r, rfl, h2, h⟩ := lies_one h
  obtain ⟨v3, r, rfl, h3, h⟩ := lies_one h
  obtain rfl := lies_nil h
  obtain ⟨p, rv, pv, e0, sr, sp, hl, hl2, hr, hp⟩ := lies_policy h0
  obtain ⟨v, alpn, q, c, e1, hal, _, wp, ws, _, hA⟩ := lies_verdict h1
  obtain ⟨a, n, e2, ha, wn⟩ := lies_dest h2
  obtain ⟨now, rfl, _⟩ := Go.Own.Lies.int h3
  rw [show (([v0, v1, v2, .int .i64 now] : List VT).map VT.val).toArray = #[polV p rv pv, vwV v, dsV a n, .int .i64 now] by simp only [List.map_cons, List.map_nil, e0, e1, e2]; rfl]
  exact DecideTells_core W hv p rv pv sr sp hl hl2 hr hp v alpn q c hal wp ws hA a n ha wn now
end Go.Dec
namespace Go.Proofs.YtlakopiopplfhaaGreatDoor.LDecideTells
open Go.Own
theorem own : ownKnob Tryz.prog.godebug = none := by kernel_rfl
theorem reads (os : Os) {H : Type} (enc : TypeId × Value → H) : ∃ x, DataW.whole enc Tryz.prog ((laidWorld os).forCall (fun _ _ => 0) ⟨#[], #[Value.agg #[.bool false, .slice none 0 0, .slice none 0 0], Value.agg #[.int .i64 0, .int .i64 0, .int .i64 0, .int .i64 0, .string ⟨#[]⟩, .int .i64 0, .bool false, .string ⟨#[]⟩, .slice none 0 0, .slice none 0 0, .bool false], Value.agg #[.int .u8 0, .int .u8 0, .int .u8 0, .int .u8 0, .int .u8 0, .int .u8 0, .int .u8 0, .int .u8 0, .int .u8 0, .int .u8 0, .int .u8 0, .int .u8 0, .int .u8 0, .int .u8 0, .int .u8 0, .int .u8 0, .int .i64 0], .int .i64 0], []⟩).memory Tryz.f3.params.toList Rows.decideTellsSpec.vars false #[Value.agg #[.bool false, .slice none 0 0, .slice none 0 0], Value.agg #[.int .i64 0, .int .i64 0, .int .i64 0, .int .i64 0, .string ⟨#[]⟩, .int .i64 0, .bool false, .string ⟨#[]⟩, .slice none 0 0, .slice none 0 0, .bool false], Value.agg #[.int .u8 0, .int .u8 0, .int .u8 0, .int .u8 0, .int .u8 0, .int .u8 0, .int .u8 0, .int .u8 0, .int .u8 0, .int .u8 0, .int .u8 0, .int .u8 0, .int .u8 0, .int .u8 0, .int .u8 0, .int .u8 0, .int .i64 0], .int .i64 0].toList 8 = some x :=
  Option.isSome_iff_exists.1 (by kernel_rfl)
set_option maxRecDepth 100000 in
theorem lifted (os : Os) (started : os.Started) (H : Type) (enc : TypeId × Value → H) (F : Stop.Interp) :
    ReturnsInHanded {} Tryz.checked os 3 .any ((OpenSpec.ofChange Rows.decideTellsSpec).preRow enc Tryz.prog Tryz.f3 Rows.decideTellsRow.domain false Rows.decideTellsRow.laid) (((OpenSpec.ofChange Rows.decideTellsSpec).at F).post enc Tryz.prog Tryz.f3 false true false false) := by
  obtain ⟨x, hx⟩ := reads os enc
  exact law_laid (C := Tryz.checked) (D := 20) (tb := 4) own started (by kernel_rfl) Tryz.func3 rfl rfl Tryz.underlying4 (by kernel_rfl) (by kernel_rfl) (by kernel_rfl)
    (fun K ds h => by match ds, h with | [_, _, _, _], _ => rfl)
    (witness_row_atRef (enc := enc) (C := Tryz.checked) false (laidWorld os) #[Value.agg #[.bool false, .slice none 0 0, .slice none 0 0], Value.agg #[.int .i64 0, .int .i64 0, .int .i64 0, .int .i64 0, .string ⟨#[]⟩, .int .i64 0, .bool false, .string ⟨#[]⟩, .slice none 0 0, .slice none 0 0, .bool false], Value.agg #[.int .u8 0, .int .u8 0, .int .u8 0, .int .u8 0, .int .u8 0, .int .u8 0, .int .u8 0, .int .u8 0, .int .u8 0, .int .u8 0, .int .u8 0, .int .u8 0, .int .u8 0, .int .u8 0, .int .u8 0, .int .u8 0, .int .i64 0], .int .i64 0] rfl (laid_shaped1 os _) (laid_shaped2 os _) (by kernel_rfl)
      (OpenSpec.preRow_of_cond 8 hx (by kernel_rfl) (fun k hk => by cases hk) (by kernel_rfl) (laid_met os _)))
    (fun W vts hsh hL h => Go.Dec.DecideTells_walk _ vts (Go.Nam.vars_of hsh hL) (by rw [Tryz.params3] at h; exact h))
theorem j1 : Tryz.prog.inPlace 3 = Rows.decideTellsRow.inPlace := eq_of_beq (by kernel_rfl)
theorem j2 : Tryz.prog.unfollowed 3 = Rows.decideTellsRow.unfollowed := eq_of_beq (by kernel_rfl)
theorem j3 : Tryz.prog.recurses 3 = Rows.decideTellsRow.recurses := eq_of_beq (by kernel_rfl)
theorem j4 : Tryz.prog.varsNamed 3 = Rows.decideTellsRow.named := eq_of_beq (by kernel_rfl)
theorem k1 : laidOutB Tryz.prog = true := by kernel_rfl
theorem k2 : mapsRowed Tryz.prog = true := by kernel_rfl
theorem k3 : Tryz.prog.stopsHeard = true := by kernel_rfl
theorem k4 : Tryz.prog.mayEnter = true := by kernel_rfl
theorem joined : joinedFacts Tryz.prog 3 Tryz.f3 (OpenSpec.ofChange Rows.decideTellsSpec).bare Rows.decideTellsRow = true := by
  unfold joinedFacts
  rw [j1, j2, j3, j4, k1, k2, k3, k4]
  kernel_rfl
theorem said : Rows.DecideTellsSaid :=
  OpenClaim.holds_of_cond 3 Tryz.f3 rfl rfl rfl rfl rfl rfl rfl ⟨rfl, rfl, rfl, rfl, rfl⟩ rfl rfl rfl rfl rfl (by kernel_rfl) Tryz.func3 joined
    (of_decide_eq_true (by kernel_rfl)) (by unfold Func.isWrapper; first | (rw [if_pos (by decide +kernel)]; kernel_rfl) | (rw [if_neg (by decide +kernel)]; exact ⟨rfl, rfl⟩))
    (fun os started H enc _ F => by rw [OpenClaim.pre_eq_preRow]; exact lifted os started H enc F)
theorem w1 : Rows.decideTellsRow.wfByText (OpenSpec.ofChange Rows.decideTellsSpec) = true := by kernel_rfl
theorem goes_none {P : Program} (h : P.funcs.any Func.goes = false) (c : OpenClaim) : c.goesBy P = false := by
  have h0 : ∀ (g : Nat), (P.funcs[g]?).any Func.goes = false := fun g => by
    cases hg : P.funcs[g]? with
    | none => rfl
    | some fn =>
      have := Array.any_eq_false.1 h g (Array.getElem?_eq_some_iff.1 hg).1
      rw [(Array.getElem?_eq_some_iff.1 hg).2] at this
      simpa using this
  have h1 : ∀ f, P.goes f = false := fun f => by
    unfold Program.goes
    rw [h, Bool.and_false, Bool.or_false, List.any_eq_false]
    intro g _
    rw [h0 g]
    decide
  unfold OpenClaim.goesBy Program.goesAt Program.goesFrom
  rw [show (P.funcNamed c.func).any P.goes = false by cases P.funcNamed c.func <;> simp [h1], Bool.false_or]
  cases c.start <;> simp [h1]
theorem k7 : Tryz.pinned.checked.prog.funcs.any Func.goes = false := by kernel_rfl
theorem w3 : false = Rows.decideTellsRow.goesBy Tryz.pinned.checked.prog := (goes_none k7 _).symm
theorem plain (f : FuncId) (fn : Func) (hf : Tryz.pinned.checked.prog.funcNamed "hagioscope/hagioscopelaw21.DecideTells" = some f) (hfn : Tryz.pinned.checked.prog.funcs[f]? = some fn) :
    true = Tryz.pinned.checked.prog.looks [] ∧ ∀ (j : Nat) t, fn.params[j]? = some t → Tryz.pinned.checked.prog.wantsStandIn t = false := by
  obtain rfl : f = 3 := Option.some.inj ((show Tryz.prog.funcNamed "hagioscope/hagioscopelaw21.DecideTells" = some 3 by kernel_rfl).symm.trans hf) |>.symm
  obtain rfl : fn = Tryz.f3 := (Option.some.inj (Tryz.func3.symm.trans hfn)).symm
  refine ⟨by kernel_rfl, fun j t ht => ?_⟩
  have hall : Tryz.f3.params.toList.all (fun t => !Tryz.prog.wantsStandIn t) = true := by kernel_rfl
  have := List.all_eq_true.1 hall t (Array.mem_toList_iff.2 (Array.mem_of_getElem? ht))
  have h2 : Tryz.prog.wantsStandIn t = false := by simpa using this
  exact h2
end Go.Proofs.YtlakopiopplfhaaGreatDoor.LDecideTells
namespace Go.Proofs.YtlakopiopplfhaaGreatDoor
/-- The law DecideTells holds: its card. -/
theorem decideTells_holds : Rows.DecideTellsCardSaid :=
  Claim7.holds_tied_plain_at .later [] _ _ _ _ LDecideTells.said (fun _ h => by cases h) LDecideTells.w1 (fun _ h => by cases h) decideTells_row_tie rfl ⟨rfl, rfl⟩ (by kernel_rfl) rfl LDecideTells.plain LDecideTells.w3
#print axioms decideTells_holds
end Go.Proofs.YtlakopiopplfhaaGreatDoor
