/-
  WHO MAY PASS: what stands ahead of each statement: the small case, few.
  WHO MAY PASS: few; what comes in.
-/
import Derived.Test.YtlakopiopplfhaaGreatDoorGDe
import Derived.Test.YtlakopiopplfhaaGreatDoorGPn
namespace Go.Dec
open Go.Own Go.Proofs Go.RowKit Go.Lib Go.Asc Go.Adr Go.Nam Go.Tri Go.Cid Go.Pol Go.Pin
attribute [local irreducible] GC GQ G Rd Eff T
set_option maxRecDepth 20000
set_option maxHeartbeats 4000000
def dR : Ru := ⟨true, 0, [42, 46, 98], 0, []⟩
def dR0 : Ru := ⟨false, 0, [], 0, []⟩
def dPn : Pn := ⟨[97, 46, 98], pc, 0⟩
def dP : Pol := ⟨false, [dR], [dPn]⟩
def dP0 : Pol := ⟨false, [dR0], []⟩
def dA : List UInt8 := [0, 0, 0, 0, 0, 0, 0, 0, 0, 0, 255, 255, 10, 1, 0, 0]
theorem dAOf : aheadL ++ [10, 1, 0, 0] = dA := by decide +kernel
theorem dright : rightP dP = 0 := by decide +kernel
theorem dright0 : rightP dP0 = 9 := by decide +kernel
def vS (st : Int) (h : Lb) (port : Int) : Vw := ⟨st, 0, 0, 0, h, port, false, [], .slice none 0 0, .slice none 0 0, false⟩
theorem sd1 : decL dP (vS 1 [97, 46, 98] 0).st (vS 1 [97, 46, 98] 0).host (vS 1 [97, 46, 98] 0).port [] dA 443 0 = ⟨true, 0, 0⟩ := by decide +kernel
theorem sd2 : decL dP (vS 1 [97, 46, 98] 0).st (vS 1 [97, 46, 98] 0).host (vS 1 [97, 46, 98] 0).port [] zero16 443 0 = ⟨false, 2, -1⟩ := by decide +kernel
theorem sd3 : decL dP (vS 1 [97, 46, 98] 80).st (vS 1 [97, 46, 98] 80).host (vS 1 [97, 46, 98] 80).port [] dA 443 0 = ⟨false, 3, -1⟩ := by decide +kernel
theorem sd4 : decL dP (vS 1 [99] 0).st (vS 1 [99] 0).host (vS 1 [99] 0).port [] dA 443 0 = ⟨false, 1, -1⟩ := by decide +kernel
theorem sd5 : decL dP (vS 2 [] 0).st (vS 2 [] 0).host (vS 2 [] 0).port [] dA 443 0 = ⟨false, 4, -1⟩ := by decide +kernel
theorem sd6 : decL dP (vS 0 [] 0).st (vS 0 [] 0).host (vS 0 [] 0).port [] dA 443 0 = ⟨false, 5, -1⟩ := by decide +kernel
theorem sizDPn : SizP dPn := ⟨sizPc, wf_small (by decide) (by decide), by decide⟩
theorem smallDR : Small dR := ⟨⟨wf_small (by decide) (by decide), wf_small (by decide) (by decide), by decide, by decide⟩, by decide, by decide⟩
theorem smallDR0 : Small dR0 := ⟨⟨wf_small (by decide) (by decide), wf_small (by decide) (by decide), by decide, by decide⟩, by decide, by decide⟩
section
variable {W0 : World} {F : Heap}
attribute [local irreducible] Lit.wf addT addAllT checkT liveL okP rightC ofL decL rightP
theorem alpn_nil : AlpnAt W0 F (.slice none 0 0) [] := ⟨⟨none, 0, rfl, Nat.le_refl _, .inl rfl⟩, by simp⟩
theorem dsmall_spec (hv : Vars W0) : T Tryz.prog W0 10 #[] F (fun v H' => v = .bool true ∧ H' = F) := by
  have hS := sizPc
  have hlc : (cdC pc).length = 17 := rfl
  have n1 : dP.rules.length = 1 := rfl
  have n2 : dP.pins.length = 1 := rfl
  have w104 : (Lit.int .i64 104).wf = true := wf_small (by decide) (by decide)
  refine T.intro (args := []) Tryz.func10 rfl Tryz.ntmps10 rfl ?_
  repeat' first | refine Y.st ?_ | (refine nw ?_; intro _) | refine Y.kn ?_ | fail
  refine G.rd (Rd.build (cells := (u8s [10, 0, 0, 0]).toArray) rfl (by kernel_rfl)) rfl rfl ?_
  refine G.ef rfl rfl rfl (Eff.callF rfl ((of4_spec hv [10, 0, 0, 0] rfl).mono ?_))
  rintro v H' ⟨rfl, rfl⟩
  refine G.ef rfl rfl rfl (Eff.callF rfl ((of_spec (aheadL ++ [10, 0, 0, 0]) 104 rfl w104).mono ?_))
  rintro v H' ⟨rfl, rfl⟩
  rw [pcOf]
  refine G.ef rfl rfl rfl (Eff.allocA (cs := cdC zeroC) (fun b1 => ?_))
  refine G.ef rfl rfl rfl (Eff.storeAll (cs := cdC zeroC) (vs := cdC pc) rfl rfl (cdC_one _) rfl rfl ?_)
  repeat' first | refine Y.st ?_ | (refine nw ?_; intro _) | refine Y.kn ?_ | fail
  refine G.rd (Rd.build (cells := ruA dR) rfl (by kernel_rfl)) rfl rfl ?_
  refine G.ef rfl rfl rfl (Eff.buildSlice (cells := (ruC dR).toArray) rfl (by kernel_rfl) (by omega) (fun b20 => ?_))
  repeat' first | refine Y.st ?_ | (refine nw ?_; intro _) | refine Y.kn ?_ | fail
  refine G.rd (Rd.build (cells := (pnC dPn).toArray) rfl (by kernel_rfl)) rfl rfl ?_
  refine G.ef rfl rfl rfl (Eff.buildSlice (cells := (pnC dPn).toArray) rfl (by kernel_rfl) (by omega) (fun b23 => ?_))
  refine G.rd (Rd.build (cells := #[.bool false, .slice (some ⟨b20, 0, none⟩) 1 1, .slice (some ⟨b23, 0, none⟩) 1 1]) rfl (by kernel_rfl)) rfl rfl ?_
  have hp1 : PolAt W0 ((b23, .cells (pnC dPn).toArray 52 (0, 0)) :: (b20, .cells (ruC dR).toArray 48 (0, 0)) :: (b1, .cells (cdC pc).toArray 50 (0, 0)) :: H') dP (.slice (some ⟨b20, 0, none⟩) 1 1) (.slice (some ⟨b23, 0, none⟩) 1 1) :=
    ⟨⟨some ⟨b20, 0, none⟩, 1, rfl, Nat.le_refl _, .inr ⟨b20, 0, rfl, RO.cells (cs := ruC dR) (fun j u hj => by rw [Nat.zero_add]; exact hj)⟩⟩, ⟨some ⟨b23, 0, none⟩, 1, rfl, Nat.le_refl _, .inr ⟨b23, 0, rfl, RO.cells (cs := pnC dPn) (fun j u hj => by rw [Nat.zero_add]; exact hj)⟩⟩, fun r hr => by rw [List.mem_singleton.1 hr]; exact smallDR, fun r hr => by rw [List.mem_singleton.1 hr]; exact sizDPn, fun r hr => by rw [List.mem_singleton.1 hr]; decide, by decide, by decide⟩
  refine G.ef rfl rfl rfl (Eff.callF rfl ((dnew_spec hv hp1).mono ?_))
  rintro v H2 (⟨h0, _⟩ | ⟨_, bj, JH, rfl, hJ, rfl⟩)
  · exact absurd dright h0
  repeat' first | refine Y.st ?_ | (refine nw ?_; intro _) | refine Y.kn ?_ | fail
  refine G.rd (Rd.build (cells := ruA dR0) rfl (by kernel_rfl)) rfl rfl ?_
  refine G.ef rfl rfl rfl (Eff.buildSlice (cells := (ruC dR0).toArray) rfl (by kernel_rfl) (by omega) (fun b30 => ?_))
  refine G.rd (Rd.build (cells := #[.bool false, .slice (some ⟨b30, 0, none⟩) 1 1, .slice none 0 0]) rfl (by kernel_rfl)) rfl rfl ?_
  refine G.ef rfl rfl rfl (Eff.callF rfl ((dnew_spec hv (p := dP0) (rv := .slice (some ⟨b30, 0, none⟩) 1 1) (pv := .slice none 0 0)
    ⟨⟨some ⟨b30, 0, none⟩, 1, rfl, Nat.le_refl _, .inr ⟨b30, 0, rfl, RO.cells (cs := ruC dR0) (fun j u hj => by rw [Nat.zero_add]; exact hj)⟩⟩, ⟨none, 0, rfl, Nat.le_refl _, .inl rfl⟩, fun r hr => by rw [List.mem_singleton.1 hr]; exact smallDR0, fun r hr => (by cases hr), fun r hr => (by cases hr), by decide, by decide⟩).mono ?_))
  rintro v H2 (⟨_, rfl, rfl⟩ | ⟨h0, _⟩)
  case inr => rw [dright0] at h0; cases h0
  rw [dright0]
  repeat' first | refine Y.st ?_ | (refine nw ?_; intro _) | refine Y.kn ?_ | fail
  refine G.rd (Rd.build (cells := (u8s [10, 1, 0, 0]).toArray) rfl (by kernel_rfl)) rfl rfl ?_
  refine G.ef rfl rfl rfl (Eff.callF rfl ((of4_spec hv [10, 1, 0, 0] rfl).mono ?_))
  rintro v H2 ⟨rfl, rfl⟩
  rw [dAOf]
  refine G.rd (Rd.build (cells := (dsC dA 443).toArray) rfl (by kernel_rfl)) rfl rfl ?_
  refine G.ef rfl rfl rfl (Eff.allocA (cs := dsC zero16 0) (fun b6 => ?_))
  refine G.ef rfl rfl rfl (Eff.storeAll (cs := dsC zero16 0) (vs := dsC dA 443) rfl rfl (cdC_one ⟨dA, 443⟩) rfl rfl ?_)
  repeat' first | refine Y.st ?_ | (refine nw ?_; intro _) | refine Y.kn ?_ | fail
  refine G.rd (Rd.build (cells := vwA (vS 1 [97, 46, 98] 0)) rfl (by kernel_rfl)) rfl rfl ?_
  repeat' first | refine Y.st ?_ | (refine nw ?_; intro _) | refine Y.kn ?_ | fail
  rename_i b7
  refine G.heap (H' := JH ++ ((b7, .cells (vwA (vS 1 [97, 46, 98] 0)) 32 (0, 0)) :: (b6, .cells (dsC dA 443).toArray 36 (0, 0)) :: H')) ?_ (fun w hw => (hw.perm (show List.Perm _ ([(b30, .cells (ruC dR0).toArray 48 (0, 0)), (b23, .cells (pnC dPn).toArray 52 (0, 0)), (b20, .cells (ruC dR).toArray 48 (0, 0)), (b1, .cells (cdC pc).toArray 50 (0, 0))] ++ (JH ++ ((b7, .cells (vwA (vS 1 [97, 46, 98] 0)) 32 (0, 0)) :: (b6, .cells (dsC dA 443).toArray 36 (0, 0)) :: H'))) by exact permC)).sub (List.sublist_append_right _ _))
  refine G.ef rfl rfl rfl (Eff.callP (first := #[]) (captured := #[]) rfl rfl (.refl _) ((ddecide_spec hv hJ (vS 1 [97, 46, 98] 0) dA 443 rfl 0 (by decide) [] alpn_nil).mono ?_))
  rintro u H2 ⟨rfl, rfl⟩
  rw [sd1]
  repeat' first | refine Y.st ?_ | (refine nw ?_; intro _) | refine Y.kn ?_ | fail
  refine G.rd (Rd.build (cells := (dsC zero16 443).toArray) rfl (by kernel_rfl)) rfl rfl ?_
  repeat' first | refine Y.st ?_ | (refine nw ?_; intro _) | refine Y.kn ?_ | fail
  refine G.ef rfl rfl rfl (Eff.callP (first := #[]) (captured := #[]) rfl rfl List.perm_middle.symm ((ddecide_spec hv hJ (vS 1 [97, 46, 98] 0) zero16 443 rfl 0 (by decide) [] alpn_nil).mono ?_))
  rintro u H2 ⟨rfl, rfl⟩
  rw [sd2]
  repeat' first | refine Y.st ?_ | (refine nw ?_; intro _) | refine Y.kn ?_ | fail
  refine G.ef rfl rfl rfl (Eff.callP (first := #[]) (captured := #[]) rfl rfl List.perm_middle.symm ((ddecide_spec hv hJ (vS 1 [97, 46, 98] 80) dA 443 rfl 0 (by decide) [] alpn_nil).mono ?_))
  rintro u H2 ⟨rfl, rfl⟩
  rw [sd3]
  repeat' first | refine Y.st ?_ | (refine nw ?_; intro _) | refine Y.kn ?_ | fail
  refine G.rd (Rd.build (cells := vwA (vS 1 [99] 0)) rfl (by kernel_rfl)) rfl rfl ?_
  repeat' first | refine Y.st ?_ | (refine nw ?_; intro _) | refine Y.kn ?_ | fail
  refine G.ef rfl rfl rfl (Eff.callP (first := #[]) (captured := #[]) rfl rfl List.perm_middle.symm ((ddecide_spec hv hJ (vS 1 [99] 0) dA 443 rfl 0 (by decide) [] alpn_nil).mono ?_))
  rintro u H2 ⟨rfl, rfl⟩
  rw [sd4]
  repeat' first | refine Y.st ?_ | (refine nw ?_; intro _) | refine Y.kn ?_ | fail
  refine G.rd (Rd.build (cells := vwA (vS 2 [] 0)) rfl (by kernel_rfl)) rfl rfl ?_
  repeat' first | refine Y.st ?_ | (refine nw ?_; intro _) | refine Y.kn ?_ | fail
  refine G.ef rfl rfl rfl (Eff.callP (first := #[]) (captured := #[]) rfl rfl List.perm_middle.symm ((ddecide_spec hv hJ (vS 2 [] 0) dA 443 rfl 0 (by decide) [] alpn_nil).mono ?_))
  rintro u H2 ⟨rfl, rfl⟩
  rw [sd5]
  repeat' first | refine Y.st ?_ | (refine nw ?_; intro _) | refine Y.kn ?_ | fail
  refine G.rd (Rd.build (cells := vwA (vS 0 [] 0)) rfl (by kernel_rfl)) rfl rfl ?_
  repeat' first | refine Y.st ?_ | (refine nw ?_; intro _) | refine Y.kn ?_ | fail
  refine G.ef rfl rfl rfl (Eff.callP (first := #[]) (captured := #[]) rfl rfl List.perm_middle.symm ((ddecide_spec hv hJ (vS 0 [] 0) dA 443 rfl 0 (by decide) [] alpn_nil).mono ?_))
  rintro u H2 ⟨rfl, rfl⟩
  rw [sd6]
  repeat' first | refine Y.st ?_ | (refine nw ?_; intro _) | refine Y.kn ?_ | fail
  refine G.ef rfl rfl rfl (Eff.callP (first := #[]) (captured := #[]) rfl rfl List.perm_middle.symm ((dpolicy_spec hJ).mono ?_))
  rintro u H2 ⟨rv, pv, Br, Bp, rfl, hBr, hBp, rfl⟩
  obtain ⟨pr, cr, rfl, _, _⟩ := Go.Tri.Buf.see hBr
  obtain ⟨pq, cq, rfl, _, _⟩ := Go.Tri.Buf.see hBp
  repeat' first | refine Y.st ?_ | (refine nw ?_; intro _) | refine Y.kn ?_ | fail
  refine G.rd (Rd.build (cells := dcA ⟨true, 0, 0⟩) rfl (by kernel_rfl)) rfl rfl ?_
  refine G.rd (Rd.eqlDc ⟨true, 0, 0⟩ ⟨true, 0, 0⟩ rfl rfl ⟨wf_small (by decide) (by decide), wf_small (by decide) (by decide)⟩ ⟨wf_small (by decide) (by decide), wf_small (by decide) (by decide)⟩) rfl rfl ?_
  rw [decide_eq_true rfl]
  repeat' first | refine Y.st ?_ | (refine nw ?_; intro _) | refine Y.kn ?_ | fail
  refine G.rd (Rd.build (cells := dcA ⟨false, 2, -1⟩) rfl (by kernel_rfl)) rfl rfl ?_
  refine G.rd (Rd.eqlDc ⟨false, 2, -1⟩ ⟨false, 2, -1⟩ rfl rfl ⟨wf_small (by decide) (by decide), wf_small (by decide) (by decide)⟩ ⟨wf_small (by decide) (by decide), wf_small (by decide) (by decide)⟩) rfl rfl ?_
  rw [decide_eq_true rfl]
  repeat' first | refine Y.st ?_ | (refine nw ?_; intro _) | refine Y.kn ?_ | fail
  refine G.rd (Rd.build (cells := dcA ⟨false, 3, -1⟩) rfl (by kernel_rfl)) rfl rfl ?_
  refine G.rd (Rd.eqlDc ⟨false, 3, -1⟩ ⟨false, 3, -1⟩ rfl rfl ⟨wf_small (by decide) (by decide), wf_small (by decide) (by decide)⟩ ⟨wf_small (by decide) (by decide), wf_small (by decide) (by decide)⟩) rfl rfl ?_
  rw [decide_eq_true rfl]
  repeat' first | refine Y.st ?_ | (refine nw ?_; intro _) | refine Y.kn ?_ | fail
  refine G.rd (Rd.build (cells := dcA ⟨false, 1, -1⟩) rfl (by kernel_rfl)) rfl rfl ?_
  refine G.rd (Rd.eqlDc ⟨false, 1, -1⟩ ⟨false, 1, -1⟩ rfl rfl ⟨wf_small (by decide) (by decide), wf_small (by decide) (by decide)⟩ ⟨wf_small (by decide) (by decide), wf_small (by decide) (by decide)⟩) rfl rfl ?_
  rw [decide_eq_true rfl]
  repeat' first | refine Y.st ?_ | (refine nw ?_; intro _) | refine Y.kn ?_ | fail
  refine GQ.heap (H' := H') ?_ (fun w hw => hw.sub SubH.out)
  exact GQ.done1 rfl rfl ⟨rfl, rfl⟩
end
end Go.Dec

namespace Go.Dec
open Go.Own Go.Proofs Go.RowKit Go.Lib Go.Asc Go.Adr Go.Nam Go.Tri Go.Cid Go.Pol Go.Pin
attribute [local irreducible] GC GQ G Rd Eff T
set_option maxRecDepth 20000
set_option maxHeartbeats 4000000
section
variable {W : World}
theorem lies_strsD : ∀ {es : List VT}, VT.LiesAll Tryz.prog W 9 es → ∃ l : List Lb, l.length = es.length ∧ VT.cellsL es = strs l
  | [], _ => ⟨[], rfl, by simp [VT.cellsL, strs]⟩
  | x :: es, h => by
    simp only [VT.LiesAll] at h
    obtain ⟨s, rfl, _⟩ := Go.Own.Lies.str h.1
    obtain ⟨l, k1, k2⟩ := lies_strsD h.2
    exact ⟨s :: l, by simp [k1], by rw [VT.cellsL, k2]; simp [VT.cells, strs]⟩
/-- A verdict that came in. -/
theorem lies_verdict {v : VT} (h : VT.Lies Tryz.prog W 32 v) : ∃ (w : Vw) (alpn : List Lb) (q : Option Addr) (c : Nat), v.val = vwV w ∧ w.al = .slice q alpn.length c ∧ w.vs.oneCell' = true ∧ (Lit.int .i64 w.port).wf = true ∧ (Lit.int .i64 w.st).wf = true ∧ w.host.length ≤ 140737488351232 ∧ ∀ F, alpn.length ≤ 2000000 → AlpnAt W F w.al alpn := by
  obtain ⟨ps, rfl, h1⟩ := Go.Own.Lies.agg h
  obtain ⟨a1, r1, rfl, k1, h1⟩ := lies_one h1
  obtain ⟨a2, r2, rfl, k2, h1⟩ := lies_one h1
  obtain ⟨a3, r3, rfl, k3, h1⟩ := lies_one h1
  obtain ⟨a4, r4, rfl, k4, h1⟩ := lies_one h1
  obtain ⟨a5, r5, rfl, k5, h1⟩ := lies_one h1
  obtain ⟨a6, r6, rfl, k6, h1⟩ := lies_one h1
  obtain ⟨a7, r7, rfl, k7, h1⟩ := lies_one h1
  obtain rfl := lies_nil h1
  obtain ⟨n1, rfl, w1⟩ := Go.Own.Lies.int k1
  obtain ⟨n2, rfl, _⟩ := Go.Own.Lies.int k2
  obtain ⟨n3, rfl, _⟩ := Go.Own.Lies.int k3
  obtain ⟨n4, rfl, _⟩ := Go.Own.Lies.int k4
  obtain ⟨s5, rfl, l5⟩ := Go.Own.Lies.str k5
  obtain ⟨n6, rfl, w6⟩ := Go.Own.Lies.int k6
  obtain ⟨qs, rfl, h2⟩ := Go.Own.Lies.agg k7
  obtain ⟨b1, r1, rfl, j1, h2⟩ := lies_one h2
  obtain ⟨b2, r2, rfl, j2, h2⟩ := lies_one h2
  obtain ⟨b3, r3, rfl, j3, h2⟩ := lies_one h2
  obtain ⟨b4, r4, rfl, j4, h2⟩ := lies_one h2
  obtain ⟨b5, r5, rfl, j5, h2⟩ := lies_one h2
  obtain rfl := lies_nil h2
  obtain ⟨e1, rfl⟩ := Go.Own.Lies.bool j1
  obtain ⟨s2, rfl, _⟩ := Go.Own.Lies.str j2
  obtain ⟨p, c, es, rfl, hp, hc, hc2, hat, hes⟩ := Go.Own.Lies.slice j3
  obtain ⟨p4, c4, es4, rfl, _⟩ := Go.Own.Lies.slice j4
  obtain ⟨e5, rfl⟩ := Go.Own.Lies.bool j5
  obtain ⟨l, g1, g2⟩ := lies_strsD hes
  rw [g2] at hat
  refine ⟨⟨n1, n2, n3, n4, s5, n6, e1, s2, .slice p l.length c, .slice p4 es4.length c4, e5⟩, l, p, c, ?_, rfl, rfl, w6, w1, l5, fun F hl => ⟨⟨p, c, rfl, by omega, lies_base hat⟩, hl⟩⟩
  simp [VT.val, VT.cells, VT.cellsL, g1]
/-- A destination that came in. -/
theorem lies_dest {v : VT} (h : VT.Lies Tryz.prog W 36 v) : ∃ (a : List UInt8) (n : Int), v.val = dsV a n ∧ a.length = 16 ∧ (Lit.int .i64 n).wf = true := by
  obtain ⟨ps, rfl, h1⟩ := Go.Own.Lies.agg h
  obtain ⟨a1, r1, rfl, k1, h1⟩ := lies_one h1
  obtain ⟨a2, r2, rfl, k2, h1⟩ := lies_one h1
  obtain rfl := lies_nil h1
  obtain ⟨a, ha, _, hc⟩ := lies_addr k1
  obtain ⟨n, rfl, hn⟩ := Go.Own.Lies.int k2
  exact ⟨a, n, by simp [VT.val, VT.cells, VT.cellsL, hc], ha, hn⟩
end
section
variable {W0 : World} {F : Heap}
attribute [local irreducible] Lit.wf addT addAllT checkT liveL okP rightC ofL decL rightP
/-- Are a policy, and a verdict, short? -/
def fewD (p : Pol) (v : Vw) (na : Nat) : Bool := fewP p && (decide (v.host.length ≤ 300) && decide (na ≤ 20))
theorem dfew_spec {p : Pol} {rv pv : Value} (hr : RulesAt W0 F rv p.rules) (hp : PinsAt W0 F pv p.pins) (sp : ∀ x ∈ p.pins, SizP x) (hl : p.rules.length ≤ 140737488351232) (hl2 : p.pins.length ≤ 140737488351232) (v : Vw) {q : Option Addr} {na c : Nat} (hal : v.al = .slice q na c) :
    T Tryz.prog W0 11 #[polV p rv pv, vwV v] F (fun u H' => u = .bool (fewD p v na) ∧ H' = F) := by
  have hp' := hp
  have hr' := hr
  obtain ⟨pa, ca, rfl, _⟩ := hr'
  obtain ⟨pb, cb, rfl, _⟩ := hp'
  refine T.intro (args := [_, _]) Tryz.func11 rfl Tryz.ntmps11 rfl ?_
  repeat' first | refine Y.st ?_ | (refine nw ?_; intro _) | refine Y.kn ?_ | fail
  rename_i b2 b3
  refine G.ef rfl rfl rfl (Eff.callF rfl ((Go.Pol.pfew_spec (hr.imp (fun _ hφ => (hφ.cons _).cons _)) (hp.imp (fun _ hφ => (hφ.cons _).cons _)) sp hl hl2).mono ?_))
  rintro u H' ⟨rfl, rfl⟩
  cases hf : Go.Pol.fewP p with
  | false =>
    repeat' first | refine Y.st ?_ | (refine nw ?_; intro _) | refine Y.kn ?_ | fail
    exact GQ.pure1 rfl (.tmp rfl) (by rw [fewD, hf]; rfl)
  | true =>
    by_cases h3 : v.host.length ≤ 300
    · repeat' first | refine Y.st ?_ | (refine nw ?_; intro _) | refine Y.kn ?_ | fail
      rw [hal]
      repeat' first | refine Y.st ?_ | (refine nw ?_; intro _) | refine Y.kn ?_ | fail
      exact GQ.pure1 rfl (.tmp rfl) (by rw [fewD, hf, decide_eq_true h3, Bool.true_and, Bool.true_and]; congr 1; exact decide_eq_decide.2 (by omega))
    · repeat' first | refine Y.st ?_ | (refine nw ?_; intro _) | refine Y.kn ?_ | fail
      exact GQ.pure1 rfl (.tmp rfl) (by rw [fewD, hf, decide_eq_false h3]; rfl)
theorem few_iff {p : Pol} {v : Vw} {na : Nat} (h : fewD p v na = true) : Go.Pol.fewP p = true ∧ v.host.length ≤ 300 ∧ na ≤ 20 := by
  simp only [fewD, Bool.and_eq_true, decide_eq_true_eq] at h
  exact ⟨h.1, h.2.1, h.2.2⟩
theorem few_polAt {p : Pol} {rv pv : Value} (h : Go.Pol.fewP p = true) (sr : ∀ r ∈ p.rules, Go.Tri.Sized r) (sp : ∀ x ∈ p.pins, SizP x) (hr : ∀ F, RulesAt W0 F rv p.rules) (hp : ∀ F, PinsAt W0 F pv p.pins) : (∀ F, PolAt W0 F p rv pv) ∧ p.rules.length ≤ 220 ∧ p.pins.length ≤ 220 := by
  simp only [Go.Pol.fewP, Bool.and_eq_true, List.all_eq_true, decide_eq_true_eq] at h
  obtain ⟨h1, h2, h3⟩ := h
  obtain ⟨h4, h5⟩ := few_true h2
  exact ⟨fun F => ⟨hr F, hp F, fun r hr => ⟨sr r hr, by have := (h5 r hr).1; omega, by have := (h5 r hr).2; omega⟩, sp, fun x hx => by have := h1 x hx; omega, by omega, by omega⟩, h4, h3⟩
end
end Go.Dec
