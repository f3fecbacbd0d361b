/-
  THE DOCUMENT'S TRIE: Find.
  THE DOCUMENT'S ANSWERS: who may pass.
-/
import Derived.Test.YtlakopiopplfhaaGreatDoorGTd
import Derived.Test.YtlakopiopplfhaaGreatDoorGRi
import Derived.Test.YtlakopiopplfhaaGreatDoorGDe
namespace Go.Tri
open Go.Own Go.Proofs Go.RowKit Go.Lib Go.Asc Go.Adr Go.Nam Go.Rfn
attribute [local irreducible] GC GQ G Rd Eff T
set_option maxRecDepth 20000
set_option maxHeartbeats 4000000
attribute [local irreducible] named patL matchL visL fitsL rightL countsL lessL

theorem less_ref {rs : List Ru} (hf : Fine rs) {a k : Nat} (ha : a < rs.length) (hk : k < rs.length) : lessL (rs.getD a zeroR) (rs.getD k zeroR) =
    (decide ((rs.getD a zeroR).prio < (rs.getD k zeroR).prio) || (decide ((rs.getD a zeroR).prio = (rs.getD k zeroR).prio) && decide (wtOf (rs.getD a zeroR) < wtOf (rs.getD k zeroR)))) := by
  rw [lessL, wtR_of (fine_getD hf ha), wtR_of (fine_getD hf hk)]
  by_cases hp : (rs.getD a zeroR).prio = (rs.getD k zeroR).prio
  · rw [if_pos hp, hp]; simp
  · rw [if_neg hp, decide_eq_false hp]; simp
section
variable {prio wt : Nat → Int} {counts : Nat → Bool} {a k : Nat} {o : Option Nat}
theorem refStep_no (h : counts k = false) : refStep prio wt counts o k = o := by simp [refStep, h]
theorem refStep_first (h : counts k = true) : refStep prio wt counts none k = some k := by simp [refStep, h]
theorem refStep_more (h : counts k = true) (hl : (decide (prio a < prio k) || (decide (prio a = prio k) && decide (wt a < wt k))) = true) : refStep prio wt counts (some a) k = some k := by simp only [refStep, h, hl]; rfl
theorem refStep_less (h : counts k = true) (hl : (decide (prio a < prio k) || (decide (prio a = prio k) && decide (wt a < wt k))) = false) : refStep prio wt counts (some a) k = some a := by simp only [refStep, h, hl]; rfl
end
section
variable {W0 : World} {F : Heap}
theorem rfind_spec {rs : List Ru} {by_ : Nat} {TH : Heap} (h : RefQ rs by_ TH) (host : Lab) (hl : host.length ≤ 2000000) (port : Int) (v3 : Value) (alpn : List Lab) (hal : AlpnAt W0 F v3 alpn) :
    T Tryz.prog W0 58 #[.pointer (some ⟨by_, 0, none⟩), S host, .int .i64 port, v3] (TH ++ F) (fun v H' => v = resV (pickL rs (refB rs host port alpn)) ∧ H' = TH ++ F) := by
  obtain ⟨lv, B, hb, rfl, hs, hlen, hfine⟩ := h
  obtain ⟨p, cap, rfl, hc, hat⟩ := Buf.see hb
  refine T.intro (args := [_, _, _, _]) Tryz.func58 rfl Tryz.ntmps58 rfl ?_
  repeat' first | refine Y.st ?_ | (refine nw ?_; intro _) | refine Y.kn ?_ | fail
  rename_i b8 b11
  refine GC.loopE (ι := { i : Nat × Option Nat // i.1 ≤ rs.length ∧ i.2 = (List.range i.1).foldl (refStep (fun i => (rs.getD i zeroR).prio) (fun i => wtOf (rs.getD i zeroR)) (fun i => countsL (rs.getD i zeroR) host port alpn)) none ∧ ∀ b, i.2 = some b → b < rs.length })
    (fun i => [(12, .int .i64 ((pickL rs i.1.2).2.1 : Int)), (13, .bool (pickL rs i.1.2).2.2), (14, .int .i64 (i.1.1 : Int))]) [(0, _), (1, _), (2, _), (3, _), (8, _), (11, _)]
    (fun i => (b11, .cells (ruA (pickL rs i.1.2).1) 48 (0, 0)) :: (b8, .cells (ruA zeroR) 48 (0, 0)) :: (by_, .cells #[.slice p rs.length cap] 104 (0, 0)) :: (B ++ F)) (fun i => rs.length - i.1.1) ⟨(0, none), Nat.zero_le _, rfl, fun b h => by cases h⟩ ⟨rfl, rfl, rfl, rfl, rfl, rfl, rfl, rfl, rfl, trivial⟩ (fun _ h => h) ?_
  rintro ⟨⟨k, st⟩, hk, hst, hsl⟩
  dsimp only [List.cons_append, List.nil_append] at hk hst hsl ⊢
  by_cases hlt : k < rs.length
  · have hatF : Go.Tri.Lies W0 ((b11, .cells (ruA (pickL rs st).1) 48 (0, 0)) :: (b8, .cells (ruA zeroR) 48 (0, 0)) :: (by_, .cells #[.slice p rs.length cap] 104 (0, 0)) :: (B ++ F)) p (rs.flatMap ruC) := ((hat W0).app ((b11, .cells (ruA (pickL rs st).1) 48 (0, 0)) :: (b8, .cells (ruA zeroR) 48 (0, 0)) :: (by_, .cells #[.slice p rs.length cap] 104 (0, 0)) :: F)).perm (by exact permC)
    have hal0 : AlpnAt W0 ((b11, .cells (ruA (pickL rs st).1) 48 (0, 0)) :: (b8, .cells (ruA zeroR) 48 (0, 0)) :: (by_, .cells #[.slice p rs.length cap] 104 (0, 0)) :: (B ++ F)) v3 alpn := hal.imp (fun φ hφ => (((hφ.app B).cons _).cons _).cons _)
    obtain ⟨b1, o1, rfl, hc1⟩ := lies_get hatF hlt
    have h1 := hc1 k hlt
    have hsm := getD_small hs hlt
    have hpl := hsm.2.1
    repeat' first | refine Y.st ?_ | (refine nw ?_; intro _) | refine Y.kn ?_ | fail
    refine G.ef rfl rfl rfl (Eff.callF rfl ((rcounts_spec (rs.getD k zeroR) host port v3 alpn hal0 (by omega) (by omega)).mono ?_))
    rintro v H' ⟨rfl, rfl⟩
    have hnext : ∀ o, refStep (fun i => (rs.getD i zeroR).prio) (fun i => wtOf (rs.getD i zeroR)) (fun i => countsL (rs.getD i zeroR) host port alpn) st k = o → o = (List.range (k + 1)).foldl (refStep (fun i => (rs.getD i zeroR).prio) (fun i => wtOf (rs.getD i zeroR)) (fun i => countsL (rs.getD i zeroR) host port alpn)) none := fun o ho => by
      rw [List.range_succ, List.foldl_append, ← hst]; exact ho.symm
    cases hcn : countsL (rs.getD k zeroR) host port alpn with
    | false =>
      repeat' first | refine Y.st ?_ | (refine nw ?_; intro _) | refine Y.kn ?_ | fail
      refine GC.drawnH [(0, .read), (1, .read), (2, .read), (3, .read), (4, .read), (5, .read), (6, .read), (7, .read), (8, .read), (9, .read), (10, .read), (11, .read), (12, .read), (13, .tail), (14, .tail), (15, .tail)] (by kernel_rfl) (by kernel_rfl) rfl ?_
      repeat' first | refine Y.st ?_ | (refine nw ?_; intro _) | refine Y.kn ?_ | (refine sp ?_ ?_ <;> intro _) | fail
      exact GQ.back ⟨(k + 1, st), by omega, hnext _ (refStep_no hcn), hsl⟩ (by simp only; omega) ⟨rfl, rfl, rfl, rfl, rfl, rfl, rfl, rfl, rfl, trivial⟩ (fun _ h => h)
    | true =>
      cases st with
      | none =>
        repeat' first | refine Y.st ?_ | (refine nw ?_; intro _) | refine Y.kn ?_ | fail
        refine GC.drawnH [(0, .read), (1, .read), (2, .read), (3, .read), (4, .read), (5, .read), (6, .read), (7, .read), (8, .read), (9, .read), (10, .read), (11, .read), (12, .read), (13, .tail), (14, .tail), (15, .tail)] (by kernel_rfl) (by kernel_rfl) rfl ?_
        repeat' first | refine Y.st ?_ | (refine nw ?_; intro _) | refine Y.kn ?_ | (refine sp ?_ ?_ <;> intro _) | fail
        exact GQ.back ⟨(k + 1, some k), by omega, hnext _ (refStep_first hcn), fun b hb => by cases hb; exact hlt⟩ (by simp only; omega) ⟨rfl, rfl, rfl, rfl, rfl, rfl, rfl, rfl, rfl, trivial⟩ (fun _ h => h)
      | some a =>
        have hal9 := hsl a rfl
        have hsa := getD_small hs hal9
        have hsal := hsa.2.1
        cases hls : lessL (rs.getD a zeroR) (rs.getD k zeroR) with
        | true =>
          repeat' first | refine Y.st ?_ | (refine nw ?_; intro _) | refine Y.kn ?_ | fail
          refine GC.drawnH [(0, .read), (1, .read), (2, .read), (3, .read), (4, .read), (5, .read), (6, .read), (7, .read), (8, .read), (9, .read), (10, .read), (11, .read), (12, .read), (13, .tail), (14, .tail), (15, .tail)] (by kernel_rfl) (by kernel_rfl) rfl ?_
          repeat' first | refine Y.st ?_ | (refine nw ?_; intro _) | refine Y.kn ?_ | fail
          refine G.ef rfl rfl rfl (Eff.callF rfl ((less_spec (rs.getD a zeroR) (rs.getD k zeroR) (by omega) (by omega)).mono ?_))
          rintro v H' ⟨rfl, rfl⟩
          repeat' first | refine Y.st ?_ | (refine nw ?_; intro _) | refine Y.kn ?_ | (refine sp ?_ ?_ <;> intro _) | fail
          exact GQ.back ⟨(k + 1, some k), by omega, hnext _ (refStep_more hcn (by rw [← less_ref hfine hal9 hlt]; exact hls)), fun b hb => by cases hb; exact hlt⟩ (by simp only; omega) ⟨rfl, rfl, rfl, rfl, rfl, rfl, rfl, rfl, rfl, trivial⟩ (fun _ h => h)
        | false =>
          repeat' first | refine Y.st ?_ | (refine nw ?_; intro _) | refine Y.kn ?_ | fail
          refine GC.drawnH [(0, .read), (1, .read), (2, .read), (3, .read), (4, .read), (5, .read), (6, .read), (7, .read), (8, .read), (9, .read), (10, .read), (11, .read), (12, .read), (13, .tail), (14, .tail), (15, .tail)] (by kernel_rfl) (by kernel_rfl) rfl ?_
          repeat' first | refine Y.st ?_ | (refine nw ?_; intro _) | refine Y.kn ?_ | fail
          refine G.ef rfl rfl rfl (Eff.callF rfl ((less_spec (rs.getD a zeroR) (rs.getD k zeroR) (by omega) (by omega)).mono ?_))
          rintro v H' ⟨rfl, rfl⟩
          repeat' first | refine Y.st ?_ | (refine nw ?_; intro _) | refine Y.kn ?_ | (refine sp ?_ ?_ <;> intro _) | fail
          exact GQ.back ⟨(k + 1, some a), by omega, hnext _ (refStep_less hcn (by rw [← less_ref hfine hal9 hlt]; exact hls)), hsl⟩ (by simp only; omega) ⟨rfl, rfl, rfl, rfl, rfl, rfl, rfl, rfl, rfl, trivial⟩ (fun _ h => h)
  · obtain rfl : k = rs.length := by omega
    have hfin : st = refB rs host port alpn := hst
    rw [← hfin]
    repeat' first | refine Y.st ?_ | (refine nw ?_; intro _) | refine Y.kn ?_ | (refine sp ?_ ?_ <;> intro _) | fail
    refine GQ.res3h (v := ruV (pickL rs st).1) rfl (.aggA rfl rfl) (.tmp rfl) (.tmp rfl) ((by_, .cells #[.slice p rs.length cap] 104 (0, 0)) :: (B ++ F)) (fun w hw => hw.sub ((List.sublist_cons_self _ _).trans (List.sublist_cons_self _ _))) ⟨rfl, rfl⟩
end
end Go.Tri

namespace Go.Dec
open Go.Own Go.Proofs Go.RowKit Go.Lib Go.Asc Go.Adr Go.Nam Go.Tri Go.Cid Go.Pol Go.Pin Go.Rfn
attribute [local irreducible] GC GQ G Rd Eff T
set_option maxRecDepth 20000
set_option maxHeartbeats 4000000
/-- The document's judge, among what is owned. -/
def RJudQ (p : Pol) (rv pv : Value) (bj : Nat) (H : Heap) : Prop := ∃ bt bn TH NH, H = (bj, .cells #[.bool p.allow, rv, pv, .pointer (some ⟨bt, 0, none⟩), .pointer (some ⟨bn, 0, none⟩)] 108 (0, 0)) :: (TH ++ NH) ∧ RefQ p.rules bt TH ∧ RTabQ (addAllT p.pins) bn NH ∧ rightP p = 0
section
variable {W0 : World} {F : Heap}
attribute [local irreducible] normalL rightC ofL Lit.wf pinErr okP addC addT addAllT checkT rightP addL findB
theorem rdnew_spec {p : Pol} {rv pv : Value} (hp : PolAt W0 F p rv pv) : T Tryz.prog W0 13 #[polV p rv pv] F
    (fun v H' => (rightP p ≠ 0 ∧ v = .tuple #[.pointer none, .int .i64 (rightP p)] ∧ H' = F) ∨ (rightP p = 0 ∧ ∃ bj JH, v = .tuple #[.pointer (some ⟨bj, 0, none⟩), .int .i64 0] ∧ RJudQ p rv pv bj JH ∧ H' = JH ++ F)) := by
  have hP := hp
  obtain ⟨hr, hpn, sr, sp, sn, rl, pl⟩ := hp
  have hr' := hr
  have hpn' := hpn
  obtain ⟨pa, ca, rfl, hca, hat⟩ := hr'
  obtain ⟨pb, cb, rfl, hcb, hbt⟩ := hpn'
  refine T.intro (args := [_]) Tryz.func13 rfl Tryz.ntmps13 rfl ?_
  repeat' first | refine Y.st ?_ | (refine nw ?_; intro _) | refine Y.kn ?_ | fail
  rename_i b1
  refine G.ef rfl rfl rfl (Eff.callF rfl ((rright19_spec ⟨hr.imp (fun _ hφ => hφ.cons _), hpn.imp (fun _ hφ => hφ.cons _), sr, sp, sn, rl, pl⟩).mono ?_))
  rintro v H' ⟨rfl, rfl⟩
  by_cases h0 : rightP p = 0
  case neg =>
    repeat' first | refine Y.st ?_ | (refine nw ?_; intro _) | refine Y.kn ?_ | fail
    refine GQ.heap (H' := F) ?_ (fun w hw => hw.sub (List.sublist_cons_self _ _))
    exact GQ.done2 rfl rfl rfl (.inl ⟨h0, rfl, rfl⟩)
  have hfine := right_rules h0
  repeat' first | refine Y.st ?_ | (refine nw ?_; intro _) | refine Y.kn ?_ | fail
  refine G.rd (Rd.build (cells := #[.slice none 0 0]) rfl (by rfl)) rfl rfl ?_
  refine G.ef rfl rfl rfl (Eff.boxA rfl (fun by_ => ?_))
  have hU : RefQ [] by_ [(by_, Obj.cells #[.slice none 0 0] 104 (0, 0))] := ⟨.slice none 0 0, [], .nil, rfl, by simp, by simp, fine_nil⟩
  refine G.heap (H' := [(by_, Obj.cells #[.slice none 0 0] 104 (0, 0))] ++ ((b1, .cells #[.bool p.allow, .slice pa p.rules.length ca, .slice pb p.pins.length cb] 25 (0, 0)) :: F)) ?_ (fun _ h => h)
  generalize [(by_, Obj.cells #[.slice none 0 0] 104 (0, 0))] = UH at hU ⊢
  repeat' first | refine Y.st ?_ | (refine nw ?_; intro _) | refine Y.kn ?_ | fail
  refine GC.loopE (ι := { q : Nat × Heap // q.1 ≤ p.rules.length ∧ RefQ (p.rules.take q.1) by_ q.2 }) (fun i => [(6, .int .i64 (i.1.1 : Int))]) [(1, _), (5, _)]
    (fun q => q.1.2 ++ ((b1, .cells #[.bool p.allow, .slice pa p.rules.length ca, .slice pb p.pins.length cb] 25 (0, 0)) :: F)) (fun q => p.rules.length - q.1.1) ⟨(0, UH), Nat.zero_le _, hU⟩ ⟨rfl, rfl, rfl, trivial⟩ (fun _ h => h) ?_
  rintro ⟨⟨k, UH⟩, hk, hU⟩
  dsimp only [List.cons_append, List.nil_append] at hk hU ⊢
  by_cases hlt : k < p.rules.length
  · obtain ⟨b, o, rfl, hc1⟩ := lies_get ((hat.cons (b1, .cells #[.bool p.allow, .slice pa p.rules.length ca, .slice pb p.pins.length cb] 25 (0, 0))).app UH) hlt
    have h1 := hc1 k hlt
    have hS := sr _ (getD_mem hlt)
    have htk := take_getD p.rules zeroR hlt
    have herr := rulesErr_take hfine hlt
    rw [show p.rules[k] = p.rules.getD k zeroR by rw [List.getD_eq_getElem?_getD, List.getElem?_eq_getElem hlt]; rfl] at herr
    generalize hrk : p.rules.getD k zeroR = r at h1 hS htk herr
    repeat' first | refine Y.st ?_ | (refine nw ?_; intro _) | refine Y.kn ?_ | fail
    refine G.ef rfl rfl rfl (Eff.callF rfl ((radd_spec hU r hS).mono ?_))
    rintro u H' ⟨rfl, UH2, hU2, hp2⟩
    refine G.heap ?_ (fun w hw => hw.perm hp2)
    rw [add_ok herr, ← htk] at hU2
    repeat' first | refine Y.st ?_ | (refine nw ?_; intro _) | refine Y.kn ?_ | fail
    exact GQ.back ⟨(k + 1, UH2), by omega, hU2⟩ (by simp only; omega) ⟨rfl, rfl, rfl, trivial⟩ (fun w hw => hw)
  obtain rfl : k = p.rules.length := by omega
  rw [List.take_length] at hU
  repeat' first | refine Y.st ?_ | (refine nw ?_; intro _) | refine Y.kn ?_ | fail
  refine GC.drawn [(0, .read), (1, .read), (2, .read), (3, .read), (4, .eff), (5, .read), (6, .tail), (7, .tail), (8, .tail)] ([(b1, .cells #[.bool p.allow, .slice pa p.rules.length ca, .slice pb p.pins.length cb] 25 (0, 0))]) (by kernel_rfl) (by kernel_rfl) rfl ?_
  iterate 4 refine Y.one ?_
  refine G.ee rfl rfl rfl (Eff.callF rfl ((rtnew_spec ((hpn.imp (fun _ hφ => hφ.cons (b1, .cells #[.bool p.allow, .slice pa p.rules.length ca, .slice pb p.pins.length cb] 25 (0, 0)))).imp (fun _ hφ => hφ.app UH)) sp sn pl).mono ?_))
  rintro u H' ⟨bn, NH, rfl, hN, rfl⟩
  refine ⟨SubH.app (h := SubH.app (h := SubH.cons2 (h := SubH.nil))), ?_⟩
  haveI : SubH [(b1, .cells #[.bool p.allow, .slice pa p.rules.length ca, .slice pb p.pins.length cb] 25 (0, 0))] (NH ++ (UH ++ ((b1, .cells #[.bool p.allow, .slice pa p.rules.length ca, .slice pb p.pins.length cb] 25 (0, 0)) :: F))) := SubH.app (h := SubH.app (h := SubH.cons2 (h := SubH.nil)))
  refine G.rd (Rd.build (cells := #[.bool p.allow, .slice pa p.rules.length ca, .slice pb p.pins.length cb, .pointer (some ⟨by_, 0, none⟩), .pointer (some ⟨bn, 0, none⟩)]) rfl (by rfl)) rfl rfl ?_
  refine G.ef rfl rfl rfl (Eff.boxA rfl (fun bj => ?_))
  repeat' first | refine Y.st ?_ | (refine nw ?_; intro _) | refine Y.kn ?_ | fail
  refine GQ.heap (H' := ((bj, .cells #[.bool p.allow, .slice pa p.rules.length ca, .slice pb p.pins.length cb, .pointer (some ⟨by_, 0, none⟩), .pointer (some ⟨bn, 0, none⟩)] 108 (0, 0)) :: (UH ++ NH)) ++ F) ?_ (fun w hw => (hw.perm (show ((bj, .cells #[.bool p.allow, .slice pa p.rules.length ca, .slice pb p.pins.length cb, .pointer (some ⟨by_, 0, none⟩), .pointer (some ⟨bn, 0, none⟩)] 108 (0, 0)) :: (NH ++ (UH ++ ((b1, .cells #[.bool p.allow, .slice pa p.rules.length ca, .slice pb p.pins.length cb] 25 (0, 0)) :: F)))).Perm ((b1, .cells #[.bool p.allow, .slice pa p.rules.length ca, .slice pb p.pins.length cb] 25 (0, 0)) :: (((bj, .cells #[.bool p.allow, .slice pa p.rules.length ca, .slice pb p.pins.length cb, .pointer (some ⟨by_, 0, none⟩), .pointer (some ⟨bn, 0, none⟩)] 108 (0, 0)) :: (UH ++ NH)) ++ F)) by exact permC)).sub (List.sublist_cons_self _ _))
  exact GQ.done2 rfl rfl rfl (.inr ⟨h0, bj, _, rfl, ⟨by_, bn, UH, NH, rfl, hU, hN, h0⟩, rfl⟩)
theorem rddecide_spec {p : Pol} {rv pv : Value} {bj : Nat} {JH : Heap} (h : RJudQ p rv pv bj JH) (v : Vw) (a : List UInt8) (n : Int) (ha : a.length = 16) (now : Int) (hh : v.host.length ≤ 2000000) (alpn : List Lb) (hal : AlpnAt W0 F v.al alpn) :
    T Tryz.prog W0 17 #[.pointer (some ⟨bj, 0, none⟩), vwV v, dsV a n, .int .i64 now] (JH ++ F) (fun u H' => u = dcV (decL p v.st v.host v.port alpn a n now) ∧ H' = JH ++ F) := by
  obtain ⟨bt, bn, TH, NH, rfl, hT, hN, hR⟩ := h
  have hle := all_le p.pins
  have hpl := (rightP_iff.1 hR).2.1
  have hfr := find_ref (right_fine hR) v.host n alpn
  simp only [List.cons_append]
  refine T.intro (args := [_, _, _, _]) Tryz.func17 rfl Tryz.ntmps17 rfl ?_
  repeat' first | refine Y.st ?_ | (refine nw ?_; intro _) | refine Y.kn ?_ | fail
  rename_i b5 b6 b8
  have fin0 : ∀ (y : Nat × Obj) w, Own W0 (y :: (b6, .cells (u8s a ++ [Value.int .i64 n]).toArray 36 (0, 0)) :: (b5, .cells (vwA v) 32 (0, 0)) :: (bj, .cells #[.bool p.allow, rv, pv, .pointer (some ⟨bt, 0, none⟩), .pointer (some ⟨bn, 0, none⟩)] 108 (0, 0)) :: (TH ++ NH ++ F)) w → Own W0 (((bj, .cells #[.bool p.allow, rv, pv, .pointer (some ⟨bt, 0, none⟩), .pointer (some ⟨bn, 0, none⟩)] 108 (0, 0)) :: (TH ++ NH)) ++ F) w := fun y w hw => hw.sub (((List.sublist_cons_self _ _).trans (List.sublist_cons_self _ _)).trans (List.sublist_cons_self _ _))
  by_cases h0 : v.st = 0
  · have hd : decL p v.st v.host v.port alpn a n now = ⟨false, 5, -1⟩ := by
      have hr : refuseL p v.st v.host v.port a n now = 5 := by unfold refuseL; rw [if_pos h0]
      rw [dec_stop (by rw [hr]; omega), hr]
    repeat' first | refine Y.st ?_ | (refine nw ?_; intro _) | refine Y.kn ?_ | fail
    refine G.rd (Rd.build (cells := dcA ⟨false, 5, -1⟩) rfl (by rfl)) rfl rfl ?_
    repeat' first | refine Y.st ?_ | (refine nw ?_; intro _) | refine Y.kn ?_ | fail
    exact GQ.res1h (v := dcV ⟨false, 5, -1⟩) rfl (.aggA rfl rfl) _ (fin0 _) ⟨by rw [hd], rfl⟩
  by_cases h1 : v.st = 1
  case neg =>
    have hd : decL p v.st v.host v.port alpn a n now = ⟨false, 4, -1⟩ := by
      have hr : refuseL p v.st v.host v.port a n now = 4 := by unfold refuseL; rw [if_neg h0, if_pos h1]
      rw [dec_stop (by rw [hr]; omega), hr]
    repeat' first | refine Y.st ?_ | (refine nw ?_; intro _) | refine Y.kn ?_ | fail
    refine G.rd (Rd.build (cells := dcA ⟨false, 4, -1⟩) rfl (by rfl)) rfl rfl ?_
    repeat' first | refine Y.st ?_ | (refine nw ?_; intro _) | refine Y.kn ?_ | fail
    exact GQ.res1h (v := dcV ⟨false, 4, -1⟩) rfl (.aggA rfl rfl) _ (fin0 _) ⟨by rw [hd], rfl⟩
  by_cases h4 : v.port ≠ 0 ∧ v.port ≠ n
  · have hd : decL p v.st v.host v.port alpn a n now = ⟨false, 3, -1⟩ := by
      have hr : refuseL p v.st v.host v.port a n now = 3 := by unfold refuseL; rw [if_neg h0, if_neg (fun e => e h1), if_pos h4]
      rw [dec_stop (by rw [hr]; omega), hr]
    obtain ⟨h2, h3⟩ := h4
    repeat' first | refine Y.st ?_ | (refine nw ?_; intro _) | refine Y.kn ?_ | fail
    refine G.rd (Rd.dsPort rfl rfl ha) rfl rfl ?_
    repeat' first | refine Y.st ?_ | (refine nw ?_; intro _) | refine Y.kn ?_ | fail
    refine G.rd (Rd.build (cells := dcA ⟨false, 3, -1⟩) rfl (by rfl)) rfl rfl ?_
    repeat' first | refine Y.st ?_ | (refine nw ?_; intro _) | refine Y.kn ?_ | fail
    exact GQ.res1h (v := dcV ⟨false, 3, -1⟩) rfl (.aggA rfl rfl) _ (fin0 _) ⟨by rw [hd], rfl⟩
  have hr : refuseL p v.st v.host v.port a n now = if checkT (addAllT p.pins) v.host a now = 2 then 2 else -1 := by
    unfold refuseL; rw [if_neg h0, if_neg (fun e => e h1), if_neg h4]
  by_cases h2 : v.port = 0
  case' pos => repeat' first | refine Y.st ?_ | (refine nw ?_; intro _) | refine Y.kn ?_ | fail
  case' neg =>
    have h3 : v.port = n := Classical.byContradiction fun e => h4 ⟨h2, e⟩
    repeat' first | refine Y.st ?_ | (refine nw ?_; intro _) | refine Y.kn ?_ | fail
    refine G.rd (Rd.dsPort rfl rfl ha) rfl rfl ?_
    repeat' first | refine Y.st ?_ | (refine nw ?_; intro _) | refine Y.kn ?_ | fail
  all_goals
    refine GC.drawn [(0, .read), (1, .read), (2, .read), (3, .read), (4, .read), (5, .read), (6, .read), (7, .read), (8, .read), (9, .tail), (10, .tail), (11, .tail)] ([(b6, .cells (u8s a ++ [Value.int .i64 n]).toArray 36 (0, 0)), (b5, .cells (vwA v) 32 (0, 0)), (bj, .cells #[.bool p.allow, rv, pv, .pointer (some ⟨bt, 0, none⟩), .pointer (some ⟨bn, 0, none⟩)] 108 (0, 0))]) (by kernel_rfl) (by kernel_rfl) rfl ?_
    iterate 7 refine Y.one ?_
    refine G.rd (Rd.dsAddr rfl rfl ha) rfl rfl ?_
    iterate 1 refine Y.one ?_
    refine G.ef rfl rfl rfl (Eff.callP (first := #[]) (captured := #[]) rfl rfl (H' := NH ++ ((b8, .cells #[.bool false, .int .i64 0, .int .i64 0] 54 (0, 0)) :: (b6, .cells (u8s a ++ [Value.int .i64 n]).toArray 36 (0, 0)) :: (b5, .cells (vwA v) 32 (0, 0)) :: (bj, .cells #[.bool p.allow, rv, pv, .pointer (some ⟨bt, 0, none⟩), .pointer (some ⟨bn, 0, none⟩)] 108 (0, 0)) :: (TH ++ F))) (by exact permC) ((rtcheck_spec hN (by omega) v.host a ha now).mono ?_))
    rintro u H' ⟨rfl, rfl⟩
    by_cases h5 : checkT (addAllT p.pins) v.host a now = 2
    · rw [if_pos h5] at hr
      have hd : decL p v.st v.host v.port alpn a n now = ⟨false, 2, -1⟩ := by rw [dec_stop (by rw [hr]; omega), hr]
      repeat' first | refine Y.st ?_ | (refine nw ?_; intro _) | refine Y.kn ?_ | fail
      refine G.rd (Rd.build (cells := dcA ⟨false, 2, -1⟩) rfl (by rfl)) rfl rfl ?_
      repeat' first | refine Y.st ?_ | (refine nw ?_; intro _) | refine Y.kn ?_ | fail
      exact GQ.res1h (v := dcV ⟨false, 2, -1⟩) rfl (.aggA rfl rfl) _ (fun w hw => fin0 _ w (hw.perm (show (NH ++ ((b8, .cells (dcA ⟨false, 2, -1⟩) 54 (0, 0)) :: (b6, .cells (u8s a ++ [Value.int .i64 n]).toArray 36 (0, 0)) :: (b5, .cells (vwA v) 32 (0, 0)) :: (bj, .cells #[.bool p.allow, rv, pv, .pointer (some ⟨bt, 0, none⟩), .pointer (some ⟨bn, 0, none⟩)] 108 (0, 0)) :: (TH ++ F))).Perm ((b8, .cells (dcA ⟨false, 2, -1⟩) 54 (0, 0)) :: (b6, .cells (u8s a ++ [Value.int .i64 n]).toArray 36 (0, 0)) :: (b5, .cells (vwA v) 32 (0, 0)) :: (bj, .cells #[.bool p.allow, rv, pv, .pointer (some ⟨bt, 0, none⟩), .pointer (some ⟨bn, 0, none⟩)] 108 (0, 0)) :: (TH ++ NH ++ F)) by exact permC))) ⟨by rw [hd], rfl⟩
    rw [if_neg h5] at hr
    have hd := dec_pass (alpn := alpn) hr
    rw [hfr] at hd
    repeat' first | refine Y.st ?_ | (refine nw ?_; intro _) | refine Y.kn ?_ | fail
    refine GC.heap (H' := TH ++ ((bj, .cells #[.bool p.allow, rv, pv, .pointer (some ⟨bt, 0, none⟩), .pointer (some ⟨bn, 0, none⟩)] 108 (0, 0)) :: (NH ++ ((b8, .cells #[.bool false, .int .i64 0, .int .i64 0] 54 (0, 0)) :: (b6, .cells (u8s a ++ [Value.int .i64 n]).toArray 36 (0, 0)) :: (b5, .cells (vwA v) 32 (0, 0)) :: F)))) ?_ (fun w hw => hw.perm (by exact permC))
    haveI s0 : SubH [(bj, .cells #[.bool p.allow, rv, pv, .pointer (some ⟨bt, 0, none⟩), .pointer (some ⟨bn, 0, none⟩)] 108 (0, 0)), (b6, .cells (u8s a ++ [Value.int .i64 n]).toArray 36 (0, 0)), (b5, .cells (vwA v) 32 (0, 0))] (TH ++ ((bj, .cells #[.bool p.allow, rv, pv, .pointer (some ⟨bt, 0, none⟩), .pointer (some ⟨bn, 0, none⟩)] 108 (0, 0)) :: (NH ++ ((b8, .cells #[.bool false, .int .i64 0, .int .i64 0] 54 (0, 0)) :: (b6, .cells (u8s a ++ [Value.int .i64 n]).toArray 36 (0, 0)) :: (b5, .cells (vwA v) 32 (0, 0)) :: F)))) := SubH.app (h := SubH.cons2 (h := SubH.app (h := SubH.skip (h := SubH.cons2 (h := SubH.cons2 (h := SubH.nil))))))
    haveI s2 : ∀ x, SubH [(bj, .cells #[.bool p.allow, rv, pv, .pointer (some ⟨bt, 0, none⟩), .pointer (some ⟨bn, 0, none⟩)] 108 (0, 0)), (b6, .cells (u8s a ++ [Value.int .i64 n]).toArray 36 (0, 0)), (b5, .cells (vwA v) 32 (0, 0))] (x :: (TH ++ ((bj, .cells #[.bool p.allow, rv, pv, .pointer (some ⟨bt, 0, none⟩), .pointer (some ⟨bn, 0, none⟩)] 108 (0, 0)) :: (NH ++ ((b8, .cells #[.bool false, .int .i64 0, .int .i64 0] 54 (0, 0)) :: (b6, .cells (u8s a ++ [Value.int .i64 n]).toArray 36 (0, 0)) :: (b5, .cells (vwA v) 32 (0, 0)) :: F))))) := fun x => SubH.skip (h := s0)
    have fin : ∀ (x y : Nat × Obj) w, Own W0 (x :: (TH ++ ((bj, .cells #[.bool p.allow, rv, pv, .pointer (some ⟨bt, 0, none⟩), .pointer (some ⟨bn, 0, none⟩)] 108 (0, 0)) :: (NH ++ (y :: (b6, .cells (u8s a ++ [Value.int .i64 n]).toArray 36 (0, 0)) :: (b5, .cells (vwA v) 32 (0, 0)) :: F))))) w → Own W0 (((bj, .cells #[.bool p.allow, rv, pv, .pointer (some ⟨bt, 0, none⟩), .pointer (some ⟨bn, 0, none⟩)] 108 (0, 0)) :: (TH ++ NH)) ++ F) w := fun x y w hw =>
      (hw.perm (show (x :: (TH ++ ((bj, .cells #[.bool p.allow, rv, pv, .pointer (some ⟨bt, 0, none⟩), .pointer (some ⟨bn, 0, none⟩)] 108 (0, 0)) :: (NH ++ (y :: (b6, .cells (u8s a ++ [Value.int .i64 n]).toArray 36 (0, 0)) :: (b5, .cells (vwA v) 32 (0, 0)) :: F))))).Perm (x :: y :: (b6, .cells (u8s a ++ [Value.int .i64 n]).toArray 36 (0, 0)) :: (b5, .cells (vwA v) 32 (0, 0)) :: (((bj, .cells #[.bool p.allow, rv, pv, .pointer (some ⟨bt, 0, none⟩), .pointer (some ⟨bn, 0, none⟩)] 108 (0, 0)) :: (TH ++ NH)) ++ F)) by exact permC)).sub ((((List.sublist_cons_self _ _).trans (List.sublist_cons_self _ _)).trans (List.sublist_cons_self _ _)).trans (List.sublist_cons_self _ _))
    refine GC.any [] [(bj, .cells #[.bool p.allow, rv, pv, .pointer (some ⟨bt, 0, none⟩), .pointer (some ⟨bn, 0, none⟩)] 108 (0, 0)), (b6, .cells (u8s a ++ [Value.int .i64 n]).toArray 36 (0, 0)), (b5, .cells (vwA v) 32 (0, 0))] 20 rfl (by kernel_rfl) ?_
    refine GA.read 0 rfl (by kernel_rfl) (by kernel_rfl) (fun w hw => hw.sub s0.out) (Rd.move rfl) rfl rfl ?_
    refine GA.read 1 rfl (by kernel_rfl) (by kernel_rfl) (fun w hw => hw.sub s0.out) (Rd.nilCheck rfl) rfl rfl ?_
    refine GA.read 2 rfl (by kernel_rfl) (by kernel_rfl) (fun w hw => hw.sub s0.out) (Rd.fieldAddr rfl) rfl rfl ?_
    refine GA.read 3 rfl (by kernel_rfl) (by kernel_rfl) (fun w hw => hw.sub s0.out) (Rd.load rfl (cellH rfl)) rfl rfl ?_
    refine GA.read 4 rfl (by kernel_rfl) (by kernel_rfl) (fun w hw => hw.sub s0.out) (Rd.fieldAddr rfl) rfl rfl ?_
    refine GA.read 5 rfl (by kernel_rfl) (by kernel_rfl) (fun w hw => hw.sub s0.out) (Rd.load rfl (cellH rfl)) rfl rfl ?_
    refine GA.read 6 rfl (by kernel_rfl) (by kernel_rfl) (fun w hw => hw.sub s0.out) (Rd.fieldAddr rfl) rfl rfl ?_
    refine GA.read 7 rfl (by kernel_rfl) (by kernel_rfl) (fun w hw => hw.sub s0.out) (Rd.dsPort rfl rfl ha) rfl rfl ?_
    refine GA.read 8 rfl (by kernel_rfl) (by kernel_rfl) (fun w hw => hw.sub s0.out) (Rd.fieldAddr rfl) rfl rfl ?_
    refine GA.read 9 rfl (by kernel_rfl) (by kernel_rfl) (fun w hw => hw.sub s0.out) (Rd.fieldAddr rfl) rfl rfl ?_
    refine GA.read 10 rfl (by kernel_rfl) (by kernel_rfl) (fun w hw => hw.sub s0.out) (Rd.load rfl (cellH rfl)) rfl rfl ?_
    refine GA.two 11 16 (by kernel_rfl) rfl rfl rfl rfl rfl rfl (Eff.callF rfl ((rfind_spec hT v.host hh n v.al alpn (hal.imp (fun φ hφ => (((((hφ.cons (b5, .cells (vwA v) 32 (0, 0))).cons (b6, .cells (u8s a ++ [Value.int .i64 n]).toArray 36 (0, 0))).cons (b8, .cells #[.bool false, .int .i64 0, .int .i64 0] 54 (0, 0))).app NH).cons (bj, .cells #[.bool p.allow, rv, pv, .pointer (some ⟨bt, 0, none⟩), .pointer (some ⟨bn, 0, none⟩)] 108 (0, 0)))))).mono ?_)) (Eff.allocAA (fun b10 => ⟨fun _ w hw => hw.sub (s2 _).out, ?_⟩))
    rintro u H' ⟨rfl, rfl⟩
    refine ⟨fun _ w hw => hw.sub s0.out, ?_⟩
    refine GA.toG [(12, .read), (13, .read), (14, .read), (15, .read), (16, .eff), (17, .eff), (18, .read), (19, .read)] (by kernel_rfl) rfl ?_
    rw [show resV (pickL p.rules (refB p.rules v.host n alpn)) = .tuple #[ruV (pickL p.rules (refB p.rules v.host n alpn)).1, .int .i64 ((pickL p.rules (refB p.rules v.host n alpn)).2.1 : Int), .bool (pickL p.rules (refB p.rules v.host n alpn)).2.2] from rfl]
    iterate 4 refine Y.one ?_
    refine G.ee rfl rfl rfl (Eff.allocAA (fun b10 => ?_))
    refine ⟨s2 _, ?_⟩
    rotate_left
    refine GA.toG [(11, .eff), (12, .read), (13, .read), (14, .read), (15, .read), (17, .eff), (18, .read), (19, .read)] (by kernel_rfl) rfl ?_
    refine G.ee rfl rfl rfl (Eff.callP (first := #[]) (captured := #[]) rfl rfl (H' := TH ++ ((b10, .cells (ruA zeroR) 48 (0, 0)) :: ((bj, .cells #[.bool p.allow, rv, pv, .pointer (some ⟨bt, 0, none⟩), .pointer (some ⟨bn, 0, none⟩)] 108 (0, 0)) :: (NH ++ ((b8, .cells #[.bool false, .int .i64 0, .int .i64 0] 54 (0, 0)) :: (b6, .cells (u8s a ++ [Value.int .i64 n]).toArray 36 (0, 0)) :: (b5, .cells (vwA v) 32 (0, 0)) :: F))))) List.perm_middle.symm ((rfind_spec hT v.host hh n v.al alpn (hal.imp (fun φ hφ => ((((((hφ.cons (b5, .cells (vwA v) 32 (0, 0))).cons (b6, .cells (u8s a ++ [Value.int .i64 n]).toArray 36 (0, 0))).cons (b8, .cells #[.bool false, .int .i64 0, .int .i64 0] 54 (0, 0))).app NH).cons (bj, .cells #[.bool p.allow, rv, pv, .pointer (some ⟨bt, 0, none⟩), .pointer (some ⟨bn, 0, none⟩)] 108 (0, 0))).cons (b10, .cells (ruA zeroR) 48 (0, 0)))))).mono ?_))
    rintro u H' ⟨rfl, rfl⟩
    haveI s3 : SubH [(bj, .cells #[.bool p.allow, rv, pv, .pointer (some ⟨bt, 0, none⟩), .pointer (some ⟨bn, 0, none⟩)] 108 (0, 0)), (b6, .cells (u8s a ++ [Value.int .i64 n]).toArray 36 (0, 0)), (b5, .cells (vwA v) 32 (0, 0))] (TH ++ ((b10, .cells (ruA zeroR) 48 (0, 0)) :: ((bj, .cells #[.bool p.allow, rv, pv, .pointer (some ⟨bt, 0, none⟩), .pointer (some ⟨bn, 0, none⟩)] 108 (0, 0)) :: (NH ++ ((b8, .cells #[.bool false, .int .i64 0, .int .i64 0] 54 (0, 0)) :: (b6, .cells (u8s a ++ [Value.int .i64 n]).toArray 36 (0, 0)) :: (b5, .cells (vwA v) 32 (0, 0)) :: F))))) := SubH.app (h := SubH.skip (h := SubH.cons2 (h := SubH.app (h := SubH.skip (h := SubH.cons2 (h := SubH.cons2 (h := SubH.nil)))))))
    refine ⟨s3, ?_⟩
    rw [show resV (pickL p.rules (refB p.rules v.host n alpn)) = .tuple #[ruV (pickL p.rules (refB p.rules v.host n alpn)).1, .int .i64 ((pickL p.rules (refB p.rules v.host n alpn)).2.1 : Int), .bool (pickL p.rules (refB p.rules v.host n alpn)).2.2] from rfl]
    iterate 4 refine Y.one ?_
    refine G.heap (H' := (b10, .cells (ruA zeroR) 48 (0, 0)) :: (TH ++ ((bj, .cells #[.bool p.allow, rv, pv, .pointer (some ⟨bt, 0, none⟩), .pointer (some ⟨bn, 0, none⟩)] 108 (0, 0)) :: (NH ++ ((b8, .cells #[.bool false, .int .i64 0, .int .i64 0] 54 (0, 0)) :: (b6, .cells (u8s a ++ [Value.int .i64 n]).toArray 36 (0, 0)) :: (b5, .cells (vwA v) 32 (0, 0)) :: F))))) ?_ (fun w hw => hw.perm List.perm_middle)
    all_goals
      refine G.ee rfl rfl rfl (Eff.storeLit rfl rfl (by rfl) (by rfl) (by rfl) ?_)
      refine ⟨s2 _, ?_⟩
      cases hf : refB p.rules v.host n alpn with
      | none =>
        rw [hf] at hd
        repeat' first | refine Y.st ?_ | (refine nw ?_; intro _) | refine Y.kn ?_ | fail
        refine G.rd (Rd.build (cells := dcA ⟨p.allow, 1, -1⟩) rfl (by rfl)) rfl rfl ?_
        repeat' first | refine Y.st ?_ | (refine nw ?_; intro _) | refine Y.kn ?_ | fail
        exact GQ.res1h (v := dcV ⟨p.allow, 1, -1⟩) rfl (.aggA rfl rfl) _ (fin _ _) ⟨by rw [hd]; rfl, rfl⟩
      | some i =>
        rw [hf] at hd
        repeat' first | refine Y.st ?_ | (refine nw ?_; intro _) | refine Y.kn ?_ | fail
        refine G.rd (Rd.build (cells := dcA ⟨(p.rules.getD i zeroR).allow, 0, (i : Int)⟩) rfl (by rfl)) rfl rfl ?_
        repeat' first | refine Y.st ?_ | (refine nw ?_; intro _) | refine Y.kn ?_ | fail
        exact GQ.res1h (v := dcV ⟨(p.rules.getD i zeroR).allow, 0, (i : Int)⟩) rfl (.aggA rfl rfl) _ (fin _ _) ⟨by rw [hd]; rfl, rfl⟩
end
end Go.Dec
