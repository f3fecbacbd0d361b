/-
  PINS: what stands ahead of each statement about them: the small case, Few.
  PINS that come in: no longer than what came in is large.
-/
import Derived.Test.YtiemjebpbdmkpaaGreatDoorGPm
import Derived.Test.YtiemjebpbdmkpaaGreatDoorGCi
import Derived.Test.YtiemjebpbdmkpaaGreatDoorGPq
import Derived.Test.YtiemjebpbdmkpaaGreatDoorGNm
import Derived.Test.YtiemjebpbdmkpaaGreatDoorGBk
namespace Go.Pin
open Go.Own Go.Proofs Go.RowKit Go.Lib Go.Asc Go.Adr Go.Nam Go.Tri Go.Cid Go.Pol
attribute [local irreducible] GC GQ G Rd Eff T
set_option maxRecDepth 20000
set_option maxHeartbeats 4000000
def pc : Cd := ⟨[0, 0, 0, 0, 0, 0, 0, 0, 0, 0, 255, 255, 10, 0, 0, 0], 104⟩
def pa : List UInt8 := [0, 0, 0, 0, 0, 0, 0, 0, 0, 0, 255, 255, 10, 1, 2, 3]
theorem pcOf : ofL (aheadL ++ [10, 0, 0, 0]) 104 = pc := by decide +kernel
theorem paOf : aheadL ++ [10, 1, 2, 3] = pa := by decide +kernel
def pn (n : UInt8) (t : Int) : Pn := ⟨[n], pc, t⟩
theorem ptab1 : addAllT [pn 97 5, pn 65 0] = [(([97], pc), 5)] := by decide +kernel
theorem pok9 : okP (pn 97 9) = true := by decide +kernel
theorem ptab2 : addT [(([97], pc), 5)] (pn 97 9) = [(([97], pc), 9)] := by decide +kernel
theorem ptab3 : addT [(([97], pc), 9)] (pn 97 0) = [(([97], pc), 0)] := by decide +kernel
theorem ptab4 : addT [(([97], pc), 0)] (pn 97 2) = [(([97], pc), 0)] := by decide +kernel
theorem pok1 : okP (pn 97 (-1)) = false := by decide +kernel
theorem pck1 : checkT [(([97], pc), 5)] [97] pa 4 = 1 := by decide +kernel
theorem pck2 : checkT [(([97], pc), 5)] [97] zero16 4 = 2 := by decide +kernel
theorem pck3 : checkT [(([97], pc), 5)] [97] pa 5 = 0 := by decide +kernel
theorem pck4 : checkT [(([97], pc), 5)] [98] pa 0 = 0 := by decide +kernel
theorem pck5 : checkT [(([97], pc), 9)] [97] pa 5 = 1 := by decide +kernel
theorem plv : liveL [(([97], pc), 0)] [97] 100 = [pc] := by
  have : liveT [(([97], pc), 0)] [97] 100 = [pc] := by decide +kernel
  unfold liveL; rw [this]; simp [sortC, sortF]
theorem sizPc : SizC pc := ⟨by decide, wf_small (by decide) (by decide)⟩
theorem rightPc : rightC pc = true := by decide +kernel
section
variable {W0 : World} {F : Heap}
attribute [local irreducible] Lit.wf addT addAllT checkT liveL okP rightC ofL
instance [hv : Vars W0] {a b c d : UInt8} : PureF Tryz.prog W0 63 [.agg #[.int .u8 (a.toNat : Int), .int .u8 (b.toNat : Int), .int .u8 (c.toNat : Int), .int .u8 (d.toNat : Int)]] True (.agg (u8s (aheadL ++ [a, b, c, d])).toArray) := ⟨fun _ _ => of4_spec hv [a, b, c, d] rfl⟩
theorem psmall_spec (hv : Vars W0) : T Tryz.prog W0 12 #[] F (fun v H' => v = .bool true ∧ H' = F) := by
  have hS := sizPc
  have hlc : (cdC pc).length = 17 := rfl
  have k0 : ∀ v : Int, (([(([97], pc), v)] : Tab).map Prod.fst).Nodup := fun v => by simp
  have k1 : ∀ v : Int, ∀ e ∈ ([(([97], pc), v)] : Tab), rightC e.1.2 = true := fun v e he => by rw [List.mem_singleton.1 he]; exact rightPc
  have k2 : ∀ v : Int, ∀ e ∈ ([(([97], pc), v)] : Tab), SizC e.1.2 := fun v e he => by rw [List.mem_singleton.1 he]; exact sizPc
  have w104 : (Lit.int .i64 104).wf = true := wf_small (by decide) (by decide)
  have sp : ∀ (n : UInt8) (t : Int), -10 ≤ t → t ≤ 100 → SizP (pn n t) := fun n t h1 h2 => ⟨sizPc, wf_small (by show -9223372036854775808 ≤ t; omega) (by show t ≤ 9223372036854775807; omega), by simp [pn]⟩
  have hspn : ∀ x ∈ [pn 97 5, pn 65 0], SizP x ∧ x.name.length ≤ 2000000 := by
    intro x hx
    simp only [List.mem_cons, List.not_mem_nil, or_false] at hx
    rcases hx with rfl | rfl <;> exact ⟨sp _ _ (by omega) (by omega), by simp [pn]⟩
  refine T.intro (args := []) Tryz.func12 rfl Tryz.ntmps12 rfl ?_
  repeat' first | refine Y.st ?_ | (refine nw ?_; intro _) | refine Y.kn ?_ | fail
  refine G.rd (Rd.build (cells := (u8s [10, 0, 0, 0]).toArray) rfl (by kernel_rfl)) rfl rfl ?_
  refine G.ef rfl rfl rfl (Eff.callF rfl ((of4_spec hv [10, 0, 0, 0] rfl).mono ?_))
  rintro v H' ⟨rfl, rfl⟩
  refine G.ef rfl rfl rfl (Eff.callF rfl ((of_spec (aheadL ++ [10, 0, 0, 0]) 104 rfl w104).mono ?_))
  rintro v H' ⟨rfl, rfl⟩
  rw [pcOf]
  refine G.ef rfl rfl rfl (Eff.allocA (cs := cdC zeroC) (fun b1 => ?_))
  refine G.ef rfl rfl rfl (Eff.storeAll (cs := cdC zeroC) (vs := cdC pc) rfl rfl (cdC_one _) rfl rfl ?_)
  repeat' first | refine Y.st ?_ | (refine nw ?_; intro _) | refine Y.kn ?_ | fail
  refine G.rd (Rd.build (cells := (pnC (pn 97 5)).toArray) rfl (by kernel_rfl)) rfl rfl ?_
  repeat' first | refine Y.st ?_ | (refine nw ?_; intro _) | refine Y.kn ?_ | fail
  refine G.rd (Rd.build (cells := (pnC (pn 65 0)).toArray) rfl (by kernel_rfl)) rfl rfl ?_
  refine G.ef rfl rfl rfl (Eff.buildSlice (cells := ([pn 97 5, pn 65 0].flatMap pnC).toArray) rfl (by kernel_rfl) (by omega) (fun b19 => ?_))
  refine G.ef rfl rfl rfl (Eff.callF rfl ((pnew_spec hv (l := [pn 97 5, pn 65 0]) ⟨some ⟨b19, 0, none⟩, 2, rfl, Nat.le_refl _, .inr ⟨b19, 0, rfl, RO.cells (cs := [pn 97 5, pn 65 0].flatMap pnC) (fun j u hj => by rw [Nat.zero_add]; exact hj)⟩⟩ (fun x hx => (hspn x hx).1) (fun x hx => (hspn x hx).2) (by simp)).mono ?_))
  rintro v H' ⟨bt, TH, rfl, hT, rfl⟩
  rw [ptab1] at hT
  repeat' first | refine Y.st ?_ | (refine nw ?_; intro _) | refine Y.kn ?_ | fail
  refine G.ef rfl rfl rfl (Eff.callF rfl ((plen_spec hT).mono ?_))
  rintro v H' ⟨rfl, rfl⟩
  repeat' first | refine Y.st ?_ | (refine nw ?_; intro _) | refine Y.kn ?_ | fail
  refine G.rd (Rd.build (cells := (u8s [10, 1, 2, 3]).toArray) rfl (by kernel_rfl)) rfl rfl ?_
  refine G.ef rfl rfl rfl (Eff.callF rfl ((of4_spec hv [10, 1, 2, 3] rfl).mono ?_))
  rintro v H' ⟨rfl, rfl⟩
  rw [paOf]
  refine G.ef rfl rfl rfl (Eff.allocA (cs := u8s zero16) (fun b4 => ?_))
  refine G.ef rfl rfl rfl (Eff.storeAll (cs := u8s zero16) (vs := u8s pa) rfl rfl (u8s_one _) rfl rfl ?_)
  repeat' first | refine Y.st ?_ | (refine nw ?_; intro _) | refine Y.kn ?_ | fail
  refine G.heap ?_ (fun _ h => h.perm List.perm_middle.symm)
  refine G.ef rfl rfl rfl (Eff.callF rfl ((pcheck_spec hT (k0 _) (k1 _) (k2 _) (by simp) [97] pa rfl 4).mono ?_))
  rintro v H' ⟨rfl, rfl⟩
  rw [pck1]
  repeat' first | refine Y.st ?_ | (refine nw ?_; intro _) | refine Y.kn ?_ | fail
  refine G.rd (Rd.build (cells := (u8s zero16).toArray) rfl (by kernel_rfl)) rfl rfl ?_
  repeat' first | refine Y.st ?_ | (refine nw ?_; intro _) | refine Y.kn ?_ | fail
  refine G.ef rfl rfl rfl (Eff.callF rfl ((pcheck_spec hT (k0 _) (k1 _) (k2 _) (by simp) [97] zero16 rfl 4).mono ?_))
  rintro v H' ⟨rfl, rfl⟩
  rw [pck2]
  repeat' first | refine Y.st ?_ | (refine nw ?_; intro _) | refine Y.kn ?_ | fail
  refine G.ef rfl rfl rfl (Eff.callF rfl ((pcheck_spec hT (k0 _) (k1 _) (k2 _) (by simp) [97] pa rfl 5).mono ?_))
  rintro v H' ⟨rfl, rfl⟩
  rw [pck3]
  repeat' first | refine Y.st ?_ | (refine nw ?_; intro _) | refine Y.kn ?_ | fail
  refine G.ef rfl rfl rfl (Eff.callF rfl ((pcheck_spec hT (k0 _) (k1 _) (k2 _) (by simp) [98] pa rfl 0).mono ?_))
  rintro v H' ⟨rfl, rfl⟩
  rw [pck4]
  repeat' first | refine Y.st ?_ | (refine nw ?_; intro _) | refine Y.kn ?_ | fail
  refine G.rd (Rd.build (cells := (pnC (pn 97 (9))).toArray) rfl (by kernel_rfl)) rfl rfl ?_
  refine G.ef rfl rfl rfl (Eff.callF rfl ((padd_spec hv hT (pn 97 (9)) (sp _ _ (by omega) (by omega)) (by simp [pn]) (by simp)).mono ?_))
  clear hT
  rintro v H' ⟨rfl, TH, hT, rfl⟩
  rw [pok9]
  rw [ptab2] at hT
  repeat' first | refine Y.st ?_ | (refine nw ?_; intro _) | refine Y.kn ?_ | fail
  refine G.ef rfl rfl rfl (Eff.callF rfl ((pcheck_spec hT (k0 _) (k1 _) (k2 _) (by simp) [97] pa rfl 5).mono ?_))
  rintro v H' ⟨rfl, rfl⟩
  rw [pck5]
  repeat' first | refine Y.st ?_ | (refine nw ?_; intro _) | refine Y.kn ?_ | fail
  refine G.rd (Rd.build (cells := (pnC (pn 97 (0))).toArray) rfl (by kernel_rfl)) rfl rfl ?_
  refine G.ef rfl rfl rfl (Eff.callF rfl ((padd_spec hv hT (pn 97 (0)) (sp _ _ (by omega) (by omega)) (by simp [pn]) (by simp)).mono ?_))
  clear hT
  rintro v H' ⟨rfl, TH, hT, rfl⟩
  rw [ptab3] at hT
  repeat' first | refine Y.st ?_ | (refine nw ?_; intro _) | refine Y.kn ?_ | fail
  refine G.rd (Rd.build (cells := (pnC (pn 97 (2))).toArray) rfl (by kernel_rfl)) rfl rfl ?_
  refine G.ef rfl rfl rfl (Eff.callF rfl ((padd_spec hv hT (pn 97 (2)) (sp _ _ (by omega) (by omega)) (by simp [pn]) (by simp)).mono ?_))
  clear hT
  rintro v H' ⟨rfl, TH, hT, rfl⟩
  rw [ptab4] at hT
  repeat' first | refine Y.st ?_ | (refine nw ?_; intro _) | refine Y.kn ?_ | fail
  refine G.ef rfl rfl rfl (Eff.callF rfl ((plive_spec hT (k0 _) (k1 _) (k2 _) (by simp) [97] 100).mono ?_))
  rintro v H' ⟨B, hB, rfl⟩
  rw [plv] at hB
  obtain ⟨p, c, rfl, hc, hl1⟩ := Go.Tri.Buf.see hB
  repeat' first | refine Y.st ?_ | (refine nw ?_; intro _) | refine Y.kn ?_ | fail
  refine GC.weak (e' := [(1, .pointer (some ⟨b1, 0, none⟩)), (2, .pointer (some ⟨bt, 0, none⟩)), (3, .int .i64 1), (5, .int .i64 1), (6, .int .i64 2), (7, .int .i64 0), (8, .int .i64 0), (9, .bool true), (10, .int .i64 1), (11, .slice p 1 c)])
    (H' := TH ++ ((b1, .cells (cdC pc).toArray 33 (0, 0)) :: (B ++ H'))) ?_ ⟨rfl, rfl, rfl, rfl, rfl, rfl, rfl, rfl, rfl, rfl, trivial⟩ ?_
  · refine GC.drawn [(0, .read), (1, .read), (2, .read), (3, .read), (4, .read), (5, .read), (6, .read), (7, .read), (8, .read), (9, .read), (10, .read), (11, .read), (12, .read), (13, .read), (14, .read), (15, .read), (16, .read), (17, .read), (18, .read), (19, .read), (20, .read), (21, .read), (22, .read), (23, .read), (24, .read), (25, .read), (26, .read), (27, .read), (28, .read), (29, .read), (30, .read), (31, .read), (32, .read), (33, .read), (34, .read), (35, .read), (36, .read), (37, .read), (38, .read), (39, .read), (40, .read), (41, .eff), (42, .read), (43, .read), (44, .read)] ((b1, .cells (cdC pc).toArray 33 (0, 0)) :: (B ++ H')) (by kernel_rfl) (by kernel_rfl) rfl ?_
    repeat' first | refine Y.st ?_ | (refine nw ?_; intro _) | refine Y.kn ?_ | fail
    rcases hl1 W0 with h0 | ⟨bq, oq, hpq, hcq⟩
    · simp at h0
    subst hpq
    have hq : ∀ w, Own W0 ((b1, .cells (cdC pc).toArray 33 (0, 0)) :: (B ++ H')) w → CellsAt w bq (oq + 0 * 17) (cdC pc) := fun w hw => by
      have := ((hcq.app H').perm List.perm_append_comm).cons (b1, .cells (cdC pc).toArray 33 (0, 0)) |>.here hw
      simpa using this
    refine G.rd (Rd.indexN (m := 0) rfl rfl (by decide)) rfl rfl ?_
    refine G.rd (Rd.loadAggC rfl hq rfl) rfl rfl ?_
    repeat' first | refine Y.st ?_ | (refine nw ?_; intro _) | refine Y.kn ?_ | fail
    refine G.rd (Rd.eqlCd pc pc rfl rfl hS hS) rfl rfl ?_
    rw [decide_eq_true rfl]
    repeat' first | refine Y.st ?_ | (refine nw ?_; intro _) | refine Y.kn ?_ | fail
    refine G.rd (Rd.build (cells := (pnC (pn 97 (-1))).toArray) rfl (by kernel_rfl)) rfl rfl ?_
    repeat' first | refine Y.st ?_ | (refine nw ?_; intro _) | refine Y.kn ?_ | fail
    refine G.ee rfl rfl rfl (Eff.callF rfl ((padd_spec hv hT (pn 97 (-1)) (sp _ _ (by omega) (by omega)) (by simp [pn]) (by simp)).mono ?_))
    rintro v H'' ⟨rfl, TH5, hT5, rfl⟩
    rw [pok1]
    refine ⟨inferInstance, ?_⟩
    repeat' first | refine Y.st ?_ | (refine nw ?_; intro _) | refine Y.kn ?_ | fail
    refine GQ.heap (H' := H') ?_ (fun w hw => hw.sub (((List.sublist_append_right B _).trans (List.sublist_cons_self _ _)).trans (List.sublist_append_right TH5 _)))
    exact GQ.done1 rfl rfl ⟨rfl, rfl⟩
  · intro w hw
    refine Own.sub (hw.perm (?_ : List.Perm _ ((TH ++ ((b1, .cells (cdC pc).toArray 33 (0, 0)) :: (B ++ H'))) ++ [(b4, .cells (u8s pa).toArray 24 (0, 0)), (b19, .cells ([pn 97 5, pn 65 0].flatMap pnC).toArray 35 (0, 0))]))) (List.sublist_append_left _ _)
    exact permC
/-- Are pins few, and short? -/
def fewP (l : List Pn) : Bool := decide (∀ x ∈ l, x.name.length ≤ 300) && decide (l.length ≤ 100)
theorem fewP_iff {l : List Pn} : fewP l = true ↔ (∀ x ∈ l, x.name.length ≤ 300) ∧ l.length ≤ 100 := by simp [fewP]
theorem pfew_spec {l : List Pn} {v : Value} (hp : PinsAt W0 F v l) (sp : ∀ x ∈ l, SizP x) (hl : l.length ≤ 2000000) : T Tryz.prog W0 13 #[v] F (fun u H' => u = .bool (fewP l) ∧ H' = F) := by
  obtain ⟨p, c, rfl, hc, hat⟩ := hp
  have h19 : ∀ x ∈ l, (pnC x).length = 19 := fun x hx => pnC_len (sp x hx).1.1
  refine T.intro (args := [_]) Tryz.func13 rfl Tryz.ntmps13 rfl ?_
  repeat' first | refine Y.st ?_ | (refine nw ?_; intro _) | refine Y.kn ?_ | fail
  refine GC.loopE (ι := { k : Nat // k ≤ l.length ∧ ∀ x ∈ l.take k, x.name.length ≤ 300 }) (fun i => [(3, .int .i64 (i.1 : Int))]) [(0, _)] (fun _ => F) (fun k => l.length - k.1) ⟨0, Nat.zero_le _, by simp⟩ ⟨rfl, rfl, trivial⟩ (fun _ h => h) ?_
  rintro ⟨k, hk, hno⟩
  dsimp only at hk hno ⊢
  by_cases hlt : k < l.length
  · obtain ⟨b, o, rfl, a1⟩ := row_get (m := 19) h19 (by omega) hat hlt
    have c1 := a1 k hlt
    have hts := List.take_succ_eq_append_getElem hlt
    have hn2 := List.getElem_mem hlt
    by_cases hn : l[k].name.length ≤ 300
    · repeat' first | refine Y.st ?_ | (refine nw ?_; intro _) | refine Y.kn ?_ | fail
      refine G.rd (Rd.load (v := S l[k].name) rfl (fun w hw => c1 w hw 0 _ rfl)) rfl rfl ?_
      repeat' first | refine Y.st ?_ | (refine nw ?_; intro _) | refine Y.kn ?_ | fail
      exact GQ.back ⟨k + 1, by omega, by rw [hts]; intro x hx; rcases List.mem_append.1 hx with h | h; exact hno x h; rw [List.mem_singleton.1 h]; exact hn⟩ (by simp only; omega) ⟨rfl, rfl, trivial⟩ (fun w hw => hw)
    · repeat' first | refine Y.st ?_ | (refine nw ?_; intro _) | refine Y.kn ?_ | fail
      refine G.rd (Rd.load (v := S l[k].name) rfl (fun w hw => c1 w hw 0 _ rfl)) rfl rfl ?_
      repeat' first | refine Y.st ?_ | (refine nw ?_; intro _) | refine Y.kn ?_ | fail
      have : fewP l = false := by
        rw [Bool.eq_false_iff]; intro h; exact hn ((fewP_iff.1 h).1 _ hn2)
      exact GQ.done1 rfl rfl ⟨by rw [this], rfl⟩
  obtain rfl : k = l.length := by omega
  rw [List.take_length] at hno
  repeat' first | refine Y.st ?_ | (refine nw ?_; intro _) | refine Y.kn ?_ | fail
  exact GQ.done1 rfl rfl ⟨by rw [fewP, decide_eq_true hno, Bool.true_and]; congr 1; exact decide_eq_decide.2 (by omega), rfl⟩
end
end Go.Pin

namespace Go.Pin
open Go.Own Go.Proofs Go.RowKit Go.Lib Go.Asc Go.Adr Go.Nam Go.Tri Go.Cid Go.Pol
attribute [local irreducible] GC GQ G Rd Eff T
set_option maxRecDepth 20000
set_option maxHeartbeats 4000000
theorem siz_keys {l : List Pn} (hs : ∀ x ∈ l, SizP x) : ∀ e ∈ addAllT l, SizC e.1.2 := by
  have key : ∀ (l : List Pn) (t : Tab), (∀ x ∈ l, SizP x) → (∀ e ∈ t, SizC e.1.2) → ∀ e ∈ l.foldl addT t, SizC e.1.2 := by
    intro l
    induction l with
    | nil => intro t _ h; exact h
    | cons x l ih =>
      intro t hx h
      refine ih _ (fun y hy => hx y (List.mem_cons_of_mem _ hy)) ?_
      unfold addT
      split
      · intro e he
        have : e.1 ∈ (putK t (placeOf x) (joinT (getK t (placeOf x)) x.till)).map Prod.fst := List.mem_map.2 ⟨e, he, rfl⟩
        rcases (keys_putK _ _ _ _).1 this with h1 | h1
        · rw [h1]; exact (hx x (by simp)).1
        · obtain ⟨e2, h2, h3⟩ := List.mem_map.1 h1
          rw [← h3]; exact h _ h2
      · exact h
  exact key l [] hs (by simp)
section
variable {W : World}
theorem lies_pinB {v : VT} (h : VT.Lies Tryz.prog W 35 v) : ∃ x : Pn, v.val = pnV x ∧ v.cells = pnC x ∧ SizP x ∧ x.name.length ≤ v.bulk := by
  obtain ⟨ps, rfl, h1⟩ := Go.Own.Lies.agg h
  obtain ⟨a1, r1, rfl, k1, h1⟩ := lies_one h1
  obtain ⟨a2, r2, rfl, k2, h1⟩ := lies_one h1
  obtain ⟨a3, r3, rfl, k3, h1⟩ := lies_one h1
  obtain rfl := lies_nil h1
  obtain ⟨p, rfl, hp⟩ := Go.Own.Lies.str k1
  obtain ⟨c, hc, _, e2⟩ := lies_cidr k2
  obtain ⟨n, rfl, hn⟩ := Go.Own.Lies.int k3
  exact ⟨⟨p, c, n⟩, by simp [VT.val, VT.cells, VT.cellsL, e2], by simp [VT.cells, VT.cellsL, e2], ⟨hc, hn, hp⟩, by simp only [VT.bulk, VT.bulkL]; omega⟩
theorem lies_pinsB : ∀ {es : List VT}, VT.LiesAll Tryz.prog W 35 es → ∃ l : List Pn, l.length = es.length ∧ VT.cellsL es = l.flatMap pnC ∧ (∀ r ∈ l, SizP r) ∧ (∀ r ∈ l, r.name.length ≤ VT.bulkL es) ∧ l.length ≤ VT.bulkL es
  | [], _ => ⟨[], rfl, by simp [VT.cellsL], by simp, by simp, by simp⟩
  | x :: es, h => by
    simp only [VT.LiesAll] at h
    obtain ⟨r, _, h2, h3, h4⟩ := lies_pinB h.1
    have h5 : 1 ≤ x.bulk := by cases x <;> simp [VT.bulk]
    obtain ⟨l, k1, k2, k3, k4, k5⟩ := lies_pinsB h.2
    refine ⟨r :: l, by simp [k1], ?_, ?_, ?_, by simp only [VT.bulkL, List.length_cons]; omega⟩
    · rw [VT.cellsL, h2, k2, List.flatMap_cons]
    · intro y hy
      rcases List.mem_cons.1 hy with rfl | hy
      · exact h3
      · exact k3 y hy
    · intro y hy
      simp only [VT.bulkL]
      rcases List.mem_cons.1 hy with rfl | hy
      · omega
      · have := k4 y hy; omega
/-- A row of pins that came in. -/
theorem lies_pinsAt {v : VT} (h : VT.Lies Tryz.prog W 22 v) : ∃ l : List Pn, (∀ F, PinsAt W F v.val l) ∧ (∀ x ∈ l, SizP x) ∧ (∀ x ∈ l, x.name.length ≤ v.bulk) ∧ l.length ≤ v.bulk := by
  obtain ⟨p2, c2, es, rfl, hp2, hc2, hb2, hat2, hes⟩ := Go.Own.Lies.slice h
  obtain ⟨l, g1, g2, g3, g4, g5⟩ := lies_pinsB hes
  rw [g2] at hat2
  refine ⟨l, fun F => ⟨p2, c2, by simp [VT.val, g1], by omega, lies_base hat2⟩, g3, fun x hx => ?_, ?_⟩
  · have := g4 x hx; simp only [VT.bulk]; omega
  · simp only [VT.bulk]; omega
end
end Go.Pin
