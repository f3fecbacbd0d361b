/-
  THE LAW PinsPlays: a table, pin by pin: of any pins, any names.
-/
import Derived.Test.YtiemjebpbdmkpaaGreatDoorRows
import Derived.Test.YtiemjebpbdmkpaaGreatDoorTie
import Derived.Test.YtiemjebpbdmkpaaGreatDoorCards
import Derived.Test.YtiemjebpbdmkpaaGreatDoorGNm
import Derived.Test.YtiemjebpbdmkpaaGreatDoorGPn
import Derived.Test.YtiemjebpbdmkpaaGreatDoorGRi
import Derived.Test.YtiemjebpbdmkpaaGreatDoorGOwn
import Derived.Test.YtiemjebpbdmkpaaGreatDoorGBk
import Derived.SevenTiedPlain
namespace Go.Pin
open Go.Own Go.Proofs Go.RowKit Go.Lib Go.Asc Go.Adr Go.Nam Go.Tri Go.Cid Go.Pol Go.Rfn
attribute [local irreducible] GC GQ G Rd Eff T
set_option maxRecDepth 20000
set_option maxHeartbeats 4000000
attribute [local irreducible] Lit.wf addT addAllT checkT liveL okP rightC ofL hasC
def fndQ : Code → Nat → List (Array Oper)
  | .region i ops _, n => if i = n then [ops] else []
  | .seq a b, n => fndQ a n ++ fndQ b n
  | .cond _ a b, n => fndQ a n ++ fndQ b n
  | .block _ b, n => fndQ b n
  | .loop b, n => fndQ b n
  | _, _ => []
def schP : List (Nat × Kind) := [(0, .read), (1, .read), (2, .read), (3, .read), (4, .read), (6, .read), (7, .read), (8, .read), (9, .read), (10, .read), (5, .eff), (11, .eff), (12, .read), (13, .read), (14, .read), (16, .read), (17, .read), (18, .read), (19, .read), (20, .read), (15, .eff), (21, .read), (22, .read), (23, .read), (24, .read), (25, .read), (26, .read), (27, .read), (28, .read), (29, .read), (30, .read), (31, .read), (33, .read), (34, .read), (35, .read), (36, .read), (37, .read), (38, .read), (39, .read), (40, .read), (32, .eff), (41, .eff), (42, .read), (43, .read)]
theorem okP0 : okSched ((fndQ (Tryz.f3.body.getD .skip) 10).headD #[]) schP = true := by kernel_rfl
theorem okP1 {ops : Array Oper} (h : (fndQ (Tryz.f3.body.getD .skip) 10).headD #[] = ops) : okSched ops schP = true := by rw [← h]; exact okP0
def schQ : List (Nat × Kind) := [(0, .read), (1, .read), (2, .read), (3, .read), (4, .read), (5, .read), (6, .read), (7, .read), (9, .read), (10, .read), (11, .read), (8, .eff), (12, .eff), (13, .eff), (14, .read), (15, .read), (16, .read), (18, .read), (17, .eff), (19, .eff), (20, .read), (21, .read), (22, .read), (23, .read), (24, .read), (25, .read), (26, .read), (28, .read), (29, .read), (30, .read), (31, .read), (27, .eff), (32, .eff), (33, .read), (34, .read), (35, .read)]
theorem okQ0 : okSched ((fndQ (Tryz.f3.body.getD .skip) 21).headD #[]) schQ = true := by kernel_rfl
theorem okQ1 {ops : Array Oper} (h : (fndQ (Tryz.f3.body.getD .skip) 21).headD #[] = ops) : okSched ops schQ = true := by rw [← h]; exact okQ0
theorem PinsPlays_core (W : World) (hv : Vars W) (v : Value) (l : List Pn) (host : Lb) (a : List UInt8) (now : Int) (hp : ∀ F, PinsAt W F v l) (sp : ∀ y ∈ l, SizP y) (sn : ∀ y ∈ l, y.name.length ≤ 2000000) (hl : l.length ≤ 2000000) (ha : a.length = 16) :
    T Tryz.prog W 3 #[v, S host, .agg (u8s a).toArray, .int .i64 now] [] (fun v _ => v = .bool true) := by
  obtain ⟨pq, cq, rfl, hcq, hal⟩ : PinsAt W [] v l := hp []
  have hatA : ∀ H, Go.Tri.Lies W H pq (l.flatMap pnC) := fun H => by
    obtain ⟨p', c', hpc, _, h⟩ := hp H
    cases hpc; exact h
  have h19 : ∀ x ∈ l, (pnC x).length = 19 := fun x hx => pnC_len (sp x hx).1.1
  refine T.intro (args := [_, _, _, _]) Tryz.func3 rfl Tryz.ntmps3 rfl ?_
  repeat' first | refine Y.st ?_ | (refine nw ?_; intro _) | refine Y.kn ?_ | fail
  rename_i b6
  refine G.ef rfl rfl rfl (Eff.callF rfl ((psmall_spec hv).mono ?_))
  rintro u H' ⟨rfl, rfl⟩
  repeat' first | refine Y.st ?_ | (refine nw ?_; intro _) | refine Y.kn ?_ | fail
  refine G.ef rfl rfl rfl (Eff.callF rfl ((pfew_spec (hp _) sp (by omega)).mono ?_))
  rintro u H' ⟨rfl, rfl⟩
  repeat' first | refine Y.st ?_ | (refine nw ?_; intro _) | refine Y.kn ?_ | fail
  refine G.ef rfl rfl rfl (Eff.callF rfl ((pnew_spec hv (l := []) ⟨none, 0, rfl, Nat.le_refl _, .inl rfl⟩ (fun x hx => by cases hx) (fun x hx => by cases hx) (by simp)).mono ?_))
  rintro u H' ⟨bt, TH0, rfl, hT0, rfl⟩
  repeat' first | refine Y.st ?_ | (refine nw ?_; intro _) | refine Y.kn ?_ | fail
  refine G.ef rfl rfl rfl (Eff.callF rfl ((rtnew_spec (l := []) ⟨none, 0, rfl, Nat.le_refl _, .inl rfl⟩ (fun x hx => by cases hx) (fun x hx => by cases hx) (by simp)).mono ?_))
  rintro u H' ⟨by_, UH0, rfl, hU0, rfl⟩
  cases hf : fewP l with
  | false =>
    repeat' first | refine Y.st ?_ | (refine nw ?_; intro _) | refine Y.kn ?_ | fail
    exact GQ.done1 rfl rfl rfl
  | true =>
  obtain ⟨hf1, hf2⟩ := fewP_iff.1 hf
  by_cases hh : host.length ≤ 300
  case neg =>
    repeat' first | refine Y.st ?_ | (refine nw ?_; intro _) | refine Y.kn ?_ | fail
    exact GQ.done1 rfl rfl rfl
  repeat' first | refine Y.st ?_ | (refine nw ?_; intro _) | refine Y.kn ?_ | fail
  refine GC.loopE (ι := { q : Nat × Heap × Heap // q.1 ≤ l.length ∧ TabQ (addAllT (l.take q.1)) bt q.2.1 ∧ RTabQ (addAllT (l.take q.1)) by_ q.2.2 }) (fun i => [(13, .int .i64 (i.1.1 : Int))]) [(0, _), (1, _), (3, _), (6, _), (9, _), (11, _), (12, _)] (fun q => q.1.2.2 ++ (q.1.2.1 ++ [(b6, .cells (u8s a).toArray 24 (0, 0))])) (fun q => l.length - q.1.1) ⟨(0, TH0, UH0), Nat.zero_le _, hT0, hU0⟩ ⟨rfl, rfl, rfl, rfl, rfl, rfl, rfl, rfl, trivial⟩ (fun _ h => h) ?_
  rintro ⟨⟨k, TH, UH⟩, hk, hT, hU⟩
  dsimp only at hk hT hU ⊢
  by_cases hlt : k < l.length
  · have c0 : ∀ (H : Heap), ∃ b o, pq = some ⟨b, o, none⟩ ∧ ∀ w, Own W H w → CellsAt w b (o + k * 19) (pnC l[k]) := fun H => by
      obtain ⟨b', o', hb, a'⟩ := row_get (m := 19) h19 (by omega) (hatA H) hlt
      exact ⟨b', o', hb, a' k hlt⟩
    obtain ⟨b, o, rfl, _⟩ := c0 []
    have c1 : ∀ (H : Heap) (w : World), Own W H w → CellsAt w b (o + k * 19) (pnC l[k]) := fun H => by
      obtain ⟨b', o', hb, a'⟩ := c0 H
      cases hb; exact a'
    have s1 := sp _ (List.getElem_mem hlt)
    have n1 := hf1 _ (List.getElem_mem hlt)
    have l1 := h19 _ (List.getElem_mem hlt)
    have hle := all_le (l.take k)
    rw [List.length_take] at hle
    have hst := addAllT_step hlt
    have hkn := nodup_all (l.take (k + 1))
    have hkr := right_keys (l := l.take (k + 1))
    have hkz := siz_keys (l := l.take (k + 1)) (fun x hx => sp x (List.mem_of_mem_take hx))
    have hle2 := all_le (l.take (k + 1))
    rw [List.length_take] at hle2
    generalize l[k] = y at c1 s1 n1 l1 hst
    generalize hq2 : addAllT (l.take (k + 1)) = t2 at hst hkn hkr hkz hle2
    generalize hq1 : addAllT (l.take k) = t1 at hT hU hst hle
    repeat' first | refine Y.st ?_ | (refine nw ?_; intro _) | refine Y.kn ?_ | fail
    refine GC.drawn schP [(b6, .cells (u8s a).toArray 24 (0, 0))] (by kernel_rfl) (okP1 rfl) rfl ?_
    unfold schP
    haveI i0 : SubH [(b6, .cells (u8s a).toArray 24 (0, 0))] (UH ++ (TH ++ [(b6, .cells (u8s a).toArray 24 (0, 0))])) := SubH.app (h := SubH.app (h := SubH.refl))
    iterate 4 refine Y.one ?_
    refine G.rd (Rd.loadAggC (cs := pnC y) rfl (c1 _) l1) rfl rfl ?_
    iterate 4 refine Y.one ?_
    refine G.rd (Rd.loadAggC (cs := pnC y) rfl (c1 _) l1) rfl rfl ?_
    refine G.ee rfl rfl rfl (Eff.callP (first := #[]) (captured := #[]) rfl rfl (List.perm_append_comm_assoc _ _ _) ((padd_spec hv hT y s1 (by omega) (by omega)).mono ?_))
    rintro u H' ⟨rfl, TH2, hT2, rfl⟩
    haveI i1 : SubH [(b6, .cells (u8s a).toArray 24 (0, 0))] (TH2 ++ (UH ++ [(b6, .cells (u8s a).toArray 24 (0, 0))])) := SubH.app (h := SubH.app (h := SubH.refl))
    refine ⟨i1, ?_⟩
    refine G.ee rfl rfl rfl (Eff.callP (first := #[]) (captured := #[]) rfl rfl (List.perm_append_comm_assoc _ _ _) ((rtadd_spec hU y s1 (by omega) (by omega)).mono ?_))
    rintro u H' ⟨rfl, UH2, hU2, rfl⟩
    refine ⟨SubH.app (h := SubH.app (h := SubH.refl)), ?_⟩
    rw [← hst] at hT2 hU2
    have hU2' := hU2
    obtain ⟨lv, B2, hB2, rfl, hnd2, hsz2⟩ := hU2
    obtain ⟨pl, cl, rfl, hcl, _⟩ := Go.Tri.Buf.see hB2
    simp only [List.cons_append]
    refine G.grow [(by_, .cells #[.slice pl t2.length cl] 38 (0, 0)), (b6, .cells (u8s a).toArray 24 (0, 0))] (fun w hw => hw.sub (List.sublist_cons_self _ _)) ?_
    haveI i2 : SubH [(by_, .cells #[.slice pl t2.length cl] 38 (0, 0)), (b6, .cells (u8s a).toArray 24 (0, 0))] ((by_, .cells #[.slice pl t2.length cl] 38 (0, 0)) :: (B2 ++ (TH2 ++ [(b6, .cells (u8s a).toArray 24 (0, 0))]))) := SubH.cons2 (h := SubH.app (h := SubH.app (h := SubH.refl)))
    refine G.rd (Rd.neqB rfl rfl) rfl rfl ?_
    rw [show (!(okP y == okP y)) = false by simp]
    iterate 7 refine Y.one ?_
    refine G.ee rfl rfl rfl (Eff.callP (first := #[]) (captured := #[]) rfl rfl (H' := TH2 ++ ((by_, .cells #[.slice pl t2.length cl] 38 (0, 0)) :: (B2 ++ [(b6, .cells (u8s a).toArray 24 (0, 0))]))) (by exact permC) ((plen_spec hT2).mono ?_))
    rintro u H' ⟨rfl, rfl⟩
    haveI i3 : SubH [(by_, .cells #[.slice pl t2.length cl] 38 (0, 0)), (b6, .cells (u8s a).toArray 24 (0, 0))] (TH2 ++ ((by_, .cells #[.slice pl t2.length cl] 38 (0, 0)) :: (B2 ++ [(b6, .cells (u8s a).toArray 24 (0, 0))]))) := SubH.app (h := SubH.cons2 (h := SubH.app (h := SubH.refl)))
    refine ⟨i3, ?_⟩
    iterate 8 refine Y.one ?_
    refine G.rd (Rd.load rfl (fun w hw => cells_name (c1 _ w hw))) rfl rfl ?_
    iterate 7 refine Y.one ?_
    refine G.rd (Rd.load rfl (fun w hw => cells_name (c1 _ w hw))) rfl rfl ?_
    iterate 2 refine Y.one ?_
    refine G.ee rfl rfl rfl (Eff.callF rfl ((pcheck_spec hT2 hkn hkr hkz (by omega) y.name a ha now).mono ?_))
    rintro u H' ⟨rfl, rfl⟩
    refine ⟨i3, ?_⟩
    refine G.ee rfl rfl rfl (Eff.callP (first := #[]) (captured := #[]) rfl rfl (H' := ((by_, .cells #[.slice pl t2.length cl] 38 (0, 0)) :: B2) ++ (TH2 ++ [(b6, .cells (u8s a).toArray 24 (0, 0))])) (by exact permC) ((rtcheck_spec hU2' (by omega) y.name a ha now).mono ?_))
    rintro u H' ⟨rfl, rfl⟩
    refine ⟨i2, ?_⟩
    simp only [List.cons_append]
    repeat' first | refine Y.st ?_ | (refine nw ?_; intro _) | refine Y.kn ?_ | fail
    exact GQ.back ⟨(k + 1, TH2, (by_, .cells #[.slice pl t2.length cl] 38 (0, 0)) :: B2), by omega, by rw [hq2]; exact hT2, by rw [hq2]; exact hU2'⟩ (by simp only; omega) ⟨rfl, rfl, rfl, rfl, rfl, rfl, rfl, rfl, trivial⟩ (fun w hw => hw)
  obtain rfl : k = l.length := by omega
  rw [List.take_length] at hT hU
  have hkn := nodup_all l
  have hkr := right_keys (l := l)
  have hkz := siz_keys sp
  have hle := all_le l
  repeat' first | refine Y.st ?_ | (refine nw ?_; intro _) | refine Y.kn ?_ | fail
  refine G.ef rfl rfl rfl (Eff.callF rfl ((pnew_spec hv (hp _) sp sn hl).mono ?_))
  rintro u H' ⟨bz, ZH, rfl, hZ, rfl⟩
  have hll := live_len (addAllT l) host now
  have hlle := liveL_len (addAllT l) host now
  have hsz : ∀ c ∈ liveL (addAllT l) host now, SizC c := fun c hc => by
    obtain ⟨v, h1, _⟩ := mem_liveL.1 hc
    exact hkz _ h1
  repeat' first | refine Y.st ?_ | (refine nw ?_; intro _) | refine Y.kn ?_ | fail
  refine G.ef rfl rfl rfl (Eff.callF rfl ((plive_spec hZ hkn hkr hkz (by omega) host now).mono ?_))
  rintro u H' ⟨B1, hB1, rfl⟩
  obtain ⟨p1, c1, rfl, hc1, hl1⟩ := Go.Tri.Buf.see hB1
  repeat' first | refine Y.st ?_ | (refine nw ?_; intro _) | refine Y.kn ?_ | fail
  refine G.ef rfl rfl rfl (Eff.callP (first := #[]) (captured := #[]) rfl rfl (H' := UH ++ (B1 ++ (ZH ++ (TH ++ [(b6, .cells (u8s a).toArray 24 (0, 0))])))) (by exact permC) ((rtlive_spec hU (by omega) host now).mono ?_))
  rintro u H' ⟨B2, hB2, rfl⟩
  obtain ⟨p2, c2, rfl, hc2, hl2⟩ := Go.Tri.Buf.see hB2
  have la : Go.Tri.Lies W (B2 ++ (UH ++ (B1 ++ (ZH ++ (TH ++ [(b6, .cells (u8s a).toArray 24 (0, 0))]))))) p1 ((liveL (addAllT l) host now).flatMap cdC) := ((hl1 W).app (B2 ++ (UH ++ (ZH ++ (TH ++ [(b6, .cells (u8s a).toArray 24 (0, 0))]))))).perm (by exact permC)
  have lb : Go.Tri.Lies W (B2 ++ (UH ++ (B1 ++ (ZH ++ (TH ++ [(b6, .cells (u8s a).toArray 24 (0, 0))]))))) p2 ((liveL (addAllT l) host now).flatMap cdC) := ((hl2 W).app (UH ++ (B1 ++ (ZH ++ (TH ++ [(b6, .cells (u8s a).toArray 24 (0, 0))]))))).perm List.perm_append_comm
  refine G.ef rfl rfl rfl (Eff.callF rfl ((Go.Cid.same_spec hsz hsz (c := c1) (d := c2) la lb (by omega) (by omega)).mono ?_))
  rintro u H' ⟨rfl, rfl⟩
  rw [decide_eq_true rfl]
  repeat' first | refine Y.st ?_ | (refine nw ?_; intro _) | refine Y.kn ?_ | fail
  refine GC.loopE (ι := { i : Nat × Heap // i.1 ≤ (liveL (addAllT l) host now).length ∧ Junk 33 17 (.slice p1 (liveL (addAllT l) host now).length c1) (liveL (addAllT l) host now).length i.2 }) (fun i => [(17, .int .i64 (i.1.1 : Int))]) [(1, _), (3, _), (6, _), (9, _), (11, _), (12, _), (14, _), (15, _), (16, _)] (fun i => B2 ++ (UH ++ (i.1.2 ++ (ZH ++ (TH ++ [(b6, .cells (u8s a).toArray 24 (0, 0))]))))) (fun i => (liveL (addAllT l) host now).length - i.1.1) ⟨(0, B1), Nat.zero_le _, hB1.junk⟩ ⟨rfl, rfl, rfl, rfl, rfl, rfl, rfl, rfl, rfl, rfl, trivial⟩ (fun _ h => h) ?_
  rintro ⟨⟨k, B3⟩, hk, hJk⟩
  dsimp only at hk hJk ⊢
  by_cases hlt : k < (liveL (addAllT l) host now).length
  · obtain ⟨bq, pre, old, post, rfl, rfl, hpre, hold, hput⟩ := hJk.get hlt
    simp only [List.cons_append, List.nil_append]
    repeat' first | refine Y.st ?_ | (refine nw ?_; intro _) | refine Y.kn ?_ | fail
    refine G.rd (Rd.build (cells := (cdC zeroC).toArray) rfl (by kernel_rfl)) rfl rfl ?_
    repeat' first | refine Y.st ?_ | (refine nw ?_; intro _) | refine Y.kn ?_ | fail
    refine G.ef rfl rfl rfl (Eff.storeMidQ (pre := pre) (old := old) (post := post) (vs := cdC zeroC) rfl (by rw [hpre]; omega) rfl (cdC_one _) (by rw [hold]; rfl) rfl ?_)
    repeat' first | refine Y.st ?_ | (refine nw ?_; intro _) | refine Y.kn ?_ | fail
    exact GQ.back ⟨(k + 1, [(bq, .cells (pre ++ (cdC zeroC ++ post)).toArray 33 (0, 0))]), by omega, hput (cdC zeroC) rfl⟩ (by simp only; omega) ⟨rfl, rfl, rfl, rfl, rfl, rfl, rfl, rfl, rfl, rfl, trivial⟩ (fun _ h => h)
  obtain rfl : k = (liveL (addAllT l) host now).length := by omega
  repeat' first | refine Y.st ?_ | (refine nw ?_; intro _) | refine Y.kn ?_ | fail
  have sx : SubH [(b6, .cells (u8s a).toArray 24 (0, 0))] [(b6, .cells (u8s a).toArray 24 (0, 0))] := SubH.refl
  haveI i0 : SubH [(b6, .cells (u8s a).toArray 24 (0, 0))] (B2 ++ (UH ++ (B3 ++ (ZH ++ (TH ++ [(b6, .cells (u8s a).toArray 24 (0, 0))]))))) := SubH.app (h := SubH.app (h := SubH.app (h := SubH.app (h := SubH.app (h := sx)))))
  refine GC.drawn schQ [(b6, .cells (u8s a).toArray 24 (0, 0))] (by kernel_rfl) (okQ1 rfl) rfl ?_
  unfold schQ
  iterate 11 refine Y.one ?_
  refine G.ee rfl rfl rfl (Eff.callP (first := #[]) (captured := #[]) rfl rfl (H' := ZH ++ (B2 ++ (UH ++ (B3 ++ (TH ++ [(b6, .cells (u8s a).toArray 24 (0, 0))]))))) (by exact permC) ((plive_spec hZ hkn hkr hkz (by omega) host now).mono ?_))
  rintro u H' ⟨B4, hB4, rfl⟩
  obtain ⟨p4, c4, rfl, hc4, hl4⟩ := Go.Tri.Buf.see hB4
  refine ⟨SubH.app (h := SubH.app (h := SubH.app (h := SubH.app (h := SubH.app (h := SubH.app (h := sx)))))), ?_⟩
  refine G.ee rfl rfl rfl (Eff.callP (first := #[]) (captured := #[]) rfl rfl (H' := TH ++ (B4 ++ (ZH ++ (B2 ++ (UH ++ (B3 ++ [(b6, .cells (u8s a).toArray 24 (0, 0))])))))) (by exact permC) ((plive_spec hT hkn hkr hkz (by omega) host now).mono ?_))
  rintro u H' ⟨B5, hB5, rfl⟩
  obtain ⟨p5, c5, rfl, hc5, hl5⟩ := Go.Tri.Buf.see hB5
  haveI i5 : SubH [(b6, .cells (u8s a).toArray 24 (0, 0))] (B5 ++ (TH ++ (B4 ++ (ZH ++ (B2 ++ (UH ++ (B3 ++ [(b6, .cells (u8s a).toArray 24 (0, 0))]))))))) := SubH.app (h := SubH.app (h := SubH.app (h := SubH.app (h := SubH.app (h := SubH.app (h := SubH.app (h := sx)))))))
  refine ⟨i5, ?_⟩
  have lc : Go.Tri.Lies W (B5 ++ (TH ++ (B4 ++ (ZH ++ (B2 ++ (UH ++ (B3 ++ [(b6, .cells (u8s a).toArray 24 (0, 0))]))))))) p4 ((liveL (addAllT l) host now).flatMap cdC) := ((hl4 W).app (B5 ++ (TH ++ (ZH ++ (B2 ++ (UH ++ (B3 ++ [(b6, .cells (u8s a).toArray 24 (0, 0))]))))))).perm (by exact permC)
  have ld : Go.Tri.Lies W (B5 ++ (TH ++ (B4 ++ (ZH ++ (B2 ++ (UH ++ (B3 ++ [(b6, .cells (u8s a).toArray 24 (0, 0))]))))))) p5 ((liveL (addAllT l) host now).flatMap cdC) := ((hl5 W).app (TH ++ (B4 ++ (ZH ++ (B2 ++ (UH ++ (B3 ++ [(b6, .cells (u8s a).toArray 24 (0, 0))]))))))).perm List.perm_append_comm
  refine G.ee rfl rfl rfl (Eff.callF rfl ((Go.Cid.same_spec hsz hsz (c := c4) (d := c5) lc ld (by omega) (by omega)).mono ?_))
  rintro u H' ⟨rfl, rfl⟩
  rw [decide_eq_true rfl]
  refine ⟨i5, ?_⟩
  iterate 4 refine Y.one ?_
  refine G.ee rfl rfl rfl (Eff.callP (first := #[]) (captured := #[]) rfl rfl (H' := ZH ++ (B5 ++ (TH ++ (B4 ++ (B2 ++ (UH ++ (B3 ++ [(b6, .cells (u8s a).toArray 24 (0, 0))]))))))) (by exact permC) ((plen_spec hZ).mono ?_))
  rintro u H' ⟨rfl, rfl⟩
  refine ⟨SubH.app (h := SubH.app (h := SubH.app (h := SubH.app (h := SubH.app (h := SubH.app (h := SubH.app (h := sx))))))), ?_⟩
  refine G.ee rfl rfl rfl (Eff.callP (first := #[]) (captured := #[]) rfl rfl (H' := TH ++ (ZH ++ (B5 ++ (B4 ++ (B2 ++ (UH ++ (B3 ++ [(b6, .cells (u8s a).toArray 24 (0, 0))]))))))) (by exact permC) ((plen_spec hT).mono ?_))
  rintro u H' ⟨rfl, rfl⟩
  haveI i6 : SubH [(b6, .cells (u8s a).toArray 24 (0, 0))] (TH ++ (ZH ++ (B5 ++ (B4 ++ (B2 ++ (UH ++ (B3 ++ [(b6, .cells (u8s a).toArray 24 (0, 0))]))))))) := SubH.app (h := SubH.app (h := SubH.app (h := SubH.app (h := SubH.app (h := SubH.app (h := SubH.app (h := sx)))))))
  refine ⟨i6, ?_⟩
  iterate 11 refine Y.one ?_
  refine G.ee rfl rfl rfl (Eff.callP (first := #[]) (captured := #[]) rfl rfl (H' := ZH ++ (TH ++ (B5 ++ (B4 ++ (B2 ++ (UH ++ (B3 ++ [(b6, .cells (u8s a).toArray 24 (0, 0))]))))))) (by exact permC) ((pcheck_spec hZ hkn hkr hkz (by omega) host a ha now).mono ?_))
  rintro u H' ⟨rfl, rfl⟩
  refine ⟨SubH.app (h := SubH.app (h := SubH.app (h := SubH.app (h := SubH.app (h := SubH.app (h := SubH.app (h := sx))))))), ?_⟩
  refine G.ee rfl rfl rfl (Eff.callP (first := #[]) (captured := #[]) rfl rfl (H' := UH ++ (ZH ++ (TH ++ (B5 ++ (B4 ++ (B2 ++ (B3 ++ [(b6, .cells (u8s a).toArray 24 (0, 0))]))))))) (by exact permC) ((rtcheck_spec hU (by omega) host a ha now).mono ?_))
  rintro u H' ⟨rfl, rfl⟩
  haveI i7 : SubH [(b6, .cells (u8s a).toArray 24 (0, 0))] (UH ++ (ZH ++ (TH ++ (B5 ++ (B4 ++ (B2 ++ (B3 ++ [(b6, .cells (u8s a).toArray 24 (0, 0))]))))))) := SubH.app (h := SubH.app (h := SubH.app (h := SubH.app (h := SubH.app (h := SubH.app (h := SubH.app (h := sx)))))))
  refine ⟨i7, ?_⟩
  repeat' first | refine Y.st ?_ | (refine nw ?_; intro _) | refine Y.kn ?_ | fail
  exact GQ.done1 rfl rfl rfl
theorem PinsPlays_walk (W : World) (vts : List VT) (hv : Vars W) (h : VT.LiesEach Tryz.prog W [22, 9, 24, 3] vts) (hb : VT.bulkL vts ≤ 1048576) : T Tryz.prog W 3 (vts.map VT.val).toArray [] (fun v _ => v = .bool true) := by
  obtain ⟨v0, r, rfl, h0, h⟩ := lies_one h
  obtain ⟨v1, r, rfl, h1, h⟩ := lies_one h
  obtain ⟨v2, r, rfl, h2, h⟩ := lies_one h
  obtain ⟨v3, r, rfl, h3, h⟩ := lies_one h
  obtain rfl := lies_nil h
  simp only [VT.bulkL] at hb
  obtain ⟨l, hp, sp, sn, hl⟩ := lies_pinsAt h0
  obtain ⟨s, rfl, _⟩ := Go.Own.Lies.str h1
  obtain ⟨a, ha, hav, _⟩ := lies_addr h2
  obtain ⟨n, rfl, _⟩ := Go.Own.Lies.int h3
  rw [show (([v0, .str s, v2, .int .i64 n] : List VT).map VT.val).toArray = #[v0.val, S s, .agg (u8s a).toArray, .int .i64 n] by simp only [List.map_cons, List.map_nil, hav]; rfl]
  exact PinsPlays_core W hv _ l s a n hp sp (fun y hy => by have := sn y hy; omega) (by omega) ha
end Go.Pin
namespace Go.Proofs.YtiemjebpbdmkpaaGreatDoor.LPinsPlays
open Go.Own
theorem own : ownKnob Tryz.prog.godebug = none := by kernel_rfl
theorem reads (os : Os) {H : Type} (enc : TypeId × Value → H) : ∃ x, DataW.whole enc Tryz.prog ((laidWorld os).forCall (fun _ _ => 0) ⟨#[], #[.slice none 0 0, .string ⟨#[]⟩, Value.agg #[.int .u8 0, .int .u8 0, .int .u8 0, .int .u8 0, .int .u8 0, .int .u8 0, .int .u8 0, .int .u8 0, .int .u8 0, .int .u8 0, .int .u8 0, .int .u8 0, .int .u8 0, .int .u8 0, .int .u8 0, .int .u8 0], .int .i64 0], []⟩).memory Tryz.f3.params.toList Rows.pinsPlaysSpec.vars false #[.slice none 0 0, .string ⟨#[]⟩, Value.agg #[.int .u8 0, .int .u8 0, .int .u8 0, .int .u8 0, .int .u8 0, .int .u8 0, .int .u8 0, .int .u8 0, .int .u8 0, .int .u8 0, .int .u8 0, .int .u8 0, .int .u8 0, .int .u8 0, .int .u8 0, .int .u8 0], .int .i64 0].toList 8 = some x ∧ Rows.uptoSmall H (x.1 ++ x.2.1) = true := by
  have h : ((DataW.whole enc Tryz.prog ((laidWorld os).forCall (fun _ _ => 0) ⟨#[], #[.slice none 0 0, .string ⟨#[]⟩, Value.agg #[.int .u8 0, .int .u8 0, .int .u8 0, .int .u8 0, .int .u8 0, .int .u8 0, .int .u8 0, .int .u8 0, .int .u8 0, .int .u8 0, .int .u8 0, .int .u8 0, .int .u8 0, .int .u8 0, .int .u8 0, .int .u8 0], .int .i64 0], []⟩).memory Tryz.f3.params.toList Rows.pinsPlaysSpec.vars false #[.slice none 0 0, .string ⟨#[]⟩, Value.agg #[.int .u8 0, .int .u8 0, .int .u8 0, .int .u8 0, .int .u8 0, .int .u8 0, .int .u8 0, .int .u8 0, .int .u8 0, .int .u8 0, .int .u8 0, .int .u8 0, .int .u8 0, .int .u8 0, .int .u8 0, .int .u8 0], .int .i64 0].toList 8).map fun x => Rows.uptoSmall H (x.1 ++ x.2.1)) = some true := by kernel_rfl
  obtain ⟨x, hx, h2⟩ := Option.map_eq_some_iff.1 h
  exact ⟨x, hx, h2⟩
set_option maxRecDepth 100000 in
theorem lifted (os : Os) (started : os.Started) (H : Type) (enc : TypeId × Value → H) (F : Stop.Interp) :
    ReturnsInHanded {} Tryz.checked os 3 .any ((Rows.OpenSpec.upto Rows.pinsPlaysSpec).preRow enc Tryz.prog Tryz.f3 Rows.pinsPlaysUptoRow.domain false Rows.pinsPlaysUptoRow.laid) (((Rows.OpenSpec.upto Rows.pinsPlaysSpec).at F).post enc Tryz.prog Tryz.f3 false true false false) := by
  obtain ⟨x, hx, hx2⟩ := reads os enc
  exact law_upto (kc := Rows.uptoSmall) (N := 1048576) (Go.Own.countsU H) (fun ds h => of_decide_eq_true h) (C := Tryz.checked) (D := 20) (tb := 4) own started (by kernel_rfl) Tryz.func3 rfl rfl Tryz.underlying4 (by kernel_rfl) (by kernel_rfl) (by kernel_rfl)
    (fun K ds h => by match ds, h with | [_, _, _, _], _ => rfl)
    (witness_row_atRef (enc := enc) (C := Tryz.checked) false (laidWorld os) #[.slice none 0 0, .string ⟨#[]⟩, Value.agg #[.int .u8 0, .int .u8 0, .int .u8 0, .int .u8 0, .int .u8 0, .int .u8 0, .int .u8 0, .int .u8 0, .int .u8 0, .int .u8 0, .int .u8 0, .int .u8 0, .int .u8 0, .int .u8 0, .int .u8 0, .int .u8 0], .int .i64 0] rfl (laid_shaped1 os _) (laid_shaped2 os _) (by kernel_rfl)
      (OpenSpec.preRow_of_cond 8 hx (by kernel_rfl) (fun k hk => by cases hk; exact hx2) (by kernel_rfl) (laid_met os _)))
    (fun W vts hsh hL h hb => Go.Pin.PinsPlays_walk _ vts (Go.Nam.vars_of hsh hL) (by rw [Tryz.params3] at h; exact h) hb)
theorem j1 : Tryz.prog.inPlace 3 = Rows.pinsPlaysUptoRow.inPlace := eq_of_beq (by kernel_rfl)
theorem j2 : Tryz.prog.unfollowed 3 = Rows.pinsPlaysUptoRow.unfollowed := eq_of_beq (by kernel_rfl)
theorem j3 : Tryz.prog.recurses 3 = Rows.pinsPlaysUptoRow.recurses := eq_of_beq (by kernel_rfl)
theorem j4 : Tryz.prog.varsNamed 3 = Rows.pinsPlaysUptoRow.named := eq_of_beq (by kernel_rfl)
theorem k1 : laidOutB Tryz.prog = true := by kernel_rfl
theorem k2 : mapsRowed Tryz.prog = true := by kernel_rfl
theorem k3 : Tryz.prog.stopsHeard = true := by kernel_rfl
theorem k4 : Tryz.prog.mayEnter = true := by kernel_rfl
theorem joined : joinedFacts Tryz.prog 3 Tryz.f3 (Rows.OpenSpec.upto Rows.pinsPlaysSpec).bare Rows.pinsPlaysUptoRow = true := by
  unfold joinedFacts
  rw [j1, j2, j3, j4, k1, k2, k3, k4]
  kernel_rfl
theorem said : Rows.PinsPlaysUptoSaid :=
  OpenClaim.holds_of_cond 3 Tryz.f3 rfl rfl rfl rfl rfl rfl rfl ⟨rfl, rfl, rfl, rfl, rfl⟩ rfl rfl rfl rfl rfl (by kernel_rfl) Tryz.func3 joined
    (of_decide_eq_true (by kernel_rfl)) (by unfold Func.isWrapper; first | (rw [if_pos (by decide +kernel)]; kernel_rfl) | (rw [if_neg (by decide +kernel)]; exact ⟨rfl, rfl⟩))
    (fun os started H enc _ F => by rw [OpenClaim.pre_eq_preRow]; exact lifted os started H enc F)
theorem w1 : Rows.pinsPlaysUptoRow.wfByText (Rows.OpenSpec.upto Rows.pinsPlaysSpec) = true := by kernel_rfl
theorem goes_none {P : Program} (h : P.funcs.any Func.goes = false) (c : OpenClaim) : c.goesBy P = false := by
  have h0 : ∀ (g : Nat), (P.funcs[g]?).any Func.goes = false := fun g => by
    cases hg : P.funcs[g]? with
    | none => rfl
    | some fn =>
      have := Array.any_eq_false.1 h g (Array.getElem?_eq_some_iff.1 hg).1
      rw [(Array.getElem?_eq_some_iff.1 hg).2] at this
      simpa using this
  have h1 : ∀ f, P.goes f = false := fun f => by
    unfold Program.goes
    rw [h, Bool.and_false, Bool.or_false, List.any_eq_false]
    intro g _
    rw [h0 g]
    decide
  unfold OpenClaim.goesBy Program.goesAt Program.goesFrom
  rw [show (P.funcNamed c.func).any P.goes = false by cases P.funcNamed c.func <;> simp [h1], Bool.false_or]
  cases c.start <;> simp [h1]
theorem k7 : Tryz.pinned.checked.prog.funcs.any Func.goes = false := by kernel_rfl
theorem w3 : false = Rows.pinsPlaysUptoRow.goesBy Tryz.pinned.checked.prog := (goes_none k7 _).symm
theorem plain (f : FuncId) (fn : Func) (hf : Tryz.pinned.checked.prog.funcNamed "hagioscope/hagioscopelaw20.PinsPlays" = some f) (hfn : Tryz.pinned.checked.prog.funcs[f]? = some fn) :
    true = Tryz.pinned.checked.prog.looks [] ∧ ∀ (j : Nat) t, fn.params[j]? = some t → Tryz.pinned.checked.prog.wantsStandIn t = false := by
  obtain rfl : f = 3 := Option.some.inj ((show Tryz.prog.funcNamed "hagioscope/hagioscopelaw20.PinsPlays" = some 3 by kernel_rfl).symm.trans hf) |>.symm
  obtain rfl : fn = Tryz.f3 := (Option.some.inj (Tryz.func3.symm.trans hfn)).symm
  refine ⟨by kernel_rfl, fun j t ht => ?_⟩
  have hall : Tryz.f3.params.toList.all (fun t => !Tryz.prog.wantsStandIn t) = true := by kernel_rfl
  have := List.all_eq_true.1 hall t (Array.mem_toList_iff.2 (Array.mem_of_getElem? ht))
  have h2 : Tryz.prog.wantsStandIn t = false := by simpa using this
  exact h2
end Go.Proofs.YtiemjebpbdmkpaaGreatDoor.LPinsPlays
namespace Go.Proofs.YtiemjebpbdmkpaaGreatDoor
/-- The law PinsPlays holds: its card. -/
theorem pinsPlays_holds : Rows.PinsPlaysUptoCardSaid :=
  Claim7.holds_tied_plain_at .later [] _ _ _ _ LPinsPlays.said (fun _ h => by cases h) LPinsPlays.w1 (fun _ h => by cases h) pinsPlaysUpto_row_tie rfl ⟨rfl, rfl⟩ (by kernel_rfl) rfl LPinsPlays.plain LPinsPlays.w3
#print axioms pinsPlays_holds
end Go.Proofs.YtiemjebpbdmkpaaGreatDoor
