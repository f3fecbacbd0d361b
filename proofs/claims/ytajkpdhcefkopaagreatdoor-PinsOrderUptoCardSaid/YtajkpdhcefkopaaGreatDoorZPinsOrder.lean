/-
  THE LAW PinsOrder: in which order pins are added does not matter.
-/
import Derived.Test.YtajkpdhcefkopaaGreatDoorRows
import Derived.Test.YtajkpdhcefkopaaGreatDoorTie
import Derived.Test.YtajkpdhcefkopaaGreatDoorCards
import Derived.Test.YtajkpdhcefkopaaGreatDoorNam5
import Derived.Test.YtajkpdhcefkopaaGreatDoorGPn
import Derived.Test.YtajkpdhcefkopaaGreatDoorGBk
import Derived.Test.YtajkpdhcefkopaaGreatDoorWit
import Derived.SevenTiedPlain
namespace Go.Pin
open Go.Own Go.Proofs Go.RowKit Go.Lib Go.Asc Go.Adr Go.Nam Go.Tri Go.Cid Go.Pol
attribute [local irreducible] GC GQ G Rd Eff T
set_option maxRecDepth 20000
set_option maxHeartbeats 4000000
attribute [local irreducible] Lit.wf addT addAllT checkT liveL okP rightC ofL hasC
def fndR : Code → Nat → List (Array Oper)
  | .region i ops _, n => if i = n then [ops] else []
  | .seq a b, n => fndR a n ++ fndR b n
  | .cond _ a b, n => fndR a n ++ fndR b n
  | .block _ b, n => fndR b n
  | .loop b, n => fndR b n
  | _, _ => []
def schO : List (Nat × Kind) := [(0, .read), (1, .read), (2, .read), (4, .read), (3, .eff), (5, .eff), (6, .read), (7, .read), (8, .read), (9, .read), (10, .read), (11, .read), (13, .read), (14, .read), (15, .read), (12, .eff), (16, .eff), (17, .eff), (18, .read), (19, .read), (20, .read), (21, .read), (22, .read), (23, .read), (25, .read), (26, .read), (27, .read), (28, .read), (24, .eff), (29, .eff), (30, .read), (31, .read), (32, .read)]
theorem okO0 : okSched ((fndR (Tryz.f4.body.getD .skip) 14).headD #[]) schO = true := by kernel_rfl
theorem okO {ops : Array Oper} (h : (fndR (Tryz.f4.body.getD .skip) 14).headD #[] = ops) : okSched ops schO = true := by rw [← h]; exact okO0
theorem PinsOrder_core (W : World) (hv : Vars W) (v : Value) (l : List Pn) (host : Lb) (a : List UInt8) (now : Int) (hp : ∀ F, PinsAt W F v l) (sp : ∀ y ∈ l, SizP y) (sn : ∀ y ∈ l, y.name.length ≤ 2000000) (hl : l.length ≤ 1000000) (ha : a.length = 16) :
    T Tryz.prog W 4 #[v, S host, .agg (u8s a).toArray, .int .i64 now] [] (fun v _ => v = .bool true) := by
  obtain ⟨pl, cl, rfl, hcl, hal⟩ : PinsAt W [] v l := hp []
  have hatA : ∀ H, Go.Tri.Lies W H pl (l.flatMap pnC) := fun H => by
    obtain ⟨p', c', hpc, _, h⟩ := hp H
    cases hpc; exact h
  have h19 : ∀ x ∈ l, (pnC x).length = 19 := fun x hx => pnC_len (sp x hx).1.1
  refine T.intro (args := [_, _, _, _]) Tryz.func4 rfl Tryz.ntmps4 rfl ?_
  repeat' first | refine Y.st ?_ | (refine nw ?_; intro _) | refine Y.kn ?_ | fail
  rename_i b8
  refine G.ef rfl rfl rfl (Eff.callF rfl ((psmall_spec hv).mono ?_))
  rintro u H' ⟨rfl, rfl⟩
  repeat' first | refine Y.st ?_ | (refine nw ?_; intro _) | refine Y.kn ?_ | fail
  refine G.ef rfl rfl rfl (Eff.callF rfl ((pfew_spec (hp _) sp (by omega)).mono ?_))
  rintro u H' ⟨rfl, rfl⟩
  repeat' first | refine Y.st ?_ | (refine nw ?_; intro _) | refine Y.kn ?_ | fail
  refine GC.loopE (ι := { q : Nat × List Pn × Value × Heap // q.1 ≤ l.length ∧ (∀ x, x ∈ q.2.1 ↔ x ∈ l.drop q.1) ∧ q.2.1.length + 2 * q.1 ≤ 2 * l.length ∧ Buf 35 19 q.2.2.1 q.2.1.length (q.2.1.flatMap pnC) q.2.2.2 }) (fun i => [(11, i.1.2.2.1), (12, .int .i64 ((i.1.1 : Int) - 1))]) [(0, _), (1, _), (3, _), (6, _), (9, _), (10, _)] (fun q => q.1.2.2.2 ++ [(b8, .cells (u8s a).toArray 24 (0, 0))]) (fun q => q.1.1) ⟨(l.length, [], .slice none 0 0, []), Nat.le_refl _, by simp, by simp, .nil⟩ ⟨rfl, rfl, rfl, rfl, rfl, rfl, rfl, rfl, trivial⟩ (fun _ h => h) ?_
  rintro ⟨⟨k, m, mv, MB⟩, hk, hm, hml, hB⟩
  dsimp only at hk hm hml hB ⊢
  by_cases hlt : 0 < k
  · obtain ⟨i, rfl⟩ : ∃ i, k = i + 1 := ⟨k - 1, by omega⟩
    obtain ⟨b, o, rfl, _⟩ := row_get (m := 19) h19 (by omega) (hatA []) (k := i) (by omega)
    rw [show (((i + 1 : Nat) : Int) - 1) = (i : Int) by omega]
    have hil : i < l.length := by omega
    have c1 : ∀ (H : Heap) (w : World), Own W H w → CellsAt w b (o + i * 19) (pnC l[i]) := fun H w hw => by
      obtain ⟨b', o', hb, a'⟩ := row_get (m := 19) h19 (by omega) (hatA H) (k := i) (by omega)
      cases hb; exact a' i (by omega) w hw
    have sy := sp _ (List.getElem_mem hil)
    have ly := h19 _ (List.getElem_mem hil)
    have hmi : ∀ x, x ∈ m ++ [l[i]] ↔ x ∈ l.drop i := by
      intro x
      rw [List.drop_eq_getElem_cons hil, List.mem_append, List.mem_singleton, List.mem_cons, hm]
      exact or_comm
    have hm2 : ∀ x, x ∈ (m ++ [l[i]]) ++ [l[i]] ↔ x ∈ l.drop i := by
      intro x
      rw [List.mem_append, hmi, List.mem_singleton]
      exact ⟨fun h => h.elim id (fun h => by rw [h, List.drop_eq_getElem_cons hil]; exact List.mem_cons_self), .inl⟩
    repeat' first | refine Y.st ?_ | (refine nw ?_; intro _) | refine Y.kn ?_ | fail
    refine G.rd (Rd.loadAggC rfl (c1 _) ly) rfl rfl ?_
    generalize l[i] = y at *
    refine G.ef rfl rfl rfl (Eff.buildSlice (cells := (pnC y).toArray) rfl (by exact fill_pn sy.1.1) (by omega) (fun b3 => ?_))
    have q1 : ((b3, .cells (pnC y).toArray 35 (0, 0)) :: (MB ++ [(b8, .cells (u8s a).toArray 24 (0, 0))])).Perm (MB ++ ((b3, .cells (pnC y).toArray 35 (0, 0)) :: [(b8, .cells (u8s a).toArray 24 (0, 0))])) := by exact permC
    refine G.ef rfl rfl rfl (Eff.app (ys := pnC y) rfl hB rfl (hH := ⟨q1⟩) (by omega) (by rw [ly]) (at_here (cs := pnC y)) (pnC_one _) (by omega) (by omega) (fun mv2 MB2 hB2 => ?_))
    have hB2' : Buf 35 19 mv2 (m ++ [y]).length ((m ++ [y]).flatMap pnC) MB2 := by simpa using hB2
    by_cases h2 : ((i : Int) % 2 = 0)
    · repeat' first | refine Y.st ?_ | (refine nw ?_; intro _) | refine Y.kn ?_ | fail
      refine G.rd (Rd.loadAggC rfl (c1 _) ly) rfl rfl ?_
      refine G.ef rfl rfl rfl (Eff.buildSlice (cells := (pnC y).toArray) rfl (by exact fill_pn sy.1.1) (by omega) (fun b4 => ?_))
      have q2 : ((b4, .cells (pnC y).toArray 35 (0, 0)) :: (MB2 ++ ((b3, .cells (pnC y).toArray 35 (0, 0)) :: [(b8, .cells (u8s a).toArray 24 (0, 0))]))).Perm (MB2 ++ ((b4, .cells (pnC y).toArray 35 (0, 0)) :: (b3, .cells (pnC y).toArray 35 (0, 0)) :: [(b8, .cells (u8s a).toArray 24 (0, 0))])) := by exact permC
      refine G.ef rfl rfl rfl (Eff.app (ys := pnC y) rfl hB2 rfl (hH := ⟨q2⟩) (by omega) (by rw [ly]) (at_here (cs := pnC y)) (pnC_one _) (by omega) (by omega) (fun mv3 MB3 hB3 => ?_))
      have hB3' : Buf 35 19 mv3 ((m ++ [y]) ++ [y]).length (((m ++ [y]) ++ [y]).flatMap pnC) MB3 := by simpa [Nat.add_assoc] using hB3
      repeat' first | refine Y.st ?_ | (refine nw ?_; intro _) | refine Y.kn ?_ | fail
      exact GQ.back ⟨(i, (m ++ [y]) ++ [y], mv3, MB3), by omega, hm2, by simp only [List.length_append, List.length_singleton]; omega, hB3'⟩ (by simp only; omega) ⟨rfl, rfl, rfl, rfl, rfl, rfl, rfl, rfl, trivial⟩ (fun w hw => hw.sub (List.Sublist.append_left ((List.sublist_cons_self _ _).trans (List.sublist_cons_self _ _)) MB3))
    · repeat' first | refine Y.st ?_ | (refine nw ?_; intro _) | refine Y.kn ?_ | fail
      exact GQ.back ⟨(i, m ++ [y], mv2, MB2), by omega, hmi, by simp only [List.length_append, List.length_singleton]; omega, hB2'⟩ (by simp only; omega) ⟨rfl, rfl, rfl, rfl, rfl, rfl, rfl, rfl, trivial⟩ (fun w hw => hw.sub (List.Sublist.append_left (List.sublist_cons_self _ _) MB2))
  obtain rfl : k = 0 := by omega
  rw [List.drop_zero] at hm
  obtain ⟨pm, cm, rfl, hcm, hlm⟩ := Go.Tri.Buf.see hB
  have hpm := all_perm (fun x => (hm x).symm)
  have hkn := nodup_all l
  have hkr := right_keys (l := l)
  have hkz := siz_keys sp
  have hle := all_le l
  have sm : ∀ x ∈ m, SizP x := fun x hx => sp x ((hm x).1 hx)
  have nm : ∀ x ∈ m, x.name.length ≤ 2000000 := fun x hx => sn x ((hm x).1 hx)
  have hkn2 := nodup_all m
  have hkr2 := right_keys (l := m)
  have hkz2 := siz_keys sm
  have hle2 := all_le m
  have e1 := live_perm hpm host now
  have e2 := check_perm hpm host a now
  have e3 := hpm.length_eq
  repeat' first | refine Y.st ?_ | (refine nw ?_; intro _) | refine Y.kn ?_ | fail
  refine G.ef rfl rfl rfl (Eff.callF rfl ((pnew_spec hv (hp _) sp sn (by omega)).mono ?_))
  rintro u H' ⟨bt, TH, rfl, hT, rfl⟩
  repeat' first | refine Y.st ?_ | (refine nw ?_; intro _) | refine Y.kn ?_ | fail
  refine G.ef rfl rfl rfl (Eff.callF rfl ((pnew_spec hv (l := m) ⟨pm, cm, rfl, hcm, ((((hlm W).app [(b8, .cells (u8s a).toArray 24 (0, 0))]).imp (fun _ hφ => hφ.perm List.perm_append_comm))).app TH⟩ sm nm (by omega)).mono ?_))
  rintro u H' ⟨bt2, TH2, rfl, hT2, rfl⟩
  repeat' first | refine Y.st ?_ | (refine nw ?_; intro _) | refine Y.kn ?_ | fail
  cases hf : fewP l with
  | false =>
    repeat' first | refine Y.st ?_ | (refine nw ?_; intro _) | refine Y.kn ?_ | fail
    exact GQ.done1 rfl rfl rfl
  | true =>
    obtain ⟨hf1, hf2⟩ := fewP_iff.1 hf
    by_cases hh : host.length ≤ 300
    case neg =>
      repeat' first | refine Y.st ?_ | (refine nw ?_; intro _) | refine Y.kn ?_ | fail
      exact GQ.done1 rfl rfl rfl
    have hll := live_len (addAllT l) host now
    have hlle := liveL_len (addAllT l) host now
    have hsz : ∀ c ∈ liveL (addAllT l) host now, SizC c := fun c hc => by
      obtain ⟨v, h1, _⟩ := mem_liveL.1 hc
      exact hkz _ h1
    repeat' first | refine Y.st ?_ | (refine nw ?_; intro _) | refine Y.kn ?_ | fail
    clear hm hk hf1 hB hpm sm nm sn hatA h19 hp hal
    refine GC.weak (e' := [(1, S host), (3, .int .i64 now), (6, .pointer (some ⟨b8, 0, none⟩)), (9, .bool true), (13, .pointer (some ⟨bt, 0, none⟩)), (14, .pointer (some ⟨bt2, 0, none⟩))]) (H' := TH2 ++ (TH ++ (MB ++ [(b8, .cells (u8s a).toArray 24 (0, 0))]))) ?_ ⟨rfl, rfl, rfl, rfl, rfl, rfl, trivial⟩ (fun _ h => h)
    haveI i0 : SubH [(b8, .cells (u8s a).toArray 24 (0, 0))] (TH2 ++ (TH ++ (MB ++ [(b8, .cells (u8s a).toArray 24 (0, 0))]))) := SubH.app (h := SubH.app (h := SubH.app (h := ⟨.refl _⟩)))
    refine GC.drawn schO [(b8, .cells (u8s a).toArray 24 (0, 0))] (by kernel_rfl) (okO rfl) rfl ?_
    iterate 4 refine Y.one ?_
    refine G.ee rfl rfl rfl (Eff.callP (first := #[]) (captured := #[]) rfl rfl (H' := TH ++ (TH2 ++ (MB ++ [(b8, .cells (u8s a).toArray 24 (0, 0))]))) (by exact permC) ((plen_spec hT).mono ?_))
    rintro u H' ⟨rfl, rfl⟩
    haveI i1 : SubH [(b8, .cells (u8s a).toArray 24 (0, 0))] (TH ++ (TH2 ++ (MB ++ [(b8, .cells (u8s a).toArray 24 (0, 0))]))) := SubH.app (h := SubH.app (h := SubH.app (h := ⟨.refl _⟩)))
    refine ⟨i1, ?_⟩
    refine G.ee rfl rfl rfl (Eff.callP (first := #[]) (captured := #[]) rfl rfl (H' := TH2 ++ (TH ++ (MB ++ [(b8, .cells (u8s a).toArray 24 (0, 0))]))) (by exact permC) ((plen_spec hT2).mono ?_))
    rintro u H' ⟨rfl, rfl⟩
    rw [← e3]
    haveI i2 : SubH [(b8, .cells (u8s a).toArray 24 (0, 0))] (TH2 ++ (TH ++ (MB ++ [(b8, .cells (u8s a).toArray 24 (0, 0))]))) := SubH.app (h := SubH.app (h := SubH.app (h := ⟨.refl _⟩)))
    refine ⟨i2, ?_⟩
    iterate 9 refine Y.one ?_
    refine G.ee rfl rfl rfl (Eff.callP (first := #[]) (captured := #[]) rfl rfl (H' := TH ++ (TH2 ++ (MB ++ [(b8, .cells (u8s a).toArray 24 (0, 0))]))) (by exact permC) ((plive_spec hT hkn hkr hkz (by omega) host now).mono ?_))
    rintro u H' ⟨B1, hB1, rfl⟩
    haveI i3 : SubH [(b8, .cells (u8s a).toArray 24 (0, 0))] (B1 ++ (TH ++ (TH2 ++ (MB ++ [(b8, .cells (u8s a).toArray 24 (0, 0))])))) := SubH.app (h := SubH.app (h := SubH.app (h := SubH.app (h := ⟨.refl _⟩))))
    refine ⟨i3, ?_⟩
    obtain ⟨p1, c1, rfl, hc1, hl1⟩ := Go.Tri.Buf.see hB1
    refine G.ee rfl rfl rfl (Eff.callP (first := #[]) (captured := #[]) rfl rfl (H' := TH2 ++ (B1 ++ (TH ++ (MB ++ [(b8, .cells (u8s a).toArray 24 (0, 0))])))) (by exact permC) ((plive_spec hT2 hkn2 hkr2 hkz2 (by omega) host now).mono ?_))
    rintro u H' ⟨B2, hB2, rfl⟩
    rw [← e1] at hB2
    haveI i4 : SubH [(b8, .cells (u8s a).toArray 24 (0, 0))] (B2 ++ (TH2 ++ (B1 ++ (TH ++ (MB ++ [(b8, .cells (u8s a).toArray 24 (0, 0))]))))) := SubH.app (h := SubH.app (h := SubH.app (h := SubH.app (h := SubH.app (h := ⟨.refl _⟩)))))
    refine ⟨i4, ?_⟩
    obtain ⟨p2, c2, rfl, hc2, hl2⟩ := Go.Tri.Buf.see hB2
    have l1 : Go.Tri.Lies W (B2 ++ (TH2 ++ (B1 ++ (TH ++ (MB ++ [(b8, .cells (u8s a).toArray 24 (0, 0))]))))) p1 ((liveL (addAllT l) host now).flatMap cdC) := ((hl1 W).app (B2 ++ (TH2 ++ (TH ++ (MB ++ [(b8, .cells (u8s a).toArray 24 (0, 0))]))))).imp (fun _ hφ => hφ.perm (by exact permC))
    have l2 : Go.Tri.Lies W (B2 ++ (TH2 ++ (B1 ++ (TH ++ (MB ++ [(b8, .cells (u8s a).toArray 24 (0, 0))]))))) p2 ((liveL (addAllT l) host now).flatMap cdC) := ((hl2 W).app (TH2 ++ (B1 ++ (TH ++ (MB ++ [(b8, .cells (u8s a).toArray 24 (0, 0))]))))).imp (fun _ hφ => hφ.perm List.perm_append_comm)
    refine G.ee rfl rfl rfl (Eff.callF rfl ((Go.Cid.same_spec hsz hsz (c := c1) (d := c2) l1 l2 (by omega) (by omega)).mono ?_))
    rintro u H' ⟨rfl, rfl⟩
    refine ⟨i4, ?_⟩
    rw [decide_eq_true rfl]
    iterate 10 refine Y.one ?_
    refine G.ee rfl rfl rfl (Eff.callP (first := #[]) (captured := #[]) rfl rfl (H' := TH ++ (B2 ++ (TH2 ++ (B1 ++ (MB ++ [(b8, .cells (u8s a).toArray 24 (0, 0))]))))) (by exact permC) ((pcheck_spec hT hkn hkr hkz (by omega) host a ha now).mono ?_))
    rintro u H' ⟨rfl, rfl⟩
    haveI i6 : SubH [(b8, .cells (u8s a).toArray 24 (0, 0))] (TH ++ (B2 ++ (TH2 ++ (B1 ++ (MB ++ [(b8, .cells (u8s a).toArray 24 (0, 0))]))))) := SubH.app (h := SubH.app (h := SubH.app (h := SubH.app (h := SubH.app (h := ⟨.refl _⟩)))))
    refine ⟨i6, ?_⟩
    refine G.ee rfl rfl rfl (Eff.callP (first := #[]) (captured := #[]) rfl rfl (H' := TH2 ++ (TH ++ (B2 ++ (B1 ++ (MB ++ [(b8, .cells (u8s a).toArray 24 (0, 0))]))))) (by exact permC) ((pcheck_spec hT2 hkn2 hkr2 hkz2 (by omega) host a ha now).mono ?_))
    rintro u H' ⟨rfl, rfl⟩
    rw [← e2]
    haveI i7 : SubH [(b8, .cells (u8s a).toArray 24 (0, 0))] (TH2 ++ (TH ++ (B2 ++ (B1 ++ (MB ++ [(b8, .cells (u8s a).toArray 24 (0, 0))]))))) := SubH.app (h := SubH.app (h := SubH.app (h := SubH.app (h := SubH.app (h := ⟨.refl _⟩)))))
    refine ⟨i7, ?_⟩
    iterate 3 refine Y.one ?_
    repeat' first | refine Y.st ?_ | (refine nw ?_; intro _) | refine Y.kn ?_ | fail
    exact GQ.done1 rfl rfl rfl
theorem pin_two {v : VT} {W : World} (h : VT.Lies Tryz.prog W 35 v) : 2 ≤ v.bulk := by
  obtain ⟨ps, rfl, h1⟩ := Go.Own.Lies.agg h
  obtain ⟨a1, r1, rfl, k1, h1⟩ := lies_one h1
  obtain ⟨p, rfl, hp⟩ := Go.Own.Lies.str k1
  simp only [VT.bulk, VT.bulkL]; omega
theorem pins_two {W : World} : ∀ {es : List VT}, VT.LiesAll Tryz.prog W 35 es → 2 * es.length ≤ VT.bulkL es
  | [], _ => by simp
  | x :: es, h => by
    simp only [VT.LiesAll] at h
    have h1 := pin_two h.1
    have h2 := pins_two h.2
    simp only [VT.bulkL, List.length_cons]; omega
theorem lies_pinsAt2 {v : VT} {W : World} (h : VT.Lies Tryz.prog W 22 v) : ∃ l : List Pn, (∀ F, PinsAt W F v.val l) ∧ (∀ x ∈ l, SizP x) ∧ (∀ x ∈ l, x.name.length ≤ v.bulk) ∧ 2 * l.length ≤ v.bulk := by
  obtain ⟨p2, c2, es, rfl, hp2, hc2, hb2, hat2, hes⟩ := Go.Own.Lies.slice h
  obtain ⟨l, g1, g2, g3, g4, _⟩ := lies_pinsB hes
  have g5 := pins_two hes
  rw [g2] at hat2
  refine ⟨l, fun F => ⟨p2, c2, by simp [VT.val, g1], by omega, lies_base hat2⟩, g3, fun x hx => ?_, ?_⟩
  · have := g4 x hx; simp only [VT.bulk]; omega
  · simp only [VT.bulk]; omega
theorem PinsOrder_walk (W : World) (vts : List VT) (hv : Vars W) (h : VT.LiesEach Tryz.prog W [22, 9, 24, 3] vts) (hb : VT.bulkL vts ≤ 1048576) : T Tryz.prog W 4 (vts.map VT.val).toArray [] (fun v _ => v = .bool true) := by
  obtain ⟨v0, r, rfl, h0, h⟩ := lies_one h
  obtain ⟨v1, r, rfl, h1, h⟩ := lies_one h
  obtain ⟨v2, r, rfl, h2, h⟩ := lies_one h
  obtain ⟨v3, r, rfl, h3, h⟩ := lies_one h
  obtain rfl := lies_nil h
  simp only [VT.bulkL] at hb
  obtain ⟨l, hp, sp, sn, hl⟩ := lies_pinsAt2 h0
  obtain ⟨s, rfl, _⟩ := Go.Own.Lies.str h1
  obtain ⟨a, ha, hav, _⟩ := lies_addr h2
  obtain ⟨n, rfl, _⟩ := Go.Own.Lies.int h3
  rw [show (([v0, .str s, v2, .int .i64 n] : List VT).map VT.val).toArray = #[v0.val, S s, .agg (u8s a).toArray, .int .i64 n] by simp only [List.map_cons, List.map_nil, hav]; rfl]
  exact PinsOrder_core W hv _ l s a n hp sp (fun y hy => by have := sn y hy; omega) (by omega) ha
end Go.Pin
namespace Go.Proofs.YtajkpdhcefkopaaGreatDoor.LPinsOrder
open Go.Own
theorem own : ownKnob Tryz.prog.godebug = none := by kernel_rfl
theorem reads (os : Os) {H : Type} (enc : TypeId × Value → H) : ∃ x, DataW.whole enc Tryz.prog ((laidWorld os).forCall (fun _ _ => 0) ⟨#[], #[.slice none 0 0, .string ⟨#[]⟩, Value.agg #[.int .u8 0, .int .u8 0, .int .u8 0, .int .u8 0, .int .u8 0, .int .u8 0, .int .u8 0, .int .u8 0, .int .u8 0, .int .u8 0, .int .u8 0, .int .u8 0, .int .u8 0, .int .u8 0, .int .u8 0, .int .u8 0], .int .i64 0], []⟩).memory Tryz.f4.params.toList Rows.pinsOrderSpec.vars false #[.slice none 0 0, .string ⟨#[]⟩, Value.agg #[.int .u8 0, .int .u8 0, .int .u8 0, .int .u8 0, .int .u8 0, .int .u8 0, .int .u8 0, .int .u8 0, .int .u8 0, .int .u8 0, .int .u8 0, .int .u8 0, .int .u8 0, .int .u8 0, .int .u8 0, .int .u8 0], .int .i64 0].toList 8 = some x ∧ Rows.uptoSmall H (x.1 ++ x.2.1) = true := by
  have h : ((DataW.whole enc Tryz.prog ((laidWorld os).forCall (fun _ _ => 0) ⟨#[], #[.slice none 0 0, .string ⟨#[]⟩, Value.agg #[.int .u8 0, .int .u8 0, .int .u8 0, .int .u8 0, .int .u8 0, .int .u8 0, .int .u8 0, .int .u8 0, .int .u8 0, .int .u8 0, .int .u8 0, .int .u8 0, .int .u8 0, .int .u8 0, .int .u8 0, .int .u8 0], .int .i64 0], []⟩).memory Tryz.f4.params.toList Rows.pinsOrderSpec.vars false #[.slice none 0 0, .string ⟨#[]⟩, Value.agg #[.int .u8 0, .int .u8 0, .int .u8 0, .int .u8 0, .int .u8 0, .int .u8 0, .int .u8 0, .int .u8 0, .int .u8 0, .int .u8 0, .int .u8 0, .int .u8 0, .int .u8 0, .int .u8 0, .int .u8 0, .int .u8 0], .int .i64 0].toList 8).map fun x => Rows.uptoSmall H (x.1 ++ x.2.1)) = some true := by kernel_rfl
  obtain ⟨x, hx, h2⟩ := Option.map_eq_some_iff.1 h
  exact ⟨x, hx, h2⟩
set_option maxRecDepth 100000 in
theorem lifted (os : Os) (started : os.Started) (H : Type) (enc : TypeId × Value → H) (F : Stop.Interp) :
    ReturnsInHanded {} Tryz.checked os 4 .any ((Rows.OpenSpec.upto Rows.pinsOrderSpec).preRow enc Tryz.prog Tryz.f4 Rows.pinsOrderUptoRow.domain false Rows.pinsOrderUptoRow.laid) (((Rows.OpenSpec.upto Rows.pinsOrderSpec).at F).post enc Tryz.prog Tryz.f4 false true false false) := by
  obtain ⟨x, hx, hx2⟩ := reads os enc
  exact law_upto (kc := Rows.uptoSmall) (N := 1048576) (Go.Own.countsU H) (fun ds h => of_decide_eq_true h) (C := Tryz.checked) (D := 20) (tb := 4) own started (by kernel_rfl) Tryz.func4 rfl rfl Tryz.underlying4 (by kernel_rfl) (by kernel_rfl) (by kernel_rfl)
    (fun K ds h => by match ds, h with | [_, _, _, _], _ => rfl)
    (witness_row_atRef (enc := enc) (C := Tryz.checked) false (laidWorld os) #[.slice none 0 0, .string ⟨#[]⟩, Value.agg #[.int .u8 0, .int .u8 0, .int .u8 0, .int .u8 0, .int .u8 0, .int .u8 0, .int .u8 0, .int .u8 0, .int .u8 0, .int .u8 0, .int .u8 0, .int .u8 0, .int .u8 0, .int .u8 0, .int .u8 0, .int .u8 0], .int .i64 0] rfl (laid_shaped1 os _) (laid_shaped2 os _) (by kernel_rfl)
      (OpenSpec.preRow_of_cond 8 hx (by kernel_rfl) (fun k hk => by cases hk; exact hx2) (by kernel_rfl) (laid_met os _)))
    (fun W vts hsh hL h hb => Go.Pin.PinsOrder_walk _ vts (Go.Nam.vars_of hsh hL) (by rw [Tryz.params4] at h; exact h) hb)
theorem j1 : Tryz.prog.inPlace 4 = Rows.pinsOrderUptoRow.inPlace := eq_of_beq (by kernel_rfl)
theorem j2 : Tryz.prog.unfollowed 4 = Rows.pinsOrderUptoRow.unfollowed := eq_of_beq (by kernel_rfl)
theorem j3 : Tryz.prog.recurses 4 = Rows.pinsOrderUptoRow.recurses := eq_of_beq (by kernel_rfl)
theorem j4 : Tryz.prog.varsNamed 4 = Rows.pinsOrderUptoRow.named := eq_of_beq (by kernel_rfl)
theorem joined : joinedFacts Tryz.prog 4 Tryz.f4 (Rows.OpenSpec.upto Rows.pinsOrderSpec).bare Rows.pinsOrderUptoRow = true := by
  unfold joinedFacts
  rw [j1, j2, j3, j4]
  kernel_rfl
theorem said : Rows.PinsOrderUptoSaid :=
  OpenClaim.holds_of_cond 4 Tryz.f4 rfl rfl rfl rfl rfl rfl rfl ⟨rfl, rfl, rfl, rfl, rfl⟩ rfl rfl rfl rfl rfl (by kernel_rfl) Tryz.func4 joined
    (of_decide_eq_true (by kernel_rfl)) (by unfold Func.isWrapper; first | (rw [if_pos (by decide +kernel)]; kernel_rfl) | (rw [if_neg (by decide +kernel)]; exact ⟨rfl, rfl⟩))
    (fun os started H enc _ F => by rw [OpenClaim.pre_eq_preRow]; exact lifted os started H enc F)
theorem plain (f : FuncId) (fn : Func) (hf : Tryz.pinned.checked.prog.funcNamed "hagioscope/hagioscopelaw20.PinsOrder" = some f) (hfn : Tryz.pinned.checked.prog.funcs[f]? = some fn) :
    true = Tryz.pinned.checked.prog.looks [] ∧ ∀ (j : Nat) t, fn.params[j]? = some t → Tryz.pinned.checked.prog.wantsStandIn t = false := by
  obtain rfl : f = 4 := Option.some.inj ((show Tryz.prog.funcNamed "hagioscope/hagioscopelaw20.PinsOrder" = some 4 by kernel_rfl).symm.trans hf) |>.symm
  obtain rfl : fn = Tryz.f4 := (Option.some.inj (Tryz.func4.symm.trans hfn)).symm
  refine ⟨by kernel_rfl, fun j t ht => ?_⟩
  have hall : Tryz.f4.params.toList.all (fun t => !Tryz.prog.wantsStandIn t) = true := by kernel_rfl
  have := List.all_eq_true.1 hall t (Array.mem_toList_iff.2 (Array.mem_of_getElem? ht))
  have h2 : Tryz.prog.wantsStandIn t = false := by simpa using this
  exact h2
end Go.Proofs.YtajkpdhcefkopaaGreatDoor.LPinsOrder
namespace Go.Proofs.YtajkpdhcefkopaaGreatDoor
/-- The law PinsOrder holds: its card. -/
theorem pinsOrder_holds : Rows.PinsOrderUptoCardSaid :=
  Claim7.holds_tied_plain_at .later [] _ _ _ _ LPinsOrder.said (fun _ h => by cases h) (by kernel_rfl) (fun _ h => by cases h) pinsOrderUpto_row_tie rfl ⟨rfl, rfl⟩ (by kernel_rfl) rfl LPinsOrder.plain (by kernel_rfl)
#print axioms pinsOrder_holds
end Go.Proofs.YtajkpdhcefkopaaGreatDoor
