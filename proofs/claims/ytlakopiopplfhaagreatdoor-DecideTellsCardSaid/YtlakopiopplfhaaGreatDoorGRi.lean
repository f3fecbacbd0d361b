/-
  THE DOCUMENT'S ANSWERS: is a tenant's file right.
  THE DOCUMENT'S ANSWERS: a table of pins.
  THE DOCUMENT'S ANSWERS: a table of pins: what lives, Check.
-/
import Derived.Test.YtlakopiopplfhaaGreatDoorGPq
import Derived.Test.YtlakopiopplfhaaGreatDoorGCk
import Derived.Test.YtlakopiopplfhaaGreatDoorGRh
import Derived.Test.YtlakopiopplfhaaGreatDoorGTd
import Derived.Test.YtlakopiopplfhaaGreatDoorGPr
import Derived.Test.YtlakopiopplfhaaGreatDoorGPn
namespace Go.Pol
open Go.Own Go.Proofs Go.RowKit Go.Lib Go.Asc Go.Adr Go.Nam Go.Tri Go.Cid Go.Rfn
attribute [local irreducible] GC GQ G Rd Eff T
set_option maxRecDepth 20000
set_option maxHeartbeats 4000000
theorem cells_cd {w : World} {b o : Nat} {x : Pn} (h : CellsAt w b o (pnC x)) : CellsAt w b (o + 1) (cdC x.cidr) := fun j u hj => by
  have h1 : (pnC x)[j + 1]? = some u := by
    have h2 := (List.getElem?_eq_some_iff.1 hj).1
    show (S x.name :: (u8s x.cidr.addr ++ [Value.int .i64 x.cidr.bits, Value.int .i64 x.till]))[j + 1]? = some u
    rw [List.getElem?_cons_succ, show u8s x.cidr.addr ++ [Value.int .i64 x.cidr.bits, Value.int .i64 x.till] = cdC x.cidr ++ [Value.int .i64 x.till] by simp, List.getElem?_append_left h2]
    exact hj
  have := h (j + 1) u h1
  rw [show o + 1 + j = o + (j + 1) by omega]; exact this
theorem cells_name {w : World} {b o : Nat} {x : Pn} (h : CellsAt w b o (pnC x)) : w.cell? ⟨b, o, none⟩ = some (S x.name) := h 0 _ rfl
theorem cells_till {w : World} {b o : Nat} {x : Pn} (ha : x.cidr.addr.length = 16) (h : CellsAt w b o (pnC x)) : w.cell? ⟨b, o + 18, none⟩ = some (.int .i64 x.till) := h 18 _ (by
    show (S x.name :: (u8s x.cidr.addr ++ [Value.int .i64 x.cidr.bits, Value.int .i64 x.till]))[17 + 1]? = _
    rw [List.getElem?_cons_succ, List.getElem?_append_right (by rw [u8s_length, ha]; omega), u8s_length, ha]; rfl)
section
variable {W0 : World} {F : Heap}
attribute [local irreducible] Lit.wf addL pinErr rulesErr pinsErr normalL rightC ofL
theorem rpinned_spec {l : List Pn} {v : Value} (hp : PinsAt W0 F v l) (sp : ∀ x ∈ l, SizP x) (sn : ∀ x ∈ l, x.name.length ≤ 2000000) (hl : l.length ≤ 2000000) :
    T Tryz.prog W0 96 #[v] F (fun u H' => u = .int .i64 (if 200 < l.length then 2 else pinsErr [] l) ∧ H' = F) := by
  obtain ⟨pp, cc, rfl, hcc, hat⟩ := hp
  refine T.intro (args := [_]) Tryz.func96 rfl Tryz.ntmps96 rfl ?_
  by_cases h200 : 200 < l.length
  · repeat' first | refine Y.st ?_ | (refine nw ?_; intro _) | refine Y.kn ?_ | fail
    exact GQ.pure1 rfl (.tmp rfl) (by rw [if_pos h200])
  rw [if_neg h200]
  repeat' first | refine Y.st ?_ | (refine nw ?_; intro _) | refine Y.kn ?_ | fail
  refine GC.loopE (ι := { k : Nat // k ≤ l.length ∧ pinsErr [] l = pinsErr (l.take k) (l.drop k) }) (fun i => [(3, .int .i64 (i.1 : Int))]) [(0, _)] (fun _ => F) (fun k => l.length - k.1) ⟨0, Nat.zero_le _, rfl⟩ ⟨rfl, rfl, trivial⟩ (fun _ h => h) ?_
  rintro ⟨k, hk, hE⟩
  dsimp only at hk hE ⊢
  by_cases hlt : k < l.length
  · obtain ⟨b, o, rfl, hc1⟩ := pins_get sp hat hlt
    have c1 := hc1 k hlt
    have hS := getD_siz sp hlt
    have hN : (l.getD k zeroP).name.length ≤ 2000000 := sn _ (by rw [List.getD_eq_getElem?_getD, List.getElem?_eq_getElem hlt]; exact List.getElem_mem hlt)
    have hst := pinsErr_step hlt hE
    have htk := take_getD l zeroP hlt
    have ha := hS.1.1
    have hS1 := hS.1
    have hpe : pinErr (l.take k) (l.getD k zeroP) = if normalL (l.getD k zeroP).name ≠ ((l.getD k zeroP).name, 0) then 9 else if rightC (l.getD k zeroP).cidr = false ∨ (l.getD k zeroP).till < 0 ∨ 1099511627776 < (l.getD k zeroP).till then 1 else if placeOf (l.getD k zeroP) ∈ (l.take k).map placeOf then 7 else 0 := by
      delta pinErr; rfl
    generalize hxk : l.getD k zeroP = x at c1 hS hS1 hst htk hN ha hpe
    repeat' first | refine Y.st ?_ | (refine nw ?_; intro _) | refine Y.kn ?_ | fail
    refine G.rd (Rd.load rfl (fun w hw => cells_name (c1 w hw))) rfl rfl ?_
    repeat' first | refine Y.st ?_ | (refine nw ?_; intro _) | refine Y.kn ?_ | fail
    refine G.rd (Rd.loadAggC (cs := cdC x.cidr) rfl (fun w hw => cells_cd (c1 w hw)) (cdC_len ha)) rfl rfl ?_
    refine G.ef rfl rfl rfl (Eff.callF rfl ((rright_spec x.cidr hS1).mono ?_))
    rintro u H' ⟨rfl, rfl⟩
    by_cases h5 : (normalL x.name).2 = 0
    case neg =>
      have hp9 : pinErr (l.take k) x = 9 := by rw [hpe, if_pos (fun e => h5 (by rw [e]))]
      have h9 := hst.2 (by rw [hp9]; omega)
      repeat' first | refine Y.st ?_ | (refine nw ?_; intro _) | refine Y.kn ?_ | fail
      exact GQ.pure1 rfl (.tmp rfl) (by rw [h9, hp9])
    by_cases h4 : (normalL x.name).1 = x.name
    case neg =>
      have hp9 : pinErr (l.take k) x = 9 := by rw [hpe, if_pos (fun e => h4 (by rw [e]))]
      have h9 := hst.2 (by rw [hp9]; omega)
      repeat' first | refine Y.st ?_ | (refine nw ?_; intro _) | refine Y.kn ?_ | fail
      refine G.rd (Rd.load rfl (fun w hw => cells_name (c1 w hw))) rfl rfl ?_
      repeat' first | refine Y.st ?_ | (refine nw ?_; intro _) | refine Y.kn ?_ | fail
      exact GQ.pure1 rfl (.tmp rfl) (by rw [h9, hp9])
    have hnm : normalL x.name = (x.name, 0) := Prod.ext h4 h5
    rw [if_neg (fun h => h hnm)] at hpe
    repeat' first | refine Y.st ?_ | (refine nw ?_; intro _) | refine Y.kn ?_ | fail
    refine G.rd (Rd.load rfl (fun w hw => cells_name (c1 w hw))) rfl rfl ?_
    repeat' first | refine Y.st ?_ | (refine nw ?_; intro _) | refine Y.kn ?_ | fail
    cases hr : rightC x.cidr with
    | false =>
      have hp9 : pinErr (l.take k) x = 1 := by rw [hpe, if_pos (.inl hr)]
      have h9 := hst.2 (by rw [hp9]; omega)
      repeat' first | refine Y.st ?_ | (refine nw ?_; intro _) | refine Y.kn ?_ | fail
      exact GQ.pure1 rfl (.tmp rfl) (by rw [h9, hp9])
    | true =>
    repeat' first | refine Y.st ?_ | (refine nw ?_; intro _) | refine Y.kn ?_ | fail
    refine G.rd (Rd.load rfl (fun w hw => cells_till ha (c1 w hw))) rfl rfl ?_
    by_cases ht1 : x.till < 0
    · have hp9 : pinErr (l.take k) x = 1 := by rw [hpe, if_pos (.inr (.inl ht1))]
      have h9 := hst.2 (by rw [hp9]; omega)
      repeat' first | refine Y.st ?_ | (refine nw ?_; intro _) | refine Y.kn ?_ | fail
      exact GQ.pure1 rfl (.tmp rfl) (by rw [h9, hp9])
    repeat' first | refine Y.st ?_ | (refine nw ?_; intro _) | refine Y.kn ?_ | fail
    refine G.rd (Rd.load rfl (fun w hw => cells_till ha (c1 w hw))) rfl rfl ?_
    by_cases ht2 : 1099511627776 < x.till
    · have hp9 : pinErr (l.take k) x = 1 := by rw [hpe, if_pos (.inr (.inr ht2))]
      have h9 := hst.2 (by rw [hp9]; omega)
      repeat' first | refine Y.st ?_ | (refine nw ?_; intro _) | refine Y.kn ?_ | fail
      exact GQ.pure1 rfl (.tmp rfl) (by rw [h9, hp9])
    rw [if_neg (fun h => h.elim (fun h => by rw [hr] at h; cases h) (fun h => h.elim ht1 ht2))] at hpe
    repeat' first | refine Y.st ?_ | (refine nw ?_; intro _) | refine Y.kn ?_ | fail
    refine GC.loopE (ι := { j : Nat // j ≤ k ∧ ∀ m, m < j → placeOf (l.getD m zeroP) ≠ placeOf x }) (fun i => [(7, .int .i64 (i.1 : Int))]) [(0, _), (3, _)] (fun _ => H') (fun j => k - j.1) ⟨0, Nat.zero_le _, fun m h => by omega⟩ ⟨rfl, rfl, rfl, trivial⟩ (fun _ h => h) ?_
    rintro ⟨j, hj, hno⟩
    dsimp only at hj hno ⊢
    by_cases hjk : j < k
    · obtain ⟨b', o', hbo, hc2⟩ := pins_get sp hat (k := j) (by omega)
      have c2 := hc2 j (by omega)
      cases hbo
      have hS2 := (getD_siz sp (k := j) (by omega)).1
      have ha2 := hS2.1
      have hmem : ∀ y, l.getD j zeroP = y → y ∈ l.take k := fun y hy => by
        rw [List.getD_eq_getElem?_getD, List.getElem?_eq_getElem (show j < l.length by omega)] at hy
        rw [← hy]
        exact List.mem_take_iff_getElem.2 ⟨j, by omega, rfl⟩
      have hnx : ∀ (_ : placeOf (l.getD j zeroP) ≠ placeOf x) m, m < j + 1 → placeOf (l.getD m zeroP) ≠ placeOf x := fun h m hm => by
        rcases Nat.lt_or_ge m j with h1 | h1
        · exact hno m h1
        · obtain rfl : m = j := by omega
          exact h
      generalize l.getD j zeroP = y at c2 hS2 ha2 hmem hnx
      repeat' first | refine Y.st ?_ | (refine nw ?_; intro _) | refine Y.kn ?_ | fail
      refine GC.drawnH [(0, .read), (1, .read), (2, .read), (3, .read), (4, .read), (5, .read), (6, .read), (7, .read), (8, .read), (9, .read), (10, .read), (11, .read), (12, .read), (13, .read), (14, .read), (15, .read), (16, .read), (17, .read), (18, .read), (19, .read), (20, .read), (21, .read), (22, .read), (23, .read)] (by kernel_rfl) (by kernel_rfl) rfl ?_
      repeat' first | refine Y.st ?_ | (refine nw ?_; intro _) | refine Y.kn ?_ | fail
      refine G.rd (Rd.load rfl (fun w hw => cells_name (c2 w hw))) rfl rfl ?_
      iterate 4 refine Y.one ?_
      refine G.rd (Rd.load rfl (fun w hw => cells_name (c1 w hw))) rfl rfl ?_
      by_cases hnm2 : y.name = x.name
      case neg =>
        repeat' first | refine Y.st ?_ | (refine nw ?_; intro _) | refine Y.kn ?_ | fail
        exact GQ.back ⟨j + 1, by omega, hnx (fun e => hnm2 (congrArg Prod.fst e))⟩ (by simp only; omega) ⟨rfl, rfl, rfl, trivial⟩ (fun w hw => hw)
      repeat' first | refine Y.st ?_ | (refine nw ?_; intro _) | refine Y.kn ?_ | fail
      refine G.rd (Rd.loadAggC (cs := cdC y.cidr) rfl (fun w hw => cells_cd (c2 w hw)) (cdC_len ha2)) rfl rfl ?_
      repeat' first | refine Y.st ?_ | (refine nw ?_; intro _) | refine Y.kn ?_ | fail
      refine G.rd (Rd.loadAggC (cs := cdC x.cidr) rfl (fun w hw => cells_cd (c1 w hw)) (cdC_len ha)) rfl rfl ?_
      refine G.rd (Rd.eqlCd y.cidr x.cidr rfl rfl hS2 hS1) rfl rfl ?_
      by_cases hcd : y.cidr = x.cidr
      · have hp7 : pinErr (l.take k) x = 7 := by rw [hpe, if_pos (List.mem_map.2 ⟨y, hmem y rfl, Prod.ext hnm2 hcd⟩)]
        have h9 := hst.2 (by rw [hp7]; omega)
        rw [decide_eq_true hcd]
        repeat' first | refine Y.st ?_ | (refine nw ?_; intro _) | refine Y.kn ?_ | fail
        exact GQ.pure1 rfl (.tmp rfl) (by rw [h9, hp7])
      · rw [decide_eq_false hcd]
        repeat' first | refine Y.st ?_ | (refine nw ?_; intro _) | refine Y.kn ?_ | fail
        exact GQ.back ⟨j + 1, by omega, hnx (fun e => hcd (congrArg Prod.snd e))⟩ (by simp only; omega) ⟨rfl, rfl, rfl, trivial⟩ (fun w hw => hw)
    obtain rfl : j = k := by omega
    have hp0 : pinErr (l.take j) x = 0 := by
      rw [hpe, if_neg]
      intro hm
      obtain ⟨y, hy, he⟩ := List.mem_map.1 hm
      obtain ⟨m, hm2, rfl⟩ := List.mem_take_iff_getElem.1 hy
      refine hno m (by omega) ?_
      rw [List.getD_eq_getElem?_getD, List.getElem?_eq_getElem (show m < l.length by omega)]
      exact he
    have h9 := hst.1 hp0
    repeat' first | refine Y.st ?_ | (refine nw ?_; intro _) | refine Y.kn ?_ | fail
    exact GQ.back ⟨j + 1, by omega, h9⟩ (by simp only; omega) ⟨rfl, rfl, trivial⟩ (fun w hw => hw)
  obtain rfl : k = l.length := by omega
  rw [List.take_length, List.drop_length] at hE
  have hE0 : pinsErr [] l = 0 := by rw [hE]; delta pinsErr; rfl
  repeat' first | refine Y.st ?_ | (refine nw ?_; intro _) | refine Y.kn ?_ | fail
  exact GQ.pure1 rfl (.tmp rfl) (by rw [hE0])
theorem rright19_spec {p : Pol} {rv pv : Value} (hp : PolAt W0 F p rv pv) : T Tryz.prog W0 50 #[polV p rv pv] F (fun u H' => u = .int .i64 (rightP p) ∧ H' = F) := by
  obtain ⟨hr, hpn, sr, sp, sn, rl, pl⟩ := hp
  have hr' := hr
  have hpn' := hpn
  obtain ⟨pa, ca, rfl, hca, hat⟩ := hr'
  obtain ⟨pb, cb, rfl, hcb, hbt⟩ := hpn'
  refine T.intro (args := [_]) Tryz.func50 rfl Tryz.ntmps50 rfl ?_
  repeat' first | refine Y.st ?_ | (refine nw ?_; intro _) | refine Y.kn ?_ | fail
  rename_i b1
  refine G.rd (Rd.build (cells := #[.slice none 0 0]) rfl (by rfl)) rfl rfl ?_
  refine G.ef rfl rfl rfl (Eff.boxA rfl (fun by_ => ?_))
  have hU : RefQ [] by_ [(by_, Obj.cells #[.slice none 0 0] 104 (0, 0))] := ⟨.slice none 0 0, [], .nil, rfl, by simp, by simp, fine_nil⟩
  refine G.heap (H' := [(by_, Obj.cells #[.slice none 0 0] 104 (0, 0))] ++ ((b1, .cells #[.bool p.allow, .slice pa p.rules.length ca, .slice pb p.pins.length cb] 25 (0, 0)) :: F)) ?_ (fun _ h => h)
  generalize [(by_, Obj.cells #[.slice none 0 0] 104 (0, 0))] = UH at hU ⊢
  repeat' first | refine Y.st ?_ | (refine nw ?_; intro _) | refine Y.kn ?_ | fail
  refine GC.loopE (ι := { q : Nat × Heap // q.1 ≤ p.rules.length ∧ RefQ (p.rules.take q.1) by_ q.2 ∧ rulesErr [] p.rules = rulesErr (p.rules.take q.1) (p.rules.drop q.1) }) (fun i => [(4, .int .i64 (i.1.1 : Int))]) [(1, _), (3, _)]
    (fun q => q.1.2 ++ ((b1, .cells #[.bool p.allow, .slice pa p.rules.length ca, .slice pb p.pins.length cb] 25 (0, 0)) :: F)) (fun q => p.rules.length - q.1.1) ⟨(0, UH), Nat.zero_le _, hU, rfl⟩ ⟨rfl, rfl, rfl, trivial⟩ (fun _ h => h) ?_
  rintro ⟨⟨k, UH⟩, hk, hU, hE⟩
  dsimp only [List.cons_append, List.nil_append] at hk hU hE ⊢
  by_cases hlt : k < p.rules.length
  · obtain ⟨b, o, rfl, hc1⟩ := lies_get ((hat.cons (b1, .cells #[.bool p.allow, .slice pa p.rules.length ca, .slice pb p.pins.length cb] 25 (0, 0))).app UH) hlt
    have h1 := hc1 k hlt
    have hS := sr _ (getD_mem hlt)
    have hst := rulesErr_step hlt hE
    have htk := take_getD p.rules zeroR hlt
    generalize hrk : p.rules.getD k zeroR = r at h1 hS hst htk
    repeat' first | refine Y.st ?_ | (refine nw ?_; intro _) | refine Y.kn ?_ | fail
    refine G.ef rfl rfl rfl (Eff.callF rfl ((radd_spec hU r hS).mono ?_))
    rintro u H' ⟨rfl, UH2, hU2, hp2⟩
    refine G.heap ?_ (fun w hw => hw.perm hp2)
    by_cases h0 : (addL (p.rules.take k) r).2 = 0
    · rw [h0]
      have h9 := hst.1 h0
      rw [add_ok h0, ← htk] at hU2
      repeat' first | refine Y.st ?_ | (refine nw ?_; intro _) | refine Y.kn ?_ | fail
      exact GQ.back ⟨(k + 1, UH2), by omega, hU2, h9⟩ (by simp only; omega) ⟨rfl, rfl, rfl, trivial⟩ (fun w hw => hw)
    · have h9 := hst.2 h0
      have hR : rightP p = (addL (p.rules.take k) r).2 := by unfold rightP; rw [h9, if_pos h0]
      repeat' first | refine Y.st ?_ | (refine nw ?_; intro _) | refine Y.kn ?_ | fail
      refine GQ.heap (H' := F) ?_ (fun w hw => hw.sub ((List.sublist_cons_self _ _).trans (List.sublist_append_right _ _)))
      exact GQ.done1 rfl rfl ⟨by rw [hR], rfl⟩
  obtain rfl : k = p.rules.length := by omega
  rw [List.take_length, List.drop_length] at hE
  have hE0 : rulesErr [] p.rules = 0 := by rw [hE]; delta rulesErr; rfl
  have hR0 : rightP p = if 200 < p.pins.length then 2 else pinsErr [] p.pins := by unfold rightP; rw [hE0]; rfl
  repeat' first | refine Y.st ?_ | (refine nw ?_; intro _) | refine Y.kn ?_ | fail
  refine G.ef rfl rfl rfl (Eff.callF rfl ((rpinned_spec ((hpn.imp (fun _ hφ => hφ.cons _)).imp (fun _ hφ => hφ.app UH)) sp (fun x h => by have := sn x h; omega) (by omega)).mono ?_))
  rintro u H' ⟨rfl, rfl⟩
  repeat' first | refine Y.st ?_ | (refine nw ?_; intro _) | refine Y.kn ?_ | fail
  refine GQ.heap (H' := F) ?_ (fun w hw => hw.sub ((List.sublist_cons_self _ _).trans (List.sublist_append_right _ _)))
  exact GQ.done1 rfl rfl ⟨by rw [hR0], rfl⟩
end
end Go.Pol

namespace Go.Pin
open Go.Own Go.Proofs Go.RowKit Go.Lib Go.Asc Go.Adr Go.Nam Go.Tri Go.Cid Go.Pol Go.Rfn
attribute [local irreducible] GC GQ G Rd Eff T
set_option maxRecDepth 20000
set_option maxHeartbeats 4000000
/-- The document's table, among what is owned. -/
def RTabQ (t : Tab) (by_ : Nat) (H : Heap) : Prop := ∃ lv B, Buf 52 19 lv t.length ((refT t).flatMap pnC) B ∧ H = (by_, .cells #[lv] 166 (0, 0)) :: B ∧ (t.map Prod.fst).Nodup ∧ ∀ x ∈ refT t, SizP x
theorem set_tillL (extra : List Value) (v : Int) : ∀ (t : Tab) (k : Nat) (hk : k < t.length), (∀ x ∈ refT t, x.cidr.addr.length = 16) → ((refT t).flatMap pnC ++ extra).set (k * 19 + 18) (.int .i64 v) = (refT (t.set k (t[k].1, v))).flatMap pnC ++ extra
  | [], k, hk, _ => by simp at hk
  | e :: t, 0, _, ha => by
    have h1 := ha (toPn e) (by simp [refT])
    have hu : (u8s (toPn e).cidr.addr).length = 16 := by rw [u8s_length, h1]
    show ((refT (e :: t)).flatMap pnC ++ extra).set 18 _ = (refT ((e.1, v) :: t)).flatMap pnC ++ extra
    have h2 : ∀ e : Key × Int, (refT (e :: t)).flatMap pnC = pnC (toPn e) ++ (refT t).flatMap pnC := fun e => by simp [refT]
    rw [h2, h2, List.append_assoc, List.append_assoc, List.set_append_left _ _ (by rw [pnC_len h1]; omega)]
    congr 1
    show (S (toPn e).name :: (u8s (toPn e).cidr.addr ++ [Value.int .i64 (toPn e).cidr.bits, Value.int .i64 (toPn e).till])).set (17 + 1) _ = S (toPn e).name :: (u8s (toPn e).cidr.addr ++ [Value.int .i64 (toPn e).cidr.bits, Value.int .i64 v])
    rw [List.set_cons_succ, List.set_append_right _ _ (by rw [hu]; omega), hu]
    rfl
  | e :: t, k + 1, hk, ha => by
    have h1 := ha (toPn e) (by simp [refT])
    have h2 : ∀ t : Tab, (refT (e :: t)).flatMap pnC = pnC (toPn e) ++ (refT t).flatMap pnC := fun t => by simp [refT]
    have hk' : k < t.length := by simpa using hk
    have ih := set_tillL extra v t k hk' (fun x hx => ha x (by simp only [refT, List.map_cons, List.mem_cons]; exact .inr hx))
    show ((refT (e :: t)).flatMap pnC ++ extra).set ((k + 1) * 19 + 18) _ = (refT (e :: t.set k (t[k].1, v))).flatMap pnC ++ extra
    rw [h2, h2, List.append_assoc, List.append_assoc, List.set_append_right _ _ (by rw [pnC_len h1]; omega), pnC_len h1, show (k + 1) * 19 + 18 - 19 = k * 19 + 18 by omega, ih]
theorem siz_longer {a b : Int} (ha : (Lit.int .i64 a).wf = true) (hb : (Lit.int .i64 b).wf = true) : (Lit.int .i64 (longer a b)).wf = true := by
  have h1 := wf_i64 ha
  have h2 := wf_i64 hb
  unfold longer
  split
  · exact wf_small (by omega) (by omega)
  · exact wf_small (by omega) (by omega)
section
variable {W0 : World} {F : Heap}
attribute [local irreducible] Lit.wf addL pinErr rulesErr pinsErr normalL rightC ofL okP addT
theorem longer_spec (a b : Int) : T Tryz.prog W0 131 #[.int .i64 a, .int .i64 b] F (fun u H' => u = .int .i64 (longer a b) ∧ H' = F) := by
  refine T.intro (args := [_, _]) Tryz.func131 rfl Tryz.ntmps131 rfl ?_
  by_cases h1 : a = 0
  · repeat' first | refine Y.st ?_ | (refine nw ?_; intro _) | refine Y.kn ?_ | fail
    exact GQ.pure1 rfl (.tmp rfl) (by rw [longer, if_pos (.inl h1)])
  by_cases h2 : b = 0
  · repeat' first | refine Y.st ?_ | (refine nw ?_; intro _) | refine Y.kn ?_ | fail
    exact GQ.pure1 rfl (.tmp rfl) (by rw [longer, if_pos (.inr h2)])
  repeat' first | refine Y.st ?_ | (refine nw ?_; intro _) | refine Y.kn ?_ | fail
  exact GQ.pure1 rfl (.tmp rfl) (by rw [longer, if_neg (fun h => h.elim h1 h2)])
instance {a b : Int} : PureF Tryz.prog W0 131 [.int .i64 a, .int .i64 b] True (.int .i64 (longer a b)) := ⟨fun _ _ => longer_spec a b⟩
theorem rtadd_spec {t : Tab} {by_ : Nat} {TH : Heap} (h : RTabQ t by_ TH) (x : Pn) (hs : SizP x) (hn : x.name.length ≤ 2000000) (ht : t.length ≤ 2000000) :
    T Tryz.prog W0 98 #[.pointer (some ⟨by_, 0, none⟩), pnV x] (TH ++ F) (fun v H' => v = .bool (okP x) ∧ ∃ H2, RTabQ (addT t x) by_ H2 ∧ H' = H2 ++ F) := by
  have h' := h
  obtain ⟨lv, B, hB, rfl, hnd, hsz⟩ := h
  obtain ⟨p, c, rfl, hc, hl1⟩ := Go.Tri.Buf.see hB
  simp only [List.cons_append]
  have ha := hs.1.1
  have hl := pnC_len ha
  refine T.intro (args := [_, _]) Tryz.func98 rfl Tryz.ntmps98 rfl ?_
  repeat' first | refine Y.st ?_ | (refine nw ?_; intro _) | refine Y.kn ?_ | fail
  rename_i b3
  refine G.ef rfl rfl rfl (Eff.buildSlice (cells := (pnC x).toArray) rfl (by exact fill_pn ha) (by omega) (fun b9 => ?_))
  refine G.rd (Rd.build (cells := #[.bool false, .slice none 0 0, .slice (some ⟨b9, 0, none⟩) 1 1]) rfl (by rfl)) rfl rfl ?_
  refine G.ef rfl rfl rfl (Eff.callF rfl ((rright19_spec (p := ⟨false, [], [x]⟩) (rv := .slice none 0 0) (pv := .slice (some ⟨b9, 0, none⟩) 1 1)
    ⟨⟨none, 0, rfl, Nat.le_refl _, .inl rfl⟩, ⟨some ⟨b9, 0, none⟩, 1, rfl, Nat.le_refl _, .inr ⟨b9, 0, rfl, RO.cells (cs := pnC x) (fun j u hj => by simpa using hj)⟩⟩, fun r hr => (by cases hr), fun y hy => (by rw [List.mem_singleton.1 hy]; exact hs), fun y hy => (by rw [List.mem_singleton.1 hy]; exact hn), by simp, by simp⟩).mono ?_))
  rintro v H' ⟨rfl, rfl⟩
  rw [right_one]
  cases hx : okP x with
  | false =>
    have hne : ¬ pinErr [] x = 0 := fun e => by rw [ok_iff.2 e] at hx; cases hx
    repeat' first | refine Y.st ?_ | (refine nw ?_; intro _) | refine Y.kn ?_ | fail
    refine GQ.heap (H' := (by_, .cells #[.slice p t.length c] 166 (0, 0)) :: (B ++ F)) ?_ (fun w hw => hw.sub ((List.sublist_cons_self _ _).trans (List.sublist_cons_self _ _)))
    exact GQ.done1 rfl rfl ⟨rfl, _, by rw [add_no hx]; exact h', rfl⟩
  | true =>
  have heq : pinErr [] x = 0 := ok_iff.1 hx
  have hrl := refT_len t
  repeat' first | refine Y.st ?_ | (refine nw ?_; intro _) | refine Y.kn ?_ | fail
  refine GC.loopE (ι := { k : Nat // k ≤ t.length ∧ ∀ m (hm : m < t.length), m < k → t[m].1 ≠ placeOf x }) (fun i => [(5, .int .i64 (i.1 : Int))]) [(0, _), (3, _)] (fun _ => (b9, .cells (pnC x).toArray 52 (0, 0)) :: (b3, .cells (S x.name :: (u8s x.cidr.addr ++ [Value.int .i64 x.cidr.bits, Value.int .i64 x.till])).toArray 52 (0, 0)) :: (by_, .cells #[.slice p t.length c] 166 (0, 0)) :: (B ++ F)) (fun k => t.length - k.1) ⟨0, Nat.zero_le _, fun m _ h => by omega⟩ ⟨rfl, rfl, rfl, trivial⟩ (fun _ h => h) ?_
  rintro ⟨k, hk, hno⟩
  dsimp only at hk hno ⊢
  by_cases hlt : k < t.length
  · obtain ⟨b, o, rfl, hc1⟩ := pins_get hsz (((((hl1 W0).app F).perm List.perm_append_comm).cons (by_, .cells #[.slice p t.length c] 166 (0, 0))).cons (b3, .cells (S x.name :: (u8s x.cidr.addr ++ [Value.int .i64 x.cidr.bits, Value.int .i64 x.till])).toArray 52 (0, 0)) |>.cons (b9, .cells (pnC x).toArray 52 (0, 0))) (k := k) (by rw [hrl]; exact hlt)
    have c1 := hc1 k (by rw [hrl]; exact hlt)
    have hgk : (refT t).getD k zeroP = toPn t[k] := by rw [List.getD_eq_getElem?_getD, List.getElem?_eq_getElem (by rw [hrl]; exact hlt)]; exact refT_get hlt
    rw [hgk] at c1
    have hS2 : SizP (toPn t[k]) := hsz _ (List.mem_map.2 ⟨_, List.getElem_mem hlt, rfl⟩)
    have ha2 := hS2.1.1
    repeat' first | refine Y.st ?_ | (refine nw ?_; intro _) | refine Y.kn ?_ | fail
    refine GC.drawnH [(0, .read), (1, .read), (2, .read), (3, .read), (4, .read), (5, .read), (6, .read), (7, .read), (8, .read), (9, .read), (10, .read), (11, .read), (12, .read), (13, .read), (14, .read), (15, .read), (16, .read), (17, .read), (18, .read), (19, .read), (20, .read), (21, .read), (22, .read), (23, .read)] (by kernel_rfl) (by kernel_rfl) rfl ?_
    repeat' first | refine Y.st ?_ | (refine nw ?_; intro _) | refine Y.kn ?_ | fail
    refine G.rd (Rd.load rfl (fun w hw => cells_name (c1 w hw))) rfl rfl ?_
    by_cases hnm : (toPn t[k]).name = x.name
    case neg =>
      repeat' first | refine Y.st ?_ | (refine nw ?_; intro _) | refine Y.kn ?_ | fail
      exact GQ.back ⟨k + 1, by omega, fun m hm hmk => by
        rcases Nat.lt_or_ge m k with h1 | h1
        · exact hno m hm h1
        · obtain rfl : m = k := by omega
          exact fun e => hnm (congrArg Prod.fst e)⟩ (by simp only; omega) ⟨rfl, rfl, rfl, trivial⟩ (fun w hw => hw)
    repeat' first | refine Y.st ?_ | (refine nw ?_; intro _) | refine Y.kn ?_ | fail
    refine G.rd (Rd.loadAggC (cs := cdC (toPn t[k]).cidr) rfl (fun w hw => cells_cd (c1 w hw)) (cdC_len ha2)) rfl rfl ?_
    repeat' first | refine Y.st ?_ | (refine nw ?_; intro _) | refine Y.kn ?_ | fail
    refine G.rd (Rd.pnCidr (p := x) rfl rfl ha) rfl rfl ?_
    refine G.rd (Rd.eqlCd (toPn t[k]).cidr x.cidr rfl rfl hS2.1 hs.1) rfl rfl ?_
    by_cases hcd : (toPn t[k]).cidr = x.cidr
    case neg =>
      rw [decide_eq_false hcd]
      repeat' first | refine Y.st ?_ | (refine nw ?_; intro _) | refine Y.kn ?_ | fail
      exact GQ.back ⟨k + 1, by omega, fun m hm hmk => by
        rcases Nat.lt_or_ge m k with h1 | h1
        · exact hno m hm h1
        · obtain rfl : m = k := by omega
          exact fun e => hcd (congrArg Prod.snd e)⟩ (by simp only; omega) ⟨rfl, rfl, rfl, trivial⟩ (fun w hw => hw)
    rw [decide_eq_true hcd]
    have hpk : t[k].1 = placeOf x := Prod.ext hnm hcd
    have hadd := add_at hnd hx hlt hpk
    repeat' first | refine Y.st ?_ | (refine nw ?_; intro _) | refine Y.kn ?_ | fail
    rcases hB.parts with ⟨hpv, _⟩ | ⟨bq, cap, extra, hpv, rfl, hcc, hlx, hmx⟩
    · simp at hpv
    obtain ⟨⟨rfl, rfl⟩, rfl⟩ : (b = bq ∧ o = 0) ∧ c = cap := by simpa using hpv
    have hfl := hB.len
    repeat' first | refine Y.st ?_ | (refine nw ?_; intro _) | refine Y.kn ?_ | fail
    refine GC.drawnH [(0, .read), (1, .read), (2, .read), (3, .read), (4, .read), (5, .read), (6, .read), (7, .read), (8, .read), (9, .read), (10, .read), (11, .read), (12, .read), (13, .read), (14, .read), (15, .eff), (16, .read), (17, .read), (18, .tail)] (by kernel_rfl) (by kernel_rfl) rfl ?_
    iterate 12 refine Y.one ?_
    refine G.rd (Rd.load rfl (fun w hw => cells_till ha2 (c1 w hw))) rfl rfl ?_
    iterate 1 refine Y.one ?_
    refine G.rd (Rd.pnTill (p := x) rfl rfl ha) rfl rfl ?_
    iterate 3 refine Y.one ?_
    refine G.ef rfl rfl rfl (Eff.store rfl rfl rfl (by rw [List.size_toArray, List.length_append]; omega) (by simp [Fz]) ?_)
    have hset := set_tillL extra (longer (toPn t[k]).till x.till) t k hlt (fun y hy => (hsz y hy).1.1)
    repeat' first | refine Y.st ?_ | (refine nw ?_; intro _) | refine Y.kn ?_ | fail
    refine GQ.heap (H' := (by_, .cells #[.slice (some ⟨b, 0, none⟩) t.length c] 166 (0, 0)) :: ([(b, .cells ((refT (t.set k (t[k].1, longer (toPn t[k]).till x.till))).flatMap pnC ++ extra).toArray 52 (0, 0))] ++ F)) ?_ (fun w hw => by
      rw [← hset, ← List.setIfInBounds_toArray]
      simp only [Nat.zero_add] at hw
      exact hw.sub ((List.sublist_cons_self _ _).trans (List.sublist_cons_self _ _)))
    refine GQ.done1 rfl rfl ⟨rfl, _, ⟨.slice (some ⟨b, 0, none⟩) t.length c, [(b, .cells ((refT (t.set k (t[k].1, longer (toPn t[k]).till x.till))).flatMap pnC ++ extra).toArray 52 (0, 0))], ?_, rfl, nodup_addT hnd x, ?_⟩, rfl⟩
    · rw [hadd, ← hpk]
      have hl2 : (t.set k (t[k].1, longer (toPn t[k]).till x.till)).length = t.length := List.length_set
      have hf2 : ((refT (t.set k (t[k].1, longer (toPn t[k]).till x.till))).flatMap pnC).length = t.length * 19 := by
        have := congrArg List.length hset
        simp only [List.length_set, List.length_append] at this
        omega
      have := Buf.row (el := 52) (size := 19) b t.length c ((refT (t.set k (t[k].1, longer (toPn t[k]).till x.till))).flatMap pnC) extra hf2 (by omega) hc hmx
      rw [show (t.set k (t[k].1, longer t[k].2 x.till)).length = t.length from List.length_set]; exact this
    · rw [hadd]
      intro y hy
      obtain ⟨e, he, rfl⟩ := List.mem_map.1 hy
      rcases List.mem_or_eq_of_mem_set he with h1 | rfl
      · exact hsz _ (List.mem_map.2 ⟨e, h1, rfl⟩)
      · exact ⟨hs.1, siz_longer hS2.2.1 hs.2.1, hs.2.2⟩
  obtain rfl : k = t.length := by omega
  have hadd := add_new hx (fun m hm => hno m hm hm)
  repeat' first | refine Y.st ?_ | (refine nw ?_; intro _) | refine Y.kn ?_ | fail
  refine GC.drawn [(0, .read), (1, .read), (2, .read), (3, .read), (4, .read), (5, .read), (6, .eff), (7, .eff), (8, .read), (9, .read), (10, .tail)] ([(b3, .cells (S x.name :: (u8s x.cidr.addr ++ [Value.int .i64 x.cidr.bits, Value.int .i64 x.till])).toArray 52 (0, 0)), (by_, .cells #[.slice p t.length c] 166 (0, 0))]) (by kernel_rfl) (by kernel_rfl) rfl ?_
  iterate 6 refine Y.one ?_
  have hfl : ((refT t).flatMap pnC).length = t.length * 19 := hB.len
  have s0 : SubH [(b3, .cells (S x.name :: (u8s x.cidr.addr ++ [Value.int .i64 x.cidr.bits, Value.int .i64 x.till])).toArray 52 (0, 0)), (by_, .cells #[.slice p t.length c] 166 (0, 0))] ((b3, .cells (S x.name :: (u8s x.cidr.addr ++ [Value.int .i64 x.cidr.bits, Value.int .i64 x.till])).toArray 52 (0, 0)) :: (by_, .cells #[.slice p t.length c] 166 (0, 0)) :: F) := inferInstance
  refine G.ee rfl rfl rfl (Eff.buildSlice (cells := (pnC x).toArray) rfl (by exact fill_pn ha) (by omega) (fun bA => ?_))
  refine ⟨inferInstance, ?_⟩
  refine G.ee rfl rfl rfl (Eff.app (ys := pnC x) rfl hB rfl (hH := ⟨show List.Perm _ (B ++ ((bA, .cells (pnC x).toArray 52 (0, 0)) :: (b9, .cells (pnC x).toArray 52 (0, 0)) :: (b3, .cells (S x.name :: (u8s x.cidr.addr ++ [Value.int .i64 x.cidr.bits, Value.int .i64 x.till])).toArray 52 (0, 0)) :: (by_, .cells #[.slice p t.length c] 166 (0, 0)) :: F)) by exact permC⟩) (by omega) (by rw [hl]) (at_here (cs := pnC x)) (pnC_one _) (by omega) (by omega) (fun v9 B9 hB9 => ?_))
  refine ⟨SubH.app (h := inferInstance), ?_⟩
  obtain ⟨p9, c9, rfl, hc9, hl9⟩ := Go.Tri.Buf.see hB9
  repeat' first | refine Y.st ?_ | (refine nw ?_; intro _) | refine Y.kn ?_ | fail
  have hB9' : Buf 52 19 (.slice p9 (t.length + 1) c9) (t ++ [(placeOf x, x.till)]).length ((refT (t ++ [(placeOf x, x.till)])).flatMap pnC) B9 := by
    rw [List.length_append, refT, List.map_append, List.flatMap_append]
    rw [show ([(placeOf x, x.till)] : Tab).map toPn = [x] from rfl]
    simpa [refT] using hB9
  refine GQ.heap (H' := B9 ++ ((bA, .cells (pnC x).toArray 52 (0, 0)) :: (b9, .cells (pnC x).toArray 52 (0, 0)) :: (b3, .cells (S x.name :: (u8s x.cidr.addr ++ [Value.int .i64 x.cidr.bits, Value.int .i64 x.till])).toArray 52 (0, 0)) :: (by_, .cells #[.slice p9 (t.length + 1) c9] 166 (0, 0)) :: F)) ?_ (fun _ h => h)
  refine GQ.heap (H' := ((by_, .cells #[.slice p9 (t.length + 1) c9] 166 (0, 0)) :: B9) ++ F) ?_ (fun w hw => (hw.perm (show List.Perm _ ([(bA, .cells (pnC x).toArray 52 (0, 0)), (b9, .cells (pnC x).toArray 52 (0, 0)), (b3, .cells (S x.name :: (u8s x.cidr.addr ++ [Value.int .i64 x.cidr.bits, Value.int .i64 x.till])).toArray 52 (0, 0))] ++ (((by_, .cells #[.slice p9 (t.length + 1) c9] 166 (0, 0)) :: B9) ++ F)) by exact permC)).sub (List.sublist_append_right _ _))
  refine GQ.done1 rfl rfl ⟨rfl, _, ⟨_, B9, ?_, rfl, nodup_addT hnd x, ?_⟩, rfl⟩
  · rw [hadd]; exact hB9'
  · rw [hadd]
    intro y hy
    simp only [refT, List.map_append, List.mem_append, List.map_cons, List.map_nil, List.mem_singleton] at hy
    rcases hy with hy | rfl
    · exact hsz y hy
    · exact hs
theorem rtnew_spec {l : List Pn} {v : Value} (hp : PinsAt W0 F v l) (sp : ∀ x ∈ l, SizP x) (sn : ∀ x ∈ l, x.name.length ≤ 2000000) (hl : l.length ≤ 2000000) :
    T Tryz.prog W0 52 #[v] F (fun u H' => ∃ by_ TH, u = .pointer (some ⟨by_, 0, none⟩) ∧ RTabQ (addAllT l) by_ TH ∧ H' = TH ++ F) := by
  obtain ⟨p, c, rfl, hc, hat⟩ := hp
  have h19 : ∀ x ∈ l, (pnC x).length = 19 := fun x hx => pnC_len (sp x hx).1.1
  refine T.intro (args := [_]) Tryz.func52 rfl Tryz.ntmps52 rfl ?_
  repeat' first | refine Y.st ?_ | (refine nw ?_; intro _) | refine Y.kn ?_ | fail
  refine G.rd (Rd.build (cells := #[.slice none 0 0]) rfl (by rfl)) rfl rfl ?_
  refine G.ef rfl rfl rfl (Eff.boxA rfl (fun by_ => ?_))
  have hU : RTabQ [] by_ [(by_, Obj.cells #[.slice none 0 0] 166 (0, 0))] := ⟨.slice none 0 0, [], .nil, rfl, by simp, by simp [refT]⟩
  refine G.heap (H' := [(by_, Obj.cells #[.slice none 0 0] 166 (0, 0))] ++ F) ?_ (fun _ h => h)
  generalize [(by_, Obj.cells #[.slice none 0 0] 166 (0, 0))] = UH at hU ⊢
  repeat' first | refine Y.st ?_ | (refine nw ?_; intro _) | refine Y.kn ?_ | fail
  refine GC.loopE (ι := { q : Nat × Heap // q.1 ≤ l.length ∧ RTabQ (addAllT (l.take q.1)) by_ q.2 }) (fun i => [(4, .int .i64 (i.1.1 : Int))]) [(0, _), (3, _)] (fun q => q.1.2 ++ F) (fun q => l.length - q.1.1) ⟨(0, UH), Nat.zero_le _, hU⟩ ⟨rfl, rfl, rfl, trivial⟩ (fun _ h => h) ?_
  rintro ⟨⟨k, TH⟩, hk, hT⟩
  dsimp only at hk hT ⊢
  by_cases hlt : k < l.length
  · obtain ⟨b, o, rfl, a1⟩ := row_get (m := 19) h19 (by omega) (hat.app TH) hlt
    have c1 := a1 k hlt
    have s1 := sp _ (List.getElem_mem hlt)
    have n1 := sn _ (List.getElem_mem hlt)
    have l1 := h19 _ (List.getElem_mem hlt)
    have hle := all_le (l.take k)
    rw [List.length_take] at hle
    have hst := addAllT_step hlt
    generalize l[k] = y at c1 s1 n1 l1 hst
    repeat' first | refine Y.st ?_ | (refine nw ?_; intro _) | refine Y.kn ?_ | fail
    refine G.rd (Rd.loadAggC (cs := pnC y) rfl c1 l1) rfl rfl ?_
    refine G.ef rfl rfl rfl (Eff.callF rfl ((rtadd_spec hT y s1 n1 (by omega)).mono ?_))
    rintro v H' ⟨rfl, TH2, hT2, rfl⟩
    repeat' first | refine Y.st ?_ | (refine nw ?_; intro _) | refine Y.kn ?_ | fail
    exact GQ.back ⟨(k + 1, TH2), by omega, by rw [hst]; exact hT2⟩ (by simp only; omega) ⟨rfl, rfl, rfl, trivial⟩ (fun w hw => hw)
  obtain rfl : k = l.length := by omega
  rw [List.take_length] at hT
  repeat' first | refine Y.st ?_ | (refine nw ?_; intro _) | refine Y.kn ?_ | fail
  exact GQ.done1 rfl rfl ⟨by_, TH, rfl, hT, rfl⟩
end
end Go.Pin

namespace Go.Pin
open Go.Own Go.Proofs Go.RowKit Go.Lib Go.Asc Go.Adr Go.Nam Go.Tri Go.Cid Go.Pol Go.Rfn
attribute [local irreducible] GC GQ G Rd Eff T
set_option maxRecDepth 20000
set_option maxHeartbeats 4000000
section
variable {W0 : World} {F : Heap}
attribute [local irreducible] Lit.wf addL pinErr rulesErr pinsErr normalL rightC ofL okP addT
theorem rtlive_spec {t : Tab} {by_ : Nat} {TH : Heap} (h : RTabQ t by_ TH) (ht : t.length ≤ 2000000) (host : Lb) (now : Int) :
    T Tryz.prog W0 103 #[.pointer (some ⟨by_, 0, none⟩), S host, .int .i64 now] (TH ++ F) (fun v H' => ∃ B, Buf 50 17 v (liveL t host now).length ((liveL t host now).flatMap cdC) B ∧ H' = B ++ (TH ++ F)) := by
  obtain ⟨lv, B, hB, rfl, hnd, hsz⟩ := h
  obtain ⟨p, c, rfl, hc, hl1⟩ := Go.Tri.Buf.see hB
  have hrl := refT_len t
  simp only [List.cons_append]
  have hl0 : liveL (t.take 0) host now = [] := by rw [List.take_zero]; simp [liveL, liveT, sortC, sortF]
  refine T.intro (args := [_, _, _]) Tryz.func103 rfl Tryz.ntmps103 rfl ?_
  repeat' first | refine Y.st ?_ | (refine nw ?_; intro _) | refine Y.kn ?_ | fail
  refine GC.loopE (ι := { q : Nat × Value × Heap // q.1 ≤ t.length ∧ Buf 50 17 q.2.1 (liveL (t.take q.1) host now).length ((liveL (t.take q.1) host now).flatMap cdC) q.2.2 }) (fun i => [(7, i.1.2.1), (8, .int .i64 (i.1.1 : Int))]) [(0, _), (1, _), (2, _)]
    (fun q => q.1.2.2 ++ ((by_, .cells #[.slice p t.length c] 166 (0, 0)) :: (B ++ F))) (fun q => t.length - q.1.1) ⟨(0, .slice none 0 0, []), Nat.zero_le _, (by show Buf _ 17 _ (liveL (t.take 0) host now).length ((liveL (t.take 0) host now).flatMap cdC) _; rw [hl0]; exact .nil)⟩ ⟨rfl, rfl, rfl, rfl, rfl, trivial⟩ (fun _ h => h) ?_
  rintro ⟨⟨k, ov, OB⟩, hk, hO⟩
  dsimp only at hk hO ⊢
  by_cases hlt : k < t.length
  · have hat : Go.Tri.Lies W0 (OB ++ ((by_, .cells #[.slice p t.length c] 166 (0, 0)) :: (B ++ F))) p ((refT t).flatMap pnC) := ((((hl1 W0).app F).perm List.perm_append_comm).cons _).app OB
    obtain ⟨b, o, rfl, hc1⟩ := pins_get hsz hat (k := k) (by rw [hrl]; exact hlt)
    have c1 := hc1 k (by rw [hrl]; exact hlt)
    have hgk : (refT t).getD k zeroP = toPn t[k] := by rw [List.getD_eq_getElem?_getD, List.getElem?_eq_getElem (by rw [hrl]; exact hlt)]; exact refT_get hlt
    rw [hgk] at c1
    have hS2 : SizP (toPn t[k]) := hsz _ (List.mem_map.2 ⟨_, List.getElem_mem hlt, rfl⟩)
    have ha2 := hS2.1.1
    have hl19 := pnC_len ha2
    have hstep := live_step hlt host now
    have hLl := liveL_len (t.take k) host now
    have hLl2 := live_len (t.take k) host now
    rw [List.length_take] at hLl2
    have hszL : ∀ c ∈ liveL (t.take k) host now, SizC c := fun c hc => by
      obtain ⟨v, h1, _⟩ := mem_liveL.1 hc
      exact (hsz _ (List.mem_map.2 ⟨_, List.mem_of_mem_take h1, rfl⟩)).1
    have hno : liveK host now t[k] = false → liveL (t.take (k + 1)) host now = liveL (t.take k) host now := fun h => by
      unfold liveL
      rw [hstep, if_neg (by rw [h]; simp), List.append_nil]
    have hyes : liveK host now t[k] = true → liveL (t.take (k + 1)) host now = sortC (liveT (t.take k) host now ++ [(toPn t[k]).cidr]) := fun h => by
      unfold liveL
      rw [hstep, if_pos h]; rfl
    have hlk : liveK host now t[k] = (decide ((toPn t[k]).name = host) && (decide ((toPn t[k]).till = 0) || decide (now < (toPn t[k]).till))) := rfl
    generalize hx : toPn t[k] = x at c1 hS2 ha2 hl19 hyes hlk
    generalize liveK host now t[k] = lk at hno hyes hlk
    repeat' first | refine Y.st ?_ | (refine nw ?_; intro _) | refine Y.kn ?_ | fail
    refine G.rd (Rd.loadAggC (cs := pnC x) rfl c1 hl19) rfl rfl ?_
    refine G.ef rfl rfl rfl (Eff.allocA (cs := pnC zeroP) (fun b9 => ?_))
    refine G.ef rfl rfl rfl (Eff.storeAll (cs := pnC zeroP) (vs := pnC x) rfl rfl (pnC_one _) (by rw [hl19]; rfl) hl19 ?_)
    have hskip : ∀ (w : World), Own W0 ((b9, .cells (pnC x).toArray 52 (0, 0)) :: (OB ++ ((by_, .cells #[.slice (some ⟨b, o, none⟩) t.length c] 166 (0, 0)) :: (B ++ F)))) w → Own W0 (OB ++ ((by_, .cells #[.slice (some ⟨b, o, none⟩) t.length c] 166 (0, 0)) :: (B ++ F))) w := fun w hw => hw.sub (List.sublist_cons_self _ _)
    by_cases h1 : x.name = host
    case neg =>
      have h9 := hno (by rw [hlk, decide_eq_false h1]; rfl)
      repeat' first | refine Y.st ?_ | (refine nw ?_; intro _) | refine Y.kn ?_ | fail
      exact GQ.back ⟨(k + 1, ov, OB), by omega, by rw [h9]; exact hO⟩ (by simp only; omega) ⟨rfl, rfl, rfl, rfl, rfl, trivial⟩ hskip
    by_cases hlv : x.till = 0 ∨ now < x.till
    case neg =>
      have h2 : ¬ x.till = 0 := fun h => hlv (.inl h)
      have h3 : ¬ now < x.till := fun h => hlv (.inr h)
      have h9 := hno (by rw [hlk, decide_eq_false h2, decide_eq_false h3, Bool.or_false, Bool.and_false])
      repeat' first | refine Y.st ?_ | (refine nw ?_; intro _) | refine Y.kn ?_ | fail
      refine G.rd (Rd.pnTill rfl rfl ha2) rfl rfl ?_
      repeat' first | refine Y.st ?_ | (refine nw ?_; intro _) | refine Y.kn ?_ | fail
      refine G.rd (Rd.pnTill rfl rfl ha2) rfl rfl ?_
      repeat' first | refine Y.st ?_ | (refine nw ?_; intro _) | refine Y.kn ?_ | fail
      exact GQ.back ⟨(k + 1, ov, OB), by omega, by rw [h9]; exact hO⟩ (by simp only; omega) ⟨rfl, rfl, rfl, rfl, rfl, trivial⟩ hskip
    have h9 := hyes (by
      rw [hlk, decide_eq_true h1, Bool.true_and, Bool.or_eq_true, decide_eq_true_eq, decide_eq_true_eq]; exact hlv)
    have hins := fun j => @ins_at (liveT (t.take k) host now) x.cidr j
    have hLd : liveL (t.take k) host now = sortC (liveT (t.take k) host now) := rfl
    rw [hLd] at hO hLl hszL
    by_cases h2 : x.till = 0
    case' pos =>
      repeat' first | refine Y.st ?_ | (refine nw ?_; intro _) | refine Y.kn ?_ | fail
      refine G.rd (Rd.pnTill rfl rfl ha2) rfl rfl ?_
      repeat' first | refine Y.st ?_ | (refine nw ?_; intro _) | refine Y.kn ?_ | fail
    case' neg =>
      have h3 : now < x.till := hlv.elim (fun h => absurd h h2) id
      repeat' first | refine Y.st ?_ | (refine nw ?_; intro _) | refine Y.kn ?_ | fail
      refine G.rd (Rd.pnTill rfl rfl ha2) rfl rfl ?_
      repeat' first | refine Y.st ?_ | (refine nw ?_; intro _) | refine Y.kn ?_ | fail
      refine G.rd (Rd.pnTill rfl rfl ha2) rfl rfl ?_
      repeat' first | refine Y.st ?_ | (refine nw ?_; intro _) | refine Y.kn ?_ | fail
    all_goals
      clear hno hyes hlk hLd
      generalize sortC (liveT (t.take k) host now) = L at hO hLl hszL hins
      obtain ⟨po, co, rfl, hco, hlo⟩ := Go.Tri.Buf.see hO
      have h17 : ∀ c ∈ L, (cdC c).length = 17 := fun c hc => cdC_len (hszL c hc).1
      have hLlen : L.length ≤ 2000000 := by omega
      have hatO : Go.Tri.Lies W0 ((b9, .cells (pnC x).toArray 52 (0, 0)) :: (OB ++ ((by_, .cells #[.slice (some ⟨b, o, none⟩) t.length c] 166 (0, 0)) :: (B ++ F)))) po (L.flatMap cdC) := (((hlo W0).app ((by_, .cells #[.slice (some ⟨b, o, none⟩) t.length c] 166 (0, 0)) :: (B ++ F))).perm List.perm_append_comm).cons _
      refine GC.loopE (ι := { j : Nat // j ≤ L.length ∧ ∀ m (hm : m < L.length), m < j → cmpC L[m] x.cidr < 0 }) (fun i => [(10, .int .i64 (i.1 : Int))]) [(0, _), (1, _), (2, _), (7, _), (8, _), (9, _)] (fun _ => (b9, .cells (pnC x).toArray 52 (0, 0)) :: (OB ++ ((by_, .cells #[.slice (some ⟨b, o, none⟩) t.length c] 166 (0, 0)) :: (B ++ F)))) (fun j => L.length - j.1) ⟨0, Nat.zero_le _, fun m _ h => by omega⟩ ⟨rfl, rfl, rfl, rfl, rfl, rfl, rfl, trivial⟩ (fun _ h => h) ?_
      rintro ⟨j, hj, hall⟩
      dsimp only at hj hall ⊢
      have hback : ∀ (hjl : j < L.length), cmpC L[j] x.cidr < 0 → ∀ m (hm : m < L.length), m < j + 1 → cmpC L[m] x.cidr < 0 := fun hjl hc m hm hmj => by
        rcases Nat.lt_or_ge m j with h | h
        · exact hall m hm h
        · obtain rfl : m = j := by omega
          exact hc
      by_cases hjl : j < L.length
      case' neg =>
        have hstop : ∀ (hj : j < L.length), ¬ cmpC L[j] x.cidr < 0 := fun h => absurd h hjl
        repeat' first | refine Y.st ?_ | (refine nw ?_; intro _) | refine Y.kn ?_ | fail
        refine GC.drawnH [(0, .read), (1, .read), (2, .read), (3, .read), (4, .read), (5, .read), (6, .read), (7, .read), (8, .read), (9, .read), (10, .read), (11, .tail), (12, .tail)] (by kernel_rfl) (by kernel_rfl) rfl ?_
        repeat' first | refine Y.st ?_ | (refine nw ?_; intro _) | refine Y.kn ?_ | fail
      case' pos =>
        obtain ⟨bo, oo, rfl, ha1⟩ := row_get (m := 17) h17 (by omega) hatO hjl
        have ca := ha1 j hjl
        have sa := hszL _ (List.getElem_mem hjl)
        by_cases hless : cmpC L[j] x.cidr < 0
        case pos =>
          have hnx := hback hjl hless
          have hle : lessC L[j] x.cidr = true := decide_eq_true hless
          generalize L[j] = y at ca sa hle
          repeat' first | refine Y.st ?_ | (refine nw ?_; intro _) | refine Y.kn ?_ | fail
          refine GC.drawnH [(0, .read), (1, .read), (2, .read), (3, .read), (4, .read), (5, .read), (6, .read), (7, .read), (8, .read), (9, .read), (10, .read), (11, .tail), (12, .tail)] (by kernel_rfl) (by kernel_rfl) rfl ?_
          iterate 8 refine Y.one ?_
          refine G.rd (Rd.loadAggC (cs := cdC y) rfl ca (cdC_len sa.1)) rfl rfl ?_
          iterate 1 refine Y.one ?_
          refine G.rd (Rd.pnCidr (p := x) rfl rfl ha2) rfl rfl ?_
          refine G.ef rfl rfl rfl (Eff.callF rfl ((less_spec y x.cidr sa hS2.1).mono ?_))
          rintro u H' ⟨rfl, rfl⟩
          rw [hle]
          repeat' first | refine Y.st ?_ | (refine nw ?_; intro _) | refine Y.kn ?_ | fail
          exact GQ.back ⟨j + 1, by omega, hnx⟩ (by simp only; omega) ⟨rfl, rfl, rfl, rfl, rfl, rfl, rfl, trivial⟩ (fun w hw => hw)
        have hstop : ∀ (hj : j < L.length), ¬ cmpC L[j] x.cidr < 0 := fun _ => hless
        have hle : lessC L[j] x.cidr = false := decide_eq_false hless
        generalize L[j] = y at ca sa hle
        repeat' first | refine Y.st ?_ | (refine nw ?_; intro _) | refine Y.kn ?_ | fail
        refine GC.drawnH [(0, .read), (1, .read), (2, .read), (3, .read), (4, .read), (5, .read), (6, .read), (7, .read), (8, .read), (9, .read), (10, .read), (11, .tail), (12, .tail)] (by kernel_rfl) (by kernel_rfl) rfl ?_
        iterate 8 refine Y.one ?_
        refine G.rd (Rd.loadAggC (cs := cdC y) rfl ca (cdC_len sa.1)) rfl rfl ?_
        iterate 1 refine Y.one ?_
        refine G.rd (Rd.pnCidr (p := x) rfl rfl ha2) rfl rfl ?_
        refine G.ef rfl rfl rfl (Eff.callF rfl ((less_spec y x.cidr sa hS2.1).mono ?_))
        rintro u H' ⟨rfl, rfl⟩
        rw [hle]
        repeat' first | refine Y.st ?_ | (refine nw ?_; intro _) | refine Y.kn ?_ | fail
      all_goals
        have hres := hins j hj (fun m hm h => hall m hm h) hstop
        have hsp : L.flatMap cdC = (L.take j).flatMap cdC ++ (L.drop j).flatMap cdC := by rw [← List.flatMap_append, List.take_append_drop]
        have hfl : ∀ l : List Cd, (∀ c ∈ l, c ∈ L) → (l.flatMap cdC).length = l.length * 17 := fun l => by
          induction l with
          | nil => intro _; rfl
          | cons y l ih =>
            intro h
            rw [List.flatMap_cons, List.length_append, h17 y (h y (by simp)), ih (fun c hc => h c (by simp [hc])), List.length_cons]; omega
        have hft := hfl (L.take j) (fun c hc => List.mem_of_mem_take hc)
        have hfd := hfl (L.drop j) (fun c hc => List.mem_of_mem_drop hc)
        have hfa := hfl L (fun c hc => hc)
        rw [List.length_take, Nat.min_eq_left hj] at hft
        rw [List.length_drop] at hfd
        refine G.ef rfl rfl rfl (Eff.buildSlice (cells := ([] ++ []).toArray) rfl (by kernel_rfl) (by omega) (fun b58 => ?_))
        iterate 2 refine Y.one ?_
        refine G.rd (Rd.slH' (h := j) rfl rfl rfl (by omega)) rfl rfl ?_
        refine G.ef rfl rfl rfl (Eff.app (ys := (L.take j).flatMap cdC) (hB := Buf.row b58 0 0 [] [] rfl rfl (Nat.le_refl _) (by omega)) rfl rfl (F := (b9, .cells (pnC x).toArray 52 (0, 0)) :: (OB ++ ((by_, .cells #[.slice (some ⟨b, o, none⟩) t.length c] 166 (0, 0)) :: (B ++ F)))) (hH := ⟨.refl _⟩) (by omega) hft (fun w hw => by
          have h := ((hatO.cons (b58, .cells ([] ++ []).toArray 50 (0, 0))).ro.here hw).take (j * 17)
          rwa [hsp, List.take_left' hft] at h) (fun u hu => by obtain ⟨y, _, hu⟩ := List.mem_flatMap.1 hu; exact cdC_one y u hu) (by omega) (by omega) (fun v1 B1 hB1 => ?_))
        have hB1' : Buf 50 17 v1 j ((L.take j).flatMap cdC) B1 := by simpa using hB1
        repeat' first | refine Y.st ?_ | (refine nw ?_; intro _) | refine Y.kn ?_ | fail
        refine GC.drawn [(0, .read), (1, .read), (2, .read), (5, .read), (6, .read), (7, .read), (3, .eff), (4, .eff), (8, .tail), (9, .tail)] ([(b9, .cells (pnC x).toArray 52 (0, 0))]) (by kernel_rfl) (by kernel_rfl) rfl ?_
        iterate 2 refine Y.one ?_
        haveI s1 : SubH [(b9, .cells (pnC x).toArray 52 (0, 0))] (B1 ++ ((b9, .cells (pnC x).toArray 52 (0, 0)) :: (OB ++ ((by_, .cells #[.slice (some ⟨b, o, none⟩) t.length c] 166 (0, 0)) :: (B ++ F))))) := SubH.app (h := SubH.cons2 (h := SubH.nil))
        refine G.rd (Rd.pnCidr (p := x) rfl rfl ha2) rfl rfl ?_
        iterate 2 refine Y.one ?_
        refine G.rd (Rd.slL (l := j) rfl rfl rfl (by omega) (by omega)) rfl rfl ?_
        refine G.ee rfl rfl rfl (Eff.buildSlice (cells := (cdC x.cidr).toArray) rfl (by exact fill_cd ha2) (by omega) (fun b66 => ?_))
        refine ⟨SubH.skip (h := s1), ?_⟩
        refine G.ee rfl rfl rfl (Eff.app (ys := cdC x.cidr) rfl hB1' rfl (hH := ⟨List.perm_middle.symm⟩) (by omega) (by rw [cdC_len ha2]) (at_here (cs := cdC x.cidr)) (cdC_one _) (by omega) (by omega) (fun v2 B2 hB2 => ?_))
        refine ⟨SubH.app (h := SubH.skip (h := SubH.cons2 (h := SubH.nil))), ?_⟩
        refine G.ef rfl rfl rfl (Eff.app (ys := (L.drop j).flatMap cdC) rfl hB2 rfl (hH := ⟨.refl _⟩) (by omega) hfd (fun w hw => by
          have h := At.cut (cap := co) (l := j) (size := 17) (((hatO.cons (b66, .cells (cdC x.cidr).toArray 50 (0, 0))).app B2).ro.here hw) (by rw [hfa]; omega)
          rwa [hsp, List.drop_left' hft] at h) (fun u hu => by obtain ⟨y, _, hu⟩ := List.mem_flatMap.1 hu; exact cdC_one y u hu) (by omega) (by omega) (fun v3 B3 hB3 => ?_))
        have hB3' : Buf 50 17 v3 (L.take j ++ x.cidr :: L.drop j).length ((L.take j ++ x.cidr :: L.drop j).flatMap cdC) B3 := by
          have e1 : (L.take j ++ x.cidr :: L.drop j).length = j + 1 + (L.length - j) := by simp [List.length_take, Nat.min_eq_left hj]; omega
          have e2 : (L.take j ++ x.cidr :: L.drop j).flatMap cdC = (L.take j).flatMap cdC ++ cdC x.cidr ++ (L.drop j).flatMap cdC := by simp
          rw [e1, e2]; exact hB3
        repeat' first | refine Y.st ?_ | (refine nw ?_; intro _) | refine Y.kn ?_ | fail
        refine GQ.back ⟨(k + 1, v3, B3), by omega, ?_⟩ (by simp only; omega) ⟨rfl, rfl, rfl, rfl, rfl, trivial⟩ (fun w hw => hw.sub (List.Sublist.append_left (((List.sublist_append_right OB _).trans (List.sublist_cons_self _ _)).trans (List.sublist_cons_self _ _)) B3))
        dsimp only
        rw [h9, hres]
        exact hB3'
  obtain rfl : k = t.length := by omega
  rw [List.take_length] at hO
  repeat' first | refine Y.st ?_ | (refine nw ?_; intro _) | refine Y.kn ?_ | fail
  exact GQ.done1 rfl rfl ⟨OB, hO, rfl⟩
theorem rtcheck_spec {t : Tab} {by_ : Nat} {TH : Heap} (h : RTabQ t by_ TH) (ht : t.length ≤ 2000000) (host : Lb) (a : List UInt8) (ha : a.length = 16) (now : Int) :
    T Tryz.prog W0 57 #[.pointer (some ⟨by_, 0, none⟩), S host, .agg (u8s a).toArray, .int .i64 now] (TH ++ F) (fun v H' => v = .int .i64 (checkT t host a now) ∧ H' = TH ++ F) := by
  have hck := check_sort t host a now
  have hsz : ∀ c ∈ liveL t host now, SizC c := fun c hc => by
    obtain ⟨_, _, _, _, _, hs⟩ := h
    obtain ⟨v, h1, _⟩ := mem_liveL.1 hc
    exact (hs _ (List.mem_map.2 ⟨_, h1, rfl⟩)).1
  have hll := live_len t host now
  have hle := liveL_len t host now
  refine T.intro (args := [_, _, _, _]) Tryz.func57 rfl Tryz.ntmps57 rfl ?_
  repeat' first | refine Y.st ?_ | (refine nw ?_; intro _) | refine Y.kn ?_ | fail
  rename_i b6
  refine G.ef rfl rfl rfl (Eff.callP (first := #[]) (captured := #[]) rfl rfl List.perm_middle.symm ((rtlive_spec h ht host now).mono ?_))
  rintro v H' ⟨B, hB, rfl⟩
  obtain ⟨p, c, rfl, hc, hl1⟩ := Go.Tri.Buf.see hB
  generalize hL : liveL t host now = L at *
  have hat : Go.Tri.Lies W0 (B ++ (TH ++ ((b6, .cells (u8s a).toArray 34 (0, 0)) :: F))) p (L.flatMap cdC) := ((hl1 W0).app (TH ++ ((b6, .cells (u8s a).toArray 34 (0, 0)) :: F))).perm List.perm_append_comm
  repeat' first | refine Y.st ?_ | (refine nw ?_; intro _) | refine Y.kn ?_ | fail
  refine GC.loopE (ι := { j : Nat // j ≤ L.length ∧ (L.take j).any (fun c => hasC c a) = false }) (fun i => [(10, .int .i64 (i.1 : Int))]) [(6, _), (9, _)] (fun _ => B ++ (TH ++ ((b6, .cells (u8s a).toArray 34 (0, 0)) :: F))) (fun j => L.length - j.1) ⟨0, Nat.zero_le _, by simp⟩ ⟨rfl, rfl, rfl, trivial⟩ (fun _ h => h) ?_
  rintro ⟨j, hj, hall⟩
  dsimp only at hj hall ⊢
  have fin : ∀ w, Own W0 (B ++ (TH ++ ((b6, .cells (u8s a).toArray 34 (0, 0)) :: F))) w → Own W0 (TH ++ F) w := fun w hw => hw.sub ((List.Sublist.append_left (List.sublist_cons_self _ _) TH).trans (List.sublist_append_right B _))
  by_cases hjl : j < L.length
  · obtain ⟨bo, oo, rfl, ha1⟩ := row_get (m := 17) (fun c hc => cdC_len (hsz c hc).1) (by omega) hat hjl
    have ca := ha1 j hjl
    have sa := hsz _ (List.getElem_mem hjl)
    have hts := List.take_succ_eq_append_getElem hjl
    have hmem : L[j] ∈ L := List.getElem_mem hjl
    generalize L[j] = y at ca sa hts hmem
    repeat' first | refine Y.st ?_ | (refine nw ?_; intro _) | refine Y.kn ?_ | fail
    refine GC.drawnH [(0, .read), (1, .read), (2, .read), (3, .read), (4, .read), (5, .tail)] (by kernel_rfl) (by kernel_rfl) rfl ?_
    iterate 3 refine Y.one ?_
    refine G.rd (Rd.loadAggC (cs := cdC y) rfl ca (cdC_len sa.1)) rfl rfl ?_
    iterate 1 refine Y.one ?_
    refine G.ef rfl rfl rfl (Eff.callF rfl ((rhas_spec y a sa ha).mono ?_))
    rintro u H' ⟨rfl, rfl⟩
    cases hh : hasC y a with
    | true =>
      have hany : L.any (fun c => hasC c a) = true := List.any_eq_true.2 ⟨_, hmem, hh⟩
      have h0 : L ≠ [] := by intro e; rw [e] at hmem; cases hmem
      rw [if_neg h0, if_pos hany] at hck
      repeat' first | refine Y.st ?_ | (refine nw ?_; intro _) | refine Y.kn ?_ | fail
      refine GQ.heap (H' := TH ++ F) ?_ fin
      exact GQ.done1 rfl rfl ⟨by rw [hck], rfl⟩
    | false =>
      repeat' first | refine Y.st ?_ | (refine nw ?_; intro _) | refine Y.kn ?_ | fail
      exact GQ.back ⟨j + 1, by omega, by rw [hts, List.any_append, hall]; simp [hh]⟩ (by simp only; omega) ⟨rfl, rfl, rfl, trivial⟩ (fun w hw => hw)
  obtain rfl : j = L.length := by omega
  rw [List.take_length] at hall
  by_cases h0 : L = []
  · rw [if_pos h0] at hck
    have hz : L.length = 0 := by rw [h0]; rfl
    repeat' first | refine Y.st ?_ | (refine nw ?_; intro _) | refine Y.kn ?_ | fail
    refine GQ.heap (H' := TH ++ F) ?_ fin
    exact GQ.done1 rfl rfl ⟨by rw [hck], rfl⟩
  · have hpos := List.length_pos_iff.2 h0
    rw [if_neg h0, hall] at hck
    repeat' first | refine Y.st ?_ | (refine nw ?_; intro _) | refine Y.kn ?_ | fail
    refine GQ.heap (H' := TH ++ F) ?_ fin
    exact GQ.done1 rfl rfl ⟨by rw [hck]; rfl, rfl⟩
end
end Go.Pin
