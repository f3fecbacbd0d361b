/-
  ARE TWO TENANTS' FILES THE SAME, ARE THEY FEW, AND WHAT COMES IN.
  ARE TWO TENANTS' FILES THE SAME, ARE THEY FEW: the walks.
  HOW LONG A TENANT'S FILE IS; WHAT Parse ANSWERS, AND WHERE IT LIES.
  TENANTS' FILES, ONE BY ONE: what stands ahead of each statement about them.
  WHAT THE STATEMENTS ABOUT TENANTS' FILES SAY, in plain words.
-/
import Derived.Test.YtohblhfdgoigdaaGreatDoorGPb
import Derived.Test.YtohblhfdgoigdaaGreatDoorGCi
namespace Go.Pol
open Go.Own Go.Proofs Go.RowKit Go.Lib Go.Asc Go.Adr Go.Nam Go.Tri Go.Cid Go.Bld
attribute [local irreducible] GC GQ G Rd Eff T
set_option maxRecDepth 20000
set_option maxHeartbeats 4000000
theorem pnC_inj {a b : Pn} (h : pnC a = pnC b) (ha : a.cidr.addr.length = 16) (hb : b.cidr.addr.length = 16) : a = b := by
  obtain ⟨n, ⟨x, m⟩, t⟩ := a
  obtain ⟨n', ⟨x', m'⟩, t'⟩ := b
  simp only at ha hb
  have h2 := List.cons.inj h
  have h3 : u8s x ++ [Value.int .i64 m, Value.int .i64 t] = u8s x' ++ [Value.int .i64 m', Value.int .i64 t'] := h2.2
  obtain ⟨e1, e2⟩ := List.append_inj h3 (by rw [u8s_length, u8s_length, ha, hb])
  simp only [List.cons.injEq, Value.int.injEq, true_and, and_true] at e2
  have e3 : cdC ⟨x, m⟩ = cdC ⟨x', m'⟩ := by show u8s x ++ [Value.int .i64 m] = u8s x' ++ [Value.int .i64 m']; rw [e1, e2.1]
  have e4 := cdC_inj e3
  have e5 : n = n' := S_inj _ _ h2.1
  rw [e5, e4, e2.2]
theorem pn_key (p : Pn) (h : SizP p) : isK Tryz.prog 63 (pnV p) := by
  obtain ⟨h1, h2, h3⟩ := h
  have hk : Tryz.prog.keyType 63 = true := by kernel_rfl
  have hc : Tryz.prog.cellsOf 63 = 19 := by kernel_rfl
  have c1 : Tryz.prog.cellsOf 9 = 1 := by kernel_rfl
  have c2 : Tryz.prog.cellsOf 41 = 17 := by kernel_rfl
  have c3 : Tryz.prog.cellsOf 3 = 1 := by kernel_rfl
  obtain ⟨d, hd⟩ : ∃ d, Tryz.prog.types.size + 1 = d + 4 := ⟨Tryz.prog.types.size - 3, by kernel_rfl⟩
  obtain ⟨ls, hls⟩ := cd_lits d h1
  have hl := pnC_len (x := p) h1.1
  have hm : (⟨p.name.toArray⟩ : ByteArray).size ≤ maxLen := by show p.name.toArray.size ≤ _; simp [maxLen]; omega
  have e0 : Tryz.prog.keyLits (d + 3) 9 [S p.name] = some [.string p.name] := by
    unfold Program.keyLits; rw [Tryz.underlying9]; simp only [if_pos hm]
  have e9 : Tryz.prog.keyLits (d + 3) 3 [.int .i64 p.till] = some [.int .i64 p.till] := by unfold Program.keyLits; rw [Tryz.underlying3]; simp only [h2, and_self, if_true]
  have e1 : ((pnC p).drop 0).take 1 = [S p.name] := rfl
  have e4 : pnC p = S p.name :: (cdC p.cidr ++ [.int .i64 p.till]) := by simp
  have e2 : ((pnC p).drop 1).take 17 = cdC p.cidr := by
    rw [e4]
    exact List.take_left' (cdC_len h1.1)
  have e3 : ((pnC p).drop 18).take 1 = [.int .i64 p.till] := by
    rw [e4, List.drop_succ_cons, List.drop_left' (cdC_len h1.1)]; rfl
  unfold isK keyOf
  rw [Tryz.underlying63]
  simp only [hk, Value.formed, Tryz.underlying63, hc, hd, List.size_toArray, hl, Value.cells]
  rw [show (S p.name :: (u8s p.cidr.addr ++ [Value.int .i64 p.cidr.bits, Value.int .i64 p.till])) = pnC p from rfl]
  have : ∃ q, Tryz.prog.keyLits (d + 4) 63 (pnC p) = some q := by
    conv => enter [1, q]; lhs; unfold Program.keyLits
    rw [Tryz.underlying63]
    simp only [hl, hc]
    rw [if_pos ⟨trivial, by kernel_rfl⟩]
    simp only [List.mapM_cons, List.mapM_nil, c1, c2, c3, e1, e2, e3, hls, e0, e9]
    simp
  obtain ⟨q, hq⟩ := this
  rw [hq]
  exact ⟨_, rfl⟩
section
variable {W0 : World} {H : Heap} {e : Env} {x y : Operand}
theorem run_sameP (a b : Pn) (ha : SizP a) (hb : SizP b) (w : World) : (Op.equal 63 (pnV a) (pnV b)).run Tryz.prog w = .ok (decide (a = b)) w := by
  obtain ⟨la, hla⟩ := pn_key a ha
  obtain ⟨lb, hlb⟩ := pn_key b hb
  obtain ⟨r, hr, hiff⟩ := run_equal_deep (P := Tryz.prog) w (m := 5) (by omega) (k := 63) (by kernel_rfl) (by kernel_rfl) hla hlb
  rw [hr]
  congr 1
  rw [Bool.eq_iff_iff, hiff, decide_eq_true_eq]
  constructor
  · rintro rfl
    have K := Maps.Keyed.of_law (deep_law_laid (P := Tryz.prog) (by kernel_rfl) (m := 5) (by omega) (k := 63) (of_decide_eq_true (by kernel_rfl)) (by kernel_rfl) (by kernel_rfl))
    exact pnC_inj (congrArg Array.toList (Value.agg.inj (K.inj hla hlb))) ha.1.1 hb.1.1
  · rintro rfl
    rw [hla] at hlb; exact Option.some.inj hlb
theorem Rd.neqPn (a b : Pn) (hx : opv e x = some (pnV a)) (hy : opv e y = some (pnV b)) (ha : SizP a) (hb : SizP b) {t' : TypeId} : Rd Tryz.prog W0 H e (.binOp .neq 63 x y t') (.bool (!decide (a = b))) := by
    delta Rd
    intro ρ hρ w _ op ho
    have hg : Tryz.prog.eqGuardType Tryz.prog.depth 63 = false := by kernel_rfl
    have h : (binOp .neq 63 (pnV a) (pnV b)).run Tryz.prog w = .ok (.bool (!decide (a = b))) w := by
      simp only [binOp]; simp [run_sameP a b ha hb w]
    simp [execOp, ho, hρ x _ hx, hρ y _ hy, eqGuard, hg, h]
end
section
variable {W : World}
theorem lies_pin {v : VT} (h : VT.Lies Tryz.prog W 63 v) : ∃ x : Pn, v.cells = pnC x ∧ SizP x := by
  obtain ⟨ps, rfl, h1⟩ := Go.Own.Lies.agg h
  obtain ⟨a1, r1, rfl, k1, h1⟩ := lies_one h1
  obtain ⟨a2, r2, rfl, k2, h1⟩ := lies_one h1
  obtain ⟨a3, r3, rfl, k3, h1⟩ := lies_one h1
  obtain rfl := lies_nil h1
  obtain ⟨p, rfl, hp⟩ := Go.Own.Lies.str k1
  obtain ⟨c, hc, _, e2⟩ := lies_cidr k2
  obtain ⟨n, rfl, hn⟩ := Go.Own.Lies.int k3
  exact ⟨⟨p, c, n⟩, by simp [VT.cells, VT.cellsL, e2], hc, hn, hp⟩
theorem lies_pins : ∀ {es : List VT}, VT.LiesAll Tryz.prog W 63 es → ∃ l : List Pn, l.length = es.length ∧ VT.cellsL es = l.flatMap pnC ∧ ∀ r ∈ l, SizP r
  | [], _ => ⟨[], rfl, by simp [VT.cellsL], by simp⟩
  | x :: es, h => by
    simp only [VT.LiesAll] at h
    obtain ⟨r, h2, h3⟩ := lies_pin h.1
    obtain ⟨l, k1, k2, k3⟩ := lies_pins h.2
    refine ⟨r :: l, by simp [k1], ?_, ?_⟩
    · rw [VT.cellsL, h2, k2, List.flatMap_cons]
    · intro y hy
      rcases List.mem_cons.1 hy with rfl | hy
      · exact h3
      · exact k3 y hy
/-- A tenant's file that came in. -/
theorem lies_policy {v : VT} (h : VT.Lies Tryz.prog W 25 v) : ∃ (p : Pol) (rv pv : Value), v.val = polV p rv pv ∧ (∀ r ∈ p.rules, Sized r) ∧ (∀ x ∈ p.pins, SizP x) ∧ p.rules.length ≤ 140737488351232 ∧ p.pins.length ≤ 140737488351232 ∧ (∀ F, RulesAt W F rv p.rules) ∧ ∀ F, PinsAt W F pv p.pins := by
  obtain ⟨ps, rfl, h1⟩ := Go.Own.Lies.agg h
  obtain ⟨a1, r1, rfl, k1, h1⟩ := lies_one h1
  obtain ⟨a2, r2, rfl, k2, h1⟩ := lies_one h1
  obtain ⟨a3, r3, rfl, k3, h1⟩ := lies_one h1
  obtain rfl := lies_nil h1
  obtain ⟨b, rfl⟩ := Go.Own.Lies.bool k1
  obtain ⟨l, p, c, hls, hll, e0, hc, hat⟩ := lies_rulesAt k2
  obtain ⟨p2, c2, es, rfl, hp2, hc2, hb2, hat2, hes⟩ := Go.Own.Lies.slice k3
  obtain ⟨l2, g1, g2, g3⟩ := lies_pins hes
  rw [g2] at hat2
  have hone : ∀ v : VT, ∀ p n c, v.val = .slice p n c → v.cells = [.slice p n c] := by
    intro v p n c hv
    cases v with
    | slice p' c' es' => simp only [VT.val] at hv; simp only [VT.cells]; rw [hv]
    | int k n => simp [VT.val] at hv
    | bool b => simp [VT.val] at hv
    | str l => simp [VT.val] at hv
    | agg ps => simp [VT.val] at hv
  have hbb : 0 < Tryz.prog.bytesOf 63 := by rw [show Tryz.prog.bytesOf 63 = 48 by kernel_rfl]; omega
  refine ⟨⟨b, l, l2⟩, .slice p l.length c, .slice p2 l2.length c2, by simp [VT.val, VT.cells, VT.cellsL, hone _ _ _ _ e0, g1], hls, g3, hll, ?_, fun F => ⟨p, c, rfl, hc, hat F⟩, fun F => ⟨p2, c2, rfl, by show l2.length ≤ c2; omega, lies_base hat2⟩⟩
  have : c2 ≤ c2 * Tryz.prog.bytesOf 63 := Nat.le_mul_of_pos_right _ hbb
  show l2.length ≤ _
  omega
end
end Go.Pol

namespace Go.Pol
open Go.Own Go.Proofs Go.RowKit Go.Lib Go.Asc Go.Adr Go.Nam Go.Tri Go.Cid Go.Bld
attribute [local irreducible] GC GQ G Rd Eff T
set_option maxRecDepth 20000
set_option maxHeartbeats 4000000
attribute [local irreducible] Lit.wf
deriving instance DecidableEq for Pol
theorem PinsAt.imp {W0 : World} {F F' : Heap} {v : Value} {ps : List Pn} (h : PinsAt W0 F v ps) (hp : ∀ φ, RO W0 F φ → RO W0 F' φ) : PinsAt W0 F' v ps := by
  obtain ⟨p, c, h1, h2, h3⟩ := h
  exact ⟨p, c, h1, h2, h3.imp hp⟩
theorem ext_getP {xs ys : List Pn} (hl : xs.length = ys.length) (h : ∀ k, k < xs.length → xs.getD k zeroP = ys.getD k zeroP) : xs = ys := by
  refine List.ext_getElem hl (fun k h1 h2 => ?_)
  have := h k h1
  rwa [List.getD_eq_getElem?_getD, List.getD_eq_getElem?_getD, List.getElem?_eq_getElem h1, List.getElem?_eq_getElem h2] at this
theorem memP {ps : List Pn} {k : Nat} (h : k < ps.length) : ps.getD k zeroP ∈ ps := by rw [List.getD_eq_getElem?_getD, List.getElem?_eq_getElem h]; exact List.getElem_mem h
theorem memP' {ps : List Pn} {x : Pn} (h : x ∈ ps) : ∃ i, i < ps.length ∧ ps.getD i zeroP = x := by
  obtain ⟨i, hi, rfl⟩ := List.mem_iff_getElem.1 h
  exact ⟨i, hi, by rw [List.getD_eq_getElem?_getD, List.getElem?_eq_getElem hi]; rfl⟩
/-- A tenant's file and where it lies. -/
structure PolAt (W0 : World) (F : Heap) (p : Pol) (rv pv : Value) : Prop where
  rules : RulesAt W0 F rv p.rules
  pins : PinsAt W0 F pv p.pins
  sr : ∀ r ∈ p.rules, Small r
  sp : ∀ x ∈ p.pins, SizP x
  sn : ∀ x ∈ p.pins, x.name.length ≤ 1000000
  rl : p.rules.length ≤ 1000000
  pl : p.pins.length ≤ 1000000
theorem PolAt.imp {W0 : World} {F F' : Heap} {p : Pol} {rv pv : Value} (h : PolAt W0 F p rv pv) (hp : ∀ φ, RO W0 F φ → RO W0 F' φ) : PolAt W0 F' p rv pv := ⟨h.rules.imp hp, h.pins.imp hp, h.sr, h.sp, h.sn, h.rl, h.pl⟩
def fewP (p : Pol) : Bool := p.pins.all (fun x => decide (x.name.length ≤ 300)) && (fewL p.rules && decide (p.pins.length ≤ 220))
section
variable {W0 : World} {F : Heap}
theorem psame_spec {p q : Pol} {rv pv rw' qv : Value} (hp : PolAt W0 F p rv pv) (hq : PolAt W0 F q rw' qv) :
    T Tryz.prog W0 17 #[polV p rv pv, polV q rw' qv] F (fun v H' => v = .bool (decide (p = q)) ∧ H' = F) := by
  have hrp := hp.rules; have hrq := hq.rules
  obtain ⟨pa, ca, rfl, hca, hat⟩ := hp.pins
  obtain ⟨pb, cb, rfl, hcb, hbt⟩ := hq.pins
  have hpl := hp.pl; have hql := hq.pl
  have ho1 : rv.oneCell' = true := by obtain ⟨_, _, rfl, _⟩ := hrp; rfl
  have ho2 : rw'.oneCell' = true := by obtain ⟨_, _, rfl, _⟩ := hrq; rfl
  refine T.intro (args := [_, _]) Tryz.func17 rfl Tryz.ntmps17 rfl ?_
  repeat' first | refine Y.st ?_ | (refine nw ?_; intro _) | refine Y.kn ?_ | fail
  rename_i b2 b3
  refine G.rd (Rd.neqB rfl rfl) rfl rfl ?_
  by_cases ha : p.allow = q.allow
  case neg =>
    have hne : ¬ p = q := fun h => ha (by rw [h])
    rw [show (!(p.allow == q.allow)) = true by simp [ha]]
    repeat' first | refine Y.st ?_ | (refine nw ?_; intro _) | refine Y.kn ?_ | fail
    exact GQ.pure1 rfl (.tmp rfl) (by rw [decide_eq_false hne])
  rw [show (!(p.allow == q.allow)) = false by simp [ha]]
  repeat' first | refine Y.st ?_ | (refine nw ?_; intro _) | refine Y.kn ?_ | fail
  refine G.ef rfl rfl rfl (Eff.callF rfl ((same_spec rv rw' p.rules q.rules (hrp.imp (fun _ hφ => (hφ.cons _).cons _)) (hrq.imp (fun _ hφ => (hφ.cons _).cons _)) hp.sr hq.sr hp.rl).mono ?_))
  rintro v H' ⟨rfl, rfl⟩
  by_cases hru : p.rules = q.rules
  case neg =>
    have hne : ¬ p = q := fun h => hru (by rw [h])
    rw [decide_eq_false hru]
    repeat' first | refine Y.st ?_ | (refine nw ?_; intro _) | refine Y.kn ?_ | fail
    exact GQ.pure1 rfl (.tmp rfl) (by rw [decide_eq_false hne])
  rw [decide_eq_true hru]
  by_cases hln : p.pins.length = q.pins.length
  case neg =>
    have hne : ¬ p = q := fun h => hln (by rw [h])
    repeat' first | refine Y.st ?_ | (refine nw ?_; intro _) | refine Y.kn ?_ | fail
    exact GQ.pure1 rfl (.tmp rfl) (by rw [decide_eq_false hne])
  repeat' first | refine Y.st ?_ | (refine nw ?_; intro _) | refine Y.kn ?_ | fail
  refine GC.loopE (ι := { k : Nat // k ≤ p.pins.length ∧ ∀ m, m < k → p.pins.getD m zeroP = q.pins.getD m zeroP }) (fun i => [(5, .int .i64 (i.1 : Int))]) [(2, _), (3, _)] (fun _ => (b3, .cells #[.bool q.allow, rw', .slice pb q.pins.length cb] 25 (0, 0)) :: (b2, .cells #[.bool p.allow, rv, .slice pa p.pins.length ca] 25 (0, 0)) :: F) (fun i => p.pins.length - i.1) ⟨0, Nat.zero_le _, fun m h => by omega⟩ ⟨rfl, rfl, rfl, trivial⟩ (fun w hw => hw.perm (by exact permC)) ?_
  rintro ⟨k, hk, hall⟩
  dsimp only [List.cons_append, List.nil_append] at hk hall ⊢
  by_cases hlt : k < p.pins.length
  · obtain ⟨b, o, rfl, hc1⟩ := pins_get hp.sp ((hat.cons (b2, .cells #[.bool p.allow, rv, .slice pa p.pins.length ca] 25 (0, 0))).cons (b3, .cells #[.bool q.allow, rw', .slice pb q.pins.length cb] 25 (0, 0))) hlt
    obtain ⟨b', o', rfl, hc2⟩ := pins_get hq.sp ((hbt.cons (b2, .cells #[.bool p.allow, rv, .slice (some ⟨b, o, none⟩) p.pins.length ca] 25 (0, 0))).cons (b3, .cells #[.bool q.allow, rw', .slice pb q.pins.length cb] 25 (0, 0))) (k := k) (by omega)
    have h1 := hc1 k hlt
    have h2 := hc2 k (by omega)
    have s1 := hp.sp _ (memP hlt)
    have s2 := hq.sp _ (memP (ps := q.pins) (k := k) (by omega))
    have l1 := pnC_len s1.1.1
    have l2 := pnC_len s2.1.1
    repeat' first | refine Y.st ?_ | (refine nw ?_; intro _) | refine Y.kn ?_ | fail
    refine GC.drawnH [(0, .read), (1, .read), (2, .read), (3, .read), (4, .read), (5, .read), (6, .read), (7, .read), (8, .read), (9, .read), (10, .read)] (by kernel_rfl) (by kernel_rfl) rfl ?_
    repeat' first | refine Y.st ?_ | (refine nw ?_; intro _) | refine Y.kn ?_ | fail
    refine G.rd (Rd.loadAggC rfl h1 l1) rfl rfl ?_
    repeat' first | refine Y.st ?_ | (refine nw ?_; intro _) | refine Y.kn ?_ | fail
    refine G.rd (Rd.loadAggC rfl h2 l2) rfl rfl ?_
    repeat' first | refine Y.st ?_ | (refine nw ?_; intro _) | refine Y.kn ?_ | fail
    refine G.rd (Rd.neqPn _ _ rfl rfl s1 s2) rfl rfl ?_
    by_cases he : p.pins.getD k zeroP = q.pins.getD k zeroP
    · rw [decide_eq_true he]
      repeat' first | refine Y.st ?_ | (refine nw ?_; intro _) | refine Y.kn ?_ | fail
      exact GQ.back ⟨k + 1, by omega, fun m hm => by
        rcases Nat.lt_or_ge m k with h | h
        · exact hall m h
        · obtain rfl : m = k := by omega
          exact he⟩ (by simp only; omega) ⟨rfl, rfl, rfl, trivial⟩ (fun _ h => h)
    · have hne : ¬ p = q := fun h => he (by rw [h])
      rw [decide_eq_false he]
      repeat' first | refine Y.st ?_ | (refine nw ?_; intro _) | refine Y.kn ?_ | fail
      exact GQ.pure1 rfl (.tmp rfl) (by rw [decide_eq_false hne])
  · obtain rfl : k = p.pins.length := by omega
    have heq : p = q := by
      have := ext_getP hln hall
      obtain ⟨a1, r1, p1⟩ := p
      obtain ⟨a2, r2, p2⟩ := q
      simp only at ha hru this
      rw [ha, hru, this]
    repeat' first | refine Y.st ?_ | (refine nw ?_; intro _) | refine Y.kn ?_ | fail
    exact GQ.pure1 rfl (.tmp rfl) (by rw [decide_eq_true heq])
theorem pfew_spec {p : Pol} {rv pv : Value} (hr : RulesAt W0 F rv p.rules) (hp : PinsAt W0 F pv p.pins) (sp : ∀ x ∈ p.pins, SizP x) (hl : p.rules.length ≤ 140737488351232) (hl2 : p.pins.length ≤ 140737488351232) :
    T Tryz.prog W0 13 #[polV p rv pv] F (fun v H' => v = .bool (fewP p) ∧ H' = F) := by
  obtain ⟨pb, cb, rfl, hcb, hbt⟩ := hp
  refine T.intro (args := [_]) Tryz.func13 rfl Tryz.ntmps13 rfl ?_
  repeat' first | refine Y.st ?_ | (refine nw ?_; intro _) | refine Y.kn ?_ | fail
  rename_i b1
  refine GC.loopE (ι := { k : Nat // k ≤ p.pins.length ∧ ∀ m, m < k → (p.pins.getD m zeroP).name.length ≤ 300 }) (fun i => [(3, .int .i64 (i.1 : Int))]) [(1, _)] (fun _ => (b1, .cells #[.bool p.allow, rv, .slice pb p.pins.length cb] 25 (0, 0)) :: F) (fun i => p.pins.length - i.1) ⟨0, Nat.zero_le _, fun m h => by omega⟩ ⟨rfl, rfl, trivial⟩ (fun _ h => h) ?_
  rintro ⟨k, hk, hall⟩
  dsimp only [List.cons_append, List.nil_append] at hk hall ⊢
  by_cases hlt : k < p.pins.length
  · obtain ⟨b, o, rfl, hc1⟩ := pins_get sp (hbt.cons (b1, .cells #[.bool p.allow, rv, .slice pb p.pins.length cb] 25 (0, 0))) hlt
    have h0 : ∀ w, Own W0 ((b1, .cells #[.bool p.allow, rv, .slice (some ⟨b, o, none⟩) p.pins.length cb] 25 (0, 0)) :: F) w → w.cell? ⟨b, o + k * 19 + 0, none⟩ = some (S (p.pins.getD k zeroP).name) := fun w hw => hc1 k hlt w hw 0 _ rfl
    by_cases hs : (p.pins.getD k zeroP).name.length ≤ 300
    · repeat' first | refine Y.st ?_ | (refine nw ?_; intro _) | refine Y.kn ?_ | fail
      exact GQ.back ⟨k + 1, by omega, fun m hm => by
        rcases Nat.lt_or_ge m k with h | h
        · exact hall m h
        · obtain rfl : m = k := by omega
          exact hs⟩ (by simp only; omega) ⟨rfl, rfl, trivial⟩ (fun _ h => h)
    · have hf : fewP p = false := by
        unfold fewP
        rw [List.all_eq_false.2 ⟨_, memP hlt, by simp only [decide_eq_true_eq]; exact hs⟩]; rfl
      repeat' first | refine Y.st ?_ | (refine nw ?_; intro _) | refine Y.kn ?_ | fail
      exact GQ.pure1 rfl (.tmp rfl) (by rw [hf])
  · obtain rfl : k = p.pins.length := by omega
    have hf : fewP p = (fewL p.rules && decide (p.pins.length ≤ 220)) := by
      unfold fewP
      rw [List.all_eq_true.2 (fun r hr => by obtain ⟨i, hi, rfl⟩ := memP' hr; simp only [decide_eq_true_eq]; exact hall i hi)]; simp
    repeat' first | refine Y.st ?_ | (refine nw ?_; intro _) | refine Y.kn ?_ | fail
    refine G.ef rfl rfl rfl (Eff.callF rfl ((few_spec rv p.rules (hr.imp (fun _ hφ => hφ.cons _)) hl).mono ?_))
    rintro v H' ⟨rfl, rfl⟩
    cases hfl : fewL p.rules with
    | false =>
      repeat' first | refine Y.st ?_ | (refine nw ?_; intro _) | refine Y.kn ?_ | fail
      exact GQ.pure1 rfl (.tmp rfl) (by rw [hf, hfl]; rfl)
    | true =>
      repeat' first | refine Y.st ?_ | (refine nw ?_; intro _) | refine Y.kn ?_ | fail
      exact GQ.pure1 rfl (.tmp rfl) (by rw [hf, hfl]; simp; omega)
end
end Go.Pol

namespace Go.Pol
open Go.Own Go.Proofs Go.RowKit Go.Lib Go.Asc Go.Adr Go.Nam Go.Tri Go.Cid Go.Bld
attribute [local irreducible] GC GQ G Rd Eff T
set_option maxRecDepth 20000
set_option maxHeartbeats 4000000
theorem named_len {s : Lb} (h : named s = true) : s.length ≤ 253 := by
  rcases named_cases h with ⟨a, _, ha, rfl⟩ | ⟨_, h2⟩
  · have := print_len ha; omega
  · exact h2
theorem pat_len {s : Lb} (h : patL s = true) : s.length ≤ 300 := by
  unfold patL at h
  cases hc : cutP s with
  | some r =>
    rw [hc] at h
    have hn := named_len ((Bool.and_eq_true _ _).mp h).1
    unfold cutP at hc
    split at hc
    · have : r = s.drop 2 := (Option.some.inj hc).symm
      rw [this, List.length_drop] at hn; omega
    · cases hc
  | none =>
    rw [hc] at h
    rcases (Bool.or_eq_true _ _).mp h with h | h
    · have : s = [42] := by simpa using h
      rw [this]; decide
    · have := named_len h; omega
theorem right_alpn {r : Ru} (h : rightL r = 0) : r.alpn.length ≤ 255 := by
  unfold rightL at h
  split at h
  · cases h
  · split at h
    · cases h
    · split at h
      · cases h
      · split at h
        · cases h
        · rename_i h4
          simp only [not_or, Nat.not_lt] at h4
          exact h4.2
theorem rulesErr_mem : ∀ {l rs : List Ru}, rulesErr rs l = 0 → ∀ r ∈ l, rightL r = 0
  | [], _, _, r, hr => by cases hr
  | x :: l, rs, h, r, hr => by
    simp only [rulesErr] at h
    split at h
    · rename_i h0
      rcases List.mem_cons.1 hr with rfl | hr
      · exact add_right h0
      · exact rulesErr_mem h r hr
    · rename_i h0; exact absurd h h0
theorem rulesErr_len : ∀ {l rs : List Ru}, rulesErr rs l = 0 → rs.length ≤ 200 → rs.length + l.length ≤ 200
  | [], rs, _, h => by simpa using h
  | x :: l, rs, h, hl => by
    simp only [rulesErr] at h
    split at h
    · rename_i h0
      have hne : rs.length ≠ 200 := by
        intro h2
        unfold addL at h0
        split at h0
        · rename_i h3; exact h3 h0
        · first | (rw [if_pos h2] at h0; cases h0) | cases h0
      have := rulesErr_len h (by rw [List.length_append]; simp only [List.length_cons, List.length_nil]; omega)
      rw [List.length_append] at this
      simp only [List.length_cons, List.length_nil] at this ⊢; omega
    · rename_i h0; exact absurd h h0
theorem pinsErr_mem : ∀ {l ps : List Pn}, pinsErr ps l = 0 → ∀ x ∈ l, named x.name = true ∧ rightC x.cidr = true ∧ 0 ≤ x.till ∧ x.till ≤ 1099511627776
  | [], _, _, r, hr => by cases hr
  | x :: l, rs, h, r, hr => by
    simp only [pinsErr] at h
    split at h
    · rename_i h0
      rcases List.mem_cons.1 hr with rfl | hr
      · exact pinErr_good h0
      · exact pinsErr_mem h r hr
    · rename_i h0; exact absurd h h0
theorem small_right {r : Ru} (h : rightL r = 0) : Small r ∧ r.pat.length ≤ 300 ∧ r.alpn.length ≤ 300 := by
  have hg := right_good h
  have h1 := pat_len hg.pat
  have h2 := right_alpn h
  have := hg.p1; have := hg.p2; have := hg.q1; have := hg.q2
  exact ⟨⟨⟨wf_small (by omega) (by omega), wf_small (by omega) (by omega), by omega, by omega⟩, by omega, by omega⟩, h1, by omega⟩
theorem right_few {p : Pol} (h : rightP p = 0) : fewP p = true := by
  obtain ⟨h1, h2, h3⟩ := rightP_iff.1 h
  have hl := rulesErr_len h1 (by simp)
  unfold fewP fewL
  simp only [Bool.and_eq_true, List.all_eq_true, decide_eq_true_eq]
  refine ⟨fun x hx => ?_, ⟨fun r hr => ?_, ?_⟩, by omega⟩
  · have := named_len (pinsErr_mem h3 x hx).1; omega
  · exact (small_right (rulesErr_mem h1 r hr)).2
  · simp only [List.length_nil] at hl; omega
theorem parse_right2 (s : Lb) : rightP (parseP s).1 = 0 := by
  by_cases h : (parseP s).2.2 = 0
  · exact parse_right h
  · rw [(parse_bad h).1]; exact zero_right
theorem few_len {p : Pol} (h : fewP p = true) : p.rules.length ≤ 220 ∧ p.pins.length ≤ 220 ∧ (∀ r ∈ p.rules, r.pat.length ≤ 300 ∧ r.alpn.length ≤ 300) ∧ ∀ x ∈ p.pins, x.name.length ≤ 300 := by
  unfold fewP at h
  simp only [Bool.and_eq_true, List.all_eq_true, decide_eq_true_eq] at h
  obtain ⟨h1, h2, h3⟩ := h
  obtain ⟨g1, g2⟩ := few_true h2
  exact ⟨g1, h3, g2, h1⟩
theorem say_len {ws : List Lb} (h : ∀ w ∈ ws, w.length ≤ 300) : (sayL ws).length ≤ ws.length * 301 + 1 := by
  have := join_len [32] 300 ws h
  simp only [sayL, List.length_append, List.length_cons, List.length_nil] at this ⊢
  omega
theorem flat_le {α : Type} (f : α → Lb) (m : Nat) : ∀ (l : List α), (∀ x ∈ l, (f x).length ≤ m) → (l.flatMap f).length ≤ l.length * m
  | [], _ => by simp
  | x :: l, h => by
    have h1 := h x (by simp)
    have h2 := flat_le f m l (fun y hy => h y (List.mem_cons_of_mem _ hy))
    simp only [List.flatMap_cons, List.length_append, List.length_cons, Nat.add_mul]; omega
theorem print_len2 {p : Pol} (hf : fewP p = true) (sr : ∀ r ∈ p.rules, Sized r) (sp : ∀ x ∈ p.pins, SizP x) : (printP p).length ≤ 900000 := by
  obtain ⟨h1, h2, h3, h4⟩ := few_len hf
  have hverb : ∀ b, (verbL b).length ≤ 300 := fun b => by cases b <;> decide
  have e0 : (sayL [kDefault, verbL p.allow]).length ≤ 2 * 301 + 1 := say_len (fun w hw => by
    simp only [List.mem_cons, List.not_mem_nil, or_false] at hw
    rcases hw with rfl | rfl
    · decide
    · exact hverb _)
  have e1 : (p.rules.flatMap (fun r => sayL (ruleWs r))).length ≤ p.rules.length * 2108 := flat_le _ 2108 _ (fun r hr => by
    obtain ⟨q1, q2⟩ := wf_i64 (sr r hr).1
    obtain ⟨q3, q4⟩ := wf_i64 (sr r hr).2.1
    have l1 := itoa_le q1 q2
    have l2 := itoa_le q3 q4
    have := say_len (ws := ruleWs r) (fun w hw => by
      unfold ruleWs at hw
      simp only [List.mem_append, List.mem_cons, List.not_mem_nil, or_false] at hw
      rcases hw with (rfl | rfl | rfl) | hw | hw
      · exact hverb _
      · omega
      · exact (h3 r hr).1
      · split at hw
        · cases hw
        · simp only [List.mem_cons, List.not_mem_nil, or_false] at hw
          rcases hw with rfl | rfl
          · decide
          · omega
      · split at hw
        · cases hw
        · simp only [List.mem_cons, List.not_mem_nil, or_false] at hw
          rcases hw with rfl | rfl
          · decide
          · exact (h3 r hr).2)
    have := ruleWs_few r
    omega)
  have e2 : (p.pins.flatMap (fun x => sayL (pinWs x))).length ≤ p.pins.length * 1506 := flat_le _ 1506 _ (fun x hx => by
    obtain ⟨q1, q2⟩ := wf_i64 (sp x hx).2.1
    have l1 := itoa_le q1 q2
    have l2 := printC_le (sp x hx).1
    have := say_len (ws := pinWs x) (fun w hw => by
      unfold pinWs at hw
      simp only [List.mem_append, List.mem_cons, List.not_mem_nil, or_false] at hw
      rcases hw with (rfl | rfl | rfl) | hw
      · decide
      · exact h4 x hx
      · omega
      · split at hw
        · cases hw
        · simp only [List.mem_cons, List.not_mem_nil, or_false] at hw
          rcases hw with rfl | rfl
          · decide
          · omega)
    have := pinWs_few x
    omega)
  simp only [printP, List.length_append]
  omega
/-! ### What Parse answers -/
theorem right_at {W0 : World} {F : Heap} {p : Pol} {rv pv : Value} (h : rightP p = 0) (ha : ∀ x ∈ p.pins, x.cidr.addr.length = 16) (hr : RulesAt W0 F rv p.rules) (hp : PinsAt W0 F pv p.pins) : PolAt W0 F p rv pv := by
  obtain ⟨h1, h2, h3⟩ := rightP_iff.1 h
  obtain ⟨g1, g2, g3, g4⟩ := few_len (right_few h)
  refine ⟨hr, hp, fun r hr => (small_right (rulesErr_mem h1 r hr)).1, fun x hx => ?_, fun x hx => by have := g4 x hx; omega, by omega, by omega⟩
  obtain ⟨k1, k2, k3, k4⟩ := pinsErr_mem h3 x hx
  have := named_len k1
  exact ⟨siz_right k2 (ha x hx), wf_small (by omega) (by omega), by omega⟩
theorem few_at {W0 : World} {F : Heap} {p : Pol} {rv pv : Value} (h : fewP p = true) (sr : ∀ r ∈ p.rules, Sized r) (sp : ∀ x ∈ p.pins, SizP x) (hr : RulesAt W0 F rv p.rules) (hp : PinsAt W0 F pv p.pins) : PolAt W0 F p rv pv := by
  obtain ⟨g1, g2, g3, g4⟩ := few_len h
  exact ⟨hr, hp, fun r hr => ⟨sr r hr, by have := (g3 r hr).1; omega, by have := (g3 r hr).2; omega⟩, sp, fun x hx => by have := g4 x hx; omega, by omega, by omega⟩
theorem parse_at {s : Lb} {F : Heap} {v : Value} {H' : Heap} (h : ParseR s F v H') : ∃ rv pv X, v = .tuple #[polV (parseP s).1 rv pv, .int .i64 ((parseP s).2.1 : Int), .int .i64 (parseP s).2.2] ∧ H' = X ++ F ∧ rv.oneCell' = true ∧ pv.oneCell' = true ∧ ∀ W0, PolAt W0 (X ++ F) (parseP s).1 rv pv := by
  obtain ⟨rv, pv, Br, Bp, rfl, hr, hp, rfl⟩ := h
  have o1 := one_buf hr
  have o2 := one_buf hp
  obtain ⟨p1, c1, rfl, hc1, hl1⟩ := Go.Tri.Buf.see hr
  obtain ⟨p2, c2, rfl, hc2, hl2⟩ := Go.Tri.Buf.see hp
  refine ⟨_, _, Br ++ Bp, rfl, by simp, o1, o2, fun W0 => ?_⟩
  have e1 : RulesAt W0 ((Br ++ Bp) ++ F) (.slice p1 (parseP s).1.rules.length c1) (parseP s).1.rules := ⟨p1, c1, rfl, hc1, (((hl1 W0).app (Bp ++ F)).perm (by exact permC))⟩
  have e2 : PinsAt W0 ((Br ++ Bp) ++ F) (.slice p2 (parseP s).1.pins.length c2) (parseP s).1.pins := ⟨p2, c2, rfl, hc2, (((hl2 W0).app (Br ++ F)).perm (by exact permC))⟩
  exact right_at (parse_right2 s) (parse_wf s) e1 e2
end Go.Pol

namespace Go.Pol
open Go.Own Go.Proofs Go.RowKit Go.Lib Go.Asc Go.Adr Go.Nam Go.Tri Go.Cid Go.Bld
attribute [local irreducible] GC GQ G Rd Eff T
set_option maxRecDepth 20000
set_option maxHeartbeats 4000000
def smR : Ru := ⟨false, -5, [42, 46, 97], 80, [104, 50]⟩
def smX : Pn := ⟨[98, 46, 99], ⟨[0, 0, 0, 0, 0, 0, 0, 0, 0, 0, 255, 255, 10, 0, 0, 0], 104⟩, 9⟩
def smP : Pol := ⟨true, [smR], [smX]⟩
def sm1 : Lb := ([35, 32, 97, 108, 108, 10, 32, 100, 101, 102, 97, 117, 108, 116, 32, 97, 108, 108, 111, 119, 10, 100, 101, 110, 121, 32, 45, 53, 32, 42, 46, 97, 32, 32, 112, 111, 114, 116, 32].append [56, 48, 32, 97, 108, 112, 110, 32, 104, 50, 10, 10, 112, 105, 110, 32, 98, 46, 99, 32, 49, 48, 46, 48, 46, 48, 46, 48, 47, 56, 32, 117, 110, 116, 105, 108, 32, 57, 10])
theorem sm1_is : parseP sm1 = (smP, 0, 0) := by decide +kernel
def sm2 : Lb := [100, 101, 102, 97, 117, 108, 116, 32, 100, 101, 110, 121, 10, 97, 108, 108, 111, 119, 32, 49, 32, 97, 10, 97, 108, 108, 111, 119, 32, 49, 32, 97]
theorem sm2_is : parseP sm2 = (polZ, 3, 7) := by decide +kernel
def sm3 : Lb := [97, 108, 108, 111, 119, 32, 49, 32, 97, 32, 112, 111, 114, 116]
theorem sm3_is : parseP sm3 = (polZ, 1, 3) := by decide +kernel
def sm4 : Lb := [112, 105, 110, 32, 65, 32, 49, 48, 46, 48, 46, 48, 46, 48, 47, 56]
theorem sm4_is : parseP sm4 = (polZ, 1, 9) := by decide +kernel
def sm5 : Lb := [119, 104, 97, 116]
theorem sm5_is : parseP sm5 = (polZ, 1, 3) := by decide +kernel
def sm6 : Lb := []
theorem sm6_is : parseP sm6 = (polZ, 0, 0) := by decide +kernel
def smOut : Lb := ([100, 101, 102, 97, 117, 108, 116, 32, 97, 108, 108, 111, 119, 10, 100, 101, 110, 121, 32, 45, 53, 32, 42, 46, 97, 32, 112, 111, 114, 116, 32, 56, 48, 32].append [97, 108, 112, 110, 32, 104, 50, 10, 112, 105, 110, 32, 98, 46, 99, 32, 49, 48, 46, 48, 46, 48, 46, 48, 47, 56, 32, 117, 110, 116, 105, 108, 32, 57, 10])
theorem smOut_is : printP smP = smOut := by decide +kernel
theorem smRight : rightP smP = 0 := by decide +kernel
theorem three_one {b : Bool} {rv pv : Value} (h1 : rv.oneCell' = true) (h2 : pv.oneCell' = true) : ∀ u ∈ [Value.bool b, rv, pv], u.oneCell' = true := by
  intro u hu
  simp only [List.mem_cons, List.not_mem_nil, or_false] at hu
  rcases hu with rfl | rfl | rfl
  · rfl
  · exact h1
  · exact h2
theorem parse_is {s : Lb} {F : Heap} {v : Value} {H' : Heap} {p : Pol} {n nr np : Nat} {m c : Int} (h : ParseR s F v H') (e : parseP s = (p, n, c)) (hm : (n : Int) = m) (h1 : p.rules.length = nr) (h2 : p.pins.length = np) : ∃ pa ca pb cb X, v = .tuple #[polV p (.slice pa nr ca) (.slice pb np cb), .int .i64 m, .int .i64 c] ∧ H' = X ++ F ∧ ∀ W0, PolAt W0 (X ++ F) p (.slice pa nr ca) (.slice pb np cb) := by
  obtain ⟨rv, pv, X, rfl, rfl, o1, o2, hat⟩ := parse_at h
  rw [e] at hat ⊢
  obtain ⟨pa, ca, rfl, _⟩ := (hat default).rules
  obtain ⟨pb, cb, rfl, _⟩ := (hat default).pins
  subst hm h1 h2
  exact ⟨pa, ca, pb, cb, X, rfl, rfl, hat⟩
section
variable {W0 : World} {F : Heap}
attribute [local irreducible] Lit.wf parseP printP rightP
theorem psmall_spec (hv : Vars W0) : T Tryz.prog W0 12 #[] F (fun v H' => v = .bool true ∧ H' = F) := by
  refine T.intro (args := []) Tryz.func12 rfl Tryz.ntmps12 rfl ?_
  repeat' first | refine Y.st ?_ | (refine nw ?_; intro _) | refine Y.kn ?_ | fail
  refine G.ef rfl rfl rfl (Eff.callF (vs := [S sm1]) rfl ((pparse_spec hv sm1 (by decide)).mono ?_))
  intro v H' hP
  obtain ⟨pa1, ca1, pb1, cb1, X1, rfl, rfl, at1⟩ := parse_is hP sm1_is (m := 0) (nr := 1) (np := 1) rfl rfl rfl
  have at1 := at1 W0
  repeat' first | refine Y.st ?_ | (refine nw ?_; intro _) | refine Y.kn ?_ | fail
  rename_i b1
  refine G.ef rfl rfl rfl (Eff.callF (vs := [S sm2]) rfl ((pparse_spec hv sm2 (by decide)).mono ?_))
  intro v H' hP
  obtain ⟨pa2, ca2, pb2, cb2, X2, rfl, rfl, at2⟩ := parse_is hP sm2_is (m := 3) (nr := 0) (np := 0) rfl rfl rfl
  have at2 := at2 W0
  repeat' first | refine Y.st ?_ | (refine nw ?_; intro _) | refine Y.kn ?_ | fail
  rename_i b2
  refine G.ef rfl rfl rfl (Eff.callF (vs := [S sm3]) rfl ((pparse_spec hv sm3 (by decide)).mono ?_))
  intro v H' hP
  obtain ⟨pa3, ca3, pb3, cb3, X3, rfl, rfl, at3⟩ := parse_is hP sm3_is (m := 1) (nr := 0) (np := 0) rfl rfl rfl
  have at3 := at3 W0
  repeat' first | refine Y.st ?_ | (refine nw ?_; intro _) | refine Y.kn ?_ | fail
  rename_i b3
  refine G.ef rfl rfl rfl (Eff.callF (vs := [S sm4]) rfl ((pparse_spec hv sm4 (by decide)).mono ?_))
  intro v H' hP
  obtain ⟨pa4, ca4, pb4, cb4, X4, rfl, rfl, at4⟩ := parse_is hP sm4_is (m := 1) (nr := 0) (np := 0) rfl rfl rfl
  have at4 := at4 W0
  repeat' first | refine Y.st ?_ | (refine nw ?_; intro _) | refine Y.kn ?_ | fail
  rename_i b4
  refine G.ef rfl rfl rfl (Eff.callF (vs := [S sm5]) rfl ((pparse_spec hv sm5 (by decide)).mono ?_))
  intro v H' hP
  obtain ⟨pa5, ca5, pb5, cb5, X5, rfl, rfl, at5⟩ := parse_is hP sm5_is (m := 1) (nr := 0) (np := 0) rfl rfl rfl
  have at5 := at5 W0
  repeat' first | refine Y.st ?_ | (refine nw ?_; intro _) | refine Y.kn ?_ | fail
  rename_i b5
  refine G.ef rfl rfl rfl (Eff.callF (vs := [S sm6]) rfl ((pparse_spec hv sm6 (by decide)).mono ?_))
  intro v H' hP
  obtain ⟨pa6, ca6, pb6, cb6, X6, rfl, rfl, at6⟩ := parse_is hP sm6_is (m := 0) (nr := 0) (np := 0) rfl rfl rfl
  have at6 := at6 W0
  repeat' first | refine Y.st ?_ | (refine nw ?_; intro _) | refine Y.kn ?_ | fail
  rename_i b6
  have atH : PolAt W0 ((b6, .cells #[.bool polZ.allow, .slice pa6 0 ca6, .slice pb6 0 cb6] 25 (0, 0)) :: (X6 ++ ((b5, .cells #[.bool polZ.allow, .slice pa5 0 ca5, .slice pb5 0 cb5] 25 (0, 0)) :: (X5 ++ ((b4, .cells #[.bool polZ.allow, .slice pa4 0 ca4, .slice pb4 0 cb4] 25 (0, 0)) :: (X4 ++ ((b3, .cells #[.bool polZ.allow, .slice pa3 0 ca3, .slice pb3 0 cb3] 25 (0, 0)) :: (X3 ++ ((b2, .cells #[.bool polZ.allow, .slice pa2 0 ca2, .slice pb2 0 cb2] 25 (0, 0)) :: (X2 ++ ((b1, .cells #[.bool smP.allow, .slice pa1 1 ca1, .slice pb1 1 cb1] 25 (0, 0)) :: (X1 ++ (F))))))))))))) smP (.slice pa1 1 ca1) (.slice pb1 1 cb1) := at1.imp (fun _ hφ => ((((((((((hφ.cons _).app X2).cons _).app X3).cons _).app X4).cons _).app X5).cons _).app X6).cons _)
  obtain ⟨p', c', e', hc', hl'⟩ := atH.rules
  obtain ⟨rfl, -, rfl⟩ := Value.slice.inj e'
  obtain ⟨p'', c'', e'', hc'', hl''⟩ := atH.pins
  obtain ⟨rfl, -, rfl⟩ := Value.slice.inj e''
  obtain ⟨ab, ao, rfl, hc1⟩ := lies_get hl' (k := 0) (by decide)
  obtain ⟨pb, po, rfl, hc2⟩ := pins_get atH.sp hl'' (k := 0) (by decide)
  have sS : Sized smR := (atH.sr smR (by simp [smP])).1
  have g1 := hc1 0 (by decide)
  have g2 : ∀ w, Own W0 ((b6, .cells #[.bool polZ.allow, .slice pa6 0 ca6, .slice pb6 0 cb6] 25 (0, 0)) :: (X6 ++ ((b5, .cells #[.bool polZ.allow, .slice pa5 0 ca5, .slice pb5 0 cb5] 25 (0, 0)) :: (X5 ++ ((b4, .cells #[.bool polZ.allow, .slice pa4 0 ca4, .slice pb4 0 cb4] 25 (0, 0)) :: (X4 ++ ((b3, .cells #[.bool polZ.allow, .slice pa3 0 ca3, .slice pb3 0 cb3] 25 (0, 0)) :: (X3 ++ ((b2, .cells #[.bool polZ.allow, .slice pa2 0 ca2, .slice pb2 0 cb2] 25 (0, 0)) :: (X2 ++ ((b1, .cells #[.bool smP.allow, .slice (some ⟨ab, ao, none⟩) 1 ca1, .slice (some ⟨pb, po, none⟩) 1 cb1] 25 (0, 0)) :: (X1 ++ (F))))))))))))) w → w.cell? ⟨pb, po + 0 * 19 + 0, none⟩ = some (S [98, 46, 99]) := fun w hw => hc2 0 (by decide) w hw 0 _ rfl
  have g3 : ∀ w, Own W0 ((b6, .cells #[.bool polZ.allow, .slice pa6 0 ca6, .slice pb6 0 cb6] 25 (0, 0)) :: (X6 ++ ((b5, .cells #[.bool polZ.allow, .slice pa5 0 ca5, .slice pb5 0 cb5] 25 (0, 0)) :: (X5 ++ ((b4, .cells #[.bool polZ.allow, .slice pa4 0 ca4, .slice pb4 0 cb4] 25 (0, 0)) :: (X4 ++ ((b3, .cells #[.bool polZ.allow, .slice pa3 0 ca3, .slice pb3 0 cb3] 25 (0, 0)) :: (X3 ++ ((b2, .cells #[.bool polZ.allow, .slice pa2 0 ca2, .slice pb2 0 cb2] 25 (0, 0)) :: (X2 ++ ((b1, .cells #[.bool smP.allow, .slice (some ⟨ab, ao, none⟩) 1 ca1, .slice (some ⟨pb, po, none⟩) 1 cb1] 25 (0, 0)) :: (X1 ++ (F))))))))))))) w → w.cell? ⟨pb, po + 0 * 19 + 18, none⟩ = some (.int .i64 9) := fun w hw => hc2 0 (by decide) w hw 18 _ rfl
  have g4 : ∀ w, Own W0 ((b6, .cells #[.bool polZ.allow, .slice pa6 0 ca6, .slice pb6 0 cb6] 25 (0, 0)) :: (X6 ++ ((b5, .cells #[.bool polZ.allow, .slice pa5 0 ca5, .slice pb5 0 cb5] 25 (0, 0)) :: (X5 ++ ((b4, .cells #[.bool polZ.allow, .slice pa4 0 ca4, .slice pb4 0 cb4] 25 (0, 0)) :: (X4 ++ ((b3, .cells #[.bool polZ.allow, .slice pa3 0 ca3, .slice pb3 0 cb3] 25 (0, 0)) :: (X3 ++ ((b2, .cells #[.bool polZ.allow, .slice pa2 0 ca2, .slice pb2 0 cb2] 25 (0, 0)) :: (X2 ++ ((b1, .cells #[.bool smP.allow, .slice (some ⟨ab, ao, none⟩) 1 ca1, .slice (some ⟨pb, po, none⟩) 1 cb1] 25 (0, 0)) :: (X1 ++ (F))))))))))))) w → w.cell? ⟨pb, po + 0 * 19 + 1 + 16, none⟩ = some (.int .i64 104) := fun w hw => hc2 0 (by decide) w hw 17 _ rfl
  repeat' first | refine Y.st ?_ | (refine nw ?_; intro _) | refine Y.kn ?_ | fail
  refine G.rd (Rd.build (cells := ruA smR) rfl (by rfl)) rfl rfl ?_
  refine G.rd (Rd.eqlRu smR smR rfl rfl sS sS) rfl rfl ?_
  rw [decide_eq_true rfl]
  repeat' first | refine Y.st ?_ | (refine nw ?_; intro _) | refine Y.kn ?_ | fail
  refine G.ef rfl rfl rfl (Eff.callF rfl ((print_spec hv smP _ _ atH.rules atH.pins (fun r hr => (atH.sr r hr).1) atH.sp (by rw [smOut_is]; decide) (by decide) (by decide)).mono ?_))
  rintro v H' ⟨rfl, rfl⟩
  refine G.rd (Rd.eqlST rfl rfl smOut_is) rfl rfl ?_
  repeat' first | refine Y.st ?_ | (refine nw ?_; intro _) | refine Y.kn ?_ | fail
  refine G.ef rfl rfl rfl (Eff.callF rfl ((pright_spec hv smP _ _ atH.rules atH.pins (fun r hr => ⟨(atH.sr r hr).1, (atH.sr r hr).2.1⟩) atH.sp atH.sn (by decide) (by decide)).mono ?_))
  rintro v H' ⟨rfl, rfl⟩
  rw [smRight]
  repeat' first | refine Y.st ?_ | (refine nw ?_; intro _) | refine Y.kn ?_ | fail
  refine GQ.heap (H' := F) ?_ (fun w hw => hw.sub ((((((((((((List.sublist_append_right _ _).trans (List.sublist_cons_self _ _)).trans (List.sublist_append_right _ _)).trans (List.sublist_cons_self _ _)).trans (List.sublist_append_right _ _)).trans (List.sublist_cons_self _ _)).trans (List.sublist_append_right _ _)).trans (List.sublist_cons_self _ _)).trans (List.sublist_append_right _ _)).trans (List.sublist_cons_self _ _)).trans (List.sublist_append_right _ _)).trans (List.sublist_cons_self _ _)))
  exact GQ.done1 rfl rfl ⟨rfl, rfl⟩
end
end Go.Pol

namespace Go.Pol
open Go.Own Go.Proofs Go.RowKit Go.Lib Go.Asc Go.Adr Go.Nam Go.Tri Go.Cid
theorem run_le : ∀ (ls : List Lb) (p : Pol) (k : Nat), (runL p k ls).2.1 ≤ k + ls.length
  | [], _, _ => Nat.zero_le _
  | l :: r, p, k => by
    simp only [runL]
    split
    · have := run_le r (lineW p (wordsL l)).1 (k + 1); simp only [List.length_cons]; omega
    · simp only [List.length_cons]; omega
theorem parse_le (s : Lb) : (parseP s).2.1 ≤ s.length + 1 := by
  have := run_le (splitB 10 s) polZ 0
  rw [splitB_length] at this
  have h2 := List.count_le_length (a := (10 : UInt8)) (l := s)
  unfold parseP
  omega
def preL : Lb := [35, 32, 97, 10, 9, 10]
def postL : Lb := [10, 32, 35, 98]
theorem pre_run (s : Lb) : parseP (preL ++ s) = runL polZ 2 (splitB 10 s) := by
  have e : preL ++ s = [35, 32, 97] ++ 10 :: ([9] ++ 10 :: s) := by simp [preL]
  unfold parseP
  rw [e, splitB_append, splitB_append, run_app_ok _ _ _ _ (by decide +kernel), run_app_ok _ _ _ _ (by decide +kernel)]
  rw [show (runL (runL polZ 0 (splitB 10 [35, 32, 97])).1 (0 + (splitB 10 [35, 32, 97]).length) (splitB 10 [9])).1 = polZ by decide +kernel,
    show (splitB 10 [35, 32, 97]).length = 1 by decide +kernel, show (splitB 10 [9]).length = 1 by decide +kernel]
theorem post_run (s : Lb) : parseP (s ++ postL) = if (parseP s).2.2 = 0 then ((parseP s).1, 0, 0) else parseP s := by
  have e : s ++ postL = s ++ 10 :: [32, 35, 98] := by simp [postL]
  rw [e, parse_app]
  split
  · rw [show splitB 10 [32, 35, 98] = [[32, 35, 98]] by decide +kernel]
    simp only [runL]
    rw [show wordsL [32, 35, 98] = [[35, 98]] by decide +kernel, line_note _ _ _ rfl]
    rfl
  · rfl
theorem lines_bad {s : Lb} (h : (parseP s).2.2 ≠ 0) : parseP (preL ++ s ++ postL) = (polZ, (parseP s).2.1 + 2, (parseP s).2.2) := by
  rw [List.append_assoc, pre_run]
  have h2 : parseP (s ++ postL) = parseP s := by rw [post_run, if_neg h]
  have h0 : (parseP (s ++ postL)).2.2 ≠ 0 := by rw [h2]; exact h
  have h3 := (run_bad (splitB 10 (s ++ postL)) polZ 0 h0).2.2 2
  rw [h3]
  have h4 : runL polZ 0 (splitB 10 (s ++ postL)) = parseP s := h2
  rw [h4]
  simp
theorem lines_ok {s : Lb} (h : (parseP s).2.2 = 0) : parseP (preL ++ s ++ postL) = ((parseP s).1, 0, 0) := by
  rw [List.append_assoc, pre_run]
  have h2 : parseP (s ++ postL) = ((parseP s).1, 0, 0) := by rw [post_run, if_pos h]
  have h4 : runL polZ 0 (splitB 10 (s ++ postL)) = ((parseP s).1, 0, 0) := h2
  rw [run_ok_k _ _ 0 2 (by rw [h4]), h4]
theorem zero_same (s : Lb) : decide ((parseP s).2.2 = 0) = decide ((parseP s).2.1 = 0) := by
  by_cases h : (parseP s).2.2 = 0
  · rw [decide_eq_true h, decide_eq_true (parse_zero h)]
  · have := (parse_bad h).2
    rw [decide_eq_false h, decide_eq_false (by omega)]
/-- The last line tells what is done by default. -/
def defL (a : Bool) : Lb := [10, 32, 100, 101, 102, 97, 117, 108, 116, 32, 32] ++ verbL a ++ [9]
theorem default_law {s : Lb} (a : Bool) (h : (parseP s).2.2 = 0) : parseP (s ++ defL a) = ({ (parseP s).1 with allow := a }, 0, 0) := by
  have e : s ++ defL a = s ++ 10 :: ([32, 100, 101, 102, 97, 117, 108, 116, 32, 32] ++ verbL a ++ [9]) := by simp [defL]
  rw [e, parse_app, if_pos h]
  have e1 : splitB 10 ([32, 100, 101, 102, 97, 117, 108, 116, 32, 32] ++ verbL a ++ [9]) = [[32, 100, 101, 102, 97, 117, 108, 116, 32, 32] ++ verbL a ++ [9]] := by cases a <;> decide +kernel
  have e2 : wordsL ([32, 100, 101, 102, 97, 117, 108, 116, 32, 32] ++ verbL a ++ [9]) = [kDefault, verbL a] := by cases a <;> decide +kernel
  rw [e1]
  simp only [runL, e2]
  have e3 : lineW (parseP s).1 [kDefault, verbL a] = ({ (parseP s).1 with allow := a }, 0) := by
    cases a
    · rfl
    · rfl
  rw [e3]; rfl
end Go.Pol
