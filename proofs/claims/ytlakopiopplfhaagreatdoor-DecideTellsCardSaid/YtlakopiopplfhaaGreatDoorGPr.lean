/-
  ARE TWO TENANTS' FILES THE SAME, ARE THEY FEW: the walks.
  HOW LONG A TENANT'S FILE IS; WHAT Parse ANSWERS, AND WHERE IT LIES.
-/
import Derived.Test.YtlakopiopplfhaaGreatDoorGPq
namespace Go.Pol
open Go.Own Go.Proofs Go.RowKit Go.Lib Go.Asc Go.Adr Go.Nam Go.Tri Go.Cid
attribute [local irreducible] GC GQ G Rd Eff T
set_option maxRecDepth 20000
set_option maxHeartbeats 4000000
attribute [local irreducible] Lit.wf
deriving instance DecidableEq for Pol
theorem PinsAt.imp {W0 : World} {F F' : Heap} {v : Value} {ps : List Pn} (h : PinsAt W0 F v ps) (hp : ∀ φ, RO W0 F φ → RO W0 F' φ) : PinsAt W0 F' v ps := by
  obtain ⟨p, c, h1, h2, h3⟩ := h
  exact ⟨p, c, h1, h2, h3.imp hp⟩
theorem ext_getP {xs ys : List Pn} (hl : xs.length = ys.length) (h : ∀ k, k < xs.length → xs.getD k zeroP = ys.getD k zeroP) : xs = ys := by
  refine List.ext_getElem hl (fun k h1 h2 => ?_)
  have := h k h1
  rwa [List.getD_eq_getElem?_getD, List.getD_eq_getElem?_getD, List.getElem?_eq_getElem h1, List.getElem?_eq_getElem h2] at this
theorem memP {ps : List Pn} {k : Nat} (h : k < ps.length) : ps.getD k zeroP ∈ ps := by rw [List.getD_eq_getElem?_getD, List.getElem?_eq_getElem h]; exact List.getElem_mem h
theorem memP' {ps : List Pn} {x : Pn} (h : x ∈ ps) : ∃ i, i < ps.length ∧ ps.getD i zeroP = x := by
  obtain ⟨i, hi, rfl⟩ := List.mem_iff_getElem.1 h
  exact ⟨i, hi, by rw [List.getD_eq_getElem?_getD, List.getElem?_eq_getElem hi]; rfl⟩
/-- A tenant's file and where it lies. -/
structure PolAt (W0 : World) (F : Heap) (p : Pol) (rv pv : Value) : Prop where
  rules : RulesAt W0 F rv p.rules
  pins : PinsAt W0 F pv p.pins
  sr : ∀ r ∈ p.rules, Small r
  sp : ∀ x ∈ p.pins, SizP x
  sn : ∀ x ∈ p.pins, x.name.length ≤ 2000000
  rl : p.rules.length ≤ 2000000
  pl : p.pins.length ≤ 2000000
theorem PolAt.imp {W0 : World} {F F' : Heap} {p : Pol} {rv pv : Value} (h : PolAt W0 F p rv pv) (hp : ∀ φ, RO W0 F φ → RO W0 F' φ) : PolAt W0 F' p rv pv := ⟨h.rules.imp hp, h.pins.imp hp, h.sr, h.sp, h.sn, h.rl, h.pl⟩
def fewP (p : Pol) : Bool := p.pins.all (fun x => decide (x.name.length ≤ 300)) && (fewL p.rules && decide (p.pins.length ≤ 220))
section
variable {W0 : World} {F : Heap}
theorem psame_spec {p q : Pol} {rv pv rw' qv : Value} (hp : PolAt W0 F p rv pv) (hq : PolAt W0 F q rw' qv) :
    T Tryz.prog W0 15 #[polV p rv pv, polV q rw' qv] F (fun v H' => v = .bool (decide (p = q)) ∧ H' = F) := by
  have hrp := hp.rules; have hrq := hq.rules
  obtain ⟨pa, ca, rfl, hca, hat⟩ := hp.pins
  obtain ⟨pb, cb, rfl, hcb, hbt⟩ := hq.pins
  have hpl := hp.pl; have hql := hq.pl
  have ho1 : rv.oneCell' = true := by obtain ⟨_, _, rfl, _⟩ := hrp; rfl
  have ho2 : rw'.oneCell' = true := by obtain ⟨_, _, rfl, _⟩ := hrq; rfl
  refine T.intro (args := [_, _]) Tryz.func15 rfl Tryz.ntmps15 rfl ?_
  repeat' first | refine Y.st ?_ | (refine nw ?_; intro _) | refine Y.kn ?_ | fail
  rename_i b2 b3
  refine G.rd (Rd.neqB rfl rfl) rfl rfl ?_
  by_cases ha : p.allow = q.allow
  case neg =>
    have hne : ¬ p = q := fun h => ha (by rw [h])
    rw [show (!(p.allow == q.allow)) = true by simp [ha]]
    repeat' first | refine Y.st ?_ | (refine nw ?_; intro _) | refine Y.kn ?_ | fail
    exact GQ.pure1 rfl (.tmp rfl) (by rw [decide_eq_false hne])
  rw [show (!(p.allow == q.allow)) = false by simp [ha]]
  repeat' first | refine Y.st ?_ | (refine nw ?_; intro _) | refine Y.kn ?_ | fail
  refine G.ef rfl rfl rfl (Eff.callF rfl ((same_spec rv rw' p.rules q.rules (hrp.imp (fun _ hφ => (hφ.cons _).cons _)) (hrq.imp (fun _ hφ => (hφ.cons _).cons _)) hp.sr hq.sr hp.rl).mono ?_))
  rintro v H' ⟨rfl, rfl⟩
  by_cases hru : p.rules = q.rules
  case neg =>
    have hne : ¬ p = q := fun h => hru (by rw [h])
    rw [decide_eq_false hru]
    repeat' first | refine Y.st ?_ | (refine nw ?_; intro _) | refine Y.kn ?_ | fail
    exact GQ.pure1 rfl (.tmp rfl) (by rw [decide_eq_false hne])
  rw [decide_eq_true hru]
  by_cases hln : p.pins.length = q.pins.length
  case neg =>
    have hne : ¬ p = q := fun h => hln (by rw [h])
    repeat' first | refine Y.st ?_ | (refine nw ?_; intro _) | refine Y.kn ?_ | fail
    exact GQ.pure1 rfl (.tmp rfl) (by rw [decide_eq_false hne])
  repeat' first | refine Y.st ?_ | (refine nw ?_; intro _) | refine Y.kn ?_ | fail
  refine GC.loopE (ι := { k : Nat // k ≤ p.pins.length ∧ ∀ m, m < k → p.pins.getD m zeroP = q.pins.getD m zeroP }) (fun i => [(5, .int .i64 (i.1 : Int))]) [(2, _), (3, _)] (fun _ => (b3, .cells #[.bool q.allow, rw', .slice pb q.pins.length cb] 25 (0, 0)) :: (b2, .cells #[.bool p.allow, rv, .slice pa p.pins.length ca] 25 (0, 0)) :: F) (fun i => p.pins.length - i.1) ⟨0, Nat.zero_le _, fun m h => by omega⟩ ⟨rfl, rfl, rfl, trivial⟩ (fun w hw => hw.perm (by exact permC)) ?_
  rintro ⟨k, hk, hall⟩
  dsimp only [List.cons_append, List.nil_append] at hk hall ⊢
  by_cases hlt : k < p.pins.length
  · obtain ⟨b, o, rfl, hc1⟩ := pins_get hp.sp ((hat.cons (b2, .cells #[.bool p.allow, rv, .slice pa p.pins.length ca] 25 (0, 0))).cons (b3, .cells #[.bool q.allow, rw', .slice pb q.pins.length cb] 25 (0, 0))) hlt
    obtain ⟨b', o', rfl, hc2⟩ := pins_get hq.sp ((hbt.cons (b2, .cells #[.bool p.allow, rv, .slice (some ⟨b, o, none⟩) p.pins.length ca] 25 (0, 0))).cons (b3, .cells #[.bool q.allow, rw', .slice pb q.pins.length cb] 25 (0, 0))) (k := k) (by omega)
    have h1 := hc1 k hlt
    have h2 := hc2 k (by omega)
    have s1 := hp.sp _ (memP hlt)
    have s2 := hq.sp _ (memP (ps := q.pins) (k := k) (by omega))
    have l1 := pnC_len s1.1.1
    have l2 := pnC_len s2.1.1
    repeat' first | refine Y.st ?_ | (refine nw ?_; intro _) | refine Y.kn ?_ | fail
    refine GC.drawnH [(0, .read), (1, .read), (2, .read), (3, .read), (4, .read), (5, .read), (6, .read), (7, .read), (8, .read), (9, .read), (10, .read)] (by kernel_rfl) (by kernel_rfl) rfl ?_
    repeat' first | refine Y.st ?_ | (refine nw ?_; intro _) | refine Y.kn ?_ | fail
    refine G.rd (Rd.loadAggC rfl h1 l1) rfl rfl ?_
    repeat' first | refine Y.st ?_ | (refine nw ?_; intro _) | refine Y.kn ?_ | fail
    refine G.rd (Rd.loadAggC rfl h2 l2) rfl rfl ?_
    repeat' first | refine Y.st ?_ | (refine nw ?_; intro _) | refine Y.kn ?_ | fail
    refine G.rd (Rd.neqPn _ _ rfl rfl s1 s2) rfl rfl ?_
    by_cases he : p.pins.getD k zeroP = q.pins.getD k zeroP
    · rw [decide_eq_true he]
      repeat' first | refine Y.st ?_ | (refine nw ?_; intro _) | refine Y.kn ?_ | fail
      exact GQ.back ⟨k + 1, by omega, fun m hm => by
        rcases Nat.lt_or_ge m k with h | h
        · exact hall m h
        · obtain rfl : m = k := by omega
          exact he⟩ (by simp only; omega) ⟨rfl, rfl, rfl, trivial⟩ (fun _ h => h)
    · have hne : ¬ p = q := fun h => he (by rw [h])
      rw [decide_eq_false he]
      repeat' first | refine Y.st ?_ | (refine nw ?_; intro _) | refine Y.kn ?_ | fail
      exact GQ.pure1 rfl (.tmp rfl) (by rw [decide_eq_false hne])
  · obtain rfl : k = p.pins.length := by omega
    have heq : p = q := by
      have := ext_getP hln hall
      obtain ⟨a1, r1, p1⟩ := p
      obtain ⟨a2, r2, p2⟩ := q
      simp only at ha hru this
      rw [ha, hru, this]
    repeat' first | refine Y.st ?_ | (refine nw ?_; intro _) | refine Y.kn ?_ | fail
    exact GQ.pure1 rfl (.tmp rfl) (by rw [decide_eq_true heq])
theorem pfew_spec {p : Pol} {rv pv : Value} (hr : RulesAt W0 F rv p.rules) (hp : PinsAt W0 F pv p.pins) (sp : ∀ x ∈ p.pins, SizP x) (hl : p.rules.length ≤ 140737488351232) (hl2 : p.pins.length ≤ 140737488351232) :
    T Tryz.prog W0 19 #[polV p rv pv] F (fun v H' => v = .bool (fewP p) ∧ H' = F) := by
  obtain ⟨pb, cb, rfl, hcb, hbt⟩ := hp
  refine T.intro (args := [_]) Tryz.func19 rfl Tryz.ntmps19 rfl ?_
  repeat' first | refine Y.st ?_ | (refine nw ?_; intro _) | refine Y.kn ?_ | fail
  rename_i b1
  refine GC.loopE (ι := { k : Nat // k ≤ p.pins.length ∧ ∀ m, m < k → (p.pins.getD m zeroP).name.length ≤ 300 }) (fun i => [(3, .int .i64 (i.1 : Int))]) [(1, _)] (fun _ => (b1, .cells #[.bool p.allow, rv, .slice pb p.pins.length cb] 25 (0, 0)) :: F) (fun i => p.pins.length - i.1) ⟨0, Nat.zero_le _, fun m h => by omega⟩ ⟨rfl, rfl, trivial⟩ (fun _ h => h) ?_
  rintro ⟨k, hk, hall⟩
  dsimp only [List.cons_append, List.nil_append] at hk hall ⊢
  by_cases hlt : k < p.pins.length
  · obtain ⟨b, o, rfl, hc1⟩ := pins_get sp (hbt.cons (b1, .cells #[.bool p.allow, rv, .slice pb p.pins.length cb] 25 (0, 0))) hlt
    have h0 : ∀ w, Own W0 ((b1, .cells #[.bool p.allow, rv, .slice (some ⟨b, o, none⟩) p.pins.length cb] 25 (0, 0)) :: F) w → w.cell? ⟨b, o + k * 19 + 0, none⟩ = some (S (p.pins.getD k zeroP).name) := fun w hw => hc1 k hlt w hw 0 _ rfl
    by_cases hs : (p.pins.getD k zeroP).name.length ≤ 300
    · repeat' first | refine Y.st ?_ | (refine nw ?_; intro _) | refine Y.kn ?_ | fail
      exact GQ.back ⟨k + 1, by omega, fun m hm => by
        rcases Nat.lt_or_ge m k with h | h
        · exact hall m h
        · obtain rfl : m = k := by omega
          exact hs⟩ (by simp only; omega) ⟨rfl, rfl, trivial⟩ (fun _ h => h)
    · have hf : fewP p = false := by
        unfold fewP
        rw [List.all_eq_false.2 ⟨_, memP hlt, by simp only [decide_eq_true_eq]; exact hs⟩]; rfl
      repeat' first | refine Y.st ?_ | (refine nw ?_; intro _) | refine Y.kn ?_ | fail
      exact GQ.pure1 rfl (.tmp rfl) (by rw [hf])
  · obtain rfl : k = p.pins.length := by omega
    have hf : fewP p = (fewL p.rules && decide (p.pins.length ≤ 220)) := by
      unfold fewP
      rw [List.all_eq_true.2 (fun r hr => by obtain ⟨i, hi, rfl⟩ := memP' hr; simp only [decide_eq_true_eq]; exact hall i hi)]; simp
    repeat' first | refine Y.st ?_ | (refine nw ?_; intro _) | refine Y.kn ?_ | fail
    refine G.ef rfl rfl rfl (Eff.callF rfl ((few_spec rv p.rules (hr.imp (fun _ hφ => hφ.cons _)) hl).mono ?_))
    rintro v H' ⟨rfl, rfl⟩
    cases hfl : fewL p.rules with
    | false =>
      repeat' first | refine Y.st ?_ | (refine nw ?_; intro _) | refine Y.kn ?_ | fail
      exact GQ.pure1 rfl (.tmp rfl) (by rw [hf, hfl]; rfl)
    | true =>
      repeat' first | refine Y.st ?_ | (refine nw ?_; intro _) | refine Y.kn ?_ | fail
      exact GQ.pure1 rfl (.tmp rfl) (by rw [hf, hfl]; simp; omega)
end
end Go.Pol

namespace Go.Pol
open Go.Own Go.Proofs Go.RowKit Go.Lib Go.Asc Go.Adr Go.Nam Go.Tri Go.Cid
attribute [local irreducible] GC GQ G Rd Eff T
set_option maxRecDepth 20000
set_option maxHeartbeats 4000000
theorem rulesErr_len : ∀ {l rs : List Ru}, rulesErr rs l = 0 → rs.length ≤ 200 → rs.length + l.length ≤ 200
  | [], rs, _, h => by simpa using h
  | x :: l, rs, h, hl => by
    simp only [rulesErr] at h
    split at h
    · rename_i h0
      have hne : rs.length ≠ 200 := by
        intro h2
        unfold addL at h0
        split at h0
        · rename_i h3; exact h3 h0
        · first | (rw [if_pos h2] at h0; cases h0) | cases h0
      have := rulesErr_len h (by rw [List.length_append]; simp only [List.length_cons, List.length_nil]; omega)
      rw [List.length_append] at this
      simp only [List.length_cons, List.length_nil] at this ⊢; omega
    · rename_i h0; exact absurd h h0
end Go.Pol
