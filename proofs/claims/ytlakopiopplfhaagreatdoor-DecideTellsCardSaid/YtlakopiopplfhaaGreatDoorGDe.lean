/-
  PLAIN LAWS: who may pass: no program in sight.
  PLAIN LAWS: who may pass: what counts elsewhere turned.
  WHO MAY PASS: decide.New, Policy, refusal, Decide.
  WHO MAY PASS: refusal, Decide.
-/
import Derived.Test.YtlakopiopplfhaaGreatDoorGPm
import Derived.Test.YtlakopiopplfhaaGreatDoorGPn
import Derived.Test.YtlakopiopplfhaaGreatDoorGTc
import Derived.Test.YtlakopiopplfhaaGreatDoorGPr
namespace Go.Dec
open Go.Lib Go.Asc Go.Adr Go.Nam Go.Tri Go.Cid Go.Pol Go.Pin Go.Own

/-- What was decided. -/
structure Dc where
  allow : Bool
  why : Int
  rule : Int
instance : DecidableEq Dc := fun a b => if h : a.allow = b.allow ∧ a.why = b.why ∧ a.rule = b.rule then isTrue (by cases a; cases b; simp only at h; obtain ⟨rfl, rfl, rfl⟩ := h; rfl) else isFalse (fun e => h (by rw [e]; exact ⟨rfl, rfl, rfl⟩))
/-- Why something does not pass, whatever the rules are; -1: it may. -/
def refuseL (p : Pol) (st : Int) (host : Lb) (vport : Int) (addr : List UInt8) (port now : Int) : Int :=
  if st = 0 then 5 else if st ≠ 1 then 4 else if vport ≠ 0 ∧ vport ≠ port then 3 else if checkT (addAllT p.pins) host addr now = 2 then 2 else -1
def ruleD (p : Pol) : Option Nat → Dc
  | some i => ⟨(p.rules.getD i zeroR).allow, 0, (i : Int)⟩
  | none => ⟨p.allow, 1, -1⟩
def decL (p : Pol) (st : Int) (host : Lb) (vport : Int) (alpn : List Lb) (addr : List UInt8) (port now : Int) : Dc :=
  if refuseL p st host vport addr port now = -1 then ruleD p (findB p.rules host port alpn) else ⟨false, refuseL p st host vport addr port now, -1⟩
section
variable {p : Pol} {st vport port now : Int} {host : Lb} {addr : List UInt8} {alpn : List Lb}
theorem refuse_cases : refuseL p st host vport addr port now = -1 ∨ (1 < refuseL p st host vport addr port now ∧ refuseL p st host vport addr port now ≤ 5) := by
  unfold refuseL
  repeat' split
  all_goals omega
theorem dec_pass (h : refuseL p st host vport addr port now = -1) : decL p st host vport alpn addr port now = ruleD p (findB p.rules host port alpn) := by rw [decL, if_pos h]
theorem dec_stop (h : refuseL p st host vport addr port now ≠ -1) : decL p st host vport alpn addr port now = ⟨false, refuseL p st host vport addr port now, -1⟩ := by rw [decL, if_neg h]
end
section
variable {p : Pol} {st vport port now : Int} {host : Lb} {addr : List UInt8} {alpn : List Lb}
end
/-- By the rules, what they all are. -/
theorem right_rules {p : Pol} (h : rightP p = 0) : rulesErr [] p.rules = 0 := (rightP_iff.1 h).1
theorem rulesErr_fine : ∀ {l rs : List Ru}, rulesErr rs l = 0 → ∀ r ∈ l, patL r.pat = true
  | [], _, _, r, hr => by cases hr
  | x :: l, rs, h, r, hr => by
    simp only [rulesErr] at h
    by_cases h0 : (addL rs x).2 = 0
    · rw [if_pos h0] at h
      rcases List.mem_cons.1 hr with rfl | hr
      · unfold addL at h0
        split at h0
        · rename_i h1; exact absurd h0 h1
        · rename_i h1
          have h1 : rightL r = 0 := Classical.not_not.1 h1
          unfold rightL at h1
          split at h1
          · cases h1
          · split at h1
            · cases h1
            · rename_i h2; simpa using h2
      · exact rulesErr_fine h r hr
    · rw [if_neg h0] at h; exact absurd h h0
theorem right_fine {p : Pol} (h : rightP p = 0) : Fine p.rules := rulesErr_fine (right_rules h)
theorem rulesErr_take {l : List Ru} (h : rulesErr [] l = 0) {k : Nat} (hk : k < l.length) : (addL (l.take k) l[k]).2 = 0 := by
  have key : ∀ (l rs : List Ru) (k : Nat) (hk : k < l.length), rulesErr rs l = 0 → (addL (rs ++ l.take k) l[k]).2 = 0 := by
    intro l
    induction l with
    | nil => intro rs k hk; simp at hk
    | cons x l ih =>
      intro rs k hk h
      simp only [rulesErr] at h
      by_cases h0 : (addL rs x).2 = 0
      · rw [if_pos h0] at h
        cases k with
        | zero => simpa using h0
        | succ k =>
          have := ih (rs ++ [x]) k (by simpa using hk) h
          simpa using this
      · rw [if_neg h0] at h; exact absurd h h0
  have := key l [] k hk h
  simpa using this
end Go.Dec

namespace Go.Dec
open Go.Lib Go.Asc Go.Adr Go.Nam Go.Tri Go.Cid Go.Pol Go.Pin Go.Own
end Go.Dec

namespace Go.Dec
open Go.Own Go.Proofs Go.RowKit Go.Lib Go.Asc Go.Adr Go.Nam Go.Tri Go.Cid Go.Pol Go.Pin
attribute [local irreducible] GC GQ G Rd Eff T
set_option maxRecDepth 20000
set_option maxHeartbeats 4000000
/-- A verdict's parts: its protocols, and versions, are rows in memory. -/
structure Vw where
  st : Int
  pr : Int
  us : Int
  re : Int
  host : Lb
  port : Int
  hn : Bool
  nm : Lb
  al : Value
  vs : Value
  ec : Bool
abbrev vwA (v : Vw) : Array Value := #[.int .i64 v.st, .int .i64 v.pr, .int .i64 v.us, .int .i64 v.re, S v.host, .int .i64 v.port, .bool v.hn, S v.nm, v.al, v.vs, .bool v.ec]
abbrev vwV (v : Vw) : Value := .agg (vwA v)
/-- A destination's cells. -/
abbrev dsC (a : List UInt8) (n : Int) : List Value := u8s a ++ [.int .i64 n]
abbrev dsV (a : List UInt8) (n : Int) : Value := .agg (u8s a ++ [Value.int .i64 n]).toArray
abbrev dcA (d : Dc) : Array Value := #[.bool d.allow, .int .i64 d.why, .int .i64 d.rule]
abbrev dcV (d : Dc) : Value := .agg (dcA d)
theorem dsC_len {a : List UInt8} (h : a.length = 16) (n : Int) : (dsC a n).length = 17 := by simp [u8s_length, h]
section
variable {W0 : World} {H : Heap} {e : Env} {x : Operand}
theorem Rd.dsAddr {b o : Nat} {a : List UInt8} {n : Int} {el : TypeId} {fr : Nat × Nat} (hx : opv e x = some (.pointer (some ⟨b, o, none⟩))) (ho : o = 0) [h : Has H b (.cells (dsC a n).toArray el fr)] (ha : a.length = 16) : Rd Tryz.prog W0 H e (.load 34 x) (.agg (u8s a).toArray) :=
  Rd.cdAddr (c := ⟨a, n⟩) (h := h) hx ho ha
theorem Rd.dsPort {b o : Nat} {a : List UInt8} {n : Int} {el : TypeId} {fr : Nat × Nat} (hx : opv e x = some (.pointer (some ⟨b, o, none⟩))) (ho : o = 16) [h : Has H b (.cells (dsC a n).toArray el fr)] (ha : a.length = 16) : Rd Tryz.prog W0 H e (.load 3 x) (.int .i64 n) :=
  Rd.cdBits (c := ⟨a, n⟩) (h := h) hx ho ha
end
def SizD (d : Dc) : Prop := (Lit.int .i64 d.why).wf = true ∧ (Lit.int .i64 d.rule).wf = true
theorem dcV_inj (a b : Dc) (h : dcV a = dcV b) : a = b := by
  have h2 := congrArg Array.toList (Value.agg.inj h)
  obtain ⟨a1, a2, a3⟩ := a
  obtain ⟨b1, b2, b3⟩ := b
  simp only [List.cons.injEq, Value.bool.injEq, Value.int.injEq, true_and, and_true] at h2
  obtain ⟨e1, e2, e3⟩ := h2
  rw [e1, e2, e3]
theorem dc_key (d : Dc) (h : SizD d) : isK Tryz.prog 54 (dcV d) := by
  obtain ⟨h1, h2⟩ := h
  have hk : Tryz.prog.keyType 54 = true := by kernel_rfl
  have hc : Tryz.prog.cellsOf 54 = 3 := by kernel_rfl
  have c1 : Tryz.prog.cellsOf 4 = 1 := by kernel_rfl
  have c2 : Tryz.prog.cellsOf 3 = 1 := by kernel_rfl
  obtain ⟨n, hd⟩ : ∃ n, Tryz.prog.types.size = n + 1 := ⟨Tryz.prog.types.size - 1, by kernel_rfl⟩
  unfold isK keyOf
  rw [Tryz.underlying54]
  simp only [hk, Value.formed, Tryz.underlying54, hc, hd]
  simp [Program.keyLits, Tryz.underlying54, Tryz.underlying4, Tryz.underlying3, hc, c1, c2, h1, h2, Value.cells]
theorem dec_siz {p : Pol} {st vport port now : Int} {host : Lb} {addr : List UInt8} {alpn : List Lb} (hR : rightP p = 0) : SizD (decL p st host vport alpn addr port now) := by
  have hl : p.rules.length ≤ 200 := by have := rulesErr_len (right_rules hR) (by simp); simpa using this
  unfold decL
  split
  · cases h : findB p.rules host port alpn with
    | none => exact ⟨wf_small (by show (-9223372036854775808 : Int) ≤ 1; omega) (by show (1 : Int) ≤ 9223372036854775807; omega), wf_small (by show (-9223372036854775808 : Int) ≤ -1; omega) (by show (-1 : Int) ≤ 9223372036854775807; omega)⟩
    | some i =>
      have hi := (find_lt (right_fine hR) h).1
      exact ⟨wf_small (by show (-9223372036854775808 : Int) ≤ 0; omega) (by show (0 : Int) ≤ 9223372036854775807; omega), wf_small (by show (-9223372036854775808 : Int) ≤ (i : Int); omega) (by show (i : Int) ≤ 9223372036854775807; omega)⟩
  · have := refuse_cases (p := p) (st := st) (host := host) (vport := vport) (addr := addr) (port := port) (now := now)
    exact ⟨wf_small (by show (-9223372036854775808 : Int) ≤ refuseL p st host vport addr port now; omega) (by show refuseL p st host vport addr port now ≤ 9223372036854775807; omega), wf_small (by show (-9223372036854775808 : Int) ≤ -1; omega) (by show (-1 : Int) ≤ 9223372036854775807; omega)⟩
section
variable {W0 : World} {H : Heap} {e : Env} {x y : Operand}
theorem run_sameD (a b : Dc) (ha : SizD a) (hb : SizD b) (w : World) : (Op.equal 54 (dcV a) (dcV b)).run Tryz.prog w = .ok (decide (a = b)) w := by
  obtain ⟨la, hla⟩ := dc_key a ha
  obtain ⟨lb, hlb⟩ := dc_key b hb
  obtain ⟨r, hr, hiff⟩ := run_equal_deep (P := Tryz.prog) w (m := 3) (by omega) (k := 54) (by kernel_rfl) (by kernel_rfl) hla hlb
  rw [hr]
  congr 1
  rw [Bool.eq_iff_iff, hiff, decide_eq_true_eq]
  constructor
  · rintro rfl
    have K := Maps.Keyed.of_law (deep_law_laid (P := Tryz.prog) (by kernel_rfl) (m := 3) (by omega) (k := 54) (of_decide_eq_true (by kernel_rfl)) (by kernel_rfl) (by kernel_rfl))
    exact dcV_inj _ _ (K.inj hla hlb)
  · rintro rfl
    rw [hla] at hlb; exact Option.some.inj hlb
theorem Rd.eqlDc (a b : Dc) (hx : opv e x = some (dcV a)) (hy : opv e y = some (dcV b)) (ha : SizD a) (hb : SizD b) {t' : TypeId} : Rd Tryz.prog W0 H e (.binOp .eql 54 x y t') (.bool (decide (a = b))) := by
    delta Rd
    intro ρ hρ w _ op ho
    have hg : Tryz.prog.eqGuardType Tryz.prog.depth 54 = false := by kernel_rfl
    have h : (binOp .eql 54 (dcV a) (dcV b)).run Tryz.prog w = .ok (.bool (decide (a = b))) w := by
      simp only [binOp]; simp [run_sameD a b ha hb w]
    simp [execOp, ho, hρ x _ hx, hρ y _ hy, eqGuard, hg, h]
end
/-- A policy of which all is right, and no longer than may be. -/
structure PolOk (p : Pol) : Prop where
  right : rightP p = 0
  sr : ∀ r ∈ p.rules, Sized r
  sp : ∀ x ∈ p.pins, SizP x
/-- A judge, among what is owned. -/
def JudQ (p : Pol) (bj : Nat) (H : Heap) : Prop := ∃ bt bn lv TH NH B, H = (bj, .cells #[.pointer (some ⟨bt, 0, none⟩), .pointer (some ⟨bn, 0, none⟩), .bool p.allow, lv] 100 (0, 0)) :: (TH ++ (NH ++ B)) ∧
  TrieQ p.rules bt TH ∧ TabQ (addAllT p.pins) bn NH ∧ Buf 52 19 lv p.pins.length (p.pins.flatMap pnC) B ∧ PolOk p
theorem PolOk.plen {p : Pol} (h : PolOk p) : p.pins.length ≤ 200 := (rightP_iff.1 h.right).2.1
section
variable {W0 : World} {F : Heap}
attribute [local irreducible] normalL rightC ofL Lit.wf pinErr okP addC addT addAllT checkT rightP addL findB
theorem clonep_spec {l : List Pn} {v : Value} (hp : PinsAt W0 F v l) (sp : ∀ x ∈ l, SizP x) (hl : l.length ≤ 2000000) :
    T Tryz.prog W0 48 #[v] F (fun u H' => ∃ B, Buf 52 19 u l.length (l.flatMap pnC) B ∧ H' = B ++ F) := by
  obtain ⟨p, c, rfl, hc, hat⟩ := hp
  have h19 : ∀ x ∈ l, (pnC x).length = 19 := fun x hx => pnC_len (sp x hx).1.1
  have hfl : (l.flatMap pnC).length = l.length * 19 := by
    clear hat hc hl
    induction l with
    | nil => rfl
    | cons x l ih =>
      have h1 := h19 x (by simp)
      have h2 := ih (fun y hy => sp y (by simp [hy])) (fun y hy => h19 y (by simp [hy]))
      rw [List.flatMap_cons, List.length_append, h1, h2, List.length_cons]; omega
  have hone : ∀ u ∈ l.flatMap pnC, u.oneCell' = true := by
    intro u hu
    obtain ⟨x, hx, hu⟩ := List.mem_flatMap.1 hu
    exact pnC_one x u hu
  refine T.intro (args := [_]) Tryz.func48 rfl Tryz.ntmps48 rfl ?_
  cases p with
  | none =>
    have h0 : l = [] := by
      rcases hat with h | ⟨b, o, h, _⟩
      · cases l with
        | nil => rfl
        | cons x l => simp at h
      · cases h
    subst h0
    repeat' first | refine Y.st ?_ | (refine nw ?_; intro _) | refine Y.kn ?_ | fail
    exact GQ.done1 rfl rfl ⟨[], .nil, rfl⟩
  | some a =>
    repeat' first | refine Y.st ?_ | (refine nw ?_; intro _) | refine Y.kn ?_ | fail
    refine G.ef rfl rfl rfl (Eff.buildSlice (cells := #[]) rfl (by kernel_rfl) (by omega) (fun b2 => ?_))
    repeat' first | refine Y.st ?_ | (refine nw ?_; intro _) | refine Y.kn ?_ | fail
    refine G.ef rfl rfl rfl (Eff.app (ys := l.flatMap pnC) (hB := Buf.row b2 0 0 [] [] rfl rfl (Nat.le_refl _) (by omega)) rfl rfl (F := F) (hH := ⟨.refl _⟩) (by omega) hfl (fun w hw => (hat.cons _).ro.here hw) hone (by omega) (by omega) (fun v' B' hB' => ?_))
    repeat' first | refine Y.st ?_ | (refine nw ?_; intro _) | refine Y.kn ?_ | fail
    exact GQ.done1 rfl rfl ⟨B', by simpa using hB', rfl⟩
theorem dnew_spec (hv : Vars W0) {p : Pol} {rv pv : Value} (hp : PolAt W0 F p rv pv) : T Tryz.prog W0 12 #[polV p rv pv] F
    (fun v H' => (rightP p ≠ 0 ∧ v = .tuple #[.pointer none, .int .i64 (rightP p)] ∧ H' = F) ∨ (rightP p = 0 ∧ ∃ bj JH, v = .tuple #[.pointer (some ⟨bj, 0, none⟩), .int .i64 0] ∧ JudQ p bj JH ∧ H' = JH ++ F)) := by
  have hP := hp
  obtain ⟨hr, hpn, sr, sp, sn, rl, pl⟩ := hp
  have hr' := hr
  have hpn' := hpn
  obtain ⟨pa, ca, rfl, hca, hat⟩ := hr'
  obtain ⟨pb, cb, rfl, hcb, hbt⟩ := hpn'
  refine T.intro (args := [_]) Tryz.func12 rfl Tryz.ntmps12 rfl ?_
  repeat' first | refine Y.st ?_ | (refine nw ?_; intro _) | refine Y.kn ?_ | fail
  rename_i b1
  refine G.ef rfl rfl rfl (Eff.callF rfl ((pright_spec2 hv p _ _ (hr.imp (fun _ hφ => hφ.cons _)) (hpn.imp (fun _ hφ => hφ.cons _)) (fun r h => ⟨(sr r h).1, by have := (sr r h).2.1; omega⟩) sp (fun x h => by have := sn x h; omega) (by omega) (by omega)).mono ?_))
  rintro v H' ⟨rfl, rfl⟩
  by_cases h0 : rightP p = 0
  case neg =>
    repeat' first | refine Y.st ?_ | (refine nw ?_; intro _) | refine Y.kn ?_ | fail
    refine GQ.heap (H' := F) ?_ (fun w hw => hw.sub (List.sublist_cons_self _ _))
    exact GQ.done2 rfl rfl rfl (.inl ⟨h0, rfl, rfl⟩)
  repeat' first | refine Y.st ?_ | (refine nw ?_; intro _) | refine Y.kn ?_ | fail
  refine GC.drawn [(1, .read), (2, .read), (4, .read), (5, .read), (6, .read), (7, .read), (0, .eff), (3, .eff), (8, .eff), (9, .read), (10, .tail), (11, .tail)] ([(b1, .cells #[.bool p.allow, .slice pa p.rules.length ca, .slice pb p.pins.length cb] 25 (0, 0))]) (by kernel_rfl) (by kernel_rfl) rfl ?_
  iterate 6 refine Y.one ?_
  refine G.ee rfl rfl rfl (Eff.callF rfl (new_spec.mono ?_))
  rintro v H' ⟨bt, TH0, rfl, hT0, rfl⟩
  refine ⟨inferInstance, ?_⟩
  refine G.ee rfl rfl rfl (Eff.callF rfl ((pnew_spec hv ((hpn.imp (fun _ hφ => hφ.cons (b1, .cells #[.bool p.allow, .slice pa p.rules.length ca, .slice pb p.pins.length cb] 25 (0, 0)))).imp (fun _ hφ => hφ.app TH0)) sp (fun x h => by have := sn x h; omega) (by omega)).mono ?_))
  rintro v H' ⟨bn, NH, rfl, hN, rfl⟩
  refine ⟨inferInstance, ?_⟩
  refine G.ee rfl rfl rfl (Eff.callF rfl ((clonep_spec (((hpn.imp (fun _ hφ => hφ.cons (b1, .cells #[.bool p.allow, .slice pa p.rules.length ca, .slice pb p.pins.length cb] 25 (0, 0)))).imp (fun _ hφ => hφ.app TH0)).imp (fun _ hφ => hφ.app NH)) sp (by omega)).mono ?_))
  rintro v H' ⟨B, hB, rfl⟩
  refine ⟨inferInstance, ?_⟩
  have hv1 : v.oneCell' = true := by obtain ⟨q, cq, rfl, _⟩ := Go.Tri.Buf.see hB; rfl
  refine G.rd (Rd.build (cells := #[.pointer (some ⟨bt, 0, none⟩), .pointer (some ⟨bn, 0, none⟩), .bool p.allow, v]) rfl (by obtain ⟨q, cq, rfl, _⟩ := Go.Tri.Buf.see hB; rfl)) rfl rfl ?_
  refine G.ef rfl rfl rfl (Eff.boxA rfl (fun bj => ?_))
  repeat' first | refine Y.st ?_ | (refine nw ?_; intro _) | refine Y.kn ?_ | fail
  have hpok : PolOk p := ⟨h0, fun r h => (sr r h).1, sp⟩
  have hfine := right_rules h0
  refine GC.loopE (ι := { q : Nat × Heap // q.1 ≤ p.rules.length ∧ TrieQ (p.rules.take q.1) bt q.2 }) (fun i => [(27, .int .i64 (i.1.1 : Int))]) [(5, _), (25, _), (26, _)]
    (fun q => (bj, .cells #[.pointer (some ⟨bt, 0, none⟩), .pointer (some ⟨bn, 0, none⟩), .bool p.allow, v] 100 (0, 0)) :: (B ++ (NH ++ (q.1.2 ++ ((b1, .cells #[.bool p.allow, .slice pa p.rules.length ca, .slice pb p.pins.length cb] 25 (0, 0)) :: F))))) (fun q => p.rules.length - q.1.1) ⟨(0, TH0), Nat.zero_le _, hT0⟩ ⟨rfl, rfl, rfl, rfl, trivial⟩ (fun _ h => h) ?_
  rintro ⟨⟨k, TH⟩, hk, hT⟩
  dsimp only [List.cons_append, List.nil_append] at hk hT ⊢
  by_cases hlt : k < p.rules.length
  · obtain ⟨b, o, rfl, hc1⟩ := lies_get (((((hat.cons (b1, .cells #[.bool p.allow, .slice pa p.rules.length ca, .slice pb p.pins.length cb] 25 (0, 0))).app TH).app NH).app B).cons (bj, .cells #[.pointer (some ⟨bt, 0, none⟩), .pointer (some ⟨bn, 0, none⟩), .bool p.allow, v] 100 (0, 0))) hlt
    have h1 := hc1 k hlt
    have hS := sr _ (getD_mem hlt)
    have htk := take_getD p.rules zeroR hlt
    have herr := rulesErr_take hfine hlt
    rw [show p.rules[k] = p.rules.getD k zeroR by rw [List.getD_eq_getElem?_getD, List.getElem?_eq_getElem hlt]; rfl] at herr
    generalize hrk : p.rules.getD k zeroR = r at h1 hS htk herr
    repeat' first | refine Y.st ?_ | (refine nw ?_; intro _) | refine Y.kn ?_ | fail
    rename_i b5
    refine GC.drawn [(0, .read), (1, .read), (2, .read), (3, .read), (4, .read), (5, .tail)] ([(b5, .cells (ruA r) 48 (0, 0)), (bj, .cells #[.pointer (some ⟨bt, 0, none⟩), .pointer (some ⟨bn, 0, none⟩), .bool p.allow, v] 100 (0, 0))]) (by kernel_rfl) (by kernel_rfl) rfl ?_
    repeat' first | refine Y.st ?_ | (refine nw ?_; intro _) | refine Y.kn ?_ | fail
    refine G.ef rfl rfl rfl (Eff.callP (first := #[]) (captured := #[]) rfl rfl (H' := TH ++ ((b5, .cells (ruC r).toArray 48 (0, 0)) :: (bj, .cells #[.pointer (some ⟨bt, 0, none⟩), .pointer (some ⟨bn, 0, none⟩), .bool p.allow, v] 100 (0, 0)) :: (B ++ (NH ++ ((b1, .cells #[.bool p.allow, .slice (some ⟨b, o, none⟩) p.rules.length ca, .slice pb p.pins.length cb] 25 (0, 0)) :: F))))) (by exact permC) ((add_spec hv hT r hS.1 (by have := hS.2.1; omega)).mono ?_))
    rintro v9 H' ⟨rfl, TH', hT', hp'⟩
    refine G.heap ?_ (fun w hw => hw.perm (hp'.trans (show (TH' ++ ((b5, .cells (ruC r).toArray 48 (0, 0)) :: (bj, .cells #[.pointer (some ⟨bt, 0, none⟩), .pointer (some ⟨bn, 0, none⟩), .bool p.allow, v] 100 (0, 0)) :: (B ++ (NH ++ ((b1, .cells #[.bool p.allow, .slice (some ⟨b, o, none⟩) p.rules.length ca, .slice pb p.pins.length cb] 25 (0, 0)) :: F))))).Perm ((b5, .cells (ruC r).toArray 48 (0, 0)) :: ((bj, .cells #[.pointer (some ⟨bt, 0, none⟩), .pointer (some ⟨bn, 0, none⟩), .bool p.allow, v] 100 (0, 0)) :: (B ++ (NH ++ (TH' ++ ((b1, .cells #[.bool p.allow, .slice (some ⟨b, o, none⟩) p.rules.length ca, .slice pb p.pins.length cb] 25 (0, 0)) :: F)))))) by exact permC)))
    rw [add_ok herr, ← htk] at hT'
    repeat' first | refine Y.st ?_ | (refine nw ?_; intro _) | refine Y.kn ?_ | fail
    exact GQ.back ⟨(k + 1, TH'), by omega, hT'⟩ (by simp only; omega) ⟨rfl, rfl, rfl, rfl, trivial⟩ (fun w hw => hw.sub (List.sublist_cons_self _ _))
  obtain rfl : k = p.rules.length := by omega
  rw [List.take_length] at hT
  repeat' first | refine Y.st ?_ | (refine nw ?_; intro _) | refine Y.kn ?_ | fail
  refine GQ.heap (H' := ((bj, .cells #[.pointer (some ⟨bt, 0, none⟩), .pointer (some ⟨bn, 0, none⟩), .bool p.allow, v] 100 (0, 0)) :: (TH ++ (NH ++ B))) ++ F) ?_ (fun w hw => (hw.perm (show ((bj, .cells #[.pointer (some ⟨bt, 0, none⟩), .pointer (some ⟨bn, 0, none⟩), .bool p.allow, v] 100 (0, 0)) :: (B ++ (NH ++ (TH ++ ((b1, .cells #[.bool p.allow, .slice pa p.rules.length ca, .slice pb p.pins.length cb] 25 (0, 0)) :: F))))).Perm ((b1, .cells #[.bool p.allow, .slice pa p.rules.length ca, .slice pb p.pins.length cb] 25 (0, 0)) :: (((bj, .cells #[.pointer (some ⟨bt, 0, none⟩), .pointer (some ⟨bn, 0, none⟩), .bool p.allow, v] 100 (0, 0)) :: (TH ++ (NH ++ B))) ++ F)) by exact permC)).sub (List.sublist_cons_self _ _))
  exact GQ.done2 rfl rfl rfl (.inr ⟨h0, bj, _, rfl, ⟨bt, bn, v, TH, NH, B, rfl, hT, hN, hB, hpok⟩, rfl⟩)
theorem dpolicy_spec {p : Pol} {bj : Nat} {JH : Heap} (h : JudQ p bj JH) : T Tryz.prog W0 14 #[.pointer (some ⟨bj, 0, none⟩)] (JH ++ F)
    (fun v H' => ∃ rv pv Br Bp, v = polV p rv pv ∧ Buf 48 5 rv p.rules.length (p.rules.flatMap ruC) Br ∧ Buf 52 19 pv p.pins.length (p.pins.flatMap pnC) Bp ∧ H' = Bp ++ (Br ++ (JH ++ F))) := by
  have h' := h
  obtain ⟨bt, bn, lv, TH, NH, B, rfl, hT, hN, hB, hok⟩ := h
  obtain ⟨pl, cl, rfl, hcl, hl1⟩ := Go.Tri.Buf.see hB
  have hpl := hok.plen
  simp only [List.cons_append]
  refine T.intro (args := [_]) Tryz.func14 rfl Tryz.ntmps14 rfl ?_
  repeat' first | refine Y.st ?_ | (refine nw ?_; intro _) | refine Y.kn ?_ | fail
  rename_i b2
  refine GC.drawn [(0, .read), (1, .read), (2, .read), (3, .read), (4, .read), (5, .read), (6, .read), (7, .read), (9, .read), (10, .read), (11, .read), (12, .read), (8, .eff), (13, .eff), (14, .read), (15, .tail)] ([(bj, .cells #[.pointer (some ⟨bt, 0, none⟩), .pointer (some ⟨bn, 0, none⟩), .bool p.allow, .slice pl p.pins.length cl] 100 (0, 0))]) (by kernel_rfl) (by kernel_rfl) rfl ?_
  iterate 12 refine Y.one ?_
  refine G.ee rfl rfl rfl (Eff.callP (first := #[]) (captured := #[]) rfl rfl (H' := TH ++ ((b2, .cells #[.bool false, .slice none 0 0, .slice none 0 0] 25 (0, 0)) :: (bj, .cells #[.pointer (some ⟨bt, 0, none⟩), .pointer (some ⟨bn, 0, none⟩), .bool p.allow, .slice pl p.pins.length cl] 100 (0, 0)) :: (NH ++ (B ++ F)))) (by exact permC) ((ruless_spec hT).mono ?_))
  rintro rv H' ⟨Br, hBr, rfl⟩
  obtain ⟨pr, cr, rfl, hcr, hlr⟩ := Go.Tri.Buf.see hBr
  refine ⟨SubH.app (h := SubH.app (h := inferInstance)), ?_⟩
  refine G.ee rfl rfl rfl (Eff.callF rfl ((clonep_spec (l := p.pins) (F := Br ++ (TH ++ ((b2, .cells #[.bool false, .slice none 0 0, .slice none 0 0] 25 (0, 0)) :: (bj, .cells #[.pointer (some ⟨bt, 0, none⟩), .pointer (some ⟨bn, 0, none⟩), .bool p.allow, .slice pl p.pins.length cl] 100 (0, 0)) :: (NH ++ (B ++ F))))) ⟨pl, cl, rfl, hcl, ((hl1 W0).app (Br ++ (TH ++ ((b2, .cells #[.bool false, .slice none 0 0, .slice none 0 0] 25 (0, 0)) :: (bj, .cells #[.pointer (some ⟨bt, 0, none⟩), .pointer (some ⟨bn, 0, none⟩), .bool p.allow, .slice pl p.pins.length cl] 100 (0, 0)) :: (NH ++ F))))).perm (by exact permC)⟩ hok.sp (by omega)).mono ?_))
  rintro pv H' ⟨Bp, hBp, rfl⟩
  obtain ⟨pq, cq, rfl, hcq, hlq⟩ := Go.Tri.Buf.see hBp
  refine ⟨SubH.app (h := SubH.app (h := SubH.app (h := inferInstance))), ?_⟩
  haveI : SubH [(bj, .cells #[.pointer (some ⟨bt, 0, none⟩), .pointer (some ⟨bn, 0, none⟩), .bool p.allow, .slice pl p.pins.length cl] 100 (0, 0))] (Bp ++ (Br ++ (TH ++ ((b2, .cells #[.bool false, .slice none 0 0, .slice none 0 0] 25 (0, 0)) :: (bj, .cells #[.pointer (some ⟨bt, 0, none⟩), .pointer (some ⟨bn, 0, none⟩), .bool p.allow, .slice pl p.pins.length cl] 100 (0, 0)) :: (NH ++ (B ++ F)))))) := SubH.app (h := SubH.app (h := SubH.app (h := inferInstance)))
  refine G.rd (Rd.build (cells := #[.bool p.allow, .slice pr p.rules.length cr, .slice pq p.pins.length cq]) rfl (by rfl)) rfl rfl ?_
  refine G.heap (H' := (b2, .cells #[.bool false, .slice none 0 0, .slice none 0 0] 25 (0, 0)) :: (Bp ++ (Br ++ ((bj, .cells #[.pointer (some ⟨bt, 0, none⟩), .pointer (some ⟨bn, 0, none⟩), .bool p.allow, .slice pl p.pins.length cl] 100 (0, 0)) :: (TH ++ (NH ++ B)) ++ F)))) ?_ (fun w hw => hw.perm (by exact permC))
  repeat' first | refine Y.st ?_ | (refine nw ?_; intro _) | refine Y.kn ?_ | fail
  exact GQ.res1h (v := polV p (.slice pr p.rules.length cr) (.slice pq p.pins.length cq)) rfl (.agg rfl rfl) (Bp ++ (Br ++ ((bj, .cells #[.pointer (some ⟨bt, 0, none⟩), .pointer (some ⟨bn, 0, none⟩), .bool p.allow, .slice pl p.pins.length cl] 100 (0, 0)) :: (TH ++ (NH ++ B)) ++ F))) (fun w hw => hw.sub (List.sublist_cons_self _ _)) ⟨_, _, Br, Bp, rfl, hBr, hBp, rfl⟩
end
end Go.Dec

namespace Go.Dec
open Go.Own Go.Proofs Go.RowKit Go.Lib Go.Asc Go.Adr Go.Nam Go.Tri Go.Cid Go.Pol Go.Pin
attribute [local irreducible] GC GQ G Rd Eff T
set_option maxRecDepth 20000
set_option maxHeartbeats 4000000
section
variable {W0 : World} {F : Heap}
attribute [local irreducible] normalL rightC ofL Lit.wf pinErr okP addC addT addAllT checkT rightP addL findB
theorem drefuse_spec {p : Pol} {bj : Nat} {JH : Heap} (h : JudQ p bj JH) (v : Vw) (a : List UInt8) (n : Int) (ha : a.length = 16) (now : Int) :
    T Tryz.prog W0 55 #[.pointer (some ⟨bj, 0, none⟩), vwV v, dsV a n, .int .i64 now] (JH ++ F) (fun u H' => u = .int .i64 (refuseL p v.st v.host v.port a n now) ∧ H' = JH ++ F) := by
  obtain ⟨bt, bn, lv, TH, NH, B, rfl, hT, hN, hB, hok⟩ := h
  simp only [List.cons_append]
  have hpl := hok.plen
  have hle := all_le p.pins
  refine T.intro (args := [_, _, _, _]) Tryz.func55 rfl Tryz.ntmps55 rfl ?_
  repeat' first | refine Y.st ?_ | (refine nw ?_; intro _) | refine Y.kn ?_ | fail
  rename_i b5 b6
  by_cases h0 : v.st = 0
  · have hr : refuseL p v.st v.host v.port a n now = 5 := by unfold refuseL; rw [if_pos h0]
    repeat' first | refine Y.st ?_ | (refine nw ?_; intro _) | refine Y.kn ?_ | fail
    refine GQ.heap (H' := (bj, .cells #[.pointer (some ⟨bt, 0, none⟩), .pointer (some ⟨bn, 0, none⟩), .bool p.allow, lv] 100 (0, 0)) :: (TH ++ (NH ++ B) ++ F)) ?_ (fun w hw => hw.sub ((List.sublist_cons_self _ _).trans (List.sublist_cons_self _ _)))
    exact GQ.done1 rfl rfl ⟨by rw [hr], rfl⟩
  by_cases h1 : v.st = 1
  case neg =>
    have hr : refuseL p v.st v.host v.port a n now = 4 := by unfold refuseL; rw [if_neg h0, if_pos h1]
    repeat' first | refine Y.st ?_ | (refine nw ?_; intro _) | refine Y.kn ?_ | fail
    refine GQ.heap (H' := (bj, .cells #[.pointer (some ⟨bt, 0, none⟩), .pointer (some ⟨bn, 0, none⟩), .bool p.allow, lv] 100 (0, 0)) :: (TH ++ (NH ++ B) ++ F)) ?_ (fun w hw => hw.sub ((List.sublist_cons_self _ _).trans (List.sublist_cons_self _ _)))
    exact GQ.done1 rfl rfl ⟨by rw [hr], rfl⟩
  by_cases h4 : v.port ≠ 0 ∧ v.port ≠ n
  · have hr : refuseL p v.st v.host v.port a n now = 3 := by unfold refuseL; rw [if_neg h0, if_neg (fun e => e h1), if_pos h4]
    obtain ⟨h2, h3⟩ := h4
    repeat' first | refine Y.st ?_ | (refine nw ?_; intro _) | refine Y.kn ?_ | fail
    refine G.rd (Rd.dsPort rfl rfl ha) rfl rfl ?_
    repeat' first | refine Y.st ?_ | (refine nw ?_; intro _) | refine Y.kn ?_ | fail
    refine GQ.heap (H' := (bj, .cells #[.pointer (some ⟨bt, 0, none⟩), .pointer (some ⟨bn, 0, none⟩), .bool p.allow, lv] 100 (0, 0)) :: (TH ++ (NH ++ B) ++ F)) ?_ (fun w hw => hw.sub ((List.sublist_cons_self _ _).trans (List.sublist_cons_self _ _)))
    exact GQ.done1 rfl rfl ⟨by rw [hr], rfl⟩
  · have hr : refuseL p v.st v.host v.port a n now = if checkT (addAllT p.pins) v.host a now = 2 then 2 else -1 := by
      unfold refuseL; rw [if_neg h0, if_neg (fun e => e h1), if_neg h4]
    by_cases h2 : v.port = 0
    case' pos => repeat' first | refine Y.st ?_ | (refine nw ?_; intro _) | refine Y.kn ?_ | fail
    case' neg =>
      have h3 : v.port = n := Classical.byContradiction fun e => h4 ⟨h2, e⟩
      repeat' first | refine Y.st ?_ | (refine nw ?_; intro _) | refine Y.kn ?_ | fail
      refine G.rd (Rd.dsPort rfl rfl ha) rfl rfl ?_
      repeat' first | refine Y.st ?_ | (refine nw ?_; intro _) | refine Y.kn ?_ | fail
    all_goals
      refine GC.drawn [(0, .read), (1, .read), (2, .read), (3, .read), (4, .read), (5, .read), (6, .read), (7, .read), (8, .read), (9, .tail), (10, .tail), (11, .tail)] ([(b6, .cells (u8s a ++ [Value.int .i64 n]).toArray 36 (0, 0)), (b5, .cells (vwA v) 32 (0, 0)), (bj, .cells #[.pointer (some ⟨bt, 0, none⟩), .pointer (some ⟨bn, 0, none⟩), .bool p.allow, lv] 100 (0, 0))]) (by kernel_rfl) (by kernel_rfl) rfl ?_
      iterate 7 refine Y.one ?_
      refine G.rd (Rd.dsAddr rfl rfl ha) rfl rfl ?_
      iterate 1 refine Y.one ?_
      refine G.ef rfl rfl rfl (Eff.callP (first := #[]) (captured := #[]) rfl rfl (H' := NH ++ ((b6, .cells (u8s a ++ [Value.int .i64 n]).toArray 36 (0, 0)) :: (b5, .cells (vwA v) 32 (0, 0)) :: (bj, .cells #[.pointer (some ⟨bt, 0, none⟩), .pointer (some ⟨bn, 0, none⟩), .bool p.allow, lv] 100 (0, 0)) :: (TH ++ (B ++ F)))) (by exact permC) ((pcheck_spec hN (nodup_all _) right_keys (siz_keys hok.sp) (by omega) v.host a ha now).mono ?_))
      rintro u H' ⟨rfl, rfl⟩
      by_cases h5 : checkT (addAllT p.pins) v.host a now = 2
      · rw [if_pos h5] at hr
        repeat' first | refine Y.st ?_ | (refine nw ?_; intro _) | refine Y.kn ?_ | fail
        refine GQ.heap (H' := (bj, .cells #[.pointer (some ⟨bt, 0, none⟩), .pointer (some ⟨bn, 0, none⟩), .bool p.allow, lv] 100 (0, 0)) :: (TH ++ (NH ++ B) ++ F)) ?_ (fun w hw => (hw.perm (show (NH ++ ((b6, .cells (u8s a ++ [Value.int .i64 n]).toArray 36 (0, 0)) :: (b5, .cells (vwA v) 32 (0, 0)) :: (bj, .cells #[.pointer (some ⟨bt, 0, none⟩), .pointer (some ⟨bn, 0, none⟩), .bool p.allow, lv] 100 (0, 0)) :: (TH ++ (B ++ F)))).Perm ((b6, .cells (u8s a ++ [Value.int .i64 n]).toArray 36 (0, 0)) :: (b5, .cells (vwA v) 32 (0, 0)) :: ((bj, .cells #[.pointer (some ⟨bt, 0, none⟩), .pointer (some ⟨bn, 0, none⟩), .bool p.allow, lv] 100 (0, 0)) :: (TH ++ (NH ++ B) ++ F))) by exact permC)).sub ((List.sublist_cons_self _ _).trans (List.sublist_cons_self _ _)))
        exact GQ.done1 rfl rfl ⟨by rw [hr], rfl⟩
      · rw [if_neg h5] at hr
        repeat' first | refine Y.st ?_ | (refine nw ?_; intro _) | refine Y.kn ?_ | fail
        refine GQ.heap (H' := (bj, .cells #[.pointer (some ⟨bt, 0, none⟩), .pointer (some ⟨bn, 0, none⟩), .bool p.allow, lv] 100 (0, 0)) :: (TH ++ (NH ++ B) ++ F)) ?_ (fun w hw => (hw.perm (show (NH ++ ((b6, .cells (u8s a ++ [Value.int .i64 n]).toArray 36 (0, 0)) :: (b5, .cells (vwA v) 32 (0, 0)) :: (bj, .cells #[.pointer (some ⟨bt, 0, none⟩), .pointer (some ⟨bn, 0, none⟩), .bool p.allow, lv] 100 (0, 0)) :: (TH ++ (B ++ F)))).Perm ((b6, .cells (u8s a ++ [Value.int .i64 n]).toArray 36 (0, 0)) :: (b5, .cells (vwA v) 32 (0, 0)) :: ((bj, .cells #[.pointer (some ⟨bt, 0, none⟩), .pointer (some ⟨bn, 0, none⟩), .bool p.allow, lv] 100 (0, 0)) :: (TH ++ (NH ++ B) ++ F))) by exact permC)).sub ((List.sublist_cons_self _ _).trans (List.sublist_cons_self _ _)))
        exact GQ.done1 rfl rfl ⟨by rw [hr], rfl⟩
theorem ddecide_spec (hv : Vars W0) {p : Pol} {bj : Nat} {JH : Heap} (h : JudQ p bj JH) (v : Vw) (a : List UInt8) (n : Int) (ha : a.length = 16) (now : Int) (hh : v.host.length < 4294967281) (alpn : List Lb) (hal : AlpnAt W0 F v.al alpn) :
    T Tryz.prog W0 16 #[.pointer (some ⟨bj, 0, none⟩), vwV v, dsV a n, .int .i64 now] (JH ++ F) (fun u H' => u = dcV (decL p v.st v.host v.port alpn a n now) ∧ H' = JH ++ F) := by
  have h' := h
  obtain ⟨bt, bn, lv, TH, NH, B, rfl, hT, hN, hB, hok⟩ := h
  refine T.intro (args := [_, _, _, _]) Tryz.func16 rfl Tryz.ntmps16 rfl ?_
  repeat' first | refine Y.st ?_ | (refine nw ?_; intro _) | refine Y.kn ?_ | fail
  rename_i b5 b6 b8
  refine G.rd (Rd.loadAggC (cs := dsC a n) rfl (cellsH (fun j u hj => by simpa using hj)) (dsC_len ha n)) rfl rfl ?_
  repeat' first | refine Y.st ?_ | (refine nw ?_; intro _) | refine Y.kn ?_ | fail
  refine G.ef rfl rfl rfl (Eff.callP (first := #[]) (captured := #[]) rfl rfl (H' := ((bj, .cells #[.pointer (some ⟨bt, 0, none⟩), .pointer (some ⟨bn, 0, none⟩), .bool p.allow, lv] 100 (0, 0)) :: (TH ++ (NH ++ B))) ++ ((b8, .cells #[.bool false, .int .i64 0, .int .i64 0] 54 (0, 0)) :: (b6, .cells (u8s a ++ [Value.int .i64 n]).toArray 36 (0, 0)) :: (b5, .cells (vwA v) 32 (0, 0)) :: F)) (by exact permC) ((drefuse_spec h' v a n ha now).mono ?_))
  rintro u H' ⟨rfl, rfl⟩
  simp only [List.cons_append]
  rcases refuse_cases (p := p) (st := v.st) (host := v.host) (vport := v.port) (addr := a) (port := n) (now := now) with hr | hr
  case inr =>
    have hd := dec_stop (p := p) (st := v.st) (host := v.host) (vport := v.port) (addr := a) (port := n) (now := now) (alpn := alpn) (by omega)
    generalize refuseL p v.st v.host v.port a n now = w9 at hr hd ⊢
    repeat' first | refine Y.st ?_ | (refine nw ?_; intro _) | refine Y.kn ?_ | fail
    refine G.rd (Rd.build (cells := dcA ⟨false, w9, -1⟩) rfl (by rfl)) rfl rfl ?_
    repeat' first | refine Y.st ?_ | (refine nw ?_; intro _) | refine Y.kn ?_ | fail
    exact GQ.res1h (v := dcV ⟨false, w9, -1⟩) rfl (.aggA rfl rfl) (((bj, .cells #[.pointer (some ⟨bt, 0, none⟩), .pointer (some ⟨bn, 0, none⟩), .bool p.allow, lv] 100 (0, 0)) :: (TH ++ (NH ++ B))) ++ F) (fun w hw => (hw.perm (by exact permC)).sub (List.sublist_append_right [(b8, .cells (dcA ⟨false, w9, -1⟩) 54 (0, 0)), (b6, .cells (u8s a ++ [Value.int .i64 n]).toArray 36 (0, 0)), (b5, .cells (vwA v) 32 (0, 0))] _)) ⟨by rw [hd], rfl⟩
  have hd := dec_pass (alpn := alpn) hr
  rw [hr]
  repeat' first | refine Y.st ?_ | (refine nw ?_; intro _) | refine Y.kn ?_ | fail
  refine GC.heap (H' := TH ++ ((bj, .cells #[.pointer (some ⟨bt, 0, none⟩), .pointer (some ⟨bn, 0, none⟩), .bool p.allow, lv] 100 (0, 0)) :: (NH ++ (B ++ ((b8, .cells #[.bool false, .int .i64 0, .int .i64 0] 54 (0, 0)) :: (b6, .cells (u8s a ++ [Value.int .i64 n]).toArray 36 (0, 0)) :: (b5, .cells (vwA v) 32 (0, 0)) :: F))))) ?_ (fun w hw => hw.perm (by exact permC))
  haveI s0 : SubH [(bj, .cells #[.pointer (some ⟨bt, 0, none⟩), .pointer (some ⟨bn, 0, none⟩), .bool p.allow, lv] 100 (0, 0)), (b6, .cells (u8s a ++ [Value.int .i64 n]).toArray 36 (0, 0)), (b5, .cells (vwA v) 32 (0, 0))] (TH ++ ((bj, .cells #[.pointer (some ⟨bt, 0, none⟩), .pointer (some ⟨bn, 0, none⟩), .bool p.allow, lv] 100 (0, 0)) :: (NH ++ (B ++ ((b8, .cells #[.bool false, .int .i64 0, .int .i64 0] 54 (0, 0)) :: (b6, .cells (u8s a ++ [Value.int .i64 n]).toArray 36 (0, 0)) :: (b5, .cells (vwA v) 32 (0, 0)) :: F))))) := SubH.app (h := SubH.cons2 (h := SubH.app (h := SubH.app (h := SubH.skip (h := SubH.cons2 (h := SubH.cons2 (h := SubH.nil)))))))
  haveI s2 : ∀ x, SubH [(bj, .cells #[.pointer (some ⟨bt, 0, none⟩), .pointer (some ⟨bn, 0, none⟩), .bool p.allow, lv] 100 (0, 0)), (b6, .cells (u8s a ++ [Value.int .i64 n]).toArray 36 (0, 0)), (b5, .cells (vwA v) 32 (0, 0))] (x :: (TH ++ ((bj, .cells #[.pointer (some ⟨bt, 0, none⟩), .pointer (some ⟨bn, 0, none⟩), .bool p.allow, lv] 100 (0, 0)) :: (NH ++ (B ++ ((b8, .cells #[.bool false, .int .i64 0, .int .i64 0] 54 (0, 0)) :: (b6, .cells (u8s a ++ [Value.int .i64 n]).toArray 36 (0, 0)) :: (b5, .cells (vwA v) 32 (0, 0)) :: F)))))) := fun x => SubH.skip (h := s0)
  have fin : ∀ (x y : Nat × Obj) w, Own W0 (x :: (TH ++ ((bj, .cells #[.pointer (some ⟨bt, 0, none⟩), .pointer (some ⟨bn, 0, none⟩), .bool p.allow, lv] 100 (0, 0)) :: (NH ++ (B ++ (y :: (b6, .cells (u8s a ++ [Value.int .i64 n]).toArray 36 (0, 0)) :: (b5, .cells (vwA v) 32 (0, 0)) :: F)))))) w → Own W0 (((bj, .cells #[.pointer (some ⟨bt, 0, none⟩), .pointer (some ⟨bn, 0, none⟩), .bool p.allow, lv] 100 (0, 0)) :: (TH ++ (NH ++ B))) ++ F) w := fun x y w hw =>
    (hw.perm (show (x :: (TH ++ ((bj, .cells #[.pointer (some ⟨bt, 0, none⟩), .pointer (some ⟨bn, 0, none⟩), .bool p.allow, lv] 100 (0, 0)) :: (NH ++ (B ++ (y :: (b6, .cells (u8s a ++ [Value.int .i64 n]).toArray 36 (0, 0)) :: (b5, .cells (vwA v) 32 (0, 0)) :: F)))))).Perm (x :: y :: (b6, .cells (u8s a ++ [Value.int .i64 n]).toArray 36 (0, 0)) :: (b5, .cells (vwA v) 32 (0, 0)) :: (((bj, .cells #[.pointer (some ⟨bt, 0, none⟩), .pointer (some ⟨bn, 0, none⟩), .bool p.allow, lv] 100 (0, 0)) :: (TH ++ (NH ++ B))) ++ F)) by exact permC)).sub ((((List.sublist_cons_self _ _).trans (List.sublist_cons_self _ _)).trans (List.sublist_cons_self _ _)).trans (List.sublist_cons_self _ _))
  refine GC.any [] [(bj, .cells #[.pointer (some ⟨bt, 0, none⟩), .pointer (some ⟨bn, 0, none⟩), .bool p.allow, lv] 100 (0, 0)), (b6, .cells (u8s a ++ [Value.int .i64 n]).toArray 36 (0, 0)), (b5, .cells (vwA v) 32 (0, 0))] 20 rfl (by kernel_rfl) ?_
  refine GA.read 0 rfl (by kernel_rfl) (by kernel_rfl) (fun w hw => hw.sub s0.out) (Rd.move rfl) rfl rfl ?_
  refine GA.read 1 rfl (by kernel_rfl) (by kernel_rfl) (fun w hw => hw.sub s0.out) (Rd.nilCheck rfl) rfl rfl ?_
  refine GA.read 2 rfl (by kernel_rfl) (by kernel_rfl) (fun w hw => hw.sub s0.out) (Rd.fieldAddr rfl) rfl rfl ?_
  refine GA.read 3 rfl (by kernel_rfl) (by kernel_rfl) (fun w hw => hw.sub s0.out) (Rd.load rfl (cellH rfl)) rfl rfl ?_
  refine GA.read 4 rfl (by kernel_rfl) (by kernel_rfl) (fun w hw => hw.sub s0.out) (Rd.fieldAddr rfl) rfl rfl ?_
  refine GA.read 5 rfl (by kernel_rfl) (by kernel_rfl) (fun w hw => hw.sub s0.out) (Rd.load rfl (cellH rfl)) rfl rfl ?_
  refine GA.read 6 rfl (by kernel_rfl) (by kernel_rfl) (fun w hw => hw.sub s0.out) (Rd.fieldAddr rfl) rfl rfl ?_
  refine GA.read 7 rfl (by kernel_rfl) (by kernel_rfl) (fun w hw => hw.sub s0.out) (Rd.dsPort rfl rfl ha) rfl rfl ?_
  refine GA.read 8 rfl (by kernel_rfl) (by kernel_rfl) (fun w hw => hw.sub s0.out) (Rd.fieldAddr rfl) rfl rfl ?_
  refine GA.read 9 rfl (by kernel_rfl) (by kernel_rfl) (fun w hw => hw.sub s0.out) (Rd.fieldAddr rfl) rfl rfl ?_
  refine GA.read 10 rfl (by kernel_rfl) (by kernel_rfl) (fun w hw => hw.sub s0.out) (Rd.load rfl (cellH rfl)) rfl rfl ?_
  refine GA.two 11 16 (by kernel_rfl) rfl rfl rfl rfl rfl rfl (Eff.callF rfl ((Find_spec hv hT v.host hh n v.al alpn (hal.imp (fun φ hφ => ((((((hφ.cons (b5, .cells (vwA v) 32 (0, 0))).cons (b6, .cells (u8s a ++ [Value.int .i64 n]).toArray 36 (0, 0))).cons (b8, .cells #[.bool false, .int .i64 0, .int .i64 0] 54 (0, 0))).app B).app NH).cons (bj, .cells #[.pointer (some ⟨bt, 0, none⟩), .pointer (some ⟨bn, 0, none⟩), .bool p.allow, lv] 100 (0, 0)))))).mono ?A)) (Eff.allocAA (fun b10 => ⟨fun _ w hw => hw.sub (s2 _).out, ?B⟩))
  case' A =>
    rintro u H' ⟨rfl, rfl⟩
    refine ⟨fun _ w hw => hw.sub s0.out, ?_⟩
    refine GA.toG [(12, .read), (13, .read), (14, .read), (15, .read), (16, .eff), (17, .eff), (18, .read), (19, .read)] (by kernel_rfl) rfl ?_
    rw [show resV (pickL p.rules (findB p.rules v.host n alpn)) = .tuple #[ruV (pickL p.rules (findB p.rules v.host n alpn)).1, .int .i64 ((pickL p.rules (findB p.rules v.host n alpn)).2.1 : Int), .bool (pickL p.rules (findB p.rules v.host n alpn)).2.2] from rfl]
    iterate 4 refine Y.one ?_
    refine G.ee rfl rfl rfl (Eff.allocAA (fun b10 => ?_))
    refine ⟨s2 _, ?_⟩
  case' B =>
    refine GA.toG [(11, .eff), (12, .read), (13, .read), (14, .read), (15, .read), (17, .eff), (18, .read), (19, .read)] (by kernel_rfl) rfl ?_
    refine G.ee rfl rfl rfl (Eff.callP (first := #[]) (captured := #[]) rfl rfl (H' := TH ++ ((b10, .cells (ruA zeroR) 48 (0, 0)) :: ((bj, .cells #[.pointer (some ⟨bt, 0, none⟩), .pointer (some ⟨bn, 0, none⟩), .bool p.allow, lv] 100 (0, 0)) :: (NH ++ (B ++ ((b8, .cells #[.bool false, .int .i64 0, .int .i64 0] 54 (0, 0)) :: (b6, .cells (u8s a ++ [Value.int .i64 n]).toArray 36 (0, 0)) :: (b5, .cells (vwA v) 32 (0, 0)) :: F)))))) List.perm_middle.symm ((Find_spec hv hT v.host hh n v.al alpn (hal.imp (fun φ hφ => (((((((hφ.cons (b5, .cells (vwA v) 32 (0, 0))).cons (b6, .cells (u8s a ++ [Value.int .i64 n]).toArray 36 (0, 0))).cons (b8, .cells #[.bool false, .int .i64 0, .int .i64 0] 54 (0, 0))).app B).app NH).cons (bj, .cells #[.pointer (some ⟨bt, 0, none⟩), .pointer (some ⟨bn, 0, none⟩), .bool p.allow, lv] 100 (0, 0))).cons (b10, .cells (ruA zeroR) 48 (0, 0)))))).mono ?_))
    rintro u H' ⟨rfl, rfl⟩
    haveI s3 : SubH [(bj, .cells #[.pointer (some ⟨bt, 0, none⟩), .pointer (some ⟨bn, 0, none⟩), .bool p.allow, lv] 100 (0, 0)), (b6, .cells (u8s a ++ [Value.int .i64 n]).toArray 36 (0, 0)), (b5, .cells (vwA v) 32 (0, 0))] (TH ++ ((b10, .cells (ruA zeroR) 48 (0, 0)) :: ((bj, .cells #[.pointer (some ⟨bt, 0, none⟩), .pointer (some ⟨bn, 0, none⟩), .bool p.allow, lv] 100 (0, 0)) :: (NH ++ (B ++ ((b8, .cells #[.bool false, .int .i64 0, .int .i64 0] 54 (0, 0)) :: (b6, .cells (u8s a ++ [Value.int .i64 n]).toArray 36 (0, 0)) :: (b5, .cells (vwA v) 32 (0, 0)) :: F)))))) := SubH.app (h := SubH.skip (h := SubH.cons2 (h := SubH.app (h := SubH.app (h := SubH.skip (h := SubH.cons2 (h := SubH.cons2 (h := SubH.nil))))))))
    refine ⟨s3, ?_⟩
    rw [show resV (pickL p.rules (findB p.rules v.host n alpn)) = .tuple #[ruV (pickL p.rules (findB p.rules v.host n alpn)).1, .int .i64 ((pickL p.rules (findB p.rules v.host n alpn)).2.1 : Int), .bool (pickL p.rules (findB p.rules v.host n alpn)).2.2] from rfl]
    iterate 4 refine Y.one ?_
    refine G.heap (H' := (b10, .cells (ruA zeroR) 48 (0, 0)) :: (TH ++ ((bj, .cells #[.pointer (some ⟨bt, 0, none⟩), .pointer (some ⟨bn, 0, none⟩), .bool p.allow, lv] 100 (0, 0)) :: (NH ++ (B ++ ((b8, .cells #[.bool false, .int .i64 0, .int .i64 0] 54 (0, 0)) :: (b6, .cells (u8s a ++ [Value.int .i64 n]).toArray 36 (0, 0)) :: (b5, .cells (vwA v) 32 (0, 0)) :: F)))))) ?_ (fun w hw => hw.perm List.perm_middle)
  all_goals
    refine G.ee rfl rfl rfl (Eff.storeLit rfl rfl (by rfl) (by rfl) (by rfl) ?_)
    refine ⟨s2 _, ?_⟩
    cases hf : findB p.rules v.host n alpn with
    | none =>
      rw [hf] at hd
      repeat' first | refine Y.st ?_ | (refine nw ?_; intro _) | refine Y.kn ?_ | fail
      refine G.rd (Rd.build (cells := dcA ⟨p.allow, 1, -1⟩) rfl (by rfl)) rfl rfl ?_
      repeat' first | refine Y.st ?_ | (refine nw ?_; intro _) | refine Y.kn ?_ | fail
      exact GQ.res1h (v := dcV ⟨p.allow, 1, -1⟩) rfl (.aggA rfl rfl) _ (fin _ _) ⟨by rw [hd]; rfl, rfl⟩
    | some i =>
      rw [hf] at hd
      repeat' first | refine Y.st ?_ | (refine nw ?_; intro _) | refine Y.kn ?_ | fail
      refine G.rd (Rd.build (cells := dcA ⟨(p.rules.getD i zeroR).allow, 0, (i : Int)⟩) rfl (by rfl)) rfl rfl ?_
      repeat' first | refine Y.st ?_ | (refine nw ?_; intro _) | refine Y.kn ?_ | fail
      exact GQ.res1h (v := dcV ⟨(p.rules.getD i zeroR).allow, 0, (i : Int)⟩) rfl (.aggA rfl rfl) _ (fin _ _) ⟨by rw [hd]; rfl, rfl⟩
end
end Go.Dec
