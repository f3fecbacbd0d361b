/-
  CALLS THAT ANSWER BY A VALUE, TESTS THAT PART THE WAYS, LOOPS BY WHAT TURNS IN THEM: general laws over any program.
-/
import Derived.Test.YtabkbpckehdiaaaDoorOwnI
namespace Go.Own
open Go.RowKit Go.Lib

/-- A function whose answer is a value, and which leaves what is owned as it was. -/
class PureF (P : Program) (W0 : World) (f : FuncId) (args : List Value) (c : outParam Prop) (v : outParam Value) : Prop where
  out : c → ∀ F, T P W0 f args.toArray F (fun v' H' => v' = v ∧ H' = F)

def evs (e : Env) : List Operand → Option (List Value)
  | [] => some []
  | x :: r => match opv e x, evs e r with
    | some v, some vs => some (v :: vs)
    | _, _ => none
theorem evs_mapM {e : Env} : ∀ {l : List Operand} {vs : List Value}, evs e l = some vs → l.mapM (opv e) = some vs
  | [], vs, h => by simp [evs] at h; simp [h]
  | x :: r, vs, h => by
    simp only [evs] at h
    split at h
    · rename_i v us h1 h2
      cases h
      simp [h1, evs_mapM h2]
    · cases h

def nth {α : Type} : List α → Nat → Option α
  | [], _ => none
  | a :: _, 0 => some a
  | _ :: l, i + 1 => nth l i
theorem nth_eq {α : Type} {vs : Array α} {i : Nat} : nth vs.toList i = vs[i]? := by
  have key : ∀ (l : List α) (i : Nat), nth l i = l[i]? := by
    intro l
    induction l with
    | nil => intro i; rfl
    | cons a l ih =>
      intro i
      cases i with
      | zero => rfl
      | succ i => simp [nth, ih]
  rw [key]; simp
section
variable {P : Program} {ops : Array Oper} {n : Nat} {W0 : World} {Hs H X : Heap} {Q : Exit → Act → World → Prop} {l : List (Kind × Oper)} {e : Env} {k : Kind} {op : Op} {t t' ty : TypeId} {pos : String} {aft : Array Edge} {d : Nat} {v u : Value} {g : Option (Nat × Bool)} {dst : Option Nat} {x y z : Operand} {R : Value → Heap → Prop} {kk : IntKind} {a b : Int}

theorem Rd.indexN {b o len cap el size bytes m : Nat} {zz : Value} {a : Int} [hs : SliceT P t el size bytes zz] (hx : opv e x = some (.slice (some ⟨b, o, none⟩) len cap)) (hy : opv e y = some (.int kk a)) (ha : a = (m : Int)) (h1 : m < len) :
    Rd P W0 H e (.indexAddr t x y) (.pointer (some ⟨b, o + m * size, none⟩)) := by
  subst ha
  exact Rd.indexAddr (hs := hs) hx hy (by omega) (by omega)
theorem Rd.indexArrN {bk o n el size m : Nat} {a : Int} [hs : ArrT P t n el size] (hx : opv e x = some (.pointer (some ⟨bk, o, none⟩))) (hy : opv e y = some (.int kk a)) (ha : a = (m : Int)) (h1 : m < n) :
    Rd P W0 H e (.indexAddr t x y) (.pointer (some ⟨bk, o + m * size, none⟩)) := by
  subst ha
  exact Rd.indexArr (hs := hs) hx hy (by omega) (by omega)
theorem Rd.idxSN {l : List UInt8} {m : Nat} {a : Int} [hu : UnderT P t .string] (hx : opv e x = some (S l)) (hy : opv e y = some (.int kk a)) (ha : a = (m : Int)) (h1 : m < l.length) : Rd P W0 H e (.index t x y) (.int .u8 ((l[m]).toNat : Int)) := by
  subst ha
  have := Rd.idxS (P := P) (W0 := W0) (H := H) (hu := hu) hx hy (by omega) (by omega)
  have e1 : l.getD m 0 = l[m] := by rw [List.getD_eq_getElem?_getD, List.getElem?_eq_getElem h1]; rfl
  rw [Int.toNat_natCast, e1] at this
  exact this
theorem Rd.part {i : Nat} {vs : Array Value} (hx : opv e x = some (.tuple vs)) (hi : nth vs.toList i = some v) : Rd P W0 H e (.extract x i) v :=
  Rd.extract hx (by rw [← nth_eq]; exact hi)
theorem Eff.callPure {f : FuncId} {vs : List Value} {args : Array Operand} {ats : Array TypeId} {c : Prop} (hvs : evs e args.toList = some vs) [hp : PureF P W0 f vs c v] [hc : CallF P f] (h : c) (hR : R v H) :
    Eff P W0 e H (.call { callee := .value (.func f), args, argTypes := ats }) ty R :=
  Eff.callF (evs_mapM hvs) ((hp.out h H).mono (by rintro v' H' ⟨rfl, rfl⟩; exact hR))

/-! ### Tests -/
theorem GC.condD {p : Prop} [Decidable p] {c : Operand} {x y : Code} (hc : opv e c = some (.bool (decide p))) (ht : p → GC P n W0 x Q e H) (hf : ¬ p → GC P n W0 y Q e H) : GC P n W0 (.cond c x y) Q e H :=
  GC.cond hc (fun h => ht (by simpa using h)) (fun h => hf (by simpa using h))
theorem GC.condN {p : Prop} [Decidable p] {c : Operand} {x y : Code} (hc : opv e c = some (.bool (!decide p))) (ht : ¬ p → GC P n W0 x Q e H) (hf : p → GC P n W0 y Q e H) : GC P n W0 (.cond c x y) Q e H :=
  GC.cond hc (fun h => ht (by simpa using h)) (fun h => hf (by simpa using h))
theorem GC.condAnd {p q : Bool} {c : Operand} {x y : Code} (hc : opv e c = some (.bool (p && q))) (ht : p = true → q = true → GC P n W0 x Q e H) (hf : ¬ (p = true ∧ q = true) → GC P n W0 y Q e H) : GC P n W0 (.cond c x y) Q e H :=
  GC.cond hc (fun h => by simp at h; exact ht h.1 h.2) (fun h => hf (by simpa using h))

/-- A guard that is not decided parts the ways. -/
theorem G.splitG {kd : Kind} {dst : Option Nat} {j tt : Nat} {w0 b : Bool} (hj : (ops[j]?).bind (·.dst) = some tt) (hl : look e tt = some (.bool b)) (htt : Nat.blt tt n = true)
    (ht : b = true → G P ops n W0 Hs Q ((kd, ⟨dst, op, ty, pos, aft, some (j, w0)⟩) :: l) ((tt, .bool true) :: e) H) (hf : b = false → G P ops n W0 Hs Q ((kd, ⟨dst, op, ty, pos, aft, some (j, w0)⟩) :: l) ((tt, .bool false) :: e) H) :
    G P ops n W0 Hs Q ((kd, ⟨dst, op, ty, pos, aft, some (j, w0)⟩) :: l) e H := by
  intro a w f o
  have key : ∀ c, b = c → Fits n ((tt, .bool c) :: e) a := fun c hc => by
    subst hc
    refine ⟨f.size, f.defers, fun s v hs => ?_⟩
    simp only [look] at hs
    cases hb : Nat.beq s tt with
    | true =>
      rw [hb] at hs
      simp only [cond_true, Option.some.injEq] at hs
      subst hs
      have := Nat.eq_of_beq_eq_true hb
      subst this
      exact f.slot s _ hl
    | false =>
      rw [hb] at hs
      exact f.slot s v hs
  cases hb : b with
  | true => exact ht hb a w (key true hb) o
  | false => exact hf hb a w (key false hb) o
theorem G.lit {kd : Kind} {dst : Option Nat} {j tt : Nat} {w0 : Bool} (c : Bool) (_ : (ops[j]?).bind (·.dst) = some tt) (_ : look e tt = some (.bool c))
    (h : G P ops n W0 Hs Q ((kd, ⟨dst, op, ty, pos, aft, some (j, w0)⟩) :: l) e H) : G P ops n W0 Hs Q ((kd, ⟨dst, op, ty, pos, aft, some (j, w0)⟩) :: l) e H := h
theorem G.known {kd : Kind} {dst : Option Nat} {j tt : Nat} {w0 b : Bool} (c : Bool) (hj : (ops[j]?).bind (·.dst) = some tt) (hl : look e tt = some (.bool b)) (htt : Nat.blt tt n = true) (hb : b = c)
    (h : G P ops n W0 Hs Q ((kd, ⟨dst, op, ty, pos, aft, some (j, w0)⟩) :: l) ((tt, .bool c) :: e) H) :
    G P ops n W0 Hs Q ((kd, ⟨dst, op, ty, pos, aft, some (j, w0)⟩) :: l) e H :=
  G.splitG hj hl htt (fun h1 => by subst hb; subst h1; exact h) (fun h1 => by subst hb; subst h1; exact h)
theorem GC.condKT {c : Operand} {x y : Code} {b : Bool} (hc : opv e c = some (.bool b)) (hb : b = true) (h : GC P n W0 x Q e H) : GC P n W0 (.cond c x y) Q e H := GC.condT (by rw [hc, hb]) h
theorem GC.condKF {c : Operand} {x y : Code} {b : Bool} (hc : opv e c = some (.bool b)) (hb : b = false) (h : GC P n W0 y Q e H) : GC P n W0 (.cond c x y) Q e H := GC.condF (by rw [hc, hb]) h
theorem G.splitD {kd : Kind} {dst : Option Nat} {j tt : Nat} {w0 : Bool} {p : Prop} [Decidable p] (hj : (ops[j]?).bind (·.dst) = some tt) (hl : look e tt = some (.bool (decide p))) (htt : Nat.blt tt n = true)
    (ht : p → G P ops n W0 Hs Q ((kd, ⟨dst, op, ty, pos, aft, some (j, w0)⟩) :: l) ((tt, .bool true) :: e) H) (hf : ¬ p → G P ops n W0 Hs Q ((kd, ⟨dst, op, ty, pos, aft, some (j, w0)⟩) :: l) ((tt, .bool false) :: e) H) :
    G P ops n W0 Hs Q ((kd, ⟨dst, op, ty, pos, aft, some (j, w0)⟩) :: l) e H :=
  G.splitG hj hl htt (fun h => ht (by simpa using h)) (fun h => hf (by simpa using h))
theorem G.splitN {kd : Kind} {dst : Option Nat} {j tt : Nat} {w0 : Bool} {p : Prop} [Decidable p] (hj : (ops[j]?).bind (·.dst) = some tt) (hl : look e tt = some (.bool (!decide p))) (htt : Nat.blt tt n = true)
    (ht : ¬ p → G P ops n W0 Hs Q ((kd, ⟨dst, op, ty, pos, aft, some (j, w0)⟩) :: l) ((tt, .bool true) :: e) H) (hf : p → G P ops n W0 Hs Q ((kd, ⟨dst, op, ty, pos, aft, some (j, w0)⟩) :: l) ((tt, .bool false) :: e) H) :
    G P ops n W0 Hs Q ((kd, ⟨dst, op, ty, pos, aft, some (j, w0)⟩) :: l) e H :=
  G.splitG hj hl htt (fun h => ht (by simpa using h)) (fun h => hf (by simpa using h))

/-! ### Loops by what turns in them -/
theorem GC.loopE {ι : Type} {c : Code} (Ev : ι → Env) (Ec : Env) (F : ι → Heap) (μ : ι → Nat) (i0 : ι) (hs : Sub (Ev i0 ++ Ec) e) (hp : ∀ w, Own W0 H w → Own W0 (F i0) w)
    (round : ∀ i, GC P n W0 c (Exit.then (Back n W0 (fun i => Ev i ++ Ec) F μ (μ i)) Q) (Ev i ++ Ec) (F i)) : GC P n W0 (.loop c) Q e H :=
  GC.loop (fun i => Ev i ++ Ec) F μ i0 hs hp round
theorem GC.cutE {ι : Type} {x y : Code} (Ev : ι → Env) (Ec : Env) (F : ι → Heap) (hx : GC P n W0 x (Exit.then (CutTo n W0 (fun i => Ev i ++ Ec) F) Q) e H)
    (hy : ∀ j, GC P n W0 y Q (Ev j ++ Ec) (F j)) : GC P n W0 (.seq x y) Q e H :=
  GC.cut (fun i => Ev i ++ Ec) F hx hy

/-! ### New blocks, of one cell or more -/
theorem Eff.alloc1 [hz : ZeroT P t v] (h1 : v.cells = #[v]) (hR : ∀ b, R (.pointer (some ⟨b, 0, none⟩)) ((b, .cells #[v] t (0, 0)) :: H)) : Eff P W0 e H (.alloc t) ty R :=
  Eff.alloc (hz := hz) fun b => by rw [h1]; exact hR b
theorem Eff.allocA {cs : List Value} [hz : ZeroT P t (.agg cs.toArray)] (hR : ∀ b, R (.pointer (some ⟨b, 0, none⟩)) ((b, .cells cs.toArray t (0, 0)) :: H)) : Eff P W0 e H (.alloc t) ty R :=
  Eff.alloc (hz := hz) fun b => hR b
theorem Eff.allocAA {cs : Array Value} [hz : ZeroT P t (.agg cs)] (hR : ∀ b, R (.pointer (some ⟨b, 0, none⟩)) ((b, .cells cs t (0, 0)) :: H)) : Eff P W0 e H (.alloc t) ty R :=
  Eff.alloc (hz := hz) fun b => hR b
theorem Eff.box1 (hx : opv e x = some v) (h1 : v.cells = #[v]) (hR : ∀ b, R (.pointer (some ⟨b, 0, none⟩)) ((b, .cells #[v] t (0, 0)) :: H)) : Eff P W0 e H (.box t x) ty R :=
  Eff.box hx fun b => by rw [h1]; exact hR b
theorem Eff.boxA {cs : Array Value} (hx : opv e x = some (.agg cs)) (hR : ∀ b, R (.pointer (some ⟨b, 0, none⟩)) ((b, .cells cs t (0, 0)) :: H)) : Eff P W0 e H (.box t x) ty R :=
  Eff.box hx fun b => hR b

/-! ### The end of a function that answers by a value -/
theorem GQ.pure1 {fn : Func} {F : Heap} {r : ResultVar} {v' : Value} [hs : SubH F H] (hr : fn.results = #[r]) (h1 : RvIs P W0 e H r v') (h : v' = v) :
    GQ n W0 .ret (bodyPost P fn (fun x w' => ∃ u H', x = .returned u ∧ (u = v ∧ H' = F) ∧ Own W0 H' w')) e H :=
  GQ.res1h hr h1 F (fun _ hw => hw.sub hs.out) ⟨h, rfl⟩
theorem GQ.pure2 {fn : Func} {F : Heap} {r r' : ResultVar} {v1 v2 : Value} [hs : SubH F H] (hr : fn.results = #[r, r']) (h1 : RvIs P W0 e H r v1) (h2 : RvIs P W0 e H r' v2) (h : .tuple #[v1, v2] = v) :
    GQ n W0 .ret (bodyPost P fn (fun x w' => ∃ u H', x = .returned u ∧ (u = v ∧ H' = F) ∧ Own W0 H' w')) e H :=
  GQ.res2h hr h1 h2 F (fun _ hw => hw.sub hs.out) ⟨h, rfl⟩
theorem RvIs.one {x : Tmp} {b o : Nat} {cs : Array Value} {el : TypeId} {fr : Nat × Nat} [ht : OneT P t] (h : look e x = some (.pointer (some ⟨b, o, none⟩))) [hh : Has H b (.cells cs el fr)] (hv : cs[o]? = some v) : RvIs P W0 e H (.cell x t) v := fun n a w hf hw => by
  have h1 := cellH (h := hh) hv w hw
  simp [rvSem, hf.slot x _ h, asAddr, loadVar, ht.agg, h1]
theorem RvIs.aggA {x : Tmp} {b size : Nat} {cs : Array Value} {el : TypeId} {fr : Nat × Nat} [ht : AggT P t size] (h : look e x = some (.pointer (some ⟨b, 0, none⟩))) [hh : Has H b (.cells cs el fr)] (hl : cs.size = size) : RvIs P W0 e H (.cell x t) (.agg cs) := by
  have := RvIs.agg (cs := cs.toList) (P := P) (W0 := W0) (ht := ht) h (hh := hh) (by simpa using hl)
  simpa using this
end
end Go.Own
