/-
  CALLS THAT ANSWER BY A VALUE, TESTS THAT PART THE WAYS, LOOPS BY WHAT TURNS IN THEM: general laws over any program.
-/
import Derived.Test.YtlakopiopplfhaaGreatDoorOwnI
namespace Go.Own
open Go.RowKit Go.Lib

/-- A function whose answer is a value, and which leaves what is owned as it was. -/
class PureF (P : Program) (W0 : World) (f : FuncId) (args : List Value) (c : outParam Prop) (v : outParam Value) : Prop where
  out : c → ∀ F, T P W0 f args.toArray F (fun v' H' => v' = v ∧ H' = F)

def evs (e : Env) : List Operand → Option (List Value)
  | [] => some []
  | x :: r => match opv e x, evs e r with
    | some v, some vs => some (v :: vs)
    | _, _ => none
theorem evs_mapM {e : Env} : ∀ {l : List Operand} {vs : List Value}, evs e l = some vs → l.mapM (opv e) = some vs
  | [], vs, h => by simp [evs] at h; simp [h]
  | x :: r, vs, h => by
    simp only [evs] at h
    split at h
    · rename_i v us h1 h2
      cases h
      simp [h1, evs_mapM h2]
    · cases h

def nth {α : Type} : List α → Nat → Option α
  | [], _ => none
  | a :: _, 0 => some a
  | _ :: l, i + 1 => nth l i
theorem nth_eq {α : Type} {vs : Array α} {i : Nat} : nth vs.toList i = vs[i]? := by
  have key : ∀ (l : List α) (i : Nat), nth l i = l[i]? := by
    intro l
    induction l with
    | nil => intro i; rfl
    | cons a l ih =>
      intro i
      cases i with
      | zero => rfl
      | succ i => simp [nth, ih]
  rw [key]; simp
/-- A cell that stands in the open. -/
theorem cellN {W0 : World} {H : Heap} {b o : Nat} {cs : Array Value} {el : TypeId} {fr : Nat × Nat} {v : Value} [h : Has H b (.cells cs el fr)] (hc : nth cs.toList o = some v) : ∀ w, Own W0 H w → w.cell? ⟨b, o, none⟩ = some v :=
  cellH (h := h) (by rw [← nth_eq]; exact hc)
/-- A whole number that is none below 0, as one. -/
class NatLit (a : Int) (m : outParam Nat) : Prop where
  eq : a = (m : Int)
instance (priority := low) {m : Nat} : NatLit (m : Int) m := ⟨rfl⟩
instance {a b : Int} {m q : Nat} [h1 : NatLit a m] [h2 : NatLit b q] : NatLit (a + b) (m + q) := ⟨by rw [h1.eq, h2.eq]; rfl⟩
class LeN (q m : Nat) : Prop where
  le : q ≤ m
instance {a b : Int} {m q : Nat} [h1 : NatLit a m] [h2 : NatLit b q] [h : LeN q m] : NatLit (a - b) (m - q) := ⟨by have := h.le; rw [h1.eq, h2.eq]; omega⟩
instance {a b : Int} {m q : Nat} [h1 : NatLit a m] [h2 : NatLit b q] : NatLit (a * b) (m * q) := ⟨by rw [h1.eq, h2.eq]; rfl⟩
instance : NatLit 0 0 := ⟨rfl⟩
instance : NatLit 1 1 := ⟨rfl⟩
instance : NatLit 2 2 := ⟨rfl⟩
instance : NatLit 3 3 := ⟨rfl⟩
instance : NatLit 8 8 := ⟨rfl⟩
instance : NatLit 10 10 := ⟨rfl⟩
instance : NatLit 11 11 := ⟨rfl⟩
instance : NatLit 12 12 := ⟨rfl⟩
instance : NatLit 13 13 := ⟨rfl⟩
instance : NatLit 14 14 := ⟨rfl⟩
instance : NatLit 15 15 := ⟨rfl⟩
instance : NatLit 16 16 := ⟨rfl⟩
instance : NatLit 256 256 := ⟨rfl⟩
section
variable {P : Program} {ops : Array Oper} {n : Nat} {W0 : World} {Hs H X : Heap} {Q : Exit → Act → World → Prop} {l : List (Kind × Oper)} {e : Env} {k : Kind} {op : Op} {t t' ty : TypeId} {pos : String} {aft : Array Edge} {d : Nat} {v u : Value} {g : Option (Nat × Bool)} {dst : Option Nat} {x y z : Operand} {R : Value → Heap → Prop} {kk : IntKind} {a b : Int}

theorem Rd.indexN {b o len cap el size bytes m : Nat} {zz : Value} {a : Int} [hn : NatLit a m] [hs : SliceT P t el size bytes zz] (hx : opv e x = some (.slice (some ⟨b, o, none⟩) len cap)) (hy : opv e y = some (.int kk a)) (h1 : m < len) :
    Rd P W0 H e (.indexAddr t x y) (.pointer (some ⟨b, o + m * size, none⟩)) := by
  obtain rfl := hn.eq
  exact Rd.indexAddr (hs := hs) hx hy (by omega) (by omega)
theorem Rd.indexArrN {bk o n el size m : Nat} {a : Int} [hn : NatLit a m] [hs : ArrT P t n el size] (hx : opv e x = some (.pointer (some ⟨bk, o, none⟩))) (hy : opv e y = some (.int kk a)) (h1 : m < n) :
    Rd P W0 H e (.indexAddr t x y) (.pointer (some ⟨bk, o + m * size, none⟩)) := by
  obtain rfl := hn.eq
  exact Rd.indexArr (hs := hs) hx hy (by omega) (by omega)
theorem Rd.idxSN {l : List UInt8} {m : Nat} {a : Int} [hn : NatLit a m] [hu : UnderT P t .string] (hx : opv e x = some (S l)) (hy : opv e y = some (.int kk a)) (h1 : m < l.length) : Rd P W0 H e (.index t x y) (.int .u8 ((l[m]).toNat : Int)) := by
  obtain rfl := hn.eq
  have := Rd.idxS (P := P) (W0 := W0) (H := H) (hu := hu) hx hy (by omega) (by omega)
  have e1 : l.getD m 0 = l[m] := by rw [List.getD_eq_getElem?_getD, List.getElem?_eq_getElem h1]; rfl
  rw [Int.toNat_natCast, e1] at this
  exact this
theorem Rd.quoN {a b : Int} {m q : Nat} [h1' : NatLit a m] [h2' : NatLit b q] (hx : opv e x = some (.int .i64 a)) (hy : opv e y = some (.int .i64 b)) (h0 : 0 < q) (hm : m ≤ 9223372036854775807) : Rd P W0 H e (.binOp .quo t x y t') (.int .i64 ((m / q : Nat) : Int)) := by
  obtain rfl := h1'.eq
  obtain rfl := h2'.eq
  have h1 : m / q ≤ m := Nat.div_le_self m q
  have h2 : (m : Int).tdiv (q : Int) = ((m / q : Nat) : Int) := rfl
  refine Rd.quo hx hy (by omega) ?_
  have h3 : -9223372036854775808 ≤ ((m / q : Nat) : Int) ∧ ((m / q : Nat) : Int) ≤ 9223372036854775807 := by
    generalize m / q = r at h1; omega
  exact IntWalk.i64_in _ h3
theorem Rd.remN {a b : Int} {m q : Nat} [h1' : NatLit a m] [h2' : NatLit b q] (hx : opv e x = some (.int kk a)) (hy : opv e y = some (.int kk b)) (h0 : 0 < q) : Rd P W0 H e (.binOp .rem t x y t') (.int kk ((m % q : Nat) : Int)) := by
  obtain rfl := h1'.eq
  obtain rfl := h2'.eq
  exact Rd.rem hx hy (by omega) rfl
theorem Rd.cutSL {s : List UInt8} {a : Int} {l : Nat} [hn : NatLit a l] [hs : UnderT P t .string] (hx : opv e x = some (S s)) (hy : opv e y = some (.int kk a)) (h1 : l ≤ s.length) : Rd P W0 H e (.slice t x (some y) none none) (S (s.drop l)) := Rd.slSL hx hy hn.eq h1
theorem Rd.cutSH {s : List UInt8} {a : Int} {h : Nat} [hn : NatLit a h] [hs : UnderT P t .string] (hx : opv e x = some (S s)) (hy : opv e y = some (.int kk a)) (h1 : h ≤ s.length) : Rd P W0 H e (.slice t x none (some y) none) (S (s.take h)) := Rd.slSH hx hy hn.eq h1
theorem Rd.cutSLH {s : List UInt8} {a b : Int} {l h : Nat} {k' : IntKind} [hn : NatLit a l] [hn2 : NatLit b h] [hs : UnderT P t .string] (hx : opv e x = some (S s)) (hy : opv e y = some (.int kk a)) (hz : opv e z = some (.int k' b)) (h1 : l ≤ h) (h2 : h ≤ s.length) :
    Rd P W0 H e (.slice t x (some y) (some z) none) (S ((s.drop l).take (h - l))) := Rd.slSLH hx hy hz hn.eq hn2.eq h1 h2
theorem Rd.part {i : Nat} {vs : Array Value} (hx : opv e x = some (.tuple vs)) (hi : nth vs.toList i = some v) : Rd P W0 H e (.extract x i) v :=
  Rd.extract hx (by rw [← nth_eq]; exact hi)
theorem Eff.callPure {f : FuncId} {vs : List Value} {args : Array Operand} {ats : Array TypeId} {c : Prop} (hvs : evs e args.toList = some vs) [hp : PureF P W0 f vs c v] [hc : CallF P f] (h : c) (hR : R v H) :
    Eff P W0 e H (.call { callee := .value (.func f), args, argTypes := ats }) ty R :=
  Eff.callF (evs_mapM hvs) ((hp.out h H).mono (by rintro v' H' ⟨rfl, rfl⟩; exact hR))

/-! ### Tests -/
theorem GC.condD [Marks] {p : Prop} [Decidable p] {c : Operand} {x y : Code} (hc : opv e c = some (.bool (decide p))) (ht : p → GC P n W0 x Q e H) (hf : ¬ p → GC P n W0 y Q e H) : GC P n W0 (.cond c x y) Q e H :=
  GC.cond hc (fun h => ht (by simpa using h)) (fun h => hf (by simpa using h))
theorem GC.condN [Marks] {p : Prop} [Decidable p] {c : Operand} {x y : Code} (hc : opv e c = some (.bool (!decide p))) (ht : ¬ p → GC P n W0 x Q e H) (hf : p → GC P n W0 y Q e H) : GC P n W0 (.cond c x y) Q e H :=
  GC.cond hc (fun h => ht (by simpa using h)) (fun h => hf (by simpa using h))

/-- A guard that is not decided parts the ways. -/
theorem G.splitG [Marks] {kd : Kind} {dst : Option Nat} {j tt : Nat} {w0 b : Bool} (hj : (ops[j]?).bind (·.dst) = some tt) (hl : look e tt = some (.bool b)) (htt : Nat.blt tt n = true)
    (ht : b = true → G P ops n W0 Hs Q ((kd, ⟨dst, op, ty, pos, aft, some (j, w0)⟩) :: l) ((tt, .bool true) :: e) H) (hf : b = false → G P ops n W0 Hs Q ((kd, ⟨dst, op, ty, pos, aft, some (j, w0)⟩) :: l) ((tt, .bool false) :: e) H) :
    G P ops n W0 Hs Q ((kd, ⟨dst, op, ty, pos, aft, some (j, w0)⟩) :: l) e H := by
  intro a w f o
  have key : ∀ c, b = c → Fits n ((tt, .bool c) :: e) a := fun c hc => by
    subst hc
    refine ⟨f.size, f.defers, fun s v hs => ?_⟩
    simp only [look] at hs
    cases hb : Nat.beq s tt with
    | true =>
      rw [hb] at hs
      simp only [cond_true, Option.some.injEq] at hs
      subst hs
      have := Nat.eq_of_beq_eq_true hb
      subst this
      exact f.slot s _ hl
    | false =>
      rw [hb] at hs
      exact f.slot s v hs
  cases hb : b with
  | true => exact ht hb a w (key true hb) o
  | false => exact hf hb a w (key false hb) o
theorem G.lit [Marks] {kd : Kind} {dst : Option Nat} {j tt : Nat} {w0 : Bool} (c : Bool) (_ : (ops[j]?).bind (·.dst) = some tt) (_ : look e tt = some (.bool c))
    (h : G P ops n W0 Hs Q ((kd, ⟨dst, op, ty, pos, aft, some (j, w0)⟩) :: l) e H) : G P ops n W0 Hs Q ((kd, ⟨dst, op, ty, pos, aft, some (j, w0)⟩) :: l) e H := h
theorem G.known [Marks] {kd : Kind} {dst : Option Nat} {j tt : Nat} {w0 b : Bool} (c : Bool) (hj : (ops[j]?).bind (·.dst) = some tt) (hl : look e tt = some (.bool b)) (htt : Nat.blt tt n = true) (hb : b = c)
    (h : G P ops n W0 Hs Q ((kd, ⟨dst, op, ty, pos, aft, some (j, w0)⟩) :: l) ((tt, .bool c) :: e) H) :
    G P ops n W0 Hs Q ((kd, ⟨dst, op, ty, pos, aft, some (j, w0)⟩) :: l) e H :=
  G.splitG hj hl htt (fun h1 => by subst hb; subst h1; exact h) (fun h1 => by subst hb; subst h1; exact h)
theorem GC.condKT [Marks] {c : Operand} {x y : Code} {b : Bool} (hc : opv e c = some (.bool b)) (hb : b = true) (h : GC P n W0 x Q e H) : GC P n W0 (.cond c x y) Q e H := GC.condT (by rw [hc, hb]) h
theorem GC.condKF [Marks] {c : Operand} {x y : Code} {b : Bool} (hc : opv e c = some (.bool b)) (hb : b = false) (h : GC P n W0 y Q e H) : GC P n W0 (.cond c x y) Q e H := GC.condF (by rw [hc, hb]) h
theorem GC.condKTD [Marks] {c : Operand} {x y : Code} {p : Prop} [Decidable p] (hc : opv e c = some (.bool (decide p))) (hb : p) (h : GC P n W0 x Q e H) : GC P n W0 (.cond c x y) Q e H := GC.condT (by rw [hc, decide_eq_true hb]) h
theorem GC.condKFD [Marks] {c : Operand} {x y : Code} {p : Prop} [Decidable p] (hc : opv e c = some (.bool (decide p))) (hb : ¬ p) (h : GC P n W0 y Q e H) : GC P n W0 (.cond c x y) Q e H := GC.condF (by rw [hc, decide_eq_false hb]) h
theorem G.knownTD [Marks] {kd : Kind} {dst : Option Nat} {j tt : Nat} {w0 : Bool} {p : Prop} [Decidable p] (hj : (ops[j]?).bind (·.dst) = some tt) (hl : look e tt = some (.bool (decide p))) (htt : Nat.blt tt n = true) (hb : p)
    (h : G P ops n W0 Hs Q ((kd, ⟨dst, op, ty, pos, aft, some (j, w0)⟩) :: l) ((tt, .bool true) :: e) H) : G P ops n W0 Hs Q ((kd, ⟨dst, op, ty, pos, aft, some (j, w0)⟩) :: l) e H := G.known true hj hl htt (decide_eq_true hb) h
theorem G.knownFD [Marks] {kd : Kind} {dst : Option Nat} {j tt : Nat} {w0 : Bool} {p : Prop} [Decidable p] (hj : (ops[j]?).bind (·.dst) = some tt) (hl : look e tt = some (.bool (decide p))) (htt : Nat.blt tt n = true) (hb : ¬ p)
    (h : G P ops n W0 Hs Q ((kd, ⟨dst, op, ty, pos, aft, some (j, w0)⟩) :: l) ((tt, .bool false) :: e) H) : G P ops n W0 Hs Q ((kd, ⟨dst, op, ty, pos, aft, some (j, w0)⟩) :: l) e H := G.known false hj hl htt (decide_eq_false hb) h
theorem G.splitD [Marks] {kd : Kind} {dst : Option Nat} {j tt : Nat} {w0 : Bool} {p : Prop} [Decidable p] (hj : (ops[j]?).bind (·.dst) = some tt) (hl : look e tt = some (.bool (decide p))) (htt : Nat.blt tt n = true)
    (ht : p → G P ops n W0 Hs Q ((kd, ⟨dst, op, ty, pos, aft, some (j, w0)⟩) :: l) ((tt, .bool true) :: e) H) (hf : ¬ p → G P ops n W0 Hs Q ((kd, ⟨dst, op, ty, pos, aft, some (j, w0)⟩) :: l) ((tt, .bool false) :: e) H) :
    G P ops n W0 Hs Q ((kd, ⟨dst, op, ty, pos, aft, some (j, w0)⟩) :: l) e H :=
  G.splitG hj hl htt (fun h => ht (by simpa using h)) (fun h => hf (by simpa using h))
theorem G.splitN [Marks] {kd : Kind} {dst : Option Nat} {j tt : Nat} {w0 : Bool} {p : Prop} [Decidable p] (hj : (ops[j]?).bind (·.dst) = some tt) (hl : look e tt = some (.bool (!decide p))) (htt : Nat.blt tt n = true)
    (ht : ¬ p → G P ops n W0 Hs Q ((kd, ⟨dst, op, ty, pos, aft, some (j, w0)⟩) :: l) ((tt, .bool true) :: e) H) (hf : p → G P ops n W0 Hs Q ((kd, ⟨dst, op, ty, pos, aft, some (j, w0)⟩) :: l) ((tt, .bool false) :: e) H) :
    G P ops n W0 Hs Q ((kd, ⟨dst, op, ty, pos, aft, some (j, w0)⟩) :: l) e H :=
  G.splitG hj hl htt (fun h => ht (by simpa using h)) (fun h => hf (by simpa using h))

/-! ### Loops by what turns in them -/
theorem GC.loopE [Marks] {ι : Type} {c : Code} (Ev : ι → Env) (Ec : Env) (F : ι → Heap) (μ : ι → Nat) (i0 : ι) (hs : Sub (Ev i0 ++ Ec) e) (hp : ∀ w, Own W0 H w → Own W0 (F i0) w)
    (round : ∀ i, GC P n W0 c (Exit.then (Back n W0 (fun i => Ev i ++ Ec) F μ (μ i)) Q) (Ev i ++ Ec) (F i)) : GC P n W0 (.loop c) Q e H :=
  GC.loop (fun i => Ev i ++ Ec) F μ i0 hs hp round
theorem GC.cutE [Marks] {ι : Type} {x y : Code} (Ev : ι → Env) (Ec : Env) (F : ι → Heap) (hx : GC P n W0 x (Exit.then (CutTo n W0 (fun i => Ev i ++ Ec) F) Q) e H)
    (hy : ∀ j, GC P n W0 y Q (Ev j ++ Ec) (F j)) : GC P n W0 (.seq x y) Q e H :=
  GC.cut (fun i => Ev i ++ Ec) F hx hy

/-! ### New blocks, of one cell or more -/
theorem Eff.alloc1 [hz : ZeroT P t v] (h1 : v.cells = #[v]) (hR : ∀ b, R (.pointer (some ⟨b, 0, none⟩)) ((b, .cells #[v] t (0, 0)) :: H)) : Eff P W0 e H (.alloc t) ty R :=
  Eff.alloc (hz := hz) fun b => by rw [h1]; exact hR b
theorem Eff.allocA {cs : List Value} [hz : ZeroT P t (.agg cs.toArray)] (hR : ∀ b, R (.pointer (some ⟨b, 0, none⟩)) ((b, .cells cs.toArray t (0, 0)) :: H)) : Eff P W0 e H (.alloc t) ty R :=
  Eff.alloc (hz := hz) fun b => hR b
theorem Eff.allocAA {cs : Array Value} [hz : ZeroT P t (.agg cs)] (hR : ∀ b, R (.pointer (some ⟨b, 0, none⟩)) ((b, .cells cs t (0, 0)) :: H)) : Eff P W0 e H (.alloc t) ty R :=
  Eff.alloc (hz := hz) fun b => hR b
theorem Eff.box1 (hx : opv e x = some v) (h1 : v.cells = #[v]) (hR : ∀ b, R (.pointer (some ⟨b, 0, none⟩)) ((b, .cells #[v] t (0, 0)) :: H)) : Eff P W0 e H (.box t x) ty R :=
  Eff.box hx fun b => by rw [h1]; exact hR b
theorem Eff.boxA {cs : Array Value} (hx : opv e x = some (.agg cs)) (hR : ∀ b, R (.pointer (some ⟨b, 0, none⟩)) ((b, .cells cs t (0, 0)) :: H)) : Eff P W0 e H (.box t x) ty R :=
  Eff.box hx fun b => hR b

/-! ### A part of what is owned, wherever it stands -/
end
class Pull (H B : Heap) (R : outParam Heap) : Prop where
  out : H.Perm (B ++ R)
instance Pull.here {B R : Heap} : Pull (B ++ R) B R := ⟨.refl _⟩
instance (priority := low) Pull.all {B : Heap} : Pull B B [] := ⟨by rw [List.append_nil]⟩
instance (priority := low) Pull.cons {x : Nat × Obj} {H B R : Heap} [h : Pull H B R] : Pull (x :: H) B (x :: R) := ⟨(h.out.cons x).trans List.perm_middle.symm⟩
instance (priority := low) Pull.app {C H B R : Heap} [h : Pull H B R] : Pull (C ++ H) B (C ++ R) := ⟨(h.out.append_left C).trans (List.perm_append_comm_assoc C B R)⟩
section
variable {P : Program} {ops : Array Oper} {n : Nat} {W0 : World} {Hs H X : Heap} {Q : Exit → Act → World → Prop} {l : List (Kind × Oper)} {e : Env} {k : Kind} {op : Op} {t t' ty : TypeId} {pos : String} {aft : Array Edge} {d : Nat} {v u : Value} {g : Option (Nat × Bool)} {dst : Option Nat} {x y z : Operand} {R : Value → Heap → Prop} {kk : IntKind} {a b : Int}
instance (priority := low) Has.left {B F : Heap} {b : Nat} {o : Obj} [h : Has B b o] : Has (B ++ F) b o := ⟨List.mem_append_left _ h.out⟩
instance (priority := low) Spot.left {B F : Heap} {b : Nat} {o : Obj} {put : Obj → Heap} [h : Spot B b o put] : Spot (B ++ F) b o (fun o' => put o' ++ F) := by
  obtain ⟨R, h1, h2⟩ := h.out
  exact ⟨R ++ F, h1.append_right F, fun o' => (h2 o').append_right F⟩
theorem Buf.parts {el size n : Nat} {v : Value} {xs : List Value} {B : Heap} (h : Buf el size v n xs B) : (v = .slice none 0 0 ∧ n = 0 ∧ xs = [] ∧ B = []) ∨
    ∃ b cap extra, v = .slice (some ⟨b, 0, none⟩) n cap ∧ B = [(b, .cells (xs ++ extra).toArray el (0, 0))] ∧ n ≤ cap ∧ xs.length + extra.length = cap * size ∧ cap ≤ 9223372036854775807 := by
  cases h with
  | nil => exact .inl ⟨rfl, rfl, rfl, rfl⟩
  | row b n cap xs extra h1 h2 h3 h4 => exact .inr ⟨b, cap, extra, rfl, rfl, h3, h2, h4⟩
/-- A number that is a byte's. -/
class ByteLit (a : Int) (b : outParam UInt8) : Prop where
  eq : a = (b.toNat : Int)
instance {b : UInt8} : ByteLit (b.toNat : Int) b := ⟨rfl⟩
instance : ByteLit 255 255 := ⟨rfl⟩
theorem Eff.storeU {bk m : Nat} {l : List UInt8} {b : UInt8} {a : Int} {el : TypeId} {put : Obj → Heap} (hx : opv e x = some (.pointer (some ⟨bk, 0 + m * 1, none⟩))) (hy : opv e y = some (.int .u8 a)) [hb : ByteLit a b] [ht : OneT P t] [hs : Spot H bk (.cells (u8s l).toArray el (0, 0)) put]
    (hk : m < l.length) (hR : R undef (put (.cells (u8s (l.set m b)).toArray el (0, 0)))) : Eff P W0 e H (.store t x y) ty R := by
  have h1 := set_u8s l [] m hk b
  rw [List.append_nil, List.append_nil] at h1
  rw [hb.eq] at hy
  refine Eff.store hx hy rfl (by simp [u8s_length]; omega) (by simp [Fz]) ?_
  rw [h1]; exact hR
theorem Eff.storeUx {bk m : Nat} {l : List UInt8} {extra : List Value} {b : UInt8} {a : Int} {el : TypeId} {fr : Nat × Nat} {put : Obj → Heap} (hx : opv e x = some (.pointer (some ⟨bk, 0 + m * 1, none⟩))) (hy : opv e y = some (.int .u8 a)) [hb : ByteLit a b] [ht : OneT P t] [hs : Spot H bk (.cells (u8s l ++ extra).toArray el fr) put]
    (hk : m < l.length) (hf : Fz fr (0 + m * 1)) (hR : R undef (put (.cells (u8s (l.set m b) ++ extra).toArray el fr))) : Eff P W0 e H (.store t x y) ty R := by
  have h1 := set_u8s l extra m hk b
  rw [hb.eq] at hy
  refine Eff.store hx hy rfl (by simp [u8s_length]; omega) hf ?_
  rw [h1]; exact hR
/-- append, onto what the run made. -/
theorem Eff.app {el size bytes n m sc : Nat} {q : Option Addr} {xs ys : List Value} {B F : Heap} {tt : TypeId} {zz : Value} [hT : SliceT P tt el size bytes zz] (hx : opv e x = some v) (hB : Buf el size v n xs B) (hy : opv e y = some (.slice q m sc))
    [hH : Pull H B F] (hsz : 0 < size) (hlen : ys.length = m * size) (hys : ∀ w, Own W0 H w → At w q ys) (h1 : ∀ u ∈ ys, u.oneCell' = true) (hm : n + m ≤ 9223372036854775807) (hby : (n + m) * bytes ≤ 140737488355328)
    (hR : ∀ v' B', Buf el size v' (n + m) (xs ++ ys) B' → R v' (B' ++ F)) : Eff P W0 e H (.call { callee := .builtin .append, args := #[x, y], argTypes := #[tt, tt] }) ty R :=
  Eff.append hsz hx hB hy hH.out hlen hys h1 hm hby hR
theorem Eff.appU {el sc : Nat} {q : Option Addr} {xs ys : List UInt8} {B F : Heap} {tt : TypeId} {zz : Value} [hT : SliceT P tt el 1 1 zz] (hx : opv e x = some v) (hB : Buf el 1 v xs.length (u8s xs) B) (hy : opv e y = some (.slice q ys.length sc))
    [hH : Pull H B F] (hys : ∀ w, Own W0 H w → At w q (u8s ys)) (hm : xs.length + ys.length ≤ 140737488355328)
    (hR : ∀ v' B', Buf el 1 v' (xs ++ ys).length (u8s (xs ++ ys)) B' → R v' (B' ++ F)) : Eff P W0 e H (.call { callee := .builtin .append, args := #[x, y], argTypes := #[tt, tt] }) ty R :=
  Eff.appendU8 hx hB hy hH.out hys hm hR
theorem at_here {bk : Nat} {cs : List Value} {el : TypeId} {fr : Nat × Nat} [h : Has H bk (.cells cs.toArray el fr)] : ∀ w, Own W0 H w → At w (some ⟨bk, 0, none⟩) cs :=
  fun w hw => .inr ⟨bk, 0, rfl, cellsH (h := h) (fun j u hj => by simpa using hj) w hw⟩
theorem at_ahead {bk : Nat} {cs extra : List Value} {el : TypeId} {fr : Nat × Nat} [h : Has H bk (.cells (cs ++ extra).toArray el fr)] : ∀ w, Own W0 H w → At w (some ⟨bk, 0, none⟩) cs :=
  fun w hw => .inr ⟨bk, 0, rfl, cellsH (h := h) (fun j u hj => by
    have hlt := (List.getElem?_eq_some_iff.1 hj).1
    simp [List.getElem?_append_left hlt, hj]) w hw⟩

/-! ### The end of a function that answers by a value -/
theorem GQ.pure1 {fn : Func} {F : Heap} {r : ResultVar} {v' : Value} [hs : SubH F H] (hr : fn.results = #[r]) (h1 : RvIs P W0 e H r v') (h : v' = v) :
    GQ n W0 .ret (bodyPost P fn (fun x w' => ∃ u H', x = .returned u ∧ (u = v ∧ H' = F) ∧ Own W0 H' w')) e H :=
  GQ.res1h hr h1 F (fun _ hw => hw.sub hs.out) ⟨h, rfl⟩
theorem GQ.pure2 {fn : Func} {F : Heap} {r r' : ResultVar} {v1 v2 : Value} [hs : SubH F H] (hr : fn.results = #[r, r']) (h1 : RvIs P W0 e H r v1) (h2 : RvIs P W0 e H r' v2) (h : .tuple #[v1, v2] = v) :
    GQ n W0 .ret (bodyPost P fn (fun x w' => ∃ u H', x = .returned u ∧ (u = v ∧ H' = F) ∧ Own W0 H' w')) e H :=
  GQ.res2h hr h1 h2 F (fun _ hw => hw.sub hs.out) ⟨h, rfl⟩
theorem RvIs.one [Marks] {x : Tmp} {b o : Nat} {cs : Array Value} {el : TypeId} {fr : Nat × Nat} [ht : OneT P t] (h : look e x = some (.pointer (some ⟨b, o, none⟩))) [hh : Has H b (.cells cs el fr)] (hv : cs[o]? = some v) : RvIs P W0 e H (.cell x t) v := fun n a w hf hw => by
  have h1 := cellH (h := hh) hv w hw
  simp [rvSem, hf.slot x _ h, asAddr, loadVar, ht.agg, h1]
theorem RvIs.aggA [Marks] {x : Tmp} {b size : Nat} {cs : Array Value} {el : TypeId} {fr : Nat × Nat} [ht : AggT P t size] (h : look e x = some (.pointer (some ⟨b, 0, none⟩))) [hh : Has H b (.cells cs el fr)] (hl : cs.size = size) : RvIs P W0 e H (.cell x t) (.agg cs) := by
  have := RvIs.agg (cs := cs.toList) (P := P) (W0 := W0) (ht := ht) h (hh := hh) (by simpa using hl)
  simpa using this
end
end Go.Own
