/-
  THE JUDGEMENTS OF A WALK over slots and owned memory, and what each operation that only reads comes to: general laws over any program.
-/
import Derived.Test.YtlakopiopplfhaaGreatDoorOwnA
import Derived.IntWalk
import Derived.LoopTactic
namespace Go.Own
open Go.RowKit

/-! ### The judgements -/
def GC [Marks] (P : Program) (n : Nat) (W0 : World) (c : Code) (Q : Exit → Act → World → Prop) (e : Env) (H : Heap) : Prop :=
  ∀ a w, Fits n e a → Own W0 H w → c.wp P Q a w
def GQ [Marks] (n : Nat) (W0 : World) (x : Exit) (Q : Exit → Act → World → Prop) (e : Env) (H : Heap) : Prop :=
  ∀ a w, Fits n e a → Own W0 H w → Q x a w
def G [Marks] (P : Program) (ops : Array Oper) (n : Nat) (W0 : World) (Hs : Heap) (Q : Exit → Act → World → Prop) (l : List (Kind × Oper)) (e : Env) (H : Heap) : Prop :=
  ∀ a w, Fits n e a → Own W0 H w → wpSched P ops (Own W0 Hs) (Q .normal) l a w

/-- A part of what is owned. -/
class SubH (Hs H : Heap) : Prop where
  out : Hs.Sublist H
instance SubH.refl {H : Heap} : SubH H H := ⟨.refl _⟩
instance (priority := low) SubH.cons2 {x : Nat × Obj} {Hs H : Heap} [h : SubH Hs H] : SubH (x :: Hs) (x :: H) := ⟨h.out.cons_cons x⟩
instance (priority := low) SubH.skip {x : Nat × Obj} {Hs H : Heap} [h : SubH Hs H] : SubH Hs (x :: H) := ⟨h.out.cons x⟩

/-- Where an operation's facts are drawn from, by its kind. -/
class Src (k : Kind) (Hs H : Heap) (X : outParam Heap) : Prop where
  own : ∀ {W0 w}, Own W0 H w → Own W0 X w
  read : k ≠ .tail → X = Hs
  ne : k ≠ .eff
instance Src.tail {Hs H : Heap} : Src .tail Hs H H := ⟨id, fun h => absurd rfl h, by simp⟩
instance Src.read' {Hs H : Heap} [h : SubH Hs H] : Src .read Hs H Hs := ⟨fun o => o.sub h.out, fun _ => rfl, by simp⟩

/-- What an acting operation must leave, by its kind. -/
class Keeps (k : Kind) (Hs H : Heap) : Prop where
  out : ∀ {W0 w}, Own W0 H w → k = .eff → Own W0 Hs w
  ne : k ≠ .read
instance Keeps.tail {Hs H : Heap} : Keeps .tail Hs H := ⟨fun _ h => (by cases h), by simp⟩
instance Keeps.eff {Hs H : Heap} [h : SubH Hs H] : Keeps .eff Hs H := ⟨fun o _ => o.sub h.out, by simp⟩

/-! ### Guards -/
def gv (ops : Array Oper) (e : Env) : Option (Nat × Bool) → Option Bool
  | none => some true
  | some (j, want) => match (ops[j]?).bind (·.dst) with
    | some t => match look e t with
      | some (.bool b) => some (bif want then b else !b)
      | some (.tuple _) => some false
      | _ => none
    | none => none

theorem gv_wanted [Marks] {ops : Array Oper} {e : Env} {n : Nat} {a : Act} {o : Oper} {c : Bool} (hf : Fits n e a) (h : gv ops e o.guard = some c) : Region.wanted o (yielded ops a.tmps) = c := by
  unfold Region.wanted
  cases hg : o.guard with
  | none => rw [hg] at h; simp only [gv, Option.some.injEq] at h; exact h
  | some jw =>
    obtain ⟨j, want⟩ := jw
    rw [hg] at h
    simp only [gv] at h
    split at h
    · rename_i t ht
      split at h
      · rename_i b hb
        have hs := hf.slot t _ hb
        simp only [Option.some.injEq] at h
        subst h
        simp only [yielded, ht, Option.bind_some, hs]
        cases want <;> cases b <;> rfl
      · rename_i vs hb
        have hs := hf.slot t _ hb
        simp only [Option.some.injEq] at h
        subst h
        simp only [yielded, ht, Option.bind_some, hs]
        cases want <;> rfl
      · cases h
    · cases h

/-! ### Operations that only read -/
/-- Where the slots hold what e tells and H is owned the operation yields v, and turns nothing. -/
def Rd (P : Program) (W0 : World) (H : Heap) (e : Env) (op : Op) (v : Value) : Prop :=
  ∀ ρ, Ev e ρ → ∀ w, Own W0 H w → ∀ o : Oper, o.op = op → (execOp ρ o).run P w = .ok (.value v) w

section walk
variable {P : Program} {ops : Array Oper} {n : Nat} {W0 : World} {Hs H X : Heap} {Q : Exit → Act → World → Prop} {l : List (Kind × Oper)} {e : Env} {k : Kind} {op : Op} {ty : TypeId} {pos : String} {aft : Array Edge} {d : Nat} {v : Value} {g : Option (Nat × Bool)} {dst : Option Nat}

theorem G.nil [Marks] (h : GQ n W0 .normal Q e H) : G P ops n W0 Hs Q [] e H := h

theorem wpSched_val {o : Oper} {a : Act} {w : World} {S : World → Prop} {R : Act → World → Prop} (hw : Region.wanted o (yielded ops a.tmps) = true) (hk : k ≠ .eff) (hS : k ≠ .tail → S w)
    (hr : ∀ w', (if k = .tail then w' = w else S w') → (execOp a.eval o).run P w' = .ok (.value v) w') (h : wpSched P ops S R l (a.put o.dst v) w) : wpSched P ops S R ((k, o) :: l) a w := by
  refine ⟨S, fun _ h => h, ?_⟩
  simp only [hw, if_true]
  cases k with
  | read => exact ⟨v, hS (by simp), fun w' hw' => hr w' (by simpa using hw'), h⟩
  | eff => exact absurd rfl hk
  | tail =>
    have := hr w (by simp)
    simp only [Oper.wp, this, Oper.upon]
    exact h

theorem G.rd [Marks] [hs : Src k Hs H X] (hr : Rd P W0 X e op v) (hg : gv ops e g = some true) (hd : Nat.blt d n = true) (h : G P ops n W0 Hs Q l ((d, v) :: e) H) :
    G P ops n W0 Hs Q ((k, ⟨some d, op, ty, pos, aft, g⟩) :: l) e H := by
  intro a w hf ho
  refine wpSched_val (v := v) (gv_wanted hf hg) hs.ne (fun hk => by have := hs.own ho; rwa [hs.read hk] at this) (fun w' hw' => ?_) (h _ _ (hf.put hd v) ho)
  refine hr _ hf.ev w' ?_ _ rfl
  by_cases hk : k = .tail
  · rw [if_pos hk] at hw'; subst hw'; exact hs.own ho
  · rw [if_neg hk] at hw'; rw [hs.read hk]; exact hw'

/-- An operation that its guard shuts out. -/
theorem G.skip [Marks] [hs : Src k Hs H X] (hg : gv ops e g = some false) (hd : Nat.blt d n = true) (h : G P ops n W0 Hs Q l ((d, undef) :: e) H) :
    G P ops n W0 Hs Q ((k, ⟨some d, op, ty, pos, aft, g⟩) :: l) e H := by
  intro a w hf ho
  refine ⟨_, fun _ h => h, ?_⟩
  rw [if_neg (by rw [gv_wanted hf hg]; simp)]
  exact ⟨fun hk => by have := hs.own ho; rwa [hs.read hk] at this, h _ _ (hf.put hd _) ho⟩
theorem G.skip_eff [Marks] [hs : SubH Hs H] (hg : gv ops e g = some false) (hd : Nat.blt d n = true) (h : G P ops n W0 Hs Q l ((d, undef) :: e) H) :
    G P ops n W0 Hs Q ((.eff, ⟨some d, op, ty, pos, aft, g⟩) :: l) e H := by
  intro a w hf ho
  refine ⟨_, fun _ h => h, ?_⟩
  rw [if_neg (by rw [gv_wanted hf hg]; simp)]
  exact ⟨fun _ => ho.sub hs.out, h _ _ (hf.put hd _) ho⟩

/-- What an acting operation comes to: from here it goes on by 'R', told of its value and of what is owned. -/
def Eff (P : Program) (W0 : World) (e : Env) (H : Heap) (op : Op) (ty : TypeId) (R : Value → Heap → Prop) : Prop :=
  ∀ a w, Ev e a.eval → Own W0 H w → ∀ o : Oper, o.op = op → o.type = ty → ∀ next : Act → World → Prop, (∀ v H' w', R v H' → Own W0 H' w' → next (a.put o.dst v) w') → o.wp P a w next noQ

theorem Eff.mono {R R' : Value → Heap → Prop} (h : Eff P W0 e H op ty R) (hR : ∀ v H', R v H' → R' v H') : Eff P W0 e H op ty R' :=
  fun a w he ho o h1 h2 next hn => h a w he ho o h1 h2 next (fun v H' w' r => hn v H' w' (hR _ _ r))

def putE (dst : Option Nat) (v : Value) (e : Env) : Env := match dst with | some d => (d, v) :: e | none => e

theorem Fits.putE [Marks] {a : Act} (hf : Fits n e a) (hd : dst.all (Nat.blt · n) = true) (v : Value) : Fits n (putE dst v e) (a.put dst v) := by
  cases dst with
  | none => exact hf
  | some d => exact hf.put (by simpa using hd) v

theorem G.ef [Marks] (hk : k = .tail) (hg : gv ops e g = some true) (hd : dst.all (Nat.blt · n) = true) (he : Eff P W0 e H op ty (fun v H' => G P ops n W0 Hs Q l (putE dst v e) H')) :
    G P ops n W0 Hs Q ((k, ⟨dst, op, ty, pos, aft, g⟩) :: l) e H := by
  subst hk
  intro a w hf ho
  refine ⟨_, fun _ h => h, ?_⟩
  rw [if_pos (gv_wanted hf hg)]
  exact he a w hf.ev ho _ rfl rfl _ (fun v H' w' hG ho' => hG _ _ (hf.putE hd v) ho')

/-- The same, of an operation behind which the region's own reading goes on. -/
theorem G.ee [Marks] (hk : k = .eff) (hg : gv ops e g = some true) (hd : dst.all (Nat.blt · n) = true) (he : Eff P W0 e H op ty (fun v H' => SubH Hs H' ∧ G P ops n W0 Hs Q l (putE dst v e) H')) :
    G P ops n W0 Hs Q ((k, ⟨dst, op, ty, pos, aft, g⟩) :: l) e H := by
  subst hk
  intro a w hf ho
  refine ⟨_, fun _ h => h, ?_⟩
  rw [if_pos (gv_wanted hf hg)]
  exact he a w hf.ev ho _ rfl rfl _ (fun v H' w' hG ho' => ⟨ho'.sub hG.1.out, hG.2 _ _ (hf.putE hd v) ho'⟩)

/-! ### Code -/
theorem GC.seq [Marks] {x y : Code} (h : GC P n W0 x (Exit.then (y.wp P Q) Q) e H) : GC P n W0 (.seq x y) Q e H := fun a w hf ho => wp_seq (h a w hf ho)
theorem GQ.then [Marks] {y : Code} (h : GC P n W0 y Q e H) : GQ n W0 .normal (Exit.then (y.wp P Q) Q) e H := h
theorem GQ.thenRet [Marks] {K : Act → World → Prop} (h : GQ n W0 .ret Q e H) : GQ n W0 .ret (Exit.then K Q) e H := h
theorem GQ.thenExit [Marks] {K : Act → World → Prop} {i : Nat} (h : GQ n W0 (.exit i) Q e H) : GQ n W0 (.exit i) (Exit.then K Q) e H := h
theorem GC.block [Marks] {i : Nat} {c : Code} (h : GC P n W0 c (Exit.inBlock i Q) e H) : GC P n W0 (.block i c) Q e H := fun a w hf ho => wp_block (h a w hf ho)
theorem GQ.inBlock [Marks] {i : Nat} (h : GQ n W0 .normal Q e H) : GQ n W0 .normal (Exit.inBlock i Q) e H := h
theorem GQ.inBlockRet [Marks] {i : Nat} (h : GQ n W0 .ret Q e H) : GQ n W0 .ret (Exit.inBlock i Q) e H := h
theorem GQ.inBlockHit [Marks] {i j : Nat} (hij : Nat.beq j i = true) (h : GQ n W0 .normal Q e H) : GQ n W0 (.exit j) (Exit.inBlock i Q) e H := by
  have := Nat.eq_of_beq_eq_true hij
  subst this
  intro a w hf ho
  simp only [Exit.inBlock, if_true]
  exact h a w hf ho
theorem GQ.inBlockMiss [Marks] {i j : Nat} (hij : Nat.beq j i = false) (h : GQ n W0 (.exit j) Q e H) : GQ n W0 (.exit j) (Exit.inBlock i Q) e H := by
  have : j ≠ i := by rintro rfl; simp at hij
  intro a w hf ho
  simp only [Exit.inBlock, if_neg this]
  exact h a w hf ho
theorem GC.exit [Marks] {i : Nat} (h : GQ n W0 (.exit i) Q e H) : GC P n W0 (.exit i) Q e H := fun a w hf ho => wp_exit (h a w hf ho)
theorem GC.ret [Marks] (h : GQ n W0 .ret Q e H) : GC P n W0 .ret Q e H := fun a w hf ho => wp_ret (h a w hf ho)
theorem GC.skip [Marks] (h : GQ n W0 .normal Q e H) : GC P n W0 .skip Q e H := fun a w hf ho => wp_skip (h a w hf ho)
theorem GC.label [Marks] {i : Nat} (h : GQ n W0 .normal Q e H) : GC P n W0 (.label i) Q e H := fun a w hf ho => wp_label (h a w hf ho)
theorem GC.region [Marks] {i : Nat} {L : List Oper} (h : G P L.toArray n W0 H Q (L.map fun o => (.tail, o)) e H) : GC P n W0 (.region i L.toArray false) Q e H :=
  fun a w hf ho => wp_region_lit (wpList_of_sched _ _ _ _ (h a w hf ho))
theorem GC.drawn [Marks] {i : Nat} {ops : Array Oper} {L : List (Kind × Oper)} (s : List (Nat × Kind)) (Hs : Heap) (hm : P.follows .mixedOrders = true) (hB : okSched ops s = true) (hL : pickOps ops s = L)
    (h : G P ops n W0 Hs Q L e H) : GC P n W0 (.region i ops true) Q e H :=
  fun a w hf ho => wp_region_sched s hm hB (by rw [hL]; exact h a _ hf (ho.drawn _ (Nat.le_succ _)))
theorem GC.drawnH [Marks] {i : Nat} {ops : Array Oper} {L : List (Kind × Oper)} (s : List (Nat × Kind)) (hm : P.follows .mixedOrders = true) (hB : okSched ops s = true) (hL : pickOps ops s = L)
    (h : G P ops n W0 H Q L e H) : GC P n W0 (.region i ops true) Q e H := GC.drawn s H hm hB hL h
theorem GC.cond [Marks] {c : Operand} {x y : Code} {b : Bool} (hc : opv e c = some (.bool b)) (ht : b = true → GC P n W0 x Q e H) (hf : b = false → GC P n W0 y Q e H) : GC P n W0 (.cond c x y) Q e H :=
  fun a w f o => wp_cond_split (f.ev c _ hc) (fun h => ht h a w f o) (fun h => hf h a w f o)
theorem GC.condT [Marks] {c : Operand} {x y : Code} (hc : opv e c = some (.bool true)) (ht : GC P n W0 x Q e H) : GC P n W0 (.cond c x y) Q e H :=
  fun a w f o => wp_cond_true (f.ev c _ hc) (ht a w f o)
theorem GC.condF [Marks] {c : Operand} {x y : Code} (hc : opv e c = some (.bool false)) (ht : GC P n W0 y Q e H) : GC P n W0 (.cond c x y) Q e H :=
  fun a w f o => wp_cond_false (f.ev c _ hc) (ht a w f o)

/-- Less is told, of slots and of memory. -/
theorem GC.weak [Marks] {c : Code} {e' : Env} {H' : Heap} (h : GC P n W0 c Q e' H') (hs : Sub e' e) (hp : ∀ w, Own W0 H w → Own W0 H' w) : GC P n W0 c Q e H :=
  fun a w hf ho => h a w (hf.sub hs) (hp w ho)
theorem GQ.weak [Marks] {x : Exit} {e' : Env} {H' : Heap} (h : GQ n W0 x Q e' H') (hs : Sub e' e) (hp : ∀ w, Own W0 H w → Own W0 H' w) : GQ n W0 x Q e H :=
  fun a w hf ho => h a w (hf.sub hs) (hp w ho)

theorem GC.heap [Marks] {c : Code} {H' : Heap} (h : GC P n W0 c Q e H') (hp : ∀ w, Own W0 H w → Own W0 H' w) : GC P n W0 c Q e H := fun a w hf ho => h a w hf (hp w ho)
theorem GQ.heap [Marks] {x : Exit} {H' : Heap} (h : GQ n W0 x Q e H') (hp : ∀ w, Own W0 H w → Own W0 H' w) : GQ n W0 x Q e H := fun a w hf ho => h a w hf (hp w ho)
theorem G.heap [Marks] {H' : Heap} (h : G P ops n W0 Hs Q l e H') (hp : ∀ w, Own W0 H w → Own W0 H' w) : G P ops n W0 Hs Q l e H := fun a w hf ho => h a w hf (hp w ho)

/-- The round's end: one frame and memory out of the family, with a smaller measure. -/
def Back [Marks] {ι : Type} (n : Nat) (W0 : World) (E : ι → Env) (F : ι → Heap) (μ : ι → Nat) (m : Nat) : Act → World → Prop := fun a w => ∃ j, μ j < m ∧ Fits n (E j) a ∧ Own W0 (F j) w
/-- The end of a piece: one frame and memory out of the family. -/
def CutTo [Marks] {ι : Type} (n : Nat) (W0 : World) (E : ι → Env) (F : ι → Heap) : Act → World → Prop := fun a w => ∃ j, Fits n (E j) a ∧ Own W0 (F j) w

/-- A loop, by a family of frames and owned memories, and a measure. -/
theorem GC.loop [Marks] {ι : Type} {c : Code} (E : ι → Env) (F : ι → Heap) (μ : ι → Nat) (i0 : ι) (hs : Sub (E i0) e) (hp : ∀ w, Own W0 H w → Own W0 (F i0) w)
    (round : ∀ i, GC P n W0 c (Exit.then (Back n W0 E F μ (μ i)) Q) (E i) (F i)) : GC P n W0 (.loop c) Q e H := by
  intro a w hf ho
  refine wp_loop_idx E F μ Q round (μ i0) i0 rfl a w (hf.sub hs) (hp w ho)
where
  wp_loop_idx [Marks] {ι : Type} {c : Code} (E : ι → Env) (F : ι → Heap) (μ : ι → Nat) (Q : Exit → Act → World → Prop)
      (round : ∀ i, GC P n W0 c (Exit.then (Back n W0 E F μ (μ i)) Q) (E i) (F i)) :
      ∀ (m : Nat) (i : ι), μ i = m → ∀ a w, Fits n (E i) a → Own W0 (F i) w → (Code.loop c).wp P Q a w := by
    intro m i hm a w hf ho b kk cs
    have key : ∀ (m : Nat) (i : ι), μ i = m → ∀ a w, Fits n (E i) a → Own W0 (F i) w →
        ∃ x a' w', Q x a' w' ∧ Arrives P (lone (b.at a (.code c :: .inLoop c :: kk)) cs w) b kk cs x a' w' := by
      intro m
      induction m using Nat.strongRecOn with
      | _ m ih =>
        intro i hm a w hf ho
        obtain ⟨x, a₁, w₁, hq, harr⟩ := round i a w hf ho b (.inLoop c :: kk) cs
        cases x with
        | normal =>
          obtain ⟨j, hlt, hf1, ho1⟩ := hq
          obtain ⟨x₂, a₂, w₂, hq₂, harr₂⟩ := ih (μ j) (hm ▸ hlt) j rfl a₁ w₁ hf1 ho1
          exact ⟨x₂, a₂, w₂, hq₂, .of_steps (Steps.trans harr (.one step_inLoop)) harr₂⟩
        | exit id => exact ⟨_, a₁, w₁, hq, .pass (x := .inLoop c) rfl (fun _ _ => .inl (by simp)) harr⟩
        | goto l => exact ⟨_, a₁, w₁, hq, .pass (x := .inLoop c) rfl (fun _ _ => .inl (by simp)) harr⟩
        | ret => exact ⟨_, a₁, w₁, hq, .pass (x := .inLoop c) rfl (fun _ _ => .inl (by simp)) harr⟩
        | panic ch => exact ⟨_, a₁, w₁, hq, .pass (x := .inLoop c) rfl (fun _ _ => .inl (by simp)) harr⟩
        | outgrown => exact ⟨_, a₁, w₁, hq, .pass (x := .inLoop c) rfl (fun _ _ => .inl (by simp)) harr⟩
    obtain ⟨x, a', w', hq, harr⟩ := key m i hm a w hf ho
    exact ⟨x, a', w', hq, .of_steps (.one step_loop) harr⟩

/-- The round's end. -/
theorem GQ.back [Marks] {ι : Type} {E : ι → Env} {F : ι → Heap} {μ : ι → Nat} {m : Nat} (j : ι) (hm : μ j < m) (hs : Sub (E j) e) (hp : ∀ w, Own W0 H w → Own W0 (F j) w) :
    GQ n W0 .normal (Exit.then (Back n W0 E F μ m) Q) e H :=
  fun _ w hf ho => ⟨j, hm, hf.sub hs, hp w ho⟩

/-- What stands behind both ways of a test, once: x comes to one frame and memory out of a family, and y goes on from there. -/
theorem GC.cut [Marks] {ι : Type} {x y : Code} (E : ι → Env) (F : ι → Heap) (hx : GC P n W0 x (Exit.then (CutTo n W0 E F) Q) e H)
    (hy : ∀ j, GC P n W0 y Q (E j) (F j)) : GC P n W0 (.seq x y) Q e H := by
  intro a w hf ho
  refine wp_seq (Code.wp_mono (fun x' a' w' q => ?_) (hx a w hf ho))
  cases x' with
  | normal => obtain ⟨j, h1, h2⟩ := q; exact hy j a' w' h1 h2
  | _ => exact q
theorem GQ.cutEnd [Marks] {ι : Type} {E : ι → Env} {F : ι → Heap} (j : ι) (hs : Sub (E j) e) (hp : ∀ w, Own W0 H w → Own W0 (F j) w) :
    GQ n W0 .normal (Exit.then (CutTo n W0 E F) Q) e H :=
  fun _ w hf ho => ⟨j, hf.sub hs, hp w ho⟩

/-! ### Calls -/
/-- Called with 'args' where H is owned, f returns, by 'R' of its value and of what is owned then. -/
def T (P : Program) (W0 : World) (f : FuncId) (args : Array Value) (H : Heap) (R : Value → Heap → Prop) : Prop :=
  ∀ w, Own W0 H w → Calls P f args w fun x w' => ∃ v H', x = .returned v ∧ R v H' ∧ Own W0 H' w'

theorem T.mono {f : FuncId} {args : Array Value} {R R' : Value → Heap → Prop} (h : T P W0 f args H R) (hR : ∀ v H', R v H' → R' v H') : T P W0 f args H R' :=
  fun w ho => (h w ho).mono fun _ _ ⟨v, H', h1, h2, h3⟩ => ⟨v, H', h1, hR _ _ h2, h3⟩

def argE : List Value → Nat → Env
  | [], _ => []
  | v :: r, i => (i, v) :: argE r (i + 1)

theorem argE_look : ∀ (l : List Value) (i s : Nat) (v : Value), look (argE l i) s = some v → i ≤ s ∧ l[s - i]? = some v
  | [], _, _, _, h => by simp [argE, look] at h
  | u :: r, i, s, v, h => by
    simp only [argE, look] at h
    cases hb : Nat.beq s i with
    | true =>
      rw [hb] at h
      simp only [cond_true, Option.some.injEq] at h
      have := Nat.eq_of_beq_eq_true hb
      subst this
      exact ⟨Nat.le_refl _, by simp [h]⟩
    | false =>
      rw [hb] at h
      have h1 := argE_look r (i + 1) s v h
      refine ⟨by omega, ?_⟩
      obtain ⟨d, hd⟩ : ∃ d, s - i = d + 1 := ⟨s - i - 1, by omega⟩
      rw [hd, List.getElem?_cons_succ, show d = s - (i + 1) by omega]
      exact h1.2

theorem T.intro {f : FuncId} {fn : Func} {c : Code} {args : List Value} {R : Value → Heap → Prop} (hf : P.funcs[f]? = some fn) (hb : fn.body = some c) (hn : fn.ntmps = n) (ha : Nat.ble args.length n = true)
    (h : GC P n W0 c (bodyPost P fn (fun x w' => ∃ v H', x = .returned v ∧ R v H' ∧ Own W0 H' w')) (argE args 0) H) : T P W0 f args.toArray H R := by
  intro w ho
  refine calls_of_wp hf hb (h _ w ?_ ho)
  have ha' : args.length ≤ n := Nat.le_of_ble_eq_true ha
  refine ⟨by simp [hn]; omega, rfl, fun s v hs => ?_⟩
  have h1 := argE_look args 0 s v hs
  have hlt : s < args.length := by
    have := h1.2
    simp only [Nat.sub_zero] at this
    exact (List.getElem?_eq_some_iff.1 this).1
  have := h1.2
  simp only [Nat.sub_zero] at this
  have h3 : args[s] = v := by rw [List.getElem?_eq_getElem hlt] at this; exact Option.some.inj this
  simp [Array.getElem?_append, hlt, h3]

/-- The end: the results' slots. -/
theorem GQ.done1 {fn : Func} {R : Value → Heap → Prop} {t : Tmp} (hr : fn.results = #[.tmp t]) (hl : look e t = some v) (h : R v H) :
    GQ n W0 .ret (bodyPost P fn (fun x w' => ∃ v H', x = .returned v ∧ R v H' ∧ Own W0 H' w')) e H := by
  intro a w hf ho
  refine ⟨hf.defers, v, ?_, v, H, rfl, h, ho⟩
  rw [results_tmp hr]
  simp [hf.slot t v hl]
theorem GQ.done0n {fn : Func} {R : Value → Heap → Prop} (hr : fn.results = #[]) (h : R (.tuple #[]) H) :
    GQ n W0 .normal (bodyPost P fn (fun x w' => ∃ v H', x = .returned v ∧ R v H' ∧ Own W0 H' w')) e H := by
  intro a w hf ho
  exact ⟨hf.defers, _, results_none hr _ _ _, _, H, rfl, h, ho⟩
theorem GQ.done2 {fn : Func} {R : Value → Heap → Prop} {t u : Tmp} {v' : Value} (hr : fn.results = #[.tmp t, .tmp u]) (hl : look e t = some v) (hl' : look e u = some v') (h : R (.tuple #[v, v']) H) :
    GQ n W0 .ret (bodyPost P fn (fun x w' => ∃ v H', x = .returned v ∧ R v H' ∧ Own W0 H' w')) e H := by
  intro a w hf ho
  refine ⟨hf.defers, _, ?_, _, H, rfl, h, ho⟩
  rw [results_tmp2 hr]
  simp [hf.slot t v hl, hf.slot u v' hl']

/-- A call of a declared function or of a function value. -/
theorem Eff.call {x : Operand} {f : FuncId} {first captured : Array Value} {vs : List Value} {args : Array Operand} {ats : Array TypeId} {R : Value → Heap → Prop} (hx : opv e x = some (.func (.func f) first captured))
    (hvs : args.toList.mapM (opv e) = some vs) (hc : ∀ (as : Array Value) w, (callFunc f as).run P w = .ok (.enter f as) w)
    (h : T P W0 f (first ++ vs.toArray ++ captured) H R) : Eff P W0 e H (.call { callee := .value x, args, argTypes := ats }) ty R := by
  intro a w he ho o hop hty next hn
  have hmap : args.map a.eval = vs.toArray := by
    apply Array.toList_inj.1
    rw [Array.toList_map]
    show _ = vs
    clear hop h
    generalize args.toList = l at hvs ⊢
    induction l generalizing vs with
    | nil => simp at hvs; simp [hvs]
    | cons y l ih =>
      simp only [List.mapM_cons] at hvs
      cases hy : opv e y with
      | none => simp [hy] at hvs
      | some u =>
        cases hl : l.mapM (opv e) with
        | none => simp [hy, hl] at hvs
        | some us =>
          simp [hy, hl] at hvs
          subst hvs
          simp [he y u hy, ih hl]
  unfold Oper.wp
  have : (execOp a.eval o).run P w = .ok (.enter f (first ++ vs.toArray ++ captured)) w := by
    simp [execOp, hop, resolve, he x _ hx, Deferred.ofValue, invoke, hmap, hc]
  rw [this]
  simp only [Oper.upon]
  refine (h w ho).mono ?_
  rintro x' w' ⟨v, H', rfl, hR, ho'⟩
  exact hn v H' w' hR ho'

/-- What is read at any time from here on grows. -/
theorem G.grow [Marks] (Hs' : Heap) (hs : ∀ w, Own W0 Hs' w → Own W0 Hs w) (h : G P ops n W0 Hs' Q l e H) : G P ops n W0 Hs Q l e H :=
  fun a w hf ho => wpSched_grow hs (h a w hf ho)

/-! ### Gates: the same goal, told only where the next operation has this form (a walk tries a rule only there) -/
theorem G.anyOp [Marks] {x : Kind × Oper} (h : G P ops n W0 Hs Q (x :: l) e H) : G P ops n W0 Hs Q (x :: l) e H := h
theorem G.isBin [Marks] {x y : Operand} {t t' : TypeId} (bo : BinOp) (h : G P ops n W0 Hs Q ((k, ⟨dst, .binOp bo t x y t', ty, pos, aft, g⟩) :: l) e H) :
    G P ops n W0 Hs Q ((k, ⟨dst, .binOp bo t x y t', ty, pos, aft, g⟩) :: l) e H := h
theorem G.isConv [Marks] {x : Operand} {t t' : TypeId} (h : G P ops n W0 Hs Q ((k, ⟨dst, .convert t t' x, ty, pos, aft, g⟩) :: l) e H) :
    G P ops n W0 Hs Q ((k, ⟨dst, .convert t t' x, ty, pos, aft, g⟩) :: l) e H := h
theorem G.isPick [Marks] {x y z : Operand} (h : G P ops n W0 Hs Q ((k, ⟨dst, .pick x y z, ty, pos, aft, g⟩) :: l) e H) :
    G P ops n W0 Hs Q ((k, ⟨dst, .pick x y z, ty, pos, aft, g⟩) :: l) e H := h
theorem G.isGuarded [Marks] {gg : Nat × Bool} (h : G P ops n W0 Hs Q ((k, ⟨dst, op, ty, pos, aft, some gg⟩) :: l) e H) :
    G P ops n W0 Hs Q ((k, ⟨dst, op, ty, pos, aft, some gg⟩) :: l) e H := h
theorem G.isCall [Marks] {c : Call} (h : G P ops n W0 Hs Q ((k, ⟨dst, .call c, ty, pos, aft, g⟩) :: l) e H) :
    G P ops n W0 Hs Q ((k, ⟨dst, .call c, ty, pos, aft, g⟩) :: l) e H := h
end walk
end Go.Own
