/-
  OWNED MEMORY, A FRAME OF SLOTS, AND REGIONS IN ANY ORDER: general laws over any program; no Go text stands in it.
-/
import Derived.WalkKit
import Derived.Orders
import Derived.OrdersHeld
import Derived.Below
import Derived.Deep.Draws
namespace Go.Own
open Go.RowKit

/-! ### What is owned -/
abbrev Heap := List (Nat × Obj)

/-- Below the first world's blocks nothing has turned; each named block lies above them and holds what is told. -/
structure Own (W0 : World) (H : Heap) (w : World) : Prop where
  below : Below W0.heap.size W0 w
  mem : ∀ p ∈ H, W0.heap.size ≤ p.1 ∧ w.heap[p.1]? = some p.2
  nodup : (H.map Prod.fst).Nodup
  drew : W0.drawn ≤ w.drawn

section
variable {W0 w : World} {H H' : Heap}

theorem lt_of_some {w : World} {k : Nat} {o : Obj} (h : w.heap[k]? = some o) : k < w.heap.size := by
  rcases Nat.lt_or_ge k w.heap.size with h' | h'
  · exact h'
  · simp [Array.getElem?_eq_none h'] at h

theorem Own.get (h : Own W0 H w) {b : Nat} {o : Obj} (hm : (b, o) ∈ H) : w.heap[b]? = some o := (h.mem _ hm).2

theorem Own.start (W0 : World) : Own W0 [] W0 := ⟨Below.refl _ _, by simp, by simp, Nat.le_refl _⟩

theorem Own.perm (h : Own W0 H w) (p : H.Perm H') : Own W0 H' w :=
  ⟨h.below, fun q hq => h.mem q (p.mem_iff.2 hq), (p.map _).nodup_iff.1 h.nodup, h.drew⟩

theorem Own.sub (h : Own W0 H w) (p : H'.Sublist H) : Own W0 H' w :=
  ⟨h.below, fun q hq => h.mem q (p.subset hq), h.nodup.sublist (p.map _), h.drew⟩

theorem Own.heapEq (h : Own W0 H w) {w' : World} (hh : w'.heap = w.heap) (ho : w'.os = w.os) (ht : w'.tape = w.tape) (hp : w'.output = w.output) (hd : w.drawn ≤ w'.drawn) : Own W0 H w' :=
  ⟨h.below.trans ⟨ho, ht, hp, by rw [hh]; exact Nat.le_refl _, fun k _ => by rw [hh]⟩, fun q hq => by rw [hh]; exact h.mem q hq, h.nodup, Nat.le_trans h.drew hd⟩

theorem Own.drew1 (h : Own W0 H w) : Own W0 H w.drew := h.heapEq rfl rfl rfl rfl (Nat.le_succ _)
theorem Own.drawn (h : Own W0 H w) (n : Nat) (hd : w.drawn ≤ n) : Own W0 H { w with drawn := n } := h.heapEq rfl rfl rfl rfl hd

theorem Own.alloc (h : Own W0 H w) (o : Obj) : Own W0 ((w.heap.size, o) :: H) (w.alloc o) := by
  refine ⟨h.below.alloc h.below.size o, ?_, ?_, h.drew⟩
  · intro p hp
    rcases List.mem_cons.1 hp with rfl | hp
    · exact ⟨h.below.size, heap_alloc_new w o⟩
    · have := h.mem p hp
      exact ⟨this.1, (heap_alloc_old w o (lt_of_some this.2)).trans this.2⟩
  · simp only [List.map_cons, List.nodup_cons]
    refine ⟨fun hm => ?_, h.nodup⟩
    obtain ⟨p, hp, e⟩ := List.mem_map.1 hm
    have := lt_of_some (h.mem p hp).2
    omega

/-- Behind a step that turns the one block b. -/
theorem Own.put {b : Nat} {o o' : Obj} (h : Own W0 ((b, o) :: H) w) {w' : World} (hb : w'.heap[b]? = some o') (hk : ∀ k, k ≠ b → w'.heap[k]? = w.heap[k]?)
    (hs : w'.heap.size = w.heap.size) (ho : w'.os = w.os) (ht : w'.tape = w.tape) (hp : w'.output = w.output) (hd : w.drawn ≤ w'.drawn := by exact Nat.le_refl _) : Own W0 ((b, o') :: H) w' := by
  have hb0 := (h.mem (b, o) (by simp)).1
  refine ⟨h.below.trans ⟨ho, ht, hp, by omega, fun k hlt => hk k (by simp at hb0; omega)⟩, ?_, by simpa using h.nodup, Nat.le_trans h.drew hd⟩
  intro p hpm
  rcases List.mem_cons.1 hpm with rfl | hpm
  · exact ⟨hb0, hb⟩
  · have h1 := h.mem p (by simp [hpm])
    have hne : p.1 ≠ b := by
      have := h.nodup
      simp only [List.map_cons, List.nodup_cons] at this
      intro e; exact this.1 (List.mem_map.2 ⟨p, hpm, e⟩)
    exact ⟨h1.1, by rw [hk _ hne]; exact h1.2⟩

/-- Behind a step that made blocks and turned no other one. -/
theorem Own.grow (h : Own W0 H w) {w' : World} (hb : Below w.heap.size w w') (hd : w.drawn ≤ w'.drawn) : Own W0 H w' := by
  refine ⟨h.below.trans (hb.mono h.below.size), fun p hp => ?_, h.nodup, Nat.le_trans h.drew hd⟩
  have h1 := h.mem p hp
  exact ⟨h1.1, by rw [hb.block _ (lt_of_some h1.2)]; exact h1.2⟩
end

/-- Whatever was drawn, where the first world drew nothing. -/
theorem Own.growZ {W0 w : World} {H : Heap} (h : Own W0 H w) (h0 : W0.drawn = 0) {w' : World} (hb : Below w.heap.size w w') : Own W0 H w' := by
  refine ⟨h.below.trans (hb.mono h.below.size), fun p hp => ?_, h.nodup, by rw [h0]; exact Nat.zero_le _⟩
  have h1 := h.mem p hp
  exact ⟨h1.1, by rw [hb.block _ (lt_of_some h1.2)]; exact h1.2⟩

/-! ### Where a block stands in the list -/
class Has (H : Heap) (b : Nat) (o : outParam Obj) : Prop where
  out : (b, o) ∈ H
instance Has.head {H : Heap} {b : Nat} {o : Obj} : Has ((b, o) :: H) b o := ⟨by simp⟩
instance (priority := low) Has.tail {H : Heap} {x : Nat × Obj} {b : Nat} {o : Obj} [h : Has H b o] : Has (x :: H) b o := ⟨List.mem_cons_of_mem _ h.out⟩

/-- H' is H with the block b, which held o, holding o'. -/
class Upd (H : Heap) (b : Nat) (o : outParam Obj) (o' : Obj) (H' : outParam Heap) : Prop where
  out : ∃ R, H.Perm ((b, o) :: R) ∧ ((b, o') :: R).Perm H'
instance Upd.head {H : Heap} {b : Nat} {o o' : Obj} : Upd ((b, o) :: H) b o o' ((b, o') :: H) := ⟨H, .refl _, .refl _⟩
instance (priority := low) Upd.tail {H H' : Heap} {x : Nat × Obj} {b : Nat} {o o' : Obj} [h : Upd H b o o' H'] : Upd (x :: H) b o o' (x :: H') := by
  obtain ⟨R, h1, h2⟩ := h.out
  exact ⟨x :: R, (h1.cons x).trans (.swap _ _ _), (List.Perm.swap _ _ _).trans (h2.cons x)⟩

theorem Upd.has {H H' : Heap} {b : Nat} {o o' : Obj} (h : Upd H b o o' H') : (b, o) ∈ H := by
  obtain ⟨R, h1, _⟩ := h.out
  exact h1.mem_iff.2 (by simp)

/-- The blocks B are there, and R is what is left. -/
class Take (H : Heap) (B : Heap) (R : outParam Heap) : Prop where
  out : H.Perm (B ++ R)
class Take1 (H : Heap) (b : Nat) (o : outParam Obj) (R : outParam Heap) : Prop where
  out : H.Perm ((b, o) :: R)
instance Take1.head {H : Heap} {b : Nat} {o : Obj} : Take1 ((b, o) :: H) b o H := ⟨.refl _⟩
instance (priority := low) Take1.tail {H R : Heap} {x : Nat × Obj} {b : Nat} {o : Obj} [h : Take1 H b o R] : Take1 (x :: H) b o (x :: R) := ⟨(h.out.cons x).trans (.swap _ _ _)⟩

/-! ### Slots -/
abbrev Env := List (Nat × Value)
def look : Env → Nat → Option Value
  | [], _ => none
  | (t, v) :: r, s => bif Nat.beq s t then some v else look r s

/-- The marks of loops over functions that stand among a frame's deferred calls. -/
class Marks where
  ds : List Deferred
instance (priority := low) Marks.none : Marks := ⟨[]⟩
/-- The frame has n slots, and holds what is told. -/
structure Fits [mk : Marks] (n : Nat) (e : Env) (a : Act) : Prop where
  size : a.tmps.size = n
  defers : a.defers = mk.ds
  slot : ∀ s v, look e s = some v → a.tmps[s]? = some v

def opv (e : Env) : Operand → Option Value
  | .tmp t => look e t
  | .const v => some v
  | .global g => some (.pointer (some ⟨g, 0, none⟩))
  | .func f => some (.func (.func f) #[] #[])

/-- The operands' values are those of the frame. -/
def Ev (e : Env) (ρ : Operand → Value) : Prop := ∀ x v, opv e x = some v → ρ x = v

theorem Fits.ev [Marks] {n : Nat} {e : Env} {a : Act} (h : Fits n e a) : Ev e a.eval := by
  intro x v hx
  cases x with
  | tmp t =>
    have := h.slot t v hx
    simp only [Act.eval]
    rw [Array.getD_eq_getD_getElem?, this]; rfl
  | const u => simpa [opv, Act.eval] using hx
  | global g => simpa [opv, Act.eval] using hx
  | func f => simpa [opv, Act.eval] using hx

theorem Fits.put [Marks] {n d : Nat} {e : Env} {a : Act} (h : Fits n e a) (hd : Nat.blt d n = true) (v : Value) : Fits n ((d, v) :: e) (a.put (some d) v) := by
  have hd' : d < n := by simp [Nat.blt, Nat.ble_eq] at hd; omega
  refine ⟨by simp [Act.put, h.size], by simp [Act.put, h.defers], fun s u hs => ?_⟩
  simp only [look] at hs
  by_cases hsd : s = d
  · subst hsd
    simp only [Nat.beq_refl, cond_true, Option.some.injEq] at hs
    subst hs
    simp [Act.put, h.size, hd']
  · have : Nat.beq s d = false := by
      cases hb : Nat.beq s d
      · rfl
      · exact absurd (Nat.eq_of_beq_eq_true hb) hsd
    rw [this] at hs
    simp only [cond_false] at hs
    have := h.slot s u hs
    simp only [Act.put]
    rw [Array.getElem?_setIfInBounds_ne (Ne.symm hsd)]
    exact this

/-- e' says no more than e. -/
def Sub : Env → Env → Prop
  | [], _ => True
  | (s, v) :: r, e => look e s = some v ∧ Sub r e

theorem Sub.look {e e' : Env} (h : Sub e' e) : ∀ s v, Own.look e' s = some v → Own.look e s = some v := by
  induction e' with
  | nil => intro s v hs; simp [Own.look] at hs
  | cons x r ih =>
    obtain ⟨t, u⟩ := x
    intro s v hs
    simp only [Own.look] at hs
    cases hb : Nat.beq s t with
    | true =>
      rw [hb] at hs
      simp only [cond_true, Option.some.injEq] at hs
      subst hs
      have := Nat.eq_of_beq_eq_true hb
      subst this
      exact h.1
    | false =>
      rw [hb] at hs
      exact ih h.2 s v hs

theorem Fits.sub [Marks] {n : Nat} {e e' : Env} {a : Act} (h : Fits n e a) (hs : Sub e' e) : Fits n e' a :=
  ⟨h.size, h.defers, fun s v hv => h.slot s v (hs.look s v hv)⟩

/-! ### Regions, in whatever order -/
inductive Kind where
  | read | eff | tail
  deriving DecidableEq

/-- No way out but the plain end. -/
def noQ : Exit → Act → World → Prop := fun _ _ _ => False

theorem noQ_outs {P : Program} {o : Oper} {a : Act} {w : World} : ¬ (o.asks P a w ∧ LetsOut noQ) := by
  rintro ⟨_, _, _, h⟩; exact h

theorem wp_of_noQ {P : Program} {o : Oper} {a : Act} {w : World} {K : Act → World → Prop} {Q : Exit → Act → World → Prop} (h : o.wp P a w K noQ) : o.wp P a w K Q := by
  unfold Oper.wp at *
  generalize (execOp a.eval o).run P w = r at *
  cases r with
  | ok n w' =>
    cases n <;> simp only [Oper.upon] at h ⊢
    case value => exact h
    case skip => exact h
    case defer => exact h
    case enter =>
      refine Calls.mono h fun e w'' he => ?_
      cases e with
      | returned u => exact he
      | panicked c => exact he.elim
      | outgrown => obtain ⟨_, _, h⟩ := he; exact h.elim
    case row => exact h
  | halt x w' => cases x <;> simp only [Oper.upon] at h ⊢; exact h.elim

/-- The operations in a list's order, each by its kind: what only reads does so in every world of S; what acts keeps S, but for the last ones; S may grow on the way. -/
def wpSched (P : Program) (ops : Array Oper) (S : World → Prop) (Q : Act → World → Prop) : List (Kind × Oper) → Act → World → Prop
  | [], a, w => Q a w
  | (k, o) :: r, a, w => ∃ S' : World → Prop, (∀ w, S' w → S w) ∧
    if Region.wanted o (yielded ops a.tmps) then
      match k with
      | .read => ∃ v, S' w ∧ (∀ w', S' w' → (execOp a.eval o).run P w' = .ok (.value v) w') ∧ wpSched P ops S' Q r (a.put o.dst v) w
      | .eff => o.wp P a w (fun a' w' => S' w' ∧ wpSched P ops S' Q r a' w') noQ
      | .tail => o.wp P a w (wpSched P ops S' Q r) noQ
    else (k ≠ .tail → S' w) ∧ wpSched P ops S' Q r (a.put o.dst undef) w
theorem wpSched_grow {P : Program} {ops : Array Oper} {S S' : World → Prop} {Q : Act → World → Prop} (hs : ∀ w, S' w → S w) {l : List (Kind × Oper)} {a : Act} {w : World} (h : wpSched P ops S' Q l a w) : wpSched P ops S Q l a w := by
  cases l with
  | nil => exact h
  | cons x r =>
    obtain ⟨S2, h2, h3⟩ := h
    exact ⟨S2, fun w h => hs w (h2 w h), h3⟩

/-- A region in the text's order is its list, each operation of the last kind. -/
theorem wpList_of_sched {P : Program} {ops : Array Oper} {Q : Exit → Act → World → Prop} : ∀ (l : List Oper) (S : World → Prop) (a : Act) (w : World),
    wpSched P ops S (Q .normal) (l.map fun o => (.tail, o)) a w → wpList P ops Q l a w
  | [], _, _, _, h => h
  | o :: l, S0, a, w, h => by
    simp only [List.map_cons, wpSched] at h
    obtain ⟨S, _, h⟩ := h
    unfold wpList
    split
    · rename_i hw
      rw [if_pos hw] at h
      exact .inl (wp_of_noQ (Oper.wp_mono (fun a' w' h' => wpList_of_sched l S a' w' h') h))
    · rename_i hw
      rw [if_neg hw] at h
      exact wpList_of_sched l S _ _ h.2

/-- j waits for i, be it through others. -/
def anc (ops : Array Oper) : Nat → Nat → Nat → Bool
  | 0, _, _ => false
  | f + 1, j, i => match ops[j]? with
    | none => false
    | some o => o.after.any fun e => Region.binds .any e && (e.on == i || anc ops f e.on i)

structure Closed (ops : Array Oper) (listed : Array Bool) : Prop where
  size : listed.size = ops.size
  closed : ∀ j oj, ops[j]? = some oj → listed.getD j false = true → ∀ e ∈ oj.after, Region.binds .any e = true → listed.getD e.on false = true

theorem Closed.start (ops : Array Oper) : Closed ops (Array.replicate ops.size false) := by
  refine ⟨by simp, fun j oj hj hl => ?_⟩
  exfalso
  rcases Nat.lt_or_ge j ops.size with h | h
  · simp [h] at hl
  · simp [h] at hl

theorem Closed.set {ops : Array Oper} {listed : Array Bool} {i : Nat} (inv : Closed ops listed) (hi : i ∈ Region.ready .any ops listed) : Closed ops (listed.setIfInBounds i true) := by
  obtain ⟨_, oi, hoi, hall⟩ := mem_ready.1 hi
  refine ⟨by simp [inv.size], fun j oj hj hl e he hb => ?_⟩
  by_cases hij : i = j
  · subst hij
    have : oj = oi := Option.some.inj (hj.symm.trans hoi)
    subst this
    exact getD_set_true (hall e he hb)
  · rw [getD_set_ne false hij] at hl
    exact getD_set_true (inv.closed j oj hj hl e he hb)

theorem getD_both {listed : Array Bool} {i : Nat} (h : listed.getD i true = false) : listed.getD i false = false := by
  rcases Nat.lt_or_ge i listed.size with h' | h'
  · simp [h'] at h ⊢; exact h
  · simp [Array.getElem?_eq_none h'] at h

/-- What waits for i is not listed while i is not. -/
theorem anc_listed {ops : Array Oper} {listed : Array Bool} (inv : Closed ops listed) {i : Nat} (hun : listed.getD i false = false) :
    ∀ (f j : Nat), anc ops f j i = true → ∀ oj, ops[j]? = some oj → ¬ (∀ e ∈ oj.after, Region.binds .any e = true → listed.getD e.on false = true) := by
  intro f
  induction f with
  | zero => intro j h; simp [anc] at h
  | succ f ih =>
    intro j h oj hj hall
    simp only [anc, hj] at h
    obtain ⟨e, he, hb⟩ := Array.any_eq_true'.1 h
    simp only [Bool.and_eq_true, Bool.or_eq_true, beq_iff_eq] at hb
    have hl := hall e he hb.1
    rcases hb.2 with h1 | h1
    · rw [h1, hun] at hl; cases hl
    · cases ho : ops[e.on]? with
      | none =>
        cases f with
        | zero => simp [anc] at h1
        | succ f => simp [anc, ho] at h1
      | some oe => exact ih e.on h1 oe ho (inv.closed e.on oe ho hl)

def wpAnyT (P : Program) (ops : Array Oper) (S : World → Prop) (tl : Nat → Bool) (Q : Act → World → Prop) : Nat → Array Bool → Act → World → Prop
  | 0, listed, a, w => Region.ready .any ops listed = [] ∧ Q a w
  | f + 1, listed, a, w => (Region.ready .any ops listed = [] → Q a w) ∧
    ∀ i ∈ Region.ready .any ops listed, wpOp P ops noQ i (fun a' w' => (tl i = false → S w') ∧ wpAnyT P ops S tl Q f (listed.setIfInBounds i true) a' w') a w

theorem wpOp_of_noQ {P : Program} {ops : Array Oper} {i : Nat} {a : Act} {w : World} {K : Act → World → Prop} {Q : Exit → Act → World → Prop} (h : wpOp P ops noQ i K a w) : wpOp P ops Q i K a w := by
  unfold wpOp at *
  split
  · rename_i ho; simpa [ho] using h
  · rename_i o ho
    simp only [ho] at h
    split
    · rename_i hw
      rw [if_pos hw] at h
      rcases h with h | h
      · exact .inl (wp_of_noQ h)
      · exact (noQ_outs h).elim
    · rename_i hw
      rw [if_neg hw] at h
      exact h

theorem wpAny_of_T {P : Program} {ops : Array Oper} {S : World → Prop} {tl : Nat → Bool} {Q : Exit → Act → World → Prop} : ∀ (f : Nat) (listed : Array Bool) (a : Act) (w : World),
    wpAnyT P ops S tl (Q .normal) f listed a w → wpAny P .any ops Q f listed a w
  | 0, _, _, _, h => h
  | f + 1, _, _, _, h => ⟨h.1, fun i hi => wpOp_of_noQ (wpOp_mono (fun a' w' h' => wpAny_of_T f _ a' w' h'.2) (h.2 i hi))⟩

theorem wpAnyT_first {P : Program} {ops : Array Oper} {S : World → Prop} {tl : Nat → Bool} {Q : Act → World → Prop} {i fa : Nat} {oi : Oper} {v : Value} (hi : ops[i]? = some oi)
    (hsel : ∀ (j : Nat) (o : Oper) cs b, ops[j]? = some o → o.op ≠ .select cs b) :
    ∀ (fuel : Nat) (listed : Array Bool) (a : Act) (w : World), Closed ops listed →
      (∀ j, tl j = true → listed.getD j true = false → anc ops fa j i = true) →
      (∀ j oj, ops[j]? = some oj → j ≠ i → listed.getD j true = false → (∀ e ∈ oj.after, Region.binds .any e = true → e.on ≠ i) → oi.apart ops oj = true) →
      i ∈ Region.ready .any ops listed → YieldsIf P ops S oi v a → S w →
      wpAnyT P ops S tl Q fuel (listed.setIfInBounds i true) (a.put oi.dst v) w → wpAnyT P ops S tl Q (fuel + 1) listed a w := by
  intro fuel
  induction fuel with
  | zero =>
    intro listed a w inv _ _ hr hy hS H
    refine ⟨fun h => (by rw [h] at hr; cases hr), fun j hj => ?_⟩
    by_cases hji : j = i
    · subst hji; exact hy.wpOp hi hS ⟨fun _ => hS, H⟩
    · have := ready_mono hj hji
      rw [H.1] at this
      cases this
  | succ fuel ih =>
    intro listed a w inv htl hfree hr hy hS H
    refine ⟨fun h => (by rw [h] at hr; cases hr), fun j hj => ?_⟩
    by_cases hji : j = i
    · subst hji; exact hy.wpOp hi hS ⟨fun _ => hS, H⟩
    · have h1 := H.2 j (ready_mono hj hji)
      obtain ⟨hjun, oj, hoj, hall⟩ := mem_ready.1 hj
      have hiun := getD_both (mem_ready.1 hr).1
      have hnt : tl j = false := by
        cases ht : tl j with
        | false => rfl
        | true => exact absurd hall (anc_listed inv hiun fa j (htl j ht hjun) oj hoj)
      have hnot : ∀ e ∈ oj.after, Region.binds .any e = true → e.on ≠ i := fun e he hb heq => by
        have h1 := hall e he hb
        rw [heq, hiun] at h1
        cases h1
      have h2 := wpOp_putIf hoj (hfree j oj hoj hji hjun hnot) (fun cs b => hsel i oi cs b hi) (fun cs b => hsel j oj cs b hoj) (fun _ _ _ h => h.elim) hy h1
      have hfree' : ∀ k ok, ops[k]? = some ok → k ≠ i → (listed.setIfInBounds j true).getD k true = false →
          (∀ e ∈ ok.after, Region.binds .any e = true → e.on ≠ i) → oi.apart ops ok = true := fun k ok hk hki hun hno => by
        refine hfree k ok hk hki ?_ hno
        by_cases hjk : j = k
        · subst hjk; exact hjun
        · rw [getD_set_ne true hjk] at hun; exact hun
      have htl' : ∀ k, tl k = true → (listed.setIfInBounds j true).getD k true = false → anc ops fa k i = true := fun k hk hun => by
        refine htl k hk ?_
        by_cases hjk : j = k
        · subst hjk; exact hjun
        · rw [getD_set_ne true hjk] at hun; exact hun
      refine wpOp_mono (fun a' w' h3 => ⟨h3.2.1, ih (listed.setIfInBounds j true) a' w' (inv.set hj) htl' hfree' (ready_mono hr (Ne.symm hji)) h3.1 (h3.2.1 hnt) ?_⟩) h2
      rw [Array.setIfInBounds_comm _ _ hji]
      exact h3.2.2

/-- The list's own look: each one may come up where it stands; what reads is touched by nobody that may come ahead; what acts is alone then. -/
def okS (ops : Array Oper) : List (Nat × Kind) → Array Bool → Bool
  | [], listed => (Region.ready .any ops listed).isEmpty
  | (i, .read) :: r, listed => Region.free .any ops listed i && (Region.ready .any ops listed).contains i && (r.all fun x => (x.2 != .tail) || anc ops ops.size x.1 i) && okS ops r (listed.setIfInBounds i true)
  | (i, _) :: r, listed => decide (Region.ready .any ops listed = [i]) && okS ops r (listed.setIfInBounds i true)

def tails (l : List (Nat × Kind)) (j : Nat) : Bool := l.any fun x => x.1 == j && x.2 == .tail

def pickOps (ops : Array Oper) (l : List (Nat × Kind)) : List (Kind × Oper) := l.map fun x => (x.2, ops[x.1]?.getD default)

theorem ready_some {ops : Array Oper} {listed : Array Bool} {i : Nat} (h : i ∈ Region.ready .any ops listed) : ∃ o, ops[i]? = some o := by
  obtain ⟨_, o, ho, _⟩ := mem_ready.1 h
  exact ⟨o, ho⟩

theorem wpAnyT_weak {P : Program} {ops : Array Oper} {S S' : World → Prop} {Q : Act → World → Prop} {tl : Nat → Bool} (hs : ∀ w, S' w → S w) : ∀ (f : Nat) (listed : Array Bool) (a : Act) (w : World),
    wpAnyT P ops S' tl Q f listed a w → wpAnyT P ops S tl Q f listed a w
  | 0, _, _, _, h => h
  | f + 1, _, _, _, h => ⟨h.1, fun i hi => wpOp_mono (fun a' w' h' => ⟨fun ht => hs w' (h'.1 ht), wpAnyT_weak hs f _ a' w' h'.2⟩) (h.2 i hi)⟩

theorem wpAnyT_of_sched {P : Program} {ops : Array Oper} {Q : Act → World → Prop} (hs : Region.noSelect ops = true) (tl : Nat → Bool) :
    ∀ (l : List (Nat × Kind)) (S : World → Prop) (listed : Array Bool) (a : Act) (w : World), Closed ops listed → (∀ x ∈ l, x.2 = .tail → tl x.1 = true) → (∀ x ∈ l, x.2 ≠ .tail → tl x.1 = false) →
      (∀ j, tl j = true → listed.getD j true = false → ∃ x ∈ l, x.1 = j ∧ x.2 = .tail) → okS ops l listed = true → wpSched P ops S Q (pickOps ops l) a w →
      wpAnyT P ops S tl Q l.length listed a w
  | [], S, listed, a, w, _, _, _, _, hB, h => ⟨by simpa [okS] using hB, h⟩
  | (i, k) :: r, S0, listed, a, w, inv, ht, hnt, hall, hB, h => by
    obtain ⟨S, hSS, h⟩ : ∃ S' : World → Prop, (∀ w, S' w → S0 w) ∧ _ := h
    refine wpAnyT_weak hSS _ _ _ _ ?_
    have hr : i ∈ Region.ready .any ops listed := by
      cases k with
      | read => simp only [okS, Bool.and_eq_true] at hB; simpa using hB.1.1.2
      | eff => simp only [okS, Bool.and_eq_true, decide_eq_true_eq] at hB; rw [hB.1]; simp
      | tail => simp only [okS, Bool.and_eq_true, decide_eq_true_eq] at hB; rw [hB.1]; simp
    obtain ⟨o, ho⟩ := ready_some hr
    have hall' : ∀ j, tl j = true → (listed.setIfInBounds i true).getD j true = false → ∃ x ∈ r, x.1 = j ∧ x.2 = .tail := by
      intro j hj hun
      have hij : i ≠ j := by
        rintro rfl
        have hlt : i < listed.size := by rw [inv.size]; exact (Array.getElem?_eq_some_iff.1 ho).1
        simp [hlt] at hun
      rw [getD_set_ne true hij] at hun
      obtain ⟨x, hx, h1, h2⟩ := hall j hj hun
      rcases List.mem_cons.1 hx with rfl | hx
      · exact absurd h1 hij
      · exact ⟨x, hx, h1, h2⟩
    have ih : ∀ (a' : Act) (w' : World), okS ops r (listed.setIfInBounds i true) = true → wpSched P ops S Q (pickOps ops r) a' w' → wpAnyT P ops S tl Q r.length (listed.setIfInBounds i true) a' w' := fun a' w' hok hh => wpAnyT_of_sched hs tl r S (listed.setIfInBounds i true) a' w' (inv.set hr) (fun x hx => ht x (List.mem_cons_of_mem _ hx)) (fun x hx => hnt x (List.mem_cons_of_mem _ hx)) hall' hok hh
    simp only [ho, Option.getD_some] at h
    have hmap : List.map (fun x : Nat × Kind => (x.2, ops[x.1]?.getD default)) r = pickOps ops r := rfl
    rw [hmap] at h
    cases k with
    | read =>
      simp only [okS, Bool.and_eq_true] at hB
      have htl : ∀ j, tl j = true → listed.getD j true = false → anc ops ops.size j i = true := by
        intro j hj hun
        obtain ⟨x, hx, h1, h2⟩ := hall j hj hun
        rcases List.mem_cons.1 hx with rfl | hx
        · simp at h2
        · have := List.all_eq_true.1 hB.1.2 x hx
          simpa [h1, h2] using this
      split at h
      · rename_i hw
        obtain ⟨v, hS, hv, h⟩ := h
        exact wpAnyT_first ho (Region.noSelect_spec hs) r.length listed a w inv htl (Region.free_spec ho hB.1.1.1) hr (.inl ⟨hw, hv⟩) hS (ih _ _ hB.2 h)
      · rename_i hw
        exact wpAnyT_first ho (Region.noSelect_spec hs) r.length listed a w inv htl (Region.free_spec ho hB.1.1.1) hr (.inr ⟨by simpa using hw, rfl⟩) (h.1 (by simp)) (ih _ _ hB.2 h.2)
    | eff =>
      simp only [okS, Bool.and_eq_true, decide_eq_true_eq] at hB
      refine ⟨fun h0 => by rw [hB.1] at h0; simp at h0, fun j hj => ?_⟩
      rw [hB.1] at hj
      obtain rfl : j = i := by simpa using hj
      unfold wpOp
      simp only [ho]
      split at h
      · rename_i hw
        rw [if_pos hw]
        exact .inl (Oper.wp_mono (fun a' w' h' => ⟨fun _ => h'.1, ih _ _ hB.2 h'.2⟩) h)
      · rename_i hw
        rw [if_neg hw]
        exact ⟨fun _ => h.1 (by simp), ih _ _ hB.2 h.2⟩
    | tail =>
      simp only [okS, Bool.and_eq_true, decide_eq_true_eq] at hB
      have htt : tl i = true := ht (i, .tail) (by simp) rfl
      refine ⟨fun h0 => by rw [hB.1] at h0; simp at h0, fun j hj => ?_⟩
      rw [hB.1] at hj
      obtain rfl : j = i := by simpa using hj
      unfold wpOp
      simp only [ho]
      split at h
      · rename_i hw
        rw [if_pos hw]
        exact .inl (Oper.wp_mono (fun a' w' h' => ⟨fun hf => (by rw [htt] at hf; cases hf), ih _ _ hB.2 h'⟩) h)
      · rename_i hw
        rw [if_neg hw]
        exact ⟨fun hf => (by rw [htt] at hf; cases hf), ih _ _ hB.2 h.2⟩

/-- The whole look, for one closed fact. -/
def okSched (ops : Array Oper) (l : List (Nat × Kind)) : Bool :=
  Region.noSelect ops && okS ops l (Array.replicate ops.size false) && decide (l.length = ops.size) && (l.all fun x => (tails l x.1) == (x.2 == .tail))

theorem wp_region_sched {P : Program} {id : Nat} {ops : Array Oper} {S : World → Prop} {Q : Exit → Act → World → Prop} {a : Act} {w : World} (l : List (Nat × Kind)) (hm : P.follows .mixedOrders = true)
    (hB : okSched ops l = true) (h : wpSched P ops S (Q .normal) (pickOps ops l) a { w with drawn := w.drawn + 1 }) : (Code.region id ops true).wp P Q a w := by
  simp only [okSched, Bool.and_eq_true, decide_eq_true_eq] at hB
  obtain ⟨⟨⟨h1, h2⟩, h3⟩, h4⟩ := hB
  refine wp_region_any hm ?_
  have key := fun x y z => wpAnyT_of_sched h1 (tails l) l _ _ a _ (Closed.start ops) x y z h2 h
  rw [h3] at key
  refine wpAny_of_T _ _ _ _ (key ?_ ?_ ?_)
  · intro x hx e
    have := List.all_eq_true.1 h4 x hx
    simpa [e] using this
  · intro x hx e
    have := List.all_eq_true.1 h4 x hx
    have hne : (x.2 == Kind.tail) = false := by simpa using e
    rw [hne] at this
    simpa using this
  · intro j hj _
    obtain ⟨x, hx, h5⟩ := List.any_eq_true.1 hj
    simp only [Bool.and_eq_true, beq_iff_eq] at h5
    exact ⟨x, hx, h5.1, h5.2⟩
end Go.Own
