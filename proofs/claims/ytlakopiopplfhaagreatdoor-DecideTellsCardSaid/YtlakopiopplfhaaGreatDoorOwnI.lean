/-
  RANGE OVER STRINGS, ARRAYS IN BLOCKS, RESULTS IN CELLS: rules over what is owned; over any program.
-/
import Derived.Test.YtlakopiopplfhaaGreatDoorOwnE
import Derived.Laws.RangeAny
import Derived.Lib.OthersKept
import Derived.Stop.BytesEq
namespace Go.Own
open Go.Lib

section
variable {P : Program} {W0 : World} {H X : Heap} {e : Env} {t ty t' : TypeId} {x y z : Operand} {v u : Value} {k : IntKind} {a b c : Int} {R : Value → Heap → Prop} {op : Op}

/-! ### Range over a string -/
abbrev It (l : List UInt8) (pos : Nat) : Obj := .stringIter ⟨l.toArray⟩ pos
theorem Eff.rangeS {l : List UInt8} [hs : UnderT P t .string] (hx : opv e x = some (S l)) (hR : ∀ r, R (.pointer (some ⟨r, 0, none⟩)) ((r, It l 0) :: H)) : Eff P W0 e H (.range t x) ty R :=
  Eff.val fun ρ hρ w hw op hop _ => ⟨_, _, _, by simp [execOp, hop, hρ x _ hx, run_range_string w t _ hs.out, World.iter], hR _, hw.alloc _⟩
theorem iterAt_own {r pos pos' : Nat} {l : List UInt8} {put : Obj → Heap} (hs : Spot H r (It l pos) put) {w : World} (hw : Own W0 H w) : Own W0 (put (It l pos')) (w.iterAt r ⟨l.toArray⟩ pos') :=
  hs.set hw (iterAt_heap w r _ pos pos' (hs.get hw)) (fun k hk => by simp [World.iterAt, Array.getElem?_setIfInBounds_ne (Ne.symm hk)]) (by simp [World.iterAt]) rfl rfl rfl
/-- The next character: one byte of ASCII. -/
theorem Eff.nextA {r pos : Nat} {l : List UInt8} {put : Obj → Heap} (hx : opv e x = some (.pointer (some ⟨r, 0, none⟩))) [hs : Spot H r (It l pos) put] (h : pos < l.length) (ha : (l[pos]).toNat < 128)
    (hR : R (.tuple #[.bool true, .int .i64 (pos : Int), .int .i32 ((l[pos]).toNat : Int)]) (put (It l (pos + 1)))) : Eff P W0 e H (.next x true) ty R :=
  Eff.val fun ρ hρ w hw op hop _ => ⟨_, _, _, by
    simp only [execOp, hop, hρ x _ hx]
    rw [Sem.run_bind, run_next_ascii_at w r ⟨l.toArray⟩ pos _ (hs.get hw) h ha]; rfl, hR, iterAt_own hs hw⟩
/-- The next character: not ASCII: whatever it is. -/
theorem Eff.nextH {r pos : Nat} {l : List UInt8} {put : Obj → Heap} (hx : opv e x = some (.pointer (some ⟨r, 0, none⟩))) [hs : Spot H r (It l pos) put] (h : pos < l.length) (ha : 128 ≤ (l[pos]).toNat)
    (hR : ∀ c pos' : Nat, 128 ≤ c → c ≤ 2147483647 → pos < pos' → R (.tuple #[.bool true, .int .i64 (pos : Int), .int .i32 (c : Int)]) (put (It l pos'))) : Eff P W0 e H (.next x true) ty R :=
  Eff.val fun ρ hρ w hw op hop _ => ⟨_, _, w.iterAt r ⟨l.toArray⟩ (pos + (Utf8.decode ⟨l.toArray⟩ pos).2), by
    simp only [execOp, hop, hρ x _ hx]
    rw [Sem.run_bind, run_next_any_at w r ⟨l.toArray⟩ pos _ (hs.get hw) h]; rfl, hR _ _ (decode_high ⟨l.toArray⟩ pos h ha).1 (decode_le _ _) (by have := (decode_high ⟨l.toArray⟩ pos h ha).2; omega), iterAt_own hs hw⟩
theorem Eff.nextE {r pos : Nat} {l : List UInt8} (hx : opv e x = some (.pointer (some ⟨r, 0, none⟩))) [hs : Has H r (It l pos)] (h : l.length ≤ pos)
    (hR : R (.tuple #[.bool false]) H) : Eff P W0 e H (.next x true) ty R :=
  Eff.val fun ρ hρ w hw op hop _ => ⟨_, _, _, by
    simp only [execOp, hop, hρ x _ hx]
    rw [Sem.run_bind, run_next_end_at w r ⟨l.toArray⟩ pos _ (hw.get hs.out) (by show ¬ pos < l.length; omega)]; rfl, hR, hw⟩

/-- A call of a function value that binds nothing. -/
theorem Eff.callV {f : FuncId} {vs : List Value} {args : Array Operand} {ats : Array TypeId} (hx : opv e x = some (.func (.func f) #[] #[])) [hc : CallF P f]
    (hvs : args.toList.mapM (opv e) = some vs) (h : T P W0 f vs.toArray H R) : Eff P W0 e H (.call { callee := .value x, args, argTypes := ats }) ty R :=
  Eff.call (first := #[]) (captured := #[]) hx hvs hc.run (by simpa using h)

/-! ### Bits -/
theorem Rd.shl {k' : IntKind} {n : Nat} (hx : opv e x = some (.int k a)) (hy : opv e y = some (.int k' b)) (hb : b = (n : Int)) (hn : n ≤ k.bits) (hc : k.wrap (a * 2 ^ n) = c) : Rd P W0 H e (.binOp .shl t x y t') (.int k c) :=
  fun ρ hρ w _ o ho => by
    subst hb
    have h0 : ¬ ((n : Int) < 0) := by omega
    simp [execOp, ho, hρ x _ hx, hρ y _ hy, eqGuard, binOp, Op.shift, h0, Nat.min_eq_left hn, hc]
theorem Rd.shr {k' : IntKind} {n : Nat} (hx : opv e x = some (.int k a)) (hy : opv e y = some (.int k' b)) (hb : b = (n : Int)) (hn : n ≤ k.bits) (hc : a.fdiv (2 ^ n) = c) : Rd P W0 H e (.binOp .shr t x y t') (.int k c) :=
  fun ρ hρ w _ o ho => by
    subst hb
    have h0 : ¬ ((n : Int) < 0) := by omega
    simp [execOp, ho, hρ x _ hx, hρ y _ hy, eqGuard, binOp, Op.shift, h0, Nat.min_eq_left hn, hc]
theorem bv_nat (n a : Nat) (h : a < 2 ^ n) : (BitVec.ofInt n (a : Int)).toNat = a := by
  rw [BitVec.toNat_ofInt]
  have : ((a : Int) % ((2 ^ n : Nat) : Int)) = (a : Int) := Int.emod_eq_of_lt (by omega) (by omega)
  rw [this]; simp
theorem Rd.or {m n r : Nat} (hx : opv e x = some (.int k a)) (hy : opv e y = some (.int k b)) (ha : a = (m : Int)) (hb : b = (n : Int)) (hm : m < 2 ^ k.bits) (hn : n < 2 ^ k.bits) (hr : m ||| n = r) (hw : k.wrap (r : Int) = (r : Int)) :
    Rd P W0 H e (.binOp .or t x y t') (.int k (r : Int)) :=
  fun ρ hρ w _ o ho => by
    subst ha hb hr
    have h1 : (BitVec.ofInt k.bits (m : Int) ||| BitVec.ofInt k.bits (n : Int)).toNat = m ||| n := by rw [BitVec.toNat_or, bv_nat _ _ hm, bv_nat _ _ hn]
    simp only [execOp, ho, hρ x _ hx, hρ y _ hy, eqGuard, binOp, Op.intBits, h1, hw]
    simp
theorem Rd.and {m n r : Nat} (hx : opv e x = some (.int k a)) (hy : opv e y = some (.int k b)) (ha : a = (m : Int)) (hb : b = (n : Int)) (hm : m < 2 ^ k.bits) (hn : n < 2 ^ k.bits) (hr : m &&& n = r) (hw : k.wrap (r : Int) = (r : Int)) :
    Rd P W0 H e (.binOp .and t x y t') (.int k (r : Int)) :=
  fun ρ hρ w _ o ho => by
    subst ha hb hr
    have h1 : (BitVec.ofInt k.bits (m : Int) &&& BitVec.ofInt k.bits (n : Int)).toNat = m &&& n := by rw [BitVec.toNat_and, bv_nat _ _ hm, bv_nat _ _ hn]
    simp only [execOp, ho, hρ x _ hx, hρ y _ hy, eqGuard, binOp, Op.intBits, h1, hw]
    simp

/-! ### Functions without a body -/
class ExtF (P : Program) (f : FuncId) (ext : outParam (Array Value → Sem Value)) : Prop where
  run : ∀ (as : Array Value) w, (callFunc f as).run P w = ((ext as).run P w).andThen fun v w' => .ok (.value v) w'
theorem Rd.ext {f : FuncId} {ex : Array Value → Sem Value} {vs : List Value} {args : Array Operand} {ats : Array TypeId} [hc : ExtF P f ex] (hvs : args.toList.mapM (opv e) = some vs)
    (h : ∀ w, Own W0 H w → (ex vs.toArray).run P w = .ok v w) : Rd P W0 H e (.call { callee := .value (.func f), args, argTypes := ats }) v :=
  fun ρ hρ w hw o ho => by
    have hmap : args.map ρ = vs.toArray := by
      apply Array.toList_inj.1
      rw [Array.toList_map]
      show _ = vs
      generalize args.toList = l at hvs ⊢
      induction l generalizing vs with
      | nil => simp at hvs; simp [hvs]
      | cons y l ih =>
        simp only [List.mapM_cons] at hvs
        cases hy : opv e y with
        | none => simp [hy] at hvs
        | some u =>
          cases hl : l.mapM (opv e) with
          | none => simp [hy, hl] at hvs
          | some us =>
            simp [hy, hl] at hvs
            subst hvs
            have : l.map ρ = us := by
              clear ih h hy
              induction l generalizing us with
              | nil => simp at hl; simp [hl]
              | cons z l ih2 =>
                simp only [List.mapM_cons] at hl
                cases hz : opv e z with
                | none => simp [hz] at hl
                | some q =>
                  cases hl2 : l.mapM (opv e) with
                  | none => simp [hz, hl2] at hl
                  | some qs =>
                    simp [hz, hl2] at hl
                    subst hl
                    simp [hρ z q hz, ih2 _ hl2]
            simp [hρ y u hy, this]
    have hx : ρ (.func f) = .func (.func f) #[] #[] := hρ _ _ rfl
    simp [execOp, ho, resolve, hx, Deferred.ofValue, invoke, hmap, hc.run, h w hw]

/-! ### An error that is none -/
theorem Rd.neNil {ms : Array (String × TypeId)} {c : Value} [hu : UnderT P t (.interface ms)] (hx : opv e x = some .nilIface) (hc : c = .nilIface) : Rd P W0 H e (.binOp .neq t x (.const c) t') (.bool false) :=
  fun ρ hρ w _ o ho => by
    subst hc
    have h : P.underlying t = some (.interface (P.methodsAt t)) := by simp [Program.methodsAt, hu.out]
    have hy : ρ (.const .nilIface) = .nilIface := hρ _ _ rfl
    simp [execOp, ho, hρ x _ hx, hy, eqGuard_nil_constR, run_neq_nil_nil w t h]

/-! ### Arrays in blocks -/
theorem Rd.indexArr {bk o n el size : Nat} [hs : ArrT P t n el size] (hx : opv e x = some (.pointer (some ⟨bk, o, none⟩))) (hy : opv e y = some (.int k a)) (h0 : 0 ≤ a) (h1 : a < n) :
    Rd P W0 H e (.indexAddr t x y) (.pointer (some ⟨bk, o + a.toNat * size, none⟩)) :=
  fun ρ hρ w _ op ho => by
    simp [execOp, ho, hρ x _ hx, hρ y _ hy, Instr.indexAt, Instr.sureAddr, asIntOf, run_underlying hs.under, h0, h1, hs.size, add_off]
theorem arrRun {bk o n el size : Nat} (hs : ArrT P t n el size) (lo hi : Option Value) (l h : Nat) (hl : match lo with | some v => ∃ k, v = .int k l | none => l = 0)
    (hh : match hi with | some v => ∃ k, v = .int k h | none => h = n) (h1 : l ≤ h) (h2 : h ≤ n) (hn : l < n) (w : World) :
    (Instr.sliceAt t (.pointer (some ⟨bk, o, none⟩)) lo hi none).run P w = .ok (.slice (some ⟨bk, o + l * size, none⟩) (h - l) (n - l)) w := by
  have hb : ∀ (k : IntKind) (n y : Nat) (code : BoundsCode), n ≤ y → (Instr.sliceBound (.int k n) y code).run P w = .ok n w := fun k n y code hn => by
    simp [Instr.sliceBound, asIntOf, hn]
  have hne : n ≠ l := by omega
  cases lo with
  | none =>
    subst hl
    have hz : n ≠ 0 := by omega
    cases hi with
    | none => subst hh; simp [Instr.sliceAt, run_underlying hs.under, Instr.sliceBounds, Instr.sureAddr, hs.size, add_off]
    | some v => obtain ⟨k, rfl⟩ := hh; simp [Instr.sliceAt, run_underlying hs.under, Instr.sliceBounds, Instr.sureAddr, hs.size, hb _ _ _ _ h2, add_off]
  | some v =>
    obtain ⟨k, rfl⟩ := hl
    cases hi with
    | none => subst hh; simp [Instr.sliceAt, run_underlying hs.under, Instr.sliceBounds, Instr.sureAddr, hs.size, hb _ _ _ _ h1, add_off, hne]
    | some v => obtain ⟨k, rfl⟩ := hh; simp [Instr.sliceAt, run_underlying hs.under, Instr.sliceBounds, Instr.sureAddr, hs.size, hb _ _ _ _ h2, hb _ _ _ _ h1, add_off, hne]
theorem Rd.slArr {bk o n el size : Nat} [hs : ArrT P t n el size] (hx : opv e x = some (.pointer (some ⟨bk, o, none⟩))) (hn : 0 < n) : Rd P W0 H e (.slice t x none none none) (.slice (some ⟨bk, o, none⟩) n n) :=
  fun ρ hρ w _ op ho => by
    have := arrRun (P := P) (bk := bk) (o := o) hs none none 0 n rfl rfl (Nat.zero_le _) (Nat.le_refl _) hn w
    simp only [Nat.zero_mul, Nat.add_zero, Nat.sub_zero] at this
    simp [execOp, ho, hρ x _ hx, this]
theorem Rd.slArrL {bk o n el size l : Nat} [hs : ArrT P t n el size] (hx : opv e x = some (.pointer (some ⟨bk, o, none⟩))) (hy : opv e y = some (.int k a)) (ha : a = (l : Int)) (hn : l < n) : Rd P W0 H e (.slice t x (some y) none none) (.slice (some ⟨bk, o + l * size, none⟩) (n - l) (n - l)) :=
  fun ρ hρ w _ op ho => by
    subst ha
    have := arrRun (P := P) (bk := bk) (o := o) hs (some (.int k l)) none l n ⟨k, rfl⟩ rfl (by omega) (Nat.le_refl _) hn w
    simp [execOp, ho, hρ x _ hx, hρ y _ hy, this]
theorem Rd.slArrE {bk o n el size : Nat} [hs : ArrT P t n el size] (hx : opv e x = some (.pointer (some ⟨bk, o, none⟩))) (hy : opv e y = some (.int k a)) (ha : a = (n : Int)) : Rd P W0 H e (.slice t x (some y) none none) (.slice (some ⟨bk, o, none⟩) 0 0) :=
  fun ρ hρ w _ op ho => by
    subst ha
    have hb : (Instr.sliceBound (.int k n) n BoundsCode.sliceB).run P w = .ok n w := by simp [Instr.sliceBound, asIntOf]
    simp [execOp, ho, hρ x _ hx, hρ y _ hy, Instr.sliceAt, run_underlying hs.under, Instr.sliceBounds, Instr.sureAddr, hs.size, hb]
theorem Rd.slArrH {bk o n el size h : Nat} [hs : ArrT P t n el size] (hx : opv e x = some (.pointer (some ⟨bk, o, none⟩))) (hy : opv e y = some (.int k a)) (ha : a = (h : Int)) (hh : h ≤ n) (hn : 0 < n) : Rd P W0 H e (.slice t x none (some y) none) (.slice (some ⟨bk, o, none⟩) h n) :=
  fun ρ hρ w _ op ho => by
    subst ha
    have := arrRun (P := P) (bk := bk) (o := o) hs none (some (.int k h)) 0 h rfl ⟨k, rfl⟩ (Nat.zero_le _) hh hn w
    simp only [Nat.zero_mul, Nat.add_zero, Nat.sub_zero] at this
    simp [execOp, ho, hρ x _ hx, hρ y _ hy, this]

theorem Rd.arrPtr {p : Option Addr} {len cap n el size : Nat} [hs : ArrT P t n el size] (hx : opv e x = some (.slice p len cap)) (hn : n ≤ len) : Rd P W0 H e (.sliceToArrayPointer t x) (.pointer p) :=
  fun ρ hρ w _ op ho => by
    have h1 : ¬ len < n := by omega
    simp [execOp, ho, hρ x _ hx, Instr.arrayAt, run_underlying hs.under, h1]
theorem Rd.eqlBytes {n el size : Nat} {l m : List UInt8} [hs : ArrT P t n el size] [he : UnderT P el (.int .u8)] (h1s : size = 1) (hgd : P.eqGuardType P.depth t = false) (hx : opv e x = some (.agg (u8s l).toArray)) (hy : opv e y = some (.agg (u8s m).toArray)) (hl : l.length = n) (hm : m.length = n) :
    Rd P W0 H e (.binOp .eql t x y t') (.bool (l == m)) :=
  fun ρ hρ w _ op ho => by
    subst h1s
    have h : (binOp .eql t (.agg (u8s l).toArray) (.agg (u8s m).toArray)).run P w = .ok (.bool (l == m)) w := run_eql_bytes (P := P) (w := w) t el n hs.under he.out hs.size l m hl hm
    simp [execOp, ho, hρ x _ hx, hρ y _ hy, eqGuard, hgd, h]
/-- The whole of a block is read. -/
theorem Rd.loadBlk {bk size : Nat} {cs : List Value} {el : TypeId} {fr : Nat × Nat} [ht : AggT P t size] (hx : opv e x = some (.pointer (some ⟨bk, 0, none⟩))) [hh : Has H bk (.cells cs.toArray el fr)] (hl : cs.length = size) : Rd P W0 H e (.load t x) (.agg cs.toArray) :=
  Rd.loadAgg hx hl (cellsH (h := hh) (fun j u hj => by simpa using hj))
/-- A store of an array or a struct, over the whole of its block. -/
theorem Eff.storeAll {bk : Nat} {cs vs : List Value} {el : TypeId} {put : Obj → Heap} {size : Nat} (hx : opv e x = some (.pointer (some ⟨bk, 0, none⟩))) (hy : opv e y = some (.agg vs.toArray)) [ht : AggT P t size] [hs : Spot H bk (.cells cs.toArray el (0, 0)) put]
    (h1 : ∀ u ∈ vs, u.oneCell' = true) (hl : vs.length = cs.length) (hsz : vs.length = size) (hR : R undef (put (.cells vs.toArray el (0, 0)))) : Eff P W0 e H (.store t x y) ty R :=
  Eff.skip fun ρ hρ w hw op hop => by
    have hst := run_storeCells_at P bk 0 el vs 0 cs.toArray w (hs.get hw) (by simp only [List.size_toArray]; omega) h1
    refine ⟨_, w.setRow bk vs.toArray, ?_, hR, setRow_own hs hw⟩
    have hst' : (storeCells ⟨bk, 0, none⟩ vs).run P w = .ok () (w.setRow bk vs.toArray) := by
      simpa [hl] using hst
    simp [execOp, hop, hρ x _ hx, hρ y _ hy, Instr.storeAt, Instr.sureAddr, storeVar, ht.size, Value.cells, hst']
    exact hsz
end

/-! ### Results -/
section
variable {P : Program} {n : Nat} {W0 : World} {H : Heap} {e : Env} {t : TypeId} {v : Value}
def rvSem (tmps : Array Value) : ResultVar → Sem Value
  | .tmp t => pure (tmps.getD t undef)
  | .cell a t => do loadVar t (← asAddr (tmps.getD a undef))
/-- A result's value at the end: a slot's, or what lies in a block. -/
def RvIs [Marks] (P : Program) (W0 : World) (e : Env) (H : Heap) (rv : ResultVar) (v : Value) : Prop :=
  ∀ n a w, Fits n e a → Own W0 H w → (rvSem a.tmps rv).run P w = .ok v w
theorem RvIs.tmp [Marks] {x : Tmp} (h : look e x = some v) : RvIs P W0 e H (.tmp x) v := fun n a w hf _ => by simp [rvSem, hf.slot x v h]
theorem RvIs.agg [Marks] {x : Tmp} {b size : Nat} {cs : List Value} {el : TypeId} {fr : Nat × Nat} [ht : AggT P t size] (h : look e x = some (.pointer (some ⟨b, 0, none⟩))) [hh : Has H b (.cells cs.toArray el fr)] (hl : cs.length = size) : RvIs P W0 e H (.cell x t) (.agg cs.toArray) := fun n a w hf hw => by
  have h1 : CellsAt w b 0 cs := cellsH (h := hh) (fun j u hj => by simpa using hj) w hw
  have h2 := h1.loadCells (P := P)
  simp [rvSem, hf.slot x _ h, asAddr, loadVar, ht.agg, ht.size, ← hl, h2]
theorem results_eq (fn : Func) (tmps : Array Value) : results fn tmps = (do let vs ← fn.results.mapM (rvSem tmps); pure (if h : vs.size = 1 then vs[0] else .tuple vs)) := by
  unfold results
  congr 1
theorem GQ.res1h {fn : Func} {R : Value → Heap → Prop} {r : ResultVar} (hr : fn.results = #[r]) (h1 : RvIs P W0 e H r v) (H2 : Heap) (hp : ∀ w, Own W0 H w → Own W0 H2 w) (h : R v H2) :
    GQ n W0 .ret (bodyPost P fn (fun x w' => ∃ v H', x = .returned v ∧ R v H' ∧ Own W0 H' w')) e H := by
  intro a w hf ho
  have g1 := h1 n a w hf ho
  refine ⟨hf.defers, v, ?_, v, H2, rfl, h, hp w ho⟩
  rw [results_eq, hr]
  simp [g1]
theorem GQ.res2h {fn : Func} {R : Value → Heap → Prop} {r r' : ResultVar} {v' : Value} (hr : fn.results = #[r, r']) (h1 : RvIs P W0 e H r v) (h2 : RvIs P W0 e H r' v') (H2 : Heap) (hp : ∀ w, Own W0 H w → Own W0 H2 w) (h : R (.tuple #[v, v']) H2) :
    GQ n W0 .ret (bodyPost P fn (fun x w' => ∃ v H', x = .returned v ∧ R v H' ∧ Own W0 H' w')) e H := by
  intro a w hf ho
  have g1 := h1 n a w hf ho
  have g2 := h2 n a w hf ho
  refine ⟨hf.defers, _, ?_, _, H2, rfl, h, hp w ho⟩
  rw [results_eq, hr]
  simp [g1, g2]
end

/-! ### Cells of bytes -/
theorem set_u8s (l : List UInt8) (extra : List Value) (k : Nat) (hk : k < l.length) (c : UInt8) : (u8s l ++ extra).toArray.setIfInBounds (0 + k * 1) (.int .u8 (c.toNat : Int)) = (u8s (l.set k c) ++ extra).toArray := by
  simp only [Nat.zero_add, Nat.mul_one, List.setIfInBounds_toArray]
  congr 1
  rw [List.set_append_left _ _ (by rw [u8s_length]; exact hk)]
  simp [u8s, List.map_set]
theorem cell_u8s (l : List UInt8) (extra : List Value) (k : Nat) (hk : k < l.length) : ((u8s l ++ extra).toArray : Array Value)[0 + k * 1]? = some (.int .u8 ((l[k]).toNat : Int)) := by
  rw [Nat.zero_add, Nat.mul_one, List.getElem?_toArray, List.getElem?_append_left (by rw [u8s_length]; exact hk)]
  simp [u8s, hk]
theorem half_get (l m : List UInt8) (h : m.length = l.length) (k : Nat) (hk : k < l.length) : (m.take k ++ l.drop k)[k]? = some l[k] := by
  rw [List.getElem?_append_right (by rw [List.length_take]; omega), List.length_take, Nat.min_eq_left (by omega), Nat.sub_self, List.getElem?_drop, Nat.add_zero, List.getElem?_eq_getElem hk]
theorem half_set (l m : List UInt8) (h : m.length = l.length) (k : Nat) (hk : k < l.length) (c : UInt8) (hc : m[k]? = some c) : (m.take k ++ l.drop k).set k c = m.take (k + 1) ++ l.drop (k + 1) := by
  rw [List.set_append_right _ _ (by rw [List.length_take]; omega), List.length_take, Nat.min_eq_left (by omega), Nat.sub_self, List.drop_eq_getElem_cons hk, List.set_cons_zero, List.take_add_one, hc]
  simp
instance SubH.left {B F : Heap} : SubH B (B ++ F) := ⟨List.sublist_append_left B F⟩

/-! ### Bytes that the run made -/
/-- Bytes in a slice that the run made. -/
theorem Buf.bytes {el n : Nat} {v : Value} {l : List UInt8} {B : Heap} (h : Buf el 1 v n (u8s l) B) : n = l.length ∧ ∃ p cap, v = .slice p l.length cap ∧ l.length ≤ cap ∧ cap ≤ 9223372036854775807 ∧ ∀ W0 w, Own W0 B w → At w p (u8s l) := by
  have hn := h.len
  rw [u8s_length, Nat.mul_one] at hn
  refine ⟨hn.symm, ?_⟩
  subst hn
  generalize hx : u8s l = xs at h
  generalize hm : l.length = m at h
  cases h with
  | nil => exact ⟨none, 0, rfl, Nat.le_refl _, by omega, fun _ _ _ => .inl rfl⟩
  | row b n cap _ extra h1 h2 h3 h4 =>
    refine ⟨some ⟨b, 0, none⟩, cap, rfl, h3, h4, fun W0 w hw => .inr ⟨b, 0, rfl, cellsH (H := [(b, .cells (xs ++ extra).toArray el (0, 0))]) (W0 := W0) ?_ w hw⟩⟩
    intro j u hj
    have hlt := (List.getElem?_eq_some_iff.1 hj).1
    rw [Nat.zero_add, List.getElem?_toArray, List.getElem?_append_left hlt]
    exact hj
theorem Buf.lit (el b : Nat) : Buf el 1 (.slice (some ⟨b, 0, none⟩) 0 0) 0 (u8s []) [(b, .cells #[] el (0, 0))] := Buf.row b 0 0 [] [] rfl rfl (Nat.le_refl _) (by omega)
theorem Eff.appendU8 {P : Program} {W0 : World} {H F B : Heap} {e : Env} {ty : TypeId} {x y : Operand} {v zz : Value} {R : Value → Heap → Prop} {el sc : Nat} {q : Option Addr} {xs ys : List UInt8} {tt : TypeId} [hT : SliceT P tt el 1 1 zz] (hx : opv e x = some v) (hB : Buf el 1 v xs.length (u8s xs) B)
    (hy : opv e y = some (.slice q ys.length sc)) (hH : H.Perm (B ++ F)) (hys : ∀ w, Own W0 H w → At w q (u8s ys)) (hm : xs.length + ys.length ≤ 140737488355328)
    (hR : ∀ v' B', Buf el 1 v' (xs ++ ys).length (u8s (xs ++ ys)) B' → R v' (B' ++ F)) : Eff P W0 e H (.call { callee := .builtin .append, args := #[x, y], argTypes := #[tt, tt] }) ty R :=
  Eff.append (by omega) hx hB hy hH (by rw [u8s_length, Nat.mul_one]) hys (u8s_one ys) (by omega) (by omega) (fun v' B' h => hR v' B' (by rw [u8s_append, List.length_append]; exact h))

theorem Buf.two {el n : Nat} {v : Value} {xs : List Value} {B : Heap} (h : Buf el 1 v n xs B) : (v = .slice none 0 0 ∧ n = 0 ∧ xs = [] ∧ B = []) ∨ ∃ b cap extra, v = .slice (some ⟨b, 0, none⟩) n cap ∧ B = [(b, .cells (xs ++ extra).toArray el (0, 0))] := by
  cases h with
  | nil => exact .inl ⟨rfl, rfl, rfl, rfl⟩
  | row b n cap xs extra _ _ _ _ => exact .inr ⟨b, cap, extra, rfl, rfl⟩
theorem T.of {P : Program} {W0 : World} {f : FuncId} {args : Array Value} {H : Heap} {R : Value → Heap → Prop} (h : ∀ w, Own W0 H w → Calls P f args w fun x w' => ∃ v H', x = .returned v ∧ R v H' ∧ Own W0 H' w') : T P W0 f args H R := h
theorem lt_of_cell {w : World} {a : Addr} {v : Value} (h : w.cell? a = some v) : a.block < w.heap.size := by
  unfold World.cell? at h
  cases hb : w.heap[a.block]? with
  | none => simp [hb] at h
  | some o => exact (Array.getElem?_eq_some_iff.1 hb).1
theorem cell_kept {W0 w : World} {H : Heap} {a : Addr} {v : Value} (h : W0.cell? a = some v) (hw : Own W0 H w) : w.cell? a = some v := by
  rw [← h]
  have h1 := hw.below.block _ (lt_of_cell h)
  simp only [World.cell?] at h1 ⊢
  rw [h1]
end Go.Own
