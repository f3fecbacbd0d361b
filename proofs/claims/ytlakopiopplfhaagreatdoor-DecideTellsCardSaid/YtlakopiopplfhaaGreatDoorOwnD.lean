/-
  WHAT EACH OPERATION THAT ACTS COMES TO, over slots and owned memory: general laws over any program.
-/
import Derived.Test.YtlakopiopplfhaaGreatDoorOwnC
import Derived.Laws.AppendOwn
import Derived.Lib.Slices
namespace Go.Own
open Go.RowKit

/-- Where a block stands, and the list with another object in its place. -/
class Spot (H : Heap) (b : Nat) (o : outParam Obj) (put : outParam (Obj → Heap)) : Prop where
  out : ∃ R, H.Perm ((b, o) :: R) ∧ ∀ o', ((b, o') :: R).Perm (put o')
instance Spot.head {H : Heap} {b : Nat} {o : Obj} : Spot ((b, o) :: H) b o (fun o' => (b, o') :: H) := ⟨H, .refl _, fun _ => .refl _⟩
instance (priority := low) Spot.tail {H : Heap} {x : Nat × Obj} {b : Nat} {o : Obj} {put : Obj → Heap} [h : Spot H b o put] : Spot (x :: H) b o (fun o' => x :: put o') := by
  obtain ⟨R, h1, h2⟩ := h.out
  exact ⟨x :: R, (h1.cons x).trans (.swap _ _ _), fun o' => (List.Perm.swap _ _ _).trans ((h2 o').cons x)⟩

section
variable {P : Program} {W0 : World} {H X : Heap} {e : Env} {t ty t' : TypeId} {x y z : Operand} {v u : Value} {k : IntKind} {a b c : Int} {R : Value → Heap → Prop} {op : Op}

theorem Spot.get {w : World} {b : Nat} {o : Obj} {put : Obj → Heap} (h : Spot H b o put) (hw : Own W0 H w) : w.heap[b]? = some o := by
  obtain ⟨R, h1, _⟩ := h.out
  exact hw.get (h1.mem_iff.2 (by simp))
theorem Spot.set {w w' : World} {b : Nat} {o o' : Obj} {put : Obj → Heap} (h : Spot H b o put) (hw : Own W0 H w) (hb : w'.heap[b]? = some o') (hk : ∀ k, k ≠ b → w'.heap[k]? = w.heap[k]?)
    (hs : w'.heap.size = w.heap.size) (ho : w'.os = w.os) (ht : w'.tape = w.tape) (hp : w'.output = w.output) (hd : w.drawn ≤ w'.drawn := by exact Nat.le_refl _) : Own W0 (put o') w' := by
  obtain ⟨R, h1, h2⟩ := h.out
  exact ((hw.perm h1).put hb hk hs ho ht hp hd).perm (h2 o')

/-- An operation that yields a value, by its run. -/
theorem Eff.val (h : ∀ ρ, Ev e ρ → ∀ w, Own W0 H w → ∀ o : Oper, o.op = op → o.type = ty → ∃ v H' w', (execOp ρ o).run P w = .ok (.value v) w' ∧ R v H' ∧ Own W0 H' w') : Eff P W0 e H op ty R := by
  intro a w he hw o ho hty next hn
  obtain ⟨v, H', w', hr, hR, hw'⟩ := h a.eval he w hw o ho hty
  unfold Oper.wp
  rw [hr]
  exact hn v H' w' hR hw'
theorem Eff.skip (h : ∀ ρ, Ev e ρ → ∀ w, Own W0 H w → ∀ o : Oper, o.op = op → ∃ H' w', (execOp ρ o).run P w = .ok .skip w' ∧ R undef H' ∧ Own W0 H' w') : Eff P W0 e H op ty R := by
  intro a w he hw o ho _ next hn
  obtain ⟨H', w', hr, hR, hw'⟩ := h a.eval he w hw o ho
  unfold Oper.wp
  rw [hr]
  exact hn undef H' w' hR hw'

/-- What only reads, as an acting operation. -/
theorem Eff.rd (h : Rd P W0 H e op v) (hR : R v H) : Eff P W0 e H op ty R :=
  Eff.val fun ρ hρ w hw o ho _ => ⟨v, H, w, h ρ hρ w hw o ho, hR, hw⟩

/-! ### Stores -/
theorem one_cells {v : Value} (h : v.oneCell' = true) : v.cells = #[v] := by
  cases v <;> first | rfl | cases h
def Fz (fr : Nat × Nat) (o : Nat) : Prop := ¬ (fr.1 ≤ o ∧ o < fr.2)
theorem Eff.store {bk o : Nat} {cs : Array Value} {el : TypeId} {fr : Nat × Nat} {put : Obj → Heap} (hx : opv e x = some (.pointer (some ⟨bk, o, none⟩))) (hy : opv e y = some v) [ht : OneT P t] [hs : Spot H bk (.cells cs el fr) put]
    (h1 : v.oneCell' = true) (ho : o < cs.size) (hf : Fz fr o) (hR : R undef (put (.cells (cs.setIfInBounds o v) el fr))) : Eff P W0 e H (.store t x y) ty R :=
  Eff.skip fun ρ hρ w hw op hop => by
    have hg := hs.get hw
    have hc1 : v.cells = #[v] := one_cells h1
    have hcell : w.cell? ⟨bk, o, none⟩ = some cs[o] := by simp [World.cell?, hg, ho]
    have hfro : w.frozen? ⟨bk, o, none⟩ = false := by
      simp only [World.frozen?, hg]
      simp only [Fz, not_and, Nat.not_lt] at hf
      by_cases h : fr.1 ≤ o
      · simp [h, hf h]
      · simp [h]
    refine ⟨_, w.setCell ⟨bk, o, none⟩ v, ?_, hR, ?_⟩
    · have hst : (Go.store ⟨bk, o, none⟩ v).run P w = .ok () (w.setCell ⟨bk, o, none⟩ v) := by
        rw [run_store P w _ v _ h1, hcell]
        simp [hfro]
      have h0 : (⟨bk, o, none⟩ : Addr).add 0 = ⟨bk, o, none⟩ := rfl
      simp [execOp, hop, hρ x _ hx, hρ y _ hy, Instr.storeAt, Instr.sureAddr, storeVar, ht.size, hc1, storeCells, h0, hst]
    · refine hs.set hw ?_ (fun k hk => Below.heap_setCell _ _ _ _ hk) (by simp) rfl rfl rfl
      rw [setCell_eq_setRow w bk o cs el fr v hg]
      exact setRow_heap w bk cs _ el fr hg

/-! ### New blocks -/
theorem Eff.box (hx : opv e x = some v) (hR : ∀ b, R (.pointer (some ⟨b, 0, none⟩)) ((b, .cells v.cells t (0, 0)) :: H)) : Eff P W0 e H (.box t x) ty R :=
  Eff.val fun ρ hρ w hw op hop _ => ⟨_, _, _, by simp [execOp, hop, hρ x _ hx, Instr.box, newVar, newRow], hR _, hw.alloc _⟩
theorem Eff.alloc [hz : ZeroT P t v] (hR : ∀ b, R (.pointer (some ⟨b, 0, none⟩)) ((b, .cells v.cells t (0, 0)) :: H)) : Eff P W0 e H (.alloc t) ty R :=
  Eff.val fun ρ hρ w hw op hop _ => ⟨_, _, _, by simp [execOp, hop, Instr.alloc, hz.run, newVar, newRow], hR _, hw.alloc _⟩
theorem Rd.build {place : Nat → Option (Nat × Nat)} {zc : Array Value} {parts : Array (Nat × Operand)} {vs : List (Nat × Value)} {cells : Array Value} [hb : BuildT P t place zc] (hp : parts.toList.mapM (fun q => (opv e q.2).map fun u => (q.1, u)) = some vs)
    (hc : Instr.fill place zc vs = some cells) : Rd P W0 H e (.build t parts) (.agg cells) := fun ρ hρ w _ op hop => by
  have hmap : ∀ (l : List (Nat × Operand)) (us : List (Nat × Value)), l.mapM (fun q => (opv e q.2).map fun u => (q.1, u)) = some us → l.map (fun q => (q.1, ρ q.2)) = us := by
    intro l
    induction l with
    | nil => intro us h; simp at h; simp [h]
    | cons q l ih =>
      intro us h
      simp only [List.mapM_cons] at h
      cases hq : opv e q.2 with
      | none => simp [hq] at h
      | some u =>
        cases hl : l.mapM (fun q => (opv e q.2).map fun u => (q.1, u)) with
        | none => simp [hq, hl] at h
        | some us' =>
          simp [hq, hl] at h
          subst h
          simp [hρ q.2 u hq, ih us' hl]
  have h1 : (parts.map fun (i, x) => (i, ρ x)).toList = vs := by rw [Array.toList_map]; exact hmap _ _ hp
  simp [execOp, hop, hb.run _ cells w (by rw [h1]; exact hc)]

/-- make([]T, n): n elements of one cell. -/
theorem madeCells_one (z : Value) (n : Nat) (hz : z.cells.size = 1) : madeCells z.cells n = (List.replicate n (z.cells[0]'(by omega))).toArray := by
  apply Array.ext
  · simp [size_madeCells]
  · intro i h1 h2
    simp only [madeCells, Array.getElem_map, hz, Nat.mod_one]
    simp [getElem!_pos, hz]
theorem Eff.make {el bytes : Nat} {zz : Value} {n : Nat} {k' : IntKind} [hs : SliceT P t el 1 bytes zz] (hx : opv e x = some (.int k a)) (hy : opv e y = some (.int k' b)) (ha : a = (n : Int)) (hb : b = (n : Int)) (hn : bytes * n ≤ 281474976710656) (hm : n ≤ 9223372036854775807)
    (h1 : zz.cells = #[zz]) (hR : ∀ bk, R (.slice (some ⟨bk, 0, none⟩) n n) ((bk, .cells (List.replicate n zz).toArray el (0, 0)) :: H)) : Eff P W0 e H (.makeSlice t x y) ty R :=
  Eff.val fun ρ hρ w hw op hop _ => by
    subst ha hb
    obtain ⟨i, hi, hsz, hby, hz⟩ := hs.info
    have hr := run_make (P := P) w t el i zz hs.under hi hz k k' n n (by omega) (by omega) (by rw [hby]; omega) (by omega)
    have hm1 : madeCells zz.cells (n * i.size) = (List.replicate n zz).toArray := by
      rw [hsz, Nat.mul_one, madeCells_one zz n hs.zsize]
      simp only [h1]
      rfl
    simp only [Int.toNat_natCast, hm1] at hr
    exact ⟨_, _, _, by simp [execOp, hop, hρ x _ hx, hρ y _ hy, hr], hR _, hw.alloc _⟩
/-- A slice's literal. -/
theorem Eff.buildSlice {el size bytes len : Nat} {zz : Value} {parts : Array (Nat × Operand)} {vs : List (Nat × Value)} {cells : Array Value} [hs : SliceT P t el size bytes zz] (hp : parts.toList.mapM (fun q => (opv e q.2).map fun u => (q.1, u)) = some vs)
    (hc : Instr.fill (fun i => some (i * size, size)) ((Array.range (len * size)).map (zz.cells[· % zz.cells.size]!)) vs = some cells) (hl : len * size ≤ 16777216)
    (hR : ∀ bk, R (.slice (some ⟨bk, 0, none⟩) len len) ((bk, .cells cells el (0, 0)) :: H)) : Eff P W0 e H (.buildSlice t len parts) ty R :=
  Eff.val fun ρ hρ w hw op hop _ => by
    obtain ⟨i, hi, hsz, hby, hz⟩ := hs.info
    have hmap : ∀ (l : List (Nat × Operand)) (us : List (Nat × Value)), l.mapM (fun q => (opv e q.2).map fun u => (q.1, u)) = some us → l.map (fun q => (q.1, ρ q.2)) = us := by
      intro l
      induction l with
      | nil => intro us h; simp at h; simp [h]
      | cons q l ih =>
        intro us h
        simp only [List.mapM_cons] at h
        cases hq : opv e q.2 with
        | none => simp [hq] at h
        | some u =>
          cases hl : l.mapM (fun q => (opv e q.2).map fun u => (q.1, u)) with
          | none => simp [hq, hl] at h
          | some us' =>
            simp [hq, hl] at h
            subst h
            simp [hρ q.2 u hq, ih us' hl]
    have h1 : parts.toList.map (fun x => (x.1, ρ x.2)) = vs := hmap _ _ hp
    have h2 : (sizeOf el).run P w = .ok size w := by simp [sizeOf, typeInfo, hi, hsz]
    have h3 : ¬ 16777216 < len * size := by omega
    have hzz : (zeroValue el).run P w = .ok zz w := by simp [zeroValue, typeInfo, hi, hz]
    have hrun : (Instr.buildSlice t len (parts.map fun (i, x) => (i, ρ x))).run P w = .ok (.slice (some ⟨w.heap.size, 0, none⟩) len len) (w.alloc (.cells cells el)) := by
      by_cases h0 : len * size = 0
      · have hc' : Instr.fill (fun i => some (i * size, size)) #[] vs = some cells := by rw [h0] at hc; simpa [Array.range_zero'] using hc
        simp [Instr.buildSlice, run_underlying hs.under, h2, h0, h1, hc', newRow, Array.range_zero']
      · simp [Instr.buildSlice, run_underlying hs.under, h2, h0, h3, hzz, h1, hc, newRow]
    exact ⟨_, _, _, by simp [execOp, hop, hrun], hR _, hw.alloc _⟩

/-! ### copy -/
theorem setRow_own {bk : Nat} {cs cs' : Array Value} {el : TypeId} {fr : Nat × Nat} {put : Obj → Heap} (hs : Spot H bk (.cells cs el fr) put) {w : World} (hw : Own W0 H w) : Own W0 (put (.cells cs' el fr)) (w.setRow bk cs') :=
  hs.set hw (setRow_heap w bk cs _ el fr (hs.get hw)) (fun k hk => setRow_other w bk k _ hk) (by simp) rfl rfl rfl

/-- The cells of 'old' from o on with 'new' laid over. -/
def over (old : List Value) (o : Nat) (new : List Value) : List Value := old.take o ++ new ++ old.drop (o + new.length)

/-- copy(dst, src): dst lies in the owned block bk from o on. -/
theorem Eff.copy {bk o dl dc sl sc el el' bytes : Nat} {p : Option Addr} {src : List Value} {cs : List Value} {put : Obj → Heap} {tt ts : TypeId} {zz : Value} [hT : SliceT P tt el 1 bytes zz] (hx : opv e x = some (.slice (some ⟨bk, o, none⟩) dl dc))
    (hy : opv e y = some (.slice p sl sc)) [hs : Spot H bk (.cells cs.toArray el' (0, 0)) put] (hsl : sl = src.length) (hsrc : ∀ w, Own W0 H w → At w p src) (h1 : ∀ u ∈ src, u.oneCell' = true) (hfit : o + dl ≤ cs.length)
    (hR : R (.int .i64 (min sl dl : Nat)) (put (.cells (over cs o (src.take dl)).toArray el' (0, 0)))) : Eff P W0 e H (.call { callee := .builtin .copy, args := #[x, y], argTypes := #[tt, ts] }) ty R :=
  Eff.val fun ρ hρ w hw op hop hty => by
    subst hsl
    obtain ⟨i, hi, hsz, _, _⟩ := hT.info
    have hmin : Nat.min src.length dl = (src.take dl).length := by rw [List.length_take]; exact Nat.min_comm _ _
    have hfc : (Builtin.firstCells 1 (src.take dl).length (.slice p src.length sc)).run P w = .ok (src.take dl).toArray w := ((hsrc w hw).take dl).firstCells (P := P) 1 _ _ sc (by simp)
    have hst := run_storeCells_at P bk o el' (src.take dl) 0 cs.toArray w (hs.get hw) (by simp only [List.length_take, List.size_toArray]; omega) (fun u hu => h1 u (List.mem_of_mem_take hu))
    simp only [Nat.add_zero] at hst
    refine ⟨_, _, w.setRow bk (over cs o (src.take dl)).toArray, ?_, hR, setRow_own hs hw⟩
    have hst' : (storeCells ⟨bk, o, none⟩ (src.take dl)).run P w = .ok () (w.setRow bk (over cs o (src.take dl)).toArray) := by simpa [over] using hst
    have hz1 : (sizeOf el).run P w = .ok 1 w := by simp [sizeOf, typeInfo, hi, hsz]
    simp only [execOp, hop, resolve, List.map_toArray, List.map_cons, List.map_nil, hρ x _ hx, hρ y _ hy, Sem.run_bind, Sem.run_pure, Result.andThen_ok, invoke, builtin, Builtin.copy_]
    simp [run_underlying hT.under, Builtin.lenOf, hz1]
    have hmin' : Nat.min src.length dl = min dl src.length := by rw [hmin]; simp
    rw [hmin'] at *
    have hfc' : (Builtin.firstCells 1 (min dl src.length) (.slice p src.length sc)).run P w = .ok (src.take dl).toArray w := by simpa using hfc
    simp [hfc', hst', goInt]
    rw [Nat.min_comm]
/-- copy where nothing is copied. -/
theorem Eff.copy0 {p q : Option Addr} {dl dc sl sc el bytes size : Nat} {tt ts : TypeId} {zz : Value} [hT : SliceT P tt el size bytes zz] (hx : opv e x = some (.slice p dl dc)) (hy : opv e y = some (.slice q sl sc)) (h0 : dl = 0 ∨ sl = 0)
    (hR : R (.int .i64 0) H) : Eff P W0 e H (.call { callee := .builtin .copy, args := #[x, y], argTypes := #[tt, ts] }) ty R :=
  Eff.val fun ρ hρ w hw op hop hty => by
    obtain ⟨i, hi, hsz, _, _⟩ := hT.info
    have hz1 : (sizeOf el).run P w = .ok size w := by simp [sizeOf, typeInfo, hi, hsz]
    have hm : Nat.min sl dl = 0 := by show min sl dl = 0; omega
    have hfc : (Builtin.firstCells size 0 (.slice q sl sc)).run P w = .ok #[] w := At.firstCells (P := P) (At.nil (p := q)) size 0 sl sc (by simp)
    refine ⟨_, _, w, ?_, hR, hw⟩
    simp only [execOp, hop, resolve, List.map_toArray, List.map_cons, List.map_nil, hρ x _ hx, hρ y _ hy, Sem.run_bind, Sem.run_pure, Result.andThen_ok, invoke, builtin, Builtin.copy_]
    cases p <;> simp [run_underlying hT.under, Builtin.lenOf, hz1, hm, hfc, goInt, storeCells]

/-! ### append -/
/-- A slice that the run made: its cells, and the block in which they lie, if any. -/
inductive Buf (el size : Nat) : Value → Nat → List Value → Heap → Prop
  | nil : Buf el size (.slice none 0 0) 0 [] []
  | row (b n cap : Nat) (xs extra : List Value) (h1 : xs.length = n * size) (h2 : xs.length + extra.length = cap * size) (h3 : n ≤ cap) (h4 : cap ≤ 9223372036854775807) :
      Buf el size (.slice (some ⟨b, 0, none⟩) n cap) n xs [(b, .cells (xs ++ extra).toArray el (0, 0))]

theorem Buf.len {el size n : Nat} {v : Value} {xs : List Value} {B : Heap} (h : Buf el size v n xs B) : xs.length = n * size := by
  cases h with
  | nil => simp
  | row _ _ _ _ _ h1 => exact h1

theorem Eff.append {el size bytes n m sc : Nat} {q : Option Addr} {xs ys : List Value} {B F : Heap} {tt : TypeId} {zz : Value} [hT : SliceT P tt el size bytes zz] (hsz : 0 < size) (hx : opv e x = some v) (hB : Buf el size v n xs B) (hy : opv e y = some (.slice q m sc))
    (hH : H.Perm (B ++ F)) (hlen : ys.length = m * size) (hys : ∀ w, Own W0 H w → At w q ys) (h1 : ∀ u ∈ ys, u.oneCell' = true) (hm : n + m ≤ 9223372036854775807) (hby : (n + m) * bytes ≤ 140737488355328)
    (hR : ∀ v' B', Buf el size v' (n + m) (xs ++ ys) B' → R v' (B' ++ F)) : Eff P W0 e H (.call { callee := .builtin .append, args := #[x, y], argTypes := #[tt, tt] }) ty R :=
  Eff.val fun ρ hρ w hw op hop hty => by
    obtain ⟨i, hi, hsz', hby', hz⟩ := hT.info
    have hwB := hw.perm hH
    -- where the appended cells lie
    have hsrc : ∃ ad, (Builtin.append_ #[tt, tt] ty #[v, .slice q m sc]).run P w = (Builtin.append_ #[tt, tt] ty #[v, .slice (some ad) m sc]).run P w ∧ ∀ j u, ys[j]? = some u → w.cell? (ad.add j) = some u := by
      rcases hys w hw with h0 | ⟨b, o, rfl, hc⟩
      · subst h0
        have hm0 : m = 0 := by
          have h9 : m * size = 0 := by simpa using hlen.symm
          rcases Nat.mul_eq_zero.1 h9 with h9 | h9 <;> omega
        subst hm0
        refine ⟨default, ?_, by simp⟩
        have hz1 : ∀ w', (sizeOf el).run P w' = .ok size w' := fun w' => by simp [sizeOf, typeInfo, hi, hsz']
        have hf : ∀ (r : Option Addr) w', (Builtin.firstCells size 0 (.slice r 0 sc)).run P w' = .ok #[] w' := fun r w' => At.firstCells (P := P) At.nil size 0 0 sc (by simp)
        cases hB with
        | nil => simp [Builtin.append_, run_underlying hT.under, hz1, Builtin.lenOf, hf]
        | row g n' cap xs' extra h1 h2 h3 h4 => simp [Builtin.append_, run_underlying hT.under, hz1, Builtin.lenOf, hf, h3]
      · exact ⟨⟨b, o, none⟩, rfl, fun j u hj => by rw [add_off]; exact hc j u hj⟩
    obtain ⟨ad, hrun0, hcell⟩ := hsrc
    have this : ∃ v' B' w', (Builtin.append_ #[tt, tt] ty #[v, .slice (some ad) m sc]).run P w = .ok v' w' ∧ Buf el size v' (n + m) (xs ++ ys) B' ∧ Own W0 (B' ++ F) w' := by
      have hzc : ∀ q, (Builtin.zeroCells zz.cells q).toList.length = q * size := fun q => by rw [Array.length_toList, size_zeroCells, hT.zsize]
      have hge : ∀ old, n + m ≤ grownCap w (n + m) old el := fun old => grownCap_ge w (n + m) old el
      have hcm : ∀ old, grownCap w (n + m) old el ≤ 9223372036854775807 := fun old => by have := grownCap_le_maxLen w (n + m) old el (by simp only [maxLen]; omega); simpa [maxLen] using this
      have hmul : ∀ old, (n + m) * size + (grownCap w (n + m) old el - (n + m)) * size = grownCap w (n + m) old el * size := fun old => by rw [← Nat.add_mul]; congr 1; have := hge old; omega
      have hF : Own W0 F w := hwB.sub (List.sublist_append_right _ _)
      subst hsz'
      subst hby'
      cases hB with
      | nil =>
        by_cases hm0 : m = 0
        · subst hm0
          have hn : ys = [] := List.eq_nil_of_length_eq_zero (by simpa using hlen)
          subst hn
          refine ⟨.slice none 0 0, [], w, ?_, .nil, by simpa using hF⟩
          simp [Builtin.append_, run_underlying hT.under, sizeOf, typeInfo, hi, Builtin.lenOf, Builtin.firstCells, loadCells, loadCellsFrom]
        · have hr := run_append_nil (P := P) w tt ty el i zz hT.under hi hz ad m sc ys hlen hcell (by omega) (by omega) (by have hb := hby; simp only [Nat.zero_add] at hb; omega)
          have h0 : 0 + m = m := Nat.zero_add m
          have e1 := hge 0; have e2 := hcm 0; have e3 := hmul 0
          rw [h0] at e1 e2 e3
          rw [h0, List.nil_append]
          refine ⟨_, _, _, hr, .row w.heap.size m _ ys (Builtin.zeroCells zz.cells (grownCap w m 0 el - m)).toList hlen (by rw [hzc, hlen]; exact e3) e1 e2, ?_⟩
          have := (hF.drew1).alloc (.cells (ys.toArray ++ Builtin.zeroCells zz.cells (grownCap w m 0 el - m)) el)
          have e4 : ys.toArray ++ Builtin.zeroCells zz.cells (grownCap w m 0 el - m) = (ys ++ (Builtin.zeroCells zz.cells (grownCap w m 0 el - m)).toList).toArray := by
            apply Array.toList_inj.1; simp
          rw [e4] at this ⊢
          exact this
      | row g n' cap xs' extra h1' h2 h3 h4 =>
        have hg := hwB.mem (g, .cells (xs ++ extra).toArray el (0, 0)) (by simp)
        by_cases hroom : n + m ≤ cap
        · have hle : (n + m) * i.size ≤ cap * i.size := Nat.mul_le_mul_right _ hroom
          have hfit : n * i.size + ys.length ≤ (xs ++ extra).toArray.size := by
            rw [List.size_toArray, List.length_append, h2, hlen, ← Nat.add_mul]; exact hle
          have hr := run_append_room (P := P) w tt ty el i hT.under hi g n cap (xs ++ extra).toArray hg.2 ad m sc ys hlen hcell h1 hroom hfit
          have e5 : ((xs ++ extra).toArray.toList.take (n * i.size) ++ ys ++ (xs ++ extra).toArray.toList.drop (n * i.size + ys.length)) = xs ++ ys ++ extra.drop ys.length := by
            show (xs ++ extra).take (n * i.size) ++ ys ++ (xs ++ extra).drop (n * i.size + ys.length) = _
            rw [← h1', List.take_left, List.drop_append]
            simp
          rw [e5] at hr
          refine ⟨_, _, _, hr, .row g (n + m) cap (xs ++ ys) (extra.drop ys.length) (by rw [List.length_append, h1', hlen, Nat.add_mul]) ?_ hroom h4, ?_⟩
          · rw [List.length_append, List.length_drop]
            rw [h1'] at h2 ⊢
            rw [Nat.add_mul] at hle
            omega
          · have hs : Spot ((g, Obj.cells (xs ++ extra).toArray el (0, 0)) :: F) g (.cells (xs ++ extra).toArray el (0, 0)) (fun o' => (g, o') :: F) := Spot.head
            exact setRow_own hs hwB
        · have holds : ∀ j u, xs[j]? = some u → w.cell? ((⟨g, 0, none⟩ : Addr).add j) = some u := fun j u hj => by
            rw [add_off, Nat.zero_add, cell_of_row w g j _ el (0, 0) hg.2]
            have hlt : j < xs.length := (List.getElem?_eq_some_iff.1 hj).1
            simp [List.getElem?_append_left hlt, hj]
          have hr := run_append_grow (P := P) w tt ty el i zz hT.under hi hz ⟨g, 0, none⟩ n cap xs h1' holds ad m sc ys hlen hcell (by omega) (by omega) (growslice_fits (by omega) hby)
          refine ⟨_, _, _, hr, .row w.heap.size (n + m) _ (xs ++ ys) (Builtin.zeroCells zz.cells (grownCap w (n + m) cap el - (n + m))).toList (by rw [List.length_append, h1', hlen, Nat.add_mul]) ?_ (hge cap) (hcm cap), ?_⟩
          · rw [hzc, List.length_append, h1', hlen, ← Nat.add_mul]; exact hmul cap
          · have := (hF.drew1).alloc (.cells (xs.toArray ++ ys.toArray ++ Builtin.zeroCells zz.cells (grownCap w (n + m) cap el - (n + m))) el)
            have e4 : xs.toArray ++ ys.toArray ++ Builtin.zeroCells zz.cells (grownCap w (n + m) cap el - (n + m)) = (xs ++ ys ++ (Builtin.zeroCells zz.cells (grownCap w (n + m) cap el - (n + m))).toList).toArray := by
              apply Array.toList_inj.1; simp
            rw [e4] at this ⊢
            exact this
    obtain ⟨v', B', w', hr, hB', hO⟩ := this
    refine ⟨v', B' ++ F, w', ?_, hR v' B' hB', hO⟩
    simp only [execOp, hop, resolve, List.map_toArray, List.map_cons, List.map_nil, hρ x _ hx, hρ y _ hy, Sem.run_bind, Sem.run_pure, Result.andThen_ok, invoke, builtin, hty]
    simp [hrun0, hr]
end
end Go.Own
