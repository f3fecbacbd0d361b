/-
  WHAT EACH OPERATION COMES TO, over slots and owned memory: general laws over any program.
-/
import Derived.Test.YtlakopiopplfhaaGreatDoorOwnB
import Derived.Lib.ConvBytes
import Derived.Laws.BytesString
import Derived.Laws.CopyRow
import Derived.Laws.MakeOwn
namespace Go.Own
open Go.RowKit

/-! ### Tables of a program -/
class UnderT (P : Program) (t : TypeId) (d : outParam TypeDesc) : Prop where
  out : P.underlying t = some d
class FAddr (P : Program) (t : TypeId) (f : Nat) (off : outParam Nat) : Prop where
  run : ∀ a w, (Instr.fieldAt t (.pointer (some a)) f).run P w = .ok (.pointer (some (a.add off))) w
class SliceT (P : Program) (t : TypeId) (e : outParam TypeId) (size bytes : outParam Nat) (z : outParam Value) : Prop where
  under : P.underlying t = some (.slice e)
  info : ∃ i, P.info? e = some i ∧ i.size = size ∧ i.bytes = bytes ∧ i.zero = some z
  zsize : z.cells.size = size
class ArrT (P : Program) (t : TypeId) (n : outParam Nat) (e : outParam TypeId) (size : outParam Nat) : Prop where
  under : P.underlying t = some (.array n e)
  size : ∀ w, (sizeOf e).run P w = .ok size w
class OneT (P : Program) (t : TypeId) : Prop where
  agg : ∀ w, (isAgg t).run P w = .ok false w
  size : ∀ w, (sizeOf t).run P w = .ok 1 w
class AggT (P : Program) (t : TypeId) (size : outParam Nat) : Prop where
  agg : ∀ w, (isAgg t).run P w = .ok true w
  size : ∀ w, (sizeOf t).run P w = .ok size w
class CallF (P : Program) (f : FuncId) : Prop where
  run : ∀ (as : Array Value) w, (callFunc f as).run P w = .ok (.enter f as) w
/-- A struct's or an array's literal: where its parts lie, and its zero cells. -/
class BuildT (P : Program) (t : TypeId) (place : outParam (Nat → Option (Nat × Nat))) (z : outParam (Array Value)) : Prop where
  eq : ∀ parts, P.built t parts = Instr.fill place z parts
theorem BuildT.run {P : Program} {t : TypeId} {place : Nat → Option (Nat × Nat)} {z : Array Value} (h : BuildT P t place z) (parts : Array (Nat × Value)) (cells : Array Value) (w : World) (hc : Instr.fill place z parts.toList = some cells) :
    (Instr.build t parts).run P w = .ok (.agg cells) w := run_build w t parts cells (by rw [h.eq]; exact hc)
class ZeroT (P : Program) (t : TypeId) (z : outParam Value) : Prop where
  run : ∀ w, (zeroValue t).run P w = .ok z w

/-- A string's value, by its bytes. -/
abbrev S (l : List UInt8) : Value := .string ⟨l.toArray⟩

section
variable {P : Program} {W0 : World} {H X : Heap} {e : Env} {t ty t' : TypeId} {x y z : Operand} {v u : Value} {k : IntKind} {a b c : Int}

theorem add_off (b o n : Nat) : (⟨b, o, none⟩ : Addr).add n = ⟨b, o + n, none⟩ := by
  unfold Addr.add
  split
  · rename_i h; subst h; rfl
  · rfl

/-! ### Slots alone -/
theorem Rd.move (hx : opv e x = some v) : Rd P W0 H e (.move x) v := fun ρ hρ _ _ o ho => by simp [execOp, ho, hρ x v hx]
theorem Rd.assign (hx : opv e x = some v) : Rd P W0 H e (.assign x) v := fun ρ hρ w _ o ho => by simp [execOp, ho, hρ x v hx]
theorem Rd.pick {q : Bool} (hx : opv e x = some (.bool q)) (hy : opv e y = some u) (hz : opv e z = some v) : Rd P W0 H e (.pick x y z) (bif q then u else v) :=
  fun ρ hρ w _ o ho => by cases q <;> simp [execOp, ho, hρ x _ hx, hρ y _ hy, hρ z _ hz, asBool]
theorem Rd.pickAnd {q r : Bool} (hx : opv e x = some (.bool q)) (hy : opv e y = some (bif q then .bool r else undef)) (hz : opv e z = some (.bool false)) : Rd P W0 H e (.pick x y z) (.bool (q && r)) := by
  have := Rd.pick (P := P) (W0 := W0) (H := H) hx hy hz
  cases q <;> simpa using this
theorem Rd.pickOr {q r : Bool} (hx : opv e x = some (.bool q)) (hy : opv e y = some (.bool true)) (hz : opv e z = some (bif !q then .bool r else undef)) : Rd P W0 H e (.pick x y z) (.bool (q || r)) := by
  have := Rd.pick (P := P) (W0 := W0) (H := H) hx hy hz
  cases q <;> simpa using this
theorem Rd.pickT (hx : opv e x = some (.bool true)) (hy : opv e y = some u) : Rd P W0 H e (.pick x y z) u :=
  fun ρ hρ w _ o ho => by simp [execOp, ho, hρ x _ hx, hρ y _ hy, asBool]
theorem Rd.pickF (hx : opv e x = some (.bool false)) (hz : opv e z = some u) : Rd P W0 H e (.pick x y z) u :=
  fun ρ hρ w _ o ho => by simp [execOp, ho, hρ x _ hx, hρ z _ hz, asBool]

/-! ### Numbers -/
theorem Rd.add (hx : opv e x = some (.int k a)) (hy : opv e y = some (.int k b)) (hc : k.wrap (a + b) = c) : Rd P W0 H e (.binOp .add t x y t') (.int k c) :=
  fun ρ hρ w _ o ho => by simp [execOp, ho, hρ x _ hx, hρ y _ hy, eqGuard, binOp, Op.intArith, hc]
theorem Rd.sub (hx : opv e x = some (.int k a)) (hy : opv e y = some (.int k b)) (hc : k.wrap (a - b) = c) : Rd P W0 H e (.binOp .sub t x y t') (.int k c) :=
  fun ρ hρ w _ o ho => by simp [execOp, ho, hρ x _ hx, hρ y _ hy, eqGuard, binOp, Op.intArith, hc]
theorem Rd.mul (hx : opv e x = some (.int k a)) (hy : opv e y = some (.int k b)) (hc : k.wrap (a * b) = c) : Rd P W0 H e (.binOp .mul t x y t') (.int k c) :=
  fun ρ hρ w _ o ho => by simp [execOp, ho, hρ x _ hx, hρ y _ hy, eqGuard, binOp, Op.intArith, hc]
theorem Rd.quo (hx : opv e x = some (.int k a)) (hy : opv e y = some (.int k b)) (hb : b ≠ 0) (hc : k.wrap (a.tdiv b) = c) : Rd P W0 H e (.binOp .quo t x y t') (.int k c) :=
  fun ρ hρ w _ o ho => by simp [execOp, ho, hρ x _ hx, hρ y _ hy, eqGuard, binOp, Op.intDiv, hb, hc]
theorem Rd.rem (hx : opv e x = some (.int k a)) (hy : opv e y = some (.int k b)) (hb : b ≠ 0) (hc : a.tmod b = c) : Rd P W0 H e (.binOp .rem t x y t') (.int k c) :=
  fun ρ hρ w _ o ho => by simp [execOp, ho, hρ x _ hx, hρ y _ hy, eqGuard, binOp, Op.intDiv, hb, hc]
theorem Rd.eql (hx : opv e x = some (.int k a)) (hy : opv e y = some (.int k b)) : Rd P W0 H e (.binOp .eql t x y t') (.bool (decide (a = b))) :=
  fun ρ hρ w _ o ho => by simp [execOp, ho, hρ x _ hx, hρ y _ hy, eqGuard, binOp, Op.intCmp]; rfl
theorem Rd.neq (hx : opv e x = some (.int k a)) (hy : opv e y = some (.int k b)) : Rd P W0 H e (.binOp .neq t x y t') (.bool (!decide (a = b))) :=
  fun ρ hρ w _ o ho => by simp [execOp, ho, hρ x _ hx, hρ y _ hy, eqGuard, binOp, Op.intCmp, bne]; rfl
theorem Rd.lss (hx : opv e x = some (.int k a)) (hy : opv e y = some (.int k b)) : Rd P W0 H e (.binOp .lss t x y t') (.bool (decide (a < b))) :=
  fun ρ hρ w _ o ho => by simp [execOp, ho, hρ x _ hx, hρ y _ hy, eqGuard, binOp, Op.intCmp]
theorem Rd.leq (hx : opv e x = some (.int k a)) (hy : opv e y = some (.int k b)) : Rd P W0 H e (.binOp .leq t x y t') (.bool (decide (a ≤ b))) :=
  fun ρ hρ w _ o ho => by simp [execOp, ho, hρ x _ hx, hρ y _ hy, eqGuard, binOp, Op.intCmp]
theorem Rd.gtr (hx : opv e x = some (.int k a)) (hy : opv e y = some (.int k b)) : Rd P W0 H e (.binOp .gtr t x y t') (.bool (decide (b < a))) :=
  fun ρ hρ w _ o ho => by simp [execOp, ho, hρ x _ hx, hρ y _ hy, eqGuard, binOp, Op.intCmp]
theorem Rd.geq (hx : opv e x = some (.int k a)) (hy : opv e y = some (.int k b)) : Rd P W0 H e (.binOp .geq t x y t') (.bool (decide (b ≤ a))) :=
  fun ρ hρ w _ o ho => by simp [execOp, ho, hρ x _ hx, hρ y _ hy, eqGuard, binOp, Op.intCmp]
/-! Tests whose outcome is known. -/
theorem Rd.eqlT (hx : opv e x = some (.int k a)) (hy : opv e y = some (.int k b)) (h : a = b) : Rd P W0 H e (.binOp .eql t x y t') (.bool true) := by
  have h1 := Rd.eql (P := P) (W0 := W0) (H := H) (t := t) (t' := t') hx hy
  have h2 : decide (a = b) = true := by simpa using h
  rw [h2] at h1; exact h1
theorem Rd.eqlF (hx : opv e x = some (.int k a)) (hy : opv e y = some (.int k b)) (h : ¬ (a = b)) : Rd P W0 H e (.binOp .eql t x y t') (.bool false) := by
  have h1 := Rd.eql (P := P) (W0 := W0) (H := H) (t := t) (t' := t') hx hy
  have h2 : decide (a = b) = false := by simpa using h
  rw [h2] at h1; exact h1
theorem Rd.neqT (hx : opv e x = some (.int k a)) (hy : opv e y = some (.int k b)) (h : ¬ a = b) : Rd P W0 H e (.binOp .neq t x y t') (.bool true) := by
  have h1 := Rd.neq (P := P) (W0 := W0) (H := H) (t := t) (t' := t') hx hy
  have h2 : (!decide (a = b)) = true := by simpa using h
  rw [h2] at h1; exact h1
theorem Rd.neqF (hx : opv e x = some (.int k a)) (hy : opv e y = some (.int k b)) (h : ¬ (¬ a = b)) : Rd P W0 H e (.binOp .neq t x y t') (.bool false) := by
  have h1 := Rd.neq (P := P) (W0 := W0) (H := H) (t := t) (t' := t') hx hy
  have h2 : (!decide (a = b)) = false := by simpa using h
  rw [h2] at h1; exact h1
theorem Rd.lssT (hx : opv e x = some (.int k a)) (hy : opv e y = some (.int k b)) (h : a < b) : Rd P W0 H e (.binOp .lss t x y t') (.bool true) := by
  have h1 := Rd.lss (P := P) (W0 := W0) (H := H) (t := t) (t' := t') hx hy
  have h2 : decide (a < b) = true := by simpa using h
  rw [h2] at h1; exact h1
theorem Rd.lssF (hx : opv e x = some (.int k a)) (hy : opv e y = some (.int k b)) (h : ¬ (a < b)) : Rd P W0 H e (.binOp .lss t x y t') (.bool false) := by
  have h1 := Rd.lss (P := P) (W0 := W0) (H := H) (t := t) (t' := t') hx hy
  have h2 : decide (a < b) = false := by simpa using h
  rw [h2] at h1; exact h1
theorem Rd.leqT (hx : opv e x = some (.int k a)) (hy : opv e y = some (.int k b)) (h : a ≤ b) : Rd P W0 H e (.binOp .leq t x y t') (.bool true) := by
  have h1 := Rd.leq (P := P) (W0 := W0) (H := H) (t := t) (t' := t') hx hy
  have h2 : decide (a ≤ b) = true := by simpa using h
  rw [h2] at h1; exact h1
theorem Rd.leqF (hx : opv e x = some (.int k a)) (hy : opv e y = some (.int k b)) (h : ¬ (a ≤ b)) : Rd P W0 H e (.binOp .leq t x y t') (.bool false) := by
  have h1 := Rd.leq (P := P) (W0 := W0) (H := H) (t := t) (t' := t') hx hy
  have h2 : decide (a ≤ b) = false := by simpa using h
  rw [h2] at h1; exact h1
theorem Rd.gtrT (hx : opv e x = some (.int k a)) (hy : opv e y = some (.int k b)) (h : b < a) : Rd P W0 H e (.binOp .gtr t x y t') (.bool true) := by
  have h1 := Rd.gtr (P := P) (W0 := W0) (H := H) (t := t) (t' := t') hx hy
  have h2 : decide (b < a) = true := by simpa using h
  rw [h2] at h1; exact h1
theorem Rd.gtrF (hx : opv e x = some (.int k a)) (hy : opv e y = some (.int k b)) (h : ¬ (b < a)) : Rd P W0 H e (.binOp .gtr t x y t') (.bool false) := by
  have h1 := Rd.gtr (P := P) (W0 := W0) (H := H) (t := t) (t' := t') hx hy
  have h2 : decide (b < a) = false := by simpa using h
  rw [h2] at h1; exact h1
theorem Rd.geqT (hx : opv e x = some (.int k a)) (hy : opv e y = some (.int k b)) (h : b ≤ a) : Rd P W0 H e (.binOp .geq t x y t') (.bool true) := by
  have h1 := Rd.geq (P := P) (W0 := W0) (H := H) (t := t) (t' := t') hx hy
  have h2 : decide (b ≤ a) = true := by simpa using h
  rw [h2] at h1; exact h1
theorem Rd.geqF (hx : opv e x = some (.int k a)) (hy : opv e y = some (.int k b)) (h : ¬ (b ≤ a)) : Rd P W0 H e (.binOp .geq t x y t') (.bool false) := by
  have h1 := Rd.geq (P := P) (W0 := W0) (H := H) (t := t) (t' := t') hx hy
  have h2 : decide (b ≤ a) = false := by simpa using h
  rw [h2] at h1; exact h1
theorem Rd.min2 {ats : Array TypeId} (hx : opv e x = some (.int k a)) (hy : opv e y = some (.int k b)) : Rd P W0 H e (.call { callee := .builtin .min, args := #[x, y], argTypes := ats }) (.int k (min a b)) :=
  fun ρ hρ w _ o ho => by
    have : min a b = if b < a then b else a := by simp only [Int.min_def]; split <;> split <;> omega
    simp [execOp, ho, resolve, hρ x _ hx, hρ y _ hy, invoke, builtin, Builtin.min_, Builtin.min2, this]
theorem Rd.max2 {ats : Array TypeId} (hx : opv e x = some (.int k a)) (hy : opv e y = some (.int k b)) : Rd P W0 H e (.call { callee := .builtin .max, args := #[x, y], argTypes := ats }) (.int k (max a b)) :=
  fun ρ hρ w _ o ho => by
    have : max a b = if a < b then b else a := by simp only [Int.max_def]; split <;> split <;> omega
    simp [execOp, ho, resolve, hρ x _ hx, hρ y _ hy, invoke, builtin, Builtin.max_, Builtin.max2, this]
theorem Rd.not {q : Bool} (hx : opv e x = some (.bool q)) : Rd P W0 H e (.unOp .not t x) (.bool (!q)) :=
  fun ρ hρ w _ o ho => by simp [execOp, ho, hρ x _ hx, Op.unary]
theorem Rd.neg (hx : opv e x = some (.int k a)) (hc : k.wrap (0 - a) = c) : Rd P W0 H e (.unOp .neg t x) (.int k c) :=
  fun ρ hρ w _ o ho => by simp [execOp, ho, hρ x _ hx, Op.unary, Op.intArith] at *; simp [hc]
theorem Rd.conv {j : IntKind} {dd : TypeDesc} [hu : UnderT P t dd] [hd : UnderT P t' (.int j)] (hx : opv e x = some (.int k a)) (hc : j.wrap a = c) : Rd P W0 H e (.convert t t' x) (.int j c) :=
  fun ρ hρ w _ o ho => by simp [execOp, ho, hρ x _ hx, convert, run_underlying hu.out, run_underlying hd.out, Conv.intToInt, hc]
theorem Rd.eqlB {q r : Bool} [hu : UnderT P t .bool] (hx : opv e x = some (.bool q)) (hy : opv e y = some (.bool r)) : Rd P W0 H e (.binOp .eql t x y t') (.bool (q == r)) :=
  fun ρ hρ w _ o ho => by simp [execOp, ho, hρ x _ hx, hρ y _ hy, eqGuard, run_eql_bool w t q r hu.out]
theorem Rd.neqB {q r : Bool} [hu : UnderT P t .bool] (hx : opv e x = some (.bool q)) (hy : opv e y = some (.bool r)) : Rd P W0 H e (.binOp .neq t x y t') (.bool (!(q == r))) :=
  fun ρ hρ w _ o ho => by simp [execOp, ho, hρ x _ hx, hρ y _ hy, eqGuard, run_neq_bool w t q r hu.out]

/-! ### Strings -/
theorem Rd.lenS {l : List UInt8} {tt : TypeId} [hu : UnderT P tt .string] (hx : opv e x = some (S l)) : Rd P W0 H e (.call { callee := .builtin .len, args := #[x], argTypes := #[tt] }) (.int .i64 l.length) :=
  fun ρ hρ w _ o ho => by simp [execOp, ho, resolve, hρ x _ hx, invoke, builtin, Builtin.len_, run_underlying hu.out, goInt]; rfl
theorem beq_dec (l m : List UInt8) : (l == m) = decide (l = m) := by
  rw [Bool.eq_iff_iff]; simp
theorem Rd.eqlS {l m : List UInt8} (hx : opv e x = some (S l)) (hy : opv e y = some (S m)) : Rd P W0 H e (.binOp .eql t x y t') (.bool (decide (l = m))) :=
  fun ρ hρ w _ o ho => by simp [execOp, ho, hρ x _ hx, hρ y _ hy, eqGuard, binOp, Op.stringOp, ByteArray.toList_eq, beq_dec]
theorem Rd.neqS {l m : List UInt8} (hx : opv e x = some (S l)) (hy : opv e y = some (S m)) : Rd P W0 H e (.binOp .neq t x y t') (.bool (!decide (l = m))) :=
  fun ρ hρ w _ o ho => by simp [execOp, ho, hρ x _ hx, hρ y _ hy, eqGuard, binOp, Op.stringOp, ByteArray.toList_eq, beq_dec]
theorem Rd.eqlST {l m : List UInt8} (hx : opv e x = some (S l)) (hy : opv e y = some (S m)) (h : l = m) : Rd P W0 H e (.binOp .eql t x y t') (.bool true) := by
  have h1 := Rd.eqlS (P := P) (W0 := W0) (H := H) (t := t) (t' := t') hx hy
  simpa [h] using h1
theorem Rd.eqlSF {l m : List UInt8} (hx : opv e x = some (S l)) (hy : opv e y = some (S m)) (h : l ≠ m) : Rd P W0 H e (.binOp .eql t x y t') (.bool false) := by
  have h1 := Rd.eqlS (P := P) (W0 := W0) (H := H) (t := t) (t' := t') hx hy
  simpa [h] using h1
theorem Rd.neqST {l m : List UInt8} (hx : opv e x = some (S l)) (hy : opv e y = some (S m)) (h : l ≠ m) : Rd P W0 H e (.binOp .neq t x y t') (.bool true) := by
  have h1 := Rd.neqS (P := P) (W0 := W0) (H := H) (t := t) (t' := t') hx hy
  simpa [h] using h1
theorem Rd.neqSF {l m : List UInt8} (hx : opv e x = some (S l)) (hy : opv e y = some (S m)) (h : l = m) : Rd P W0 H e (.binOp .neq t x y t') (.bool false) := by
  have h1 := Rd.neqS (P := P) (W0 := W0) (H := H) (t := t) (t' := t') hx hy
  simpa [h] using h1
theorem size_mk (l : List UInt8) : (⟨l.toArray⟩ : ByteArray).size = l.length := rfl
theorem cat_mk (l m : List UInt8) : (⟨l.toArray⟩ : ByteArray) ++ ⟨m.toArray⟩ = ⟨(l ++ m).toArray⟩ := by
  apply ByteArray.ext
  simp
theorem Rd.cat {l m : List UInt8} (hx : opv e x = some (S l)) (hy : opv e y = some (S m)) (hs : l.length + m.length ≤ 9223372036854775807) : Rd P W0 H e (.binOp .add t x y t') (S (l ++ m)) :=
  fun ρ hρ w _ o ho => by
    have := run_string_add_sum (P := P) (w := w) ⟨l.toArray⟩ ⟨m.toArray⟩ (by simpa [size_mk] using hs)
    simp [execOp, ho, hρ x _ hx, hρ y _ hy, eqGuard, binOp, this, cat_mk]
theorem Rd.idxS {l : List UInt8} [hu : UnderT P t .string] (hx : opv e x = some (S l)) (hy : opv e y = some (.int k a)) (h0 : 0 ≤ a) (h1 : a < l.length) : Rd P W0 H e (.index t x y) (.int .u8 ((l.getD a.toNat 0).toNat : Int)) :=
  fun ρ hρ w _ o ho => by
    have h2 : a.toNat < l.length := by omega
    have : (Instr.index t (S l) (.int k a)).run P w = .ok (.int .u8 ((l.getD a.toNat 0).toNat : Int)) w := by
      have h3 : (⟨l.toArray⟩ : ByteArray)[a.toNat]? = some (l.getD a.toNat 0) := by
        show (if h : a.toNat < (⟨l.toArray⟩ : ByteArray).size then some _ else none) = _
        rw [dif_pos (by rw [size_mk]; exact h2)]
        congr 1
        show l.toArray[a.toNat] = _
        simp [h2]
      simp only [Instr.index, asIntOf, Sem.run_bind, Sem.run_pure, Result.andThen_ok, run_underlying hu.out, if_pos h0, h3]
    simp [execOp, ho, hρ x _ hx, hρ y _ hy, this]

theorem ext_mk (l : List UInt8) (i j : Nat) : (⟨l.toArray⟩ : ByteArray).extract i j = ⟨((l.drop i).take (j - i)).toArray⟩ := by
  apply ByteArray.ext
  simp [ByteArray.data_extract, List.take_drop]
theorem sliceRunS [hu : UnderT P t .string] {s : List UInt8} (lo hi : Option Value) (l h : Nat) (hl : match lo with | some v => ∃ k, v = .int k l | none => l = 0)
    (hh : match hi with | some v => ∃ k, v = .int k h | none => h = s.length) (h1 : l ≤ h) (h2 : h ≤ s.length) (w : World) :
    (Instr.sliceAt t (S s) lo hi none).run P w = .ok (S ((s.drop l).take (h - l))) w := by
  have hb : ∀ (k : IntKind) (n y : Nat) (code : BoundsCode), n ≤ y → (Instr.sliceBound (.int k n) y code).run P w = .ok n w := fun k n y code hn => by
    simp [Instr.sliceBound, asIntOf, hn]
  have hsz : (⟨s.toArray⟩ : ByteArray).size = s.length := rfl
  cases lo with
  | none =>
    subst hl
    cases hi with
    | none => subst hh; simp [Instr.sliceAt, run_underlying hu.out, Instr.slice, Instr.sliceBounds]
    | some v => obtain ⟨k, rfl⟩ := hh; simp [Instr.sliceAt, run_underlying hu.out, Instr.slice, Instr.sliceBounds, hsz, hb _ _ _ _ h2, ext_mk]
  | some v =>
    obtain ⟨k, rfl⟩ := hl
    cases hi with
    | none => subst hh; simp [Instr.sliceAt, run_underlying hu.out, Instr.slice, Instr.sliceBounds, hsz, hb _ _ _ _ h1, ext_mk]
    | some v => obtain ⟨k, rfl⟩ := hh; simp [Instr.sliceAt, run_underlying hu.out, Instr.slice, Instr.sliceBounds, hsz, hb _ _ _ _ h2, hb _ _ _ _ h1, ext_mk]
theorem Rd.slSL {s : List UInt8} {l : Nat} [hs : UnderT P t .string] (hx : opv e x = some (S s)) (hy : opv e y = some (.int k a)) (ha : a = (l : Int)) (h1 : l ≤ s.length) : Rd P W0 H e (.slice t x (some y) none none) (S (s.drop l)) := fun ρ hρ w _ op ho => by
  subst ha
  have := sliceRunS (P := P) (t := t) (s := s) (some (.int k l)) none l s.length ⟨k, rfl⟩ rfl h1 (Nat.le_refl _) w
  rw [List.take_of_length_le (by simp)] at this
  simp [execOp, ho, hρ x _ hx, hρ y _ hy, this]
theorem Rd.slSH {s : List UInt8} {h : Nat} [hs : UnderT P t .string] (hx : opv e x = some (S s)) (hy : opv e y = some (.int k a)) (ha : a = (h : Int)) (h1 : h ≤ s.length) : Rd P W0 H e (.slice t x none (some y) none) (S (s.take h)) := fun ρ hρ w _ op ho => by
  subst ha
  have := sliceRunS (P := P) (t := t) (s := s) none (some (.int k h)) 0 h rfl ⟨k, rfl⟩ (Nat.zero_le _) h1 w
  simp only [List.drop_zero, Nat.sub_zero] at this
  simp [execOp, ho, hρ x _ hx, hρ y _ hy, this]
theorem Rd.slSLH {s : List UInt8} {l h : Nat} {k' : IntKind} [hs : UnderT P t .string] (hx : opv e x = some (S s)) (hy : opv e y = some (.int k a)) (hz : opv e z = some (.int k' b)) (ha : a = (l : Int)) (hb : b = (h : Int)) (h1 : l ≤ h) (h2 : h ≤ s.length) :
    Rd P W0 H e (.slice t x (some y) (some z) none) (S ((s.drop l).take (h - l))) := fun ρ hρ w _ op ho => by
  subst ha hb
  simp [execOp, ho, hρ x _ hx, hρ y _ hy, hρ z _ hz, sliceRunS (P := P) (t := t) (s := s) (some (.int k l)) (some (.int k' h)) l h ⟨k, rfl⟩ ⟨k', rfl⟩ h1 h2 w]

/-! ### Places -/
theorem Rd.nilCheck {ad : Addr} (hx : opv e x = some (.pointer (some ad))) : Rd P W0 H e (.nilCheck x) (.pointer (some ad)) := fun ρ hρ w _ o ho => by simp [execOp, ho, hρ x _ hx]
theorem Rd.fieldAddr {b o f off : Nat} [hf : FAddr P t f off] (hx : opv e x = some (.pointer (some ⟨b, o, none⟩))) : Rd P W0 H e (.fieldAddr t x f) (.pointer (some ⟨b, o + off, none⟩)) :=
  fun ρ hρ w _ op ho => by simp [execOp, ho, hρ x _ hx, hf.run, add_off]
theorem Rd.indexAddr {b o len cap el size bytes : Nat} {zz : Value} [hs : SliceT P t el size bytes zz] (hx : opv e x = some (.slice (some ⟨b, o, none⟩) len cap)) (hy : opv e y = some (.int k a)) (h0 : 0 ≤ a) (h1 : a < len) :
    Rd P W0 H e (.indexAddr t x y) (.pointer (some ⟨b, o + a.toNat * size, none⟩)) :=
  fun ρ hρ w _ op ho => by
    obtain ⟨i, hi, hsz, _, _⟩ := hs.info
    have h2 : (sizeOf el).run P w = .ok size w := by simp [sizeOf, typeInfo, hi, hsz]
    simp [execOp, ho, hρ x _ hx, hρ y _ hy, Instr.indexAt, asIntOf, run_underlying hs.under, h0, h1, h2, add_off]
theorem Rd.load {ad : Addr} [ht : OneT P t] (hx : opv e x = some (.pointer (some ad))) (hc : ∀ w, Own W0 H w → w.cell? ad = some v) : Rd P W0 H e (.load t x) v :=
  fun ρ hρ w hw op ho => by simp [execOp, ho, hρ x _ hx, Instr.loadAt, Instr.sureAddr, loadVar, ht.agg, hc w hw]

/-- The cells from ⟨b, o⟩ on. -/
def CellsAt (w : World) (b o : Nat) (cs : List Value) : Prop := ∀ j u, cs[j]? = some u → w.cell? ⟨b, o + j, none⟩ = some u
theorem CellsAt.loadCells {w : World} {b o : Nat} {cs : List Value} (h : CellsAt w b o cs) : (loadCells ⟨b, o, none⟩ cs.length).run P w = .ok cs.toArray w :=
  run_loadCells_list (P := P) w ⟨b, o, none⟩ cs fun j u hj => by rw [add_off]; exact h j u hj
theorem CellsAt.take {w : World} {b o : Nat} {cs : List Value} (h : CellsAt w b o cs) (n : Nat) : CellsAt w b o (cs.take n) := fun j u hj => by
  refine h j u ?_
  rw [List.getElem?_take] at hj
  split at hj
  · exact hj
  · cases hj
theorem CellsAt.drop {w : World} {b o : Nat} {cs : List Value} (h : CellsAt w b o cs) (n : Nat) : CellsAt w b (o + n) (cs.drop n) := fun j u hj => by
  rw [List.getElem?_drop] at hj
  rw [Nat.add_assoc]
  exact h _ u hj

theorem Rd.loadAgg {b o size : Nat} {cs : List Value} [ht : AggT P t size] (hx : opv e x = some (.pointer (some ⟨b, o, none⟩))) (hl : cs.length = size) (hc : ∀ w, Own W0 H w → CellsAt w b o cs) : Rd P W0 H e (.load t x) (.agg cs.toArray) :=
  fun ρ hρ w hw op ho => by
    have h1 := (hc w hw).loadCells (P := P)
    simp [execOp, ho, hρ x _ hx, Instr.loadAt, Instr.sureAddr, loadVar, ht.agg, ht.size, ← hl, h1]

/-- A cell of an owned block. -/
theorem cellH {b o : Nat} {cs : Array Value} {el : TypeId} {fr : Nat × Nat} [h : Has H b (.cells cs el fr)] (hc : cs[o]? = some v) : ∀ w, Own W0 H w → w.cell? ⟨b, o, none⟩ = some v := fun w hw => by
  rw [cell_of_row w b o cs el fr (hw.get h.out)]; exact hc
theorem cellsH {b o : Nat} {cs : Array Value} {el : TypeId} {fr : Nat × Nat} {l : List Value} [h : Has H b (.cells cs el fr)] (hc : ∀ j u, l[j]? = some u → cs[o + j]? = some u) : ∀ w, Own W0 H w → CellsAt w b o l := fun w hw j u hj => by
  rw [cell_of_row w b (o + j) cs el fr (hw.get h.out)]; exact hc j u hj

/-! ### Slices -/
/-- What a slice's address points to: nothing is asked of an empty one's. -/
def At (w : World) (p : Option Addr) (cs : List Value) : Prop := cs = [] ∨ ∃ b o, p = some ⟨b, o, none⟩ ∧ CellsAt w b o cs
theorem At.nil {w : World} {p : Option Addr} : At w p [] := .inl rfl
theorem At.take {w : World} {p : Option Addr} {cs : List Value} (h : At w p cs) (n : Nat) : At w p (cs.take n) := by
  rcases h with rfl | ⟨b, o, rfl, h⟩
  · exact .inl (by simp)
  · exact .inr ⟨b, o, rfl, h.take n⟩
theorem At.firstCells {w : World} {p : Option Addr} {cs : List Value} (h : At w p cs) (size n len cap : Nat) (hn : n * size = cs.length) : (Builtin.firstCells size n (.slice p len cap)).run P w = .ok cs.toArray w := by
  rcases h with rfl | ⟨b, o, rfl, h⟩
  · cases p with
    | none => simp [Builtin.firstCells]
    | some ad => simp [Builtin.firstCells, hn, loadCells, loadCellsFrom]
  · simp only [Builtin.firstCells, hn]
    exact h.loadCells

theorem Rd.lenV {p : Option Addr} {len cap el : Nat} {tt : TypeId} [hu : UnderT P tt (.slice el)] (hx : opv e x = some (.slice p len cap)) : Rd P W0 H e (.call { callee := .builtin .len, args := #[x], argTypes := #[tt] }) (.int .i64 len) :=
  fun ρ hρ w _ o ho => by simp [execOp, ho, resolve, hρ x _ hx, invoke, builtin, Builtin.len_, run_underlying hu.out, goInt]

/-- The address of 'xs[l:..]'. -/
def cutA (p : Option Addr) (cap l size : Nat) : Option Addr := if cap = l then p else p.map (·.add (l * size))
theorem At.cut {w : World} {p : Option Addr} {cs : List Value} (h : At w p cs) {cap l size : Nat} (hl : cs.length ≤ cap * size) : At w (cutA p cap l size) (cs.drop (l * size)) := by
  rcases h with rfl | ⟨b, o, rfl, h⟩
  · exact .inl (by simp)
  · unfold cutA
    split
    · rename_i hc; subst hc
      exact .inl (List.drop_eq_nil_of_le hl)
    · exact .inr ⟨b, o + l * size, by simp [add_off], h.drop _⟩
theorem sliceRun {p : Option Addr} {len cap el size bytes : Nat} {zz : Value} (hs : SliceT P t el size bytes zz) (lo hi : Option Value) (l h : Nat) (hl : match lo with | some v => ∃ k, v = .int k l | none => l = 0)
    (hh : match hi with | some v => ∃ k, v = .int k h | none => h = len) (h1 : l ≤ h) (h2 : h ≤ cap) (w : World) :
    (Instr.sliceAt t (.slice p len cap) lo hi none).run P w = .ok (.slice (cutA p cap l size) (h - l) (cap - l)) w := by
  obtain ⟨i, hi', hsz, _, _⟩ := hs.info
  have h3 : (sizeOf el).run P w = .ok size w := by simp [sizeOf, typeInfo, hi', hsz]
  have hb : ∀ (k : IntKind) (n y : Nat) (code : BoundsCode), n ≤ y → (Instr.sliceBound (.int k n) y code).run P w = .ok n w := fun k n y code hn => by
    simp [Instr.sliceBound, asIntOf, hn]
  cases lo with
  | none =>
    subst hl
    cases hi with
    | none => subst hh; simp [Instr.sliceAt, run_underlying hs.under, Instr.slice, Instr.sliceBounds, h3, cutA]
    | some v => obtain ⟨k, rfl⟩ := hh; simp [Instr.sliceAt, run_underlying hs.under, Instr.slice, Instr.sliceBounds, h3, cutA, hb _ _ _ _ h2]
  | some v =>
    obtain ⟨k, rfl⟩ := hl
    cases hi with
    | none => subst hh; simp [Instr.sliceAt, run_underlying hs.under, Instr.slice, Instr.sliceBounds, h3, cutA, hb _ _ _ _ h1]
    | some v => obtain ⟨k, rfl⟩ := hh; simp [Instr.sliceAt, run_underlying hs.under, Instr.slice, Instr.sliceBounds, h3, cutA, hb _ _ _ _ h2, hb _ _ _ _ h1]
theorem Rd.slL {p : Option Addr} {len cap el size bytes l : Nat} {zz : Value} [hs : SliceT P t el size bytes zz] (hx : opv e x = some (.slice p len cap)) (hy : opv e y = some (.int k a)) (ha : a = (l : Int)) (h1 : l ≤ len) (h2 : len ≤ cap) :
    Rd P W0 H e (.slice t x (some y) none none) (.slice (cutA p cap l size) (len - l) (cap - l)) := fun ρ hρ w _ op ho => by
  subst ha
  simp [execOp, ho, hρ x _ hx, hρ y _ hy, sliceRun hs (some (.int k l)) none l len ⟨k, rfl⟩ rfl h1 h2 w]
theorem Rd.slH {p : Option Addr} {len cap el size bytes h : Nat} {zz : Value} [hs : SliceT P t el size bytes zz] (hx : opv e x = some (.slice p len cap)) (hy : opv e y = some (.int k a)) (ha : a = (h : Int)) (h2 : h ≤ cap) :
    Rd P W0 H e (.slice t x none (some y) none) (.slice (cutA p cap 0 size) h cap) := fun ρ hρ w _ op ho => by
  subst ha
  have := sliceRun hs none (some (.int k h)) 0 h rfl ⟨k, rfl⟩ (Nat.zero_le _) h2 w (p := p) (len := len)
  simp [execOp, ho, hρ x _ hx, hρ y _ hy, this]
/-- The place of 'xs[l:]', where the slice's own is known. -/
def cutO (o cap l size : Nat) : Nat := if cap = l then o else o + l * size
theorem Rd.slO {bk o len cap el size bytes l : Nat} {zz : Value} [hs : SliceT P t el size bytes zz] (hx : opv e x = some (.slice (some ⟨bk, o, none⟩) len cap)) (hy : opv e y = some (.int k a)) (ha : a = (l : Int)) (h1 : l ≤ len) (h2 : len ≤ cap) :
    Rd P W0 H e (.slice t x (some y) none none) (.slice (some ⟨bk, cutO o cap l size, none⟩) (len - l) (cap - l)) := by
  have := Rd.slL (P := P) (W0 := W0) (H := H) (hs := hs) hx hy ha h1 h2
  have he : cutA (some ⟨bk, o, none⟩) cap l size = some ⟨bk, cutO o cap l size, none⟩ := by
    unfold cutA cutO
    split <;> simp [add_off]
  rwa [he] at this
theorem cutA_zero (p : Option Addr) (cap size : Nat) : cutA p cap 0 size = p := by
  unfold cutA
  split
  · rfl
  · cases p <;> simp [Addr.add]
/-- 'xs[:n]': the address is the slice's own. -/
theorem Rd.slH' {p : Option Addr} {len cap el size bytes h : Nat} {zz : Value} [hs : SliceT P t el size bytes zz] (hx : opv e x = some (.slice p len cap)) (hy : opv e y = some (.int k a)) (ha : a = (h : Int)) (h2 : h ≤ cap) :
    Rd P W0 H e (.slice t x none (some y) none) (.slice p h cap) := by
  have := Rd.slH (P := P) (W0 := W0) (H := H) (hs := hs) hx hy ha h2
  rwa [cutA_zero] at this
end
end Go.Own
