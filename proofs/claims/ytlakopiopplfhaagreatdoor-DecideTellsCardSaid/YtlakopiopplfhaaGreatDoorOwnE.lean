/-
  STRINGS AND THEIR BYTES, POINTERS AND nil, WHAT A FRAME TELLS: general laws over any program.
-/
import Derived.Test.YtlakopiopplfhaaGreatDoorOwnD
import Derived.Laws.IdiomStrings
import Derived.Laws.Pointers
import Derived.LaidEql
namespace Go.Own
open Go.RowKit

/-- Bytes as cells. -/
def u8s (l : List UInt8) : List Value := l.map fun c => .int .u8 (c.toNat : Int)
theorem u8s_length (l : List UInt8) : (u8s l).length = l.length := by simp [u8s]
theorem u8s_append (l m : List UInt8) : u8s (l ++ m) = u8s l ++ u8s m := by simp [u8s]
theorem u8s_take (l : List UInt8) (n : Nat) : (u8s l).take n = u8s (l.take n) := by simp [u8s, List.map_take]
theorem u8s_drop (l : List UInt8) (n : Nat) : (u8s l).drop n = u8s (l.drop n) := by simp [u8s, List.map_drop]
theorem u8s_one (l : List UInt8) : ∀ u ∈ u8s l, u.oneCell' = true := by
  intro u hu
  obtain ⟨c, _, rfl⟩ := List.mem_map.1 hu
  rfl
theorem u8s_get (l : List UInt8) (i : Nat) (h : i < l.length) : (u8s l)[i]? = some (.int .u8 ((l.getD i 0).toNat : Int)) := by
  simp [u8s, h]
theorem u8s_over (l : List UInt8) (o : Nat) (m : List UInt8) : over (u8s l) o (u8s m) = u8s (l.take o ++ m ++ l.drop (o + m.length)) := by
  simp only [over, u8s_take, u8s_drop, u8s_length, u8s_append]

/-- Elements of m cells each, one behind the other. -/
theorem flat_get {α : Type} (f : α → List Value) (m : Nat) (hf : ∀ a, (f a).length = m) : ∀ (l : List α) (k j : Nat), j < m → (l.flatMap f)[k * m + j]? = (l[k]?).bind fun a => (f a)[j]?
  | [], k, j, _ => by simp
  | a :: l, 0, j, hj => by
    simp only [List.flatMap_cons, Nat.zero_mul, Nat.zero_add, List.getElem?_cons_zero, Option.bind_some]
    exact List.getElem?_append_left (by rw [hf]; exact hj)
  | a :: l, k + 1, j, hj => by
    simp only [List.flatMap_cons, List.getElem?_cons_succ]
    rw [List.getElem?_append_right (by rw [hf, Nat.add_mul]; omega), hf, ← flat_get f m hf l k j hj]
    congr 1
    rw [Nat.add_mul]; omega
theorem flat_len {α : Type} (f : α → List Value) (m : Nat) (hf : ∀ a, (f a).length = m) : ∀ (l : List α), (l.flatMap f).length = l.length * m
  | [] => by simp
  | a :: l => by simp only [List.flatMap_cons, List.length_append, hf, flat_len f m hf l, List.length_cons, Nat.add_mul]; omega
theorem CellsAt.below {w w' : World} {b o : Nat} {l : List Value} (h : CellsAt w b o l) (hb : Below w.heap.size w w') : CellsAt w' b o l := fun j u hj => by
  have := h j u hj
  rw [hb.cell (block_lt_of_cell this)]; exact this
theorem At.below {w w' : World} {p : Option Addr} {l : List Value} (h : At w p l) (hb : Below w.heap.size w w') : At w' p l := by
  rcases h with h | ⟨b, o, rfl, h⟩
  · exact .inl h
  · exact .inr ⟨b, o, rfl, h.below hb⟩

section
variable {P : Program} {W0 : World} {H X F : Heap} {e : Env} {t ty t' : TypeId} {x y z : Operand} {v u : Value} {k : IntKind} {a b c : Int} {R : Value → Heap → Prop} {op : Op}

/-- What is so in every world that has F. -/
def RO (W0 : World) (F : Heap) (φ : World → Prop) : Prop := ∀ X w, Own W0 (X ++ F) w → φ w
theorem RO.here {φ : World → Prop} (h : RO W0 F φ) {w : World} (hw : Own W0 F w) : φ w := h [] w hw
theorem RO.cons {φ : World → Prop} (h : RO W0 F φ) (x : Nat × Obj) : RO W0 (x :: F) φ := fun X w hw => h (X ++ [x]) w (by simpa using hw)
theorem RO.app {φ : World → Prop} (h : RO W0 F φ) (B : Heap) : RO W0 (B ++ F) φ := fun X w hw => h (X ++ B) w (by simpa using hw)
theorem RO.perm {φ : World → Prop} {F' : Heap} (h : RO W0 F φ) (p : F'.Perm F) : RO W0 F' φ := fun X w hw => h X w (hw.perm (p.append_left X))
theorem RO.mono {φ ψ : World → Prop} (h : RO W0 F φ) (hp : ∀ w, φ w → ψ w) : RO W0 F ψ := fun X w hw => hp w (h X w hw)
theorem RO.base {φ : World → Prop} (h : ∀ w, Below W0.heap.size W0 w → φ w) : RO W0 F φ := fun _ w hw => h w hw.below
theorem RO.block {b : Nat} {o : Obj} (h : (b, o) ∈ F) : RO W0 F (fun w => w.heap[b]? = some o) := fun X w hw => hw.get (by simp [h])
theorem RO.cells {bk o : Nat} {cs : List Value} {el : TypeId} {fr : Nat × Nat} {l : List Value} [h : Has F bk (.cells cs.toArray el fr)] (hc : ∀ j u, l[j]? = some u → cs[o + j]? = some u) : RO W0 F (fun w => CellsAt w bk o l) :=
  fun X w hw j u hj => by
    rw [cell_of_row w bk (o + j) cs.toArray el fr (hw.get (List.mem_append_right _ h.out))]
    simpa using hc j u hj
theorem RO.at {bk o : Nat} {l : List Value} (h : RO W0 F (fun w => CellsAt w bk o l)) : RO W0 F (fun w => At w (some ⟨bk, o, none⟩) l) := h.mono fun _ hc => .inr ⟨bk, o, rfl, hc⟩
theorem RO.own {φ : World → Prop} (h : RO W0 F φ) (X : Heap) : ∀ w, Own W0 (X ++ F) w → φ w := h X

/-- string(b). -/
theorem foldl_mk (l : List UInt8) : (l.map (fun b => (b.toNat : Int))).foldl (fun r n => r.push (UInt8.ofNat n.toNat)) ByteArray.empty = ⟨l.toArray⟩ := by
  rw [foldl_push_byteCells]
  apply ByteArray.ext
  simp [ByteArray.empty, ByteArray.emptyWithCapacity]
  try rfl
theorem Rd.strB {p : Option Addr} {n cap el : Nat} {l : List UInt8} [hs : UnderT P t (.slice el)] [he : UnderT P el (.int .u8)] [hd : UnderT P t' .string] (hx : opv e x = some (.slice p n cap)) (hn : n = l.length) (hl : ∀ w, Own W0 H w → At w p (u8s l)) :
    Rd P W0 H e (.convert t t' x) (S l) := fun ρ hρ w hw o ho => by
  subst hn
  have hr : (Conv.bytesToString (.slice p l.length cap)).run P w = .ok (S l) w := by
    cases p with
    | none =>
      rcases hl w hw with h0 | ⟨b, o', h0, _⟩
      · have : l = [] := by simpa [u8s] using h0
        subst this
        simp [Conv.bytesToString]
        rfl
      · cases h0
    | some ad =>
      have h1 : (loadCells ad l.length).run P w = .ok ((l.map (fun b => (b.toNat : Int))).map (Value.int .u8)).toArray w := by
        have h2 := (hl w hw).firstCells (P := P) 1 l.length l.length cap (by simp [u8s])
        simp only [Builtin.firstCells, Nat.mul_one] at h2
        rw [h2]
        congr 2
        simp [u8s]
      rw [run_bytesToString w ad l.length cap _ h1, foldl_mk]
  simp [execOp, ho, hρ x _ hx, run_convert_bytes_string w t t' el p l.length cap hs.out he.out hd.out, hr]

/-- string(b), b all that an owned block holds, or its first bytes. -/
theorem Rd.strW {bk n cap el el' : Nat} {l : List UInt8} {fr : Nat × Nat} [hs : UnderT P t (.slice el)] [he : UnderT P el (.int .u8)] [hd : UnderT P t' .string] (hx : opv e x = some (.slice (some ⟨bk, 0, none⟩) n cap)) [h : Has H bk (.cells (u8s l).toArray el' fr)] (hn : n = l.length) :
    Rd P W0 H e (.convert t t' x) (S l) :=
  Rd.strB (hs := hs) (he := he) (hd := hd) hx hn fun w hw => .inr ⟨bk, 0, rfl, cellsH (by intro j u hj; simpa using hj) w hw⟩
theorem Rd.strX {bk n cap el el' : Nat} {l : List UInt8} {extra : List Value} {fr : Nat × Nat} [hs : UnderT P t (.slice el)] [he : UnderT P el (.int .u8)] [hd : UnderT P t' .string] (hx : opv e x = some (.slice (some ⟨bk, 0, none⟩) n cap)) [h : Has H bk (.cells (u8s l ++ extra).toArray el' fr)] (hn : n = l.length) :
    Rd P W0 H e (.convert t t' x) (S l) :=
  Rd.strB (hs := hs) (he := he) (hd := hd) hx hn fun w hw => .inr ⟨bk, 0, rfl, cellsH (by intro j u hj; have hlt := (List.getElem?_eq_some_iff.1 hj).1; simp [List.getElem?_append_left hlt, hj]) w hw⟩

/-- []byte(s). -/
theorem Eff.bytesS {el : TypeId} {l : List UInt8} [hs : UnderT P t .string] [hd : UnderT P t' (.slice el)] [he : UnderT P el (.int .u8)] (hx : opv e x = some (S l)) (hm : l.length ≤ 9223372036854775807)
    (hR : ∀ bk (extra : List Value), l.length + extra.length ≤ 9223372036854775807 → R (.slice (some ⟨bk, 0, none⟩) l.length (l.length + extra.length)) ((bk, .cells (u8s l ++ extra).toArray el (l.length + extra.length, l.length + extra.length + 1)) :: H)) :
    Eff P W0 e H (.convert t t' x) ty R := Eff.val fun ρ hρ w hw o ho _ => by
  have hr := run_bytes_of_string (P := P) w t t' el ⟨l.toArray⟩ hs.out hd.out he.out
  have hsz : (⟨l.toArray⟩ : ByteArray).size = l.length := rfl
  rw [hsz] at hr
  have hge := grownCap_ge w l.length 0 el
  have hcm := grownCap_le_maxLen w l.length 0 el (by simp only [maxLen]; omega)
  have hrow : bytesRow ⟨l.toArray⟩ (grownCap w l.length 0 el) = (u8s l ++ List.replicate (grownCap w l.length 0 el - l.length) (Value.int .u8 0)).toArray := by
    apply Array.toList_inj.1
    simp [bytesRow, u8s, hsz]
  have hlen : l.length + (List.replicate (grownCap w l.length 0 el - l.length) (Value.int .u8 0)).length = grownCap w l.length 0 el := by simp; omega
  have h1 := hR w.heap.size (List.replicate (grownCap w l.length 0 el - l.length) (.int .u8 0)) (by rw [hlen]; simpa [maxLen] using hcm)
  have h2 := (hw.drew1).alloc (.cells (bytesRow ⟨l.toArray⟩ (grownCap w l.length 0 el)) el ((bytesRow ⟨l.toArray⟩ (grownCap w l.length 0 el)).size, (bytesRow ⟨l.toArray⟩ (grownCap w l.length 0 el)).size + 1))
  have h3 : (bytesRow ⟨l.toArray⟩ (grownCap w l.length 0 el)).size = grownCap w l.length 0 el := by rw [hrow]; simp [u8s_length]; omega
  rw [hlen] at h1
  refine ⟨_, _, w.drew.alloc (.cells (bytesRow ⟨l.toArray⟩ (grownCap w l.length 0 el)) el ((bytesRow ⟨l.toArray⟩ (grownCap w l.length 0 el)).size, (bytesRow ⟨l.toArray⟩ (grownCap w l.length 0 el)).size + 1)), by simp [execOp, ho, hρ x _ hx, hr], h1, ?_⟩
  rw [h3, hrow] at h2
  rw [h3, hrow]
  exact h2

theorem Rd.eqPN {p : Option Addr} {el : TypeId} [hu : UnderT P t (.pointer el)] (hx : opv e x = some (.pointer p)) (hy : opv e y = some (.pointer none)) : Rd P W0 H e (.binOp .eql t x y t') (.bool p.isNone) :=
  fun ρ hρ w _ o ho => by
    have h : P.underlying t = some (.pointer (P.pointee t)) := by simp [Program.pointee, hu.out]
    simp [execOp, ho, hρ x _ hx, hρ y _ hy, eqGuard, run_eql_pointer_nil w t p h]
theorem Rd.nePN {p : Option Addr} {el : TypeId} [hu : UnderT P t (.pointer el)] (hx : opv e x = some (.pointer p)) (hy : opv e y = some (.pointer none)) : Rd P W0 H e (.binOp .neq t x y t') (.bool (!p.isNone)) :=
  fun ρ hρ w _ o ho => by
    have h : P.underlying t = some (.pointer (P.pointee t)) := by simp [Program.pointee, hu.out]
    simp [execOp, ho, hρ x _ hx, hρ y _ hy, eqGuard, run_neq_pointer_nil w t p h]
theorem Rd.makeFunc {fn : Fn} {first captured : Array Operand} {vs us : List Value} (h1 : first.toList.mapM (opv e) = some vs) (h2 : captured.toList.mapM (opv e) = some us) : Rd P W0 H e (.makeFunc fn first captured) (.func fn vs.toArray us.toArray) :=
  fun ρ hρ w _ o ho => by
    have hm : ∀ (l : List Operand) (ws : List Value), l.mapM (opv e) = some ws → l.map ρ = ws := by
      intro l
      induction l with
      | nil => intro ws h; simp at h; simp [h]
      | cons q l ih =>
        intro ws h
        simp only [List.mapM_cons] at h
        cases hq : opv e q with
        | none => simp [hq] at h
        | some r =>
          cases hl : l.mapM (opv e) with
          | none => simp [hq, hl] at h
          | some rs => simp [hq, hl] at h; subst h; simp [hρ q r hq, ih rs hl]
    have e1 : first.map ρ = vs.toArray := by apply Array.toList_inj.1; rw [Array.toList_map]; exact hm _ _ h1
    have e2 : captured.map ρ = us.toArray := by apply Array.toList_inj.1; rw [Array.toList_map]; exact hm _ _ h2
    simp [execOp, ho, Instr.makeFunc, e1, e2]
theorem Rd.extract {i : Nat} {vs : Array Value} (hx : opv e x = some (.tuple vs)) (hi : vs[i]? = some v) : Rd P W0 H e (.extract x i) v :=
  fun ρ hρ w _ o ho => by simp [execOp, ho, hρ x _ hx, Instr.extract, hi]

instance (priority := low) Has.app {B F : Heap} {b : Nat} {o : Obj} [h : Has F b o] : Has (B ++ F) b o := ⟨List.mem_append_right _ h.out⟩
instance (priority := low) Spot.app {B F : Heap} {b : Nat} {o : Obj} {put : Obj → Heap} [h : Spot F b o put] : Spot (B ++ F) b o (fun o' => B ++ put o') := by
  obtain ⟨R, h1, h2⟩ := h.out
  exact ⟨B ++ R, (h1.append_left B).trans List.perm_middle, fun o' => List.perm_middle.symm.trans ((h2 o').append_left B)⟩
instance (priority := low) SubH.app {B Hs F : Heap} [h : SubH Hs F] : SubH Hs (B ++ F) := ⟨h.out.trans (List.sublist_append_right _ _)⟩
instance (priority := low) SubH.app2 {B Hs F : Heap} [h : SubH Hs F] : SubH (B ++ Hs) (B ++ F) := ⟨h.out.append_left B⟩

instance (priority := low) SubH.nil {F : Heap} : SubH [] F := ⟨List.nil_sublist _⟩

/-- A contract whose heap stands in another order. -/
theorem T.perm {f : FuncId} {args : Array Value} {H' : Heap} (h : T P W0 f args H' R) (p : H.Perm H') : T P W0 f args H R := fun w hw => h w (hw.perm p)
theorem Eff.callP {f : FuncId} {first captured : Array Value} {vs : List Value} {args : Array Operand} {ats : Array TypeId} {H' : Heap} (hx : opv e x = some (.func (.func f) first captured))
    (hvs : args.toList.mapM (opv e) = some vs) [hc : CallF P f] (p : H.Perm H') (h : T P W0 f (first ++ vs.toArray ++ captured) H' R) : Eff P W0 e H (.call { callee := .value x, args, argTypes := ats }) ty R :=
  Eff.call hx hvs hc.run (h.perm p)
theorem Eff.callF {f : FuncId} {vs : List Value} {args : Array Operand} {ats : Array TypeId} [hc : CallF P f]
    (hvs : args.toList.mapM (opv e) = some vs) (h : T P W0 f vs.toArray H R) : Eff P W0 e H (.call { callee := .value (.func f), args, argTypes := ats }) ty R :=
  Eff.call (first := #[]) (captured := #[]) rfl hvs hc.run (by simpa using h)
/-- A call that only reads, in a region that draws. -/
theorem Own.app {w : World} (h : Own W0 (X ++ F) w) : Own W0 F w := h.sub (List.sublist_append_right _ _)
end
end Go.Own
