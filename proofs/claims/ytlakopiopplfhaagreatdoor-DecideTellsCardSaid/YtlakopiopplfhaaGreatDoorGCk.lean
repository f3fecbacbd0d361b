/-
  COMPARING, AND ROWS OF RANGES: cmp.Compare, cmp.Or, slices.Compare; how two ranges stand, by the program and by the document.
  A ROW PUT IN ORDER, in owned memory: slices.SortFunc out of the shelf's contract, at elements of k cells: over any program.
  A SET OF RANGES, SHOWN: (*cidr.Set).All: all of them, in order.
  ROWS OF RANGES THAT COME IN; many added to a set; the document's order, and rows that are the same.
-/
import Derived.Test.YtlakopiopplfhaaGreatDoorGCj
import Derived.Test.YtlakopiopplfhaaGreatDoorGPl
import Derived.Test.YtlakopiopplfhaaGreatDoorOwnI
import Derived.Shelf.SlSortCmp.NoneTotal
import Derived.Test.YtlakopiopplfhaaGreatDoorSrt
namespace Go.Cid
open Go.Own Go.Proofs Go.RowKit Go.Lib Go.Asc Go.Adr Go.Nam Go.Tri
attribute [local irreducible] GC GQ G Rd Eff T
set_option maxRecDepth 20000
set_option maxHeartbeats 4000000
section
variable {W0 : World} {F : Heap}
instance {x : Int} : PureF Tryz.prog W0 234 [.int .i64 x] True (.bool false) := ⟨fun _ F => by
  refine T.intro (args := [_]) Tryz.func234 rfl Tryz.ntmps234 rfl ?_
  repeat' first | refine Y.st ?_ | (refine nw ?_; intro _) | refine Y.kn ?_ | fail
  exact GQ.done1 rfl rfl ⟨rfl, rfl⟩⟩
instance {x : Int} : PureF Tryz.prog W0 260 [.int .u8 x] True (.bool false) := ⟨fun _ F => by
  refine T.intro (args := [_]) Tryz.func260 rfl Tryz.ntmps260 rfl ?_
  repeat' first | refine Y.st ?_ | (refine nw ?_; intro _) | refine Y.kn ?_ | fail
  exact GQ.done1 rfl rfl ⟨rfl, rfl⟩⟩
instance {x y : Int} : PureF Tryz.prog W0 210 [.int .i64 x, .int .i64 y] True (.int .i64 (cmpN x y)) := ⟨fun _ F => by
  refine T.intro (args := [_, _]) Tryz.func210 rfl Tryz.ntmps210 rfl ?_
  by_cases h1 : x < y
  · repeat' first | refine Y.st ?_ | (refine nw ?_; intro _) | refine Y.kn ?_ | fail
    exact GQ.done1 rfl rfl ⟨by unfold cmpN; rw [if_pos h1], rfl⟩
  · by_cases h2 : y < x
    · repeat' first | refine Y.st ?_ | (refine nw ?_; intro _) | refine Y.kn ?_ | fail
      exact GQ.done1 rfl rfl ⟨by unfold cmpN; rw [if_neg h1, if_pos h2], rfl⟩
    · repeat' first | refine Y.st ?_ | (refine nw ?_; intro _) | refine Y.kn ?_ | fail
      exact GQ.done1 rfl rfl ⟨by unfold cmpN; rw [if_neg h1, if_neg h2], rfl⟩⟩
instance {x y : Int} : PureF Tryz.prog W0 233 [.int .u8 x, .int .u8 y] True (.int .i64 (cmpN x y)) := ⟨fun _ F => by
  refine T.intro (args := [_, _]) Tryz.func233 rfl Tryz.ntmps233 rfl ?_
  by_cases h1 : x < y
  · repeat' first | refine Y.st ?_ | (refine nw ?_; intro _) | refine Y.kn ?_ | fail
    exact GQ.done1 rfl rfl ⟨by unfold cmpN; rw [if_pos h1], rfl⟩
  · by_cases h2 : y < x
    · repeat' first | refine Y.st ?_ | (refine nw ?_; intro _) | refine Y.kn ?_ | fail
      exact GQ.done1 rfl rfl ⟨by unfold cmpN; rw [if_neg h1, if_pos h2], rfl⟩
    · repeat' first | refine Y.st ?_ | (refine nw ?_; intro _) | refine Y.kn ?_ | fail
      exact GQ.done1 rfl rfl ⟨by unfold cmpN; rw [if_neg h1, if_neg h2], rfl⟩⟩
theorem cmpN_zero {x y : Int} : cmpN x y = 0 ↔ x = y := by unfold cmpN; repeat' split <;> omega
theorem or_spec (p q : Int) (b : Nat) (hb : ∀ w, Own W0 F w → CellsAt w b 0 [.int .i64 p, .int .i64 q]) (c : Nat) : T Tryz.prog W0 208 #[.slice (some ⟨b, 0, none⟩) 2 c] F (fun v H' => v = .int .i64 (thenF p q) ∧ H' = F) := by
  have h0 : ∀ w, Own W0 F w → w.cell? ⟨b, 0 + 0 * 1, none⟩ = some (.int .i64 p) := fun w hw => hb w hw 0 _ rfl
  have h1 : ∀ w, Own W0 F w → w.cell? ⟨b, 0 + 1 * 1, none⟩ = some (.int .i64 q) := fun w hw => hb w hw 1 _ rfl
  refine T.intro (args := [_]) Tryz.func208 rfl Tryz.ntmps208 rfl ?_
  repeat' first | refine Y.st ?_ | (refine nw ?_; intro _) | refine Y.kn ?_ | fail
  refine GC.loopE (ι := { k : Nat // k ≤ 2 ∧ (1 ≤ k → p = 0) ∧ (k = 2 → q = 0) }) (fun i => [(8, .int .i64 (i.1 : Int))]) [(3, _), (6, _), (7, _)] (fun _ => F) (fun k => 2 - k.1) ⟨0, by omega, by omega, by omega⟩ ⟨rfl, rfl, rfl, rfl, trivial⟩ (fun _ h => h) ?_
  rintro ⟨k, hk, e1, e2⟩
  dsimp only [List.cons_append, List.nil_append] at hk e1 e2 ⊢
  rcases (by omega : k = 0 ∨ k = 1 ∨ k = 2) with rfl | rfl | rfl
  · by_cases hp : p = 0
    · repeat' first | refine Y.st ?_ | (refine nw ?_; intro _) | refine Y.kn ?_ | fail
      exact GQ.back ⟨1, by omega, fun _ => hp, by omega⟩ (by simp only; omega) ⟨rfl, rfl, rfl, rfl, trivial⟩ (fun w hw => hw)
    · repeat' first | refine Y.st ?_ | (refine nw ?_; intro _) | refine Y.kn ?_ | fail
      exact GQ.done1 rfl rfl ⟨by unfold thenF; rw [if_neg hp], rfl⟩
  · have hp := e1 (by omega)
    by_cases hq : q = 0
    · repeat' first | refine Y.st ?_ | (refine nw ?_; intro _) | refine Y.kn ?_ | fail
      exact GQ.back ⟨2, by omega, fun _ => hp, fun _ => hq⟩ (by simp only; omega) ⟨rfl, rfl, rfl, rfl, trivial⟩ (fun w hw => hw)
    · repeat' first | refine Y.st ?_ | (refine nw ?_; intro _) | refine Y.kn ?_ | fail
      exact GQ.done1 rfl rfl ⟨by unfold thenF; rw [if_pos hp], rfl⟩
  · have hp := e1 (by omega)
    have hq := e2 rfl
    repeat' first | refine Y.st ?_ | (refine nw ?_; intro _) | refine Y.kn ?_ | fail
    exact GQ.done1 rfl rfl ⟨by unfold thenF; rw [if_pos hp, hq], rfl⟩
theorem cmpL_step {a b : List UInt8} {k : Nat} (ha : k < a.length) (hb : k < b.length) : cmpL (a.drop k) (b.drop k) = if cmpN ((a[k]).toNat : Int) ((b[k]).toNat : Int) = 0 then cmpL (a.drop (k + 1)) (b.drop (k + 1)) else cmpN ((a[k]).toNat : Int) ((b[k]).toNat : Int) := by
  rw [List.drop_eq_getElem_cons ha, List.drop_eq_getElem_cons hb]
  simp only [cmpL]
  generalize cmpL (a.drop (k + 1)) (b.drop (k + 1)) = r
  generalize (a[k]).toNat = x
  generalize (b[k]).toNat = y
  by_cases h1 : x < y
  · rw [if_pos h1, show cmpN (x : Int) (y : Int) = -1 by unfold cmpN; rw [if_pos (by omega)]]; rfl
  · rw [if_neg h1]
    by_cases h2 : y < x
    · rw [if_pos h2, show cmpN (x : Int) (y : Int) = 1 by unfold cmpN; rw [if_neg (by omega), if_pos (by omega)]]; rfl
    · rw [if_neg h2, show cmpN (x : Int) (y : Int) = 0 by unfold cmpN; rw [if_neg (by omega), if_neg (by omega)]]; rfl
theorem bytesCmp_spec (a b : List UInt8) (x y c d : Nat) (h1 : ∀ w, Own W0 F w → CellsAt w x 0 (u8s a)) (h2 : ∀ w, Own W0 F w → CellsAt w y 0 (u8s b)) {n : Nat} (ha : a.length = n) (hb : b.length = n) (hl : n ≤ 1000) :
    T Tryz.prog W0 209 #[.slice (some ⟨x, 0, none⟩) n c, .slice (some ⟨y, 0, none⟩) n d] F (fun v H' => v = .int .i64 (cmpL a b) ∧ H' = F) := by
  subst ha
  refine T.intro (args := [_, _]) Tryz.func209 rfl Tryz.ntmps209 rfl ?_
  repeat' first | refine Y.st ?_ | (refine nw ?_; intro _) | refine Y.kn ?_ | fail
  refine GC.loopE (ι := { k : Nat // k ≤ a.length ∧ cmpL a b = cmpL (a.drop k) (b.drop k) }) (fun i => [(11, .int .i64 (i.1 : Int))]) [(0, _), (1, _), (9, _), (10, _)] (fun _ => F) (fun k => a.length - k.1) ⟨0, Nat.zero_le _, rfl⟩ ⟨rfl, rfl, rfl, rfl, rfl, trivial⟩ (fun _ h => h) ?_
  rintro ⟨k, hk, hE⟩
  dsimp only [List.cons_append, List.nil_append] at hk hE ⊢
  by_cases hlt : k < a.length
  · have hlb : k < b.length := by omega
    have c1 : ∀ w, Own W0 F w → w.cell? ⟨x, 0 + k * 1, none⟩ = some (.int .u8 ((a[k]).toNat : Int)) := fun w hw => by rw [Nat.mul_one]; exact h1 w hw k _ (by simp [u8s, hlt])
    have c2 : ∀ w, Own W0 F w → w.cell? ⟨y, 0 + k * 1, none⟩ = some (.int .u8 ((b[k]).toNat : Int)) := fun w hw => by rw [Nat.mul_one]; exact h2 w hw k _ (by simp [u8s, hlb])
    have hst := cmpL_step hlt hlb
    rw [← hE] at hst
    by_cases hz : cmpN ((a[k]).toNat : Int) ((b[k]).toNat : Int) = 0
    · rw [if_pos hz] at hst
      repeat' first | refine Y.st ?_ | (refine nw ?_; intro _) | refine Y.kn ?_ | fail
      exact GQ.back ⟨k + 1, by omega, hst⟩ (by simp only; omega) ⟨rfl, rfl, rfl, rfl, rfl, trivial⟩ (fun w hw => hw)
    · rw [if_neg hz] at hst
      repeat' first | refine Y.st ?_ | (refine nw ?_; intro _) | refine Y.kn ?_ | fail
      exact GQ.done1 rfl rfl ⟨by rw [hst], rfl⟩
  · have : cmpL a b = 0 := by rw [hE, List.drop_of_length_le (by omega), List.drop_of_length_le (by omega)]; rfl
    repeat' first | refine Y.st ?_ | (refine nw ?_; intro _) | refine Y.kn ?_ | fail
    exact GQ.done1 rfl rfl ⟨by rw [this], rfl⟩
theorem cd_addr0 {b : Nat} {c : Cd} {el : TypeId} {fr : Nat × Nat} [h : Has F b (.cells (cdC c).toArray el fr)] : ∀ w, Own W0 F w → CellsAt w b 0 (u8s c.addr) :=
  cellsH (h := h) (fun j u hj => by
    have hlt := (List.getElem?_eq_some_iff.1 hj).1
    rw [List.getElem?_toArray, Nat.zero_add, List.getElem?_append_left hlt]; exact hj)
/-- How two ranges stand, as the program asks. -/
theorem cdCmp_spec (p q : Cd) (hp : p.addr.length = 16) (hq : q.addr.length = 16) : T Tryz.prog W0 207 #[cdV p, cdV q] F (fun v _ => v = .int .i64 (cmpC p q)) := by
  refine T.intro (args := [_, _]) Tryz.func207 rfl Tryz.ntmps207 rfl ?_
  repeat' first | refine Y.st ?_ | (refine nw ?_; intro _) | refine Y.kn ?_ | fail
  rename_i b2 b3
  refine GC.drawn [(0, .read), (1, .read), (2, .read), (3, .read), (5, .read), (6, .read), (7, .read), (8, .read), (4, .eff), (9, .tail), (10, .tail), (11, .tail), (12, .tail)] ([(b3, .cells (cdC q).toArray 50 (0, 0)), (b2, .cells (cdC p).toArray 50 (0, 0))]) (by kernel_rfl) (by kernel_rfl) rfl ?_
  repeat' first | refine Y.st ?_ | (refine nw ?_; intro _) | refine Y.kn ?_ | fail
  refine G.rd (Rd.cdBits rfl rfl hp) rfl rfl ?_
  repeat' first | refine Y.st ?_ | (refine nw ?_; intro _) | refine Y.kn ?_ | fail
  refine G.rd (Rd.cdBits rfl rfl hq) rfl rfl ?_
  repeat' first | refine Y.st ?_ | (refine nw ?_; intro _) | refine Y.kn ?_ | fail
  refine G.ee rfl rfl rfl (Eff.callF rfl ((bytesCmp_spec p.addr q.addr b2 b3 16 16 cd_addr0 cd_addr0 hp hq (by omega)).mono ?_))
  rintro v H' ⟨rfl, rfl⟩
  refine ⟨inferInstance, ?_⟩
  repeat' first | refine Y.st ?_ | (refine nw ?_; intro _) | refine Y.kn ?_ | fail
  refine G.ef rfl rfl rfl (Eff.buildSlice (cells := #[.int .i64 (cmpL p.addr q.addr), .int .i64 (cmpN p.bits q.bits)]) rfl (by kernel_rfl) (by omega) (fun b6 => ?_))
  refine G.ef rfl rfl rfl (Eff.callF rfl ((or_spec (cmpL p.addr q.addr) (cmpN p.bits q.bits) b6 (cellsH (fun j u hj => by simpa using hj)) 2).mono ?_))
  rintro v H' ⟨rfl, rfl⟩
  repeat' first | refine Y.st ?_ | (refine nw ?_; intro _) | refine Y.kn ?_ | fail
  exact GQ.done1 rfl rfl rfl
end
end Go.Cid

namespace Go.Own
open Go.RowKit Go.Proofs Go.Shelf Go.Cid

theorem own_grown {X w : World} (h : Own X [] w) : ∃ q os, w = Sort.grow (X.drewN q) os := by
  refine ⟨w.drawn - X.drawn, w.heap.extract X.heap.size w.heap.size, ?_⟩
  obtain ⟨⟨ho, ht, hp, hs, hb⟩, _, _, hd⟩ := h
  have hheap : w.heap = X.heap ++ w.heap.extract X.heap.size w.heap.size := by
    apply Array.ext_getElem?
    intro k
    rw [Array.getElem?_append]
    by_cases hk : k < X.heap.size
    · rw [if_pos hk]; exact hb k hk
    · rw [if_neg hk, Array.getElem?_extract]
      by_cases h2 : k < w.heap.size
      · rw [if_pos (by omega), show X.heap.size + (k - X.heap.size) = k by omega]
      · rw [if_neg (by omega), Array.getElem?_eq_none (by omega)]
  have hdr : w.drawn = X.drawn + (w.drawn - X.drawn) := by omega
  unfold Sort.grow World.drewN
  generalize w.heap.extract X.heap.size w.heap.size = os at hheap ⊢
  generalize w.drawn - X.drawn = q at hdr ⊢
  obtain ⟨wh, wt, wd, wo, wp⟩ := w
  obtain ⟨Xh, Xt, Xd, Xo, Xp⟩ := X
  simp only at ho ht hp hheap hdr
  rw [ho, ht, hp, hheap, hdr]

section
variable {α : Type} [Inhabited α]
theorem flatK_eq (enc : α → List Value) (k : Nat) (hk : ∀ x, (enc x).length = k) (h0 : 0 < k) (l : List α) : Sort.flatK enc k l.toArray = (l.flatMap enc).toArray := by
  apply Array.ext_getElem?
  intro t
  have hsz : (Sort.flatK enc k l.toArray).size = l.length * k := by simp
  by_cases ht : t < l.length * k
  · have h1 := Sort.get_flatK enc k l.toArray t (by simpa using ht)
    have hd : t / k < l.length := Nat.div_lt_of_lt_mul (by rwa [Nat.mul_comm] at ht)
    have hm : t % k < k := Nat.mod_lt _ h0
    rw [getElem!_pos _ t (by rw [hsz]; exact ht)] at h1
    rw [Array.getElem?_eq_getElem (by rw [hsz]; exact ht), h1, List.getElem?_toArray]
    have h2 := flat_get enc k hk l (t / k) (t % k) hm
    rw [Nat.div_add_mod' t k] at h2
    rw [h2, List.getElem?_eq_getElem hd, Option.bind_some]
    rw [getElem!_pos _ (t / k) (by simpa using hd), List.getElem_toArray]
    rw [List.getElem?_eq_getElem (by rw [hk]; exact hm), getElem!_pos _ (t % k) (by rw [hk]; exact hm)]
  · rw [Array.getElem?_eq_none (by rw [hsz]; omega), List.getElem?_toArray, List.getElem?_eq_none (by rw [flat_len enc k hk]; omega)]

variable {W0 w : World} {F : Heap} {bk : Nat} {el : TypeId} {extra : List Value}
theorem holds_row (enc : α → List Value) (k : Nat) (hk : ∀ x, (enc x).length = k) (h0 : 0 < k) (l : List α) (h : w.heap[bk]? = some (.cells (l.flatMap enc ++ extra).toArray el (0, 0))) : Sort.HoldsK enc k w bk 0 l.toArray := by
  unfold Sort.HoldsK
  rw [flatK_eq enc k hk h0]
  intro j hj
  have hj' : j < (l.flatMap enc).length := by simpa using hj
  refine ⟨?_, by simp [World.frozen?, h]⟩
  unfold World.cell?
  rw [h]
  simp only [Option.isSome_none, Bool.false_eq_true, if_false, Nat.zero_add]
  rw [List.getElem?_toArray, List.getElem?_append_left hj', List.getElem?_eq_getElem hj', getElem!_pos _ j (by simpa using hj'), List.getElem_toArray]
  rfl
theorem own_row (enc : α → List Value) (k : Nat) (hk : ∀ x, (enc x).length = k) (h0 : 0 < k) (l l' : List α) (hl : l'.length = l.length) (n : Nat) (os : Array Obj)
    (hw : Own W0 ((bk, .cells (l.flatMap enc ++ extra).toArray el (0, 0)) :: F) w) : Own W0 ((bk, .cells (l'.flatMap enc ++ extra).toArray el (0, 0)) :: F) (sortWorldK enc k w bk 0 n l'.toArray os) := by
  have hb := (hw.mem _ (List.mem_cons_self)).2
  simp only at hb
  have hlt := lt_of_some hb
  have hput : Own W0 ((bk, .cells (l'.flatMap enc ++ extra).toArray el (0, 0)) :: F) (Sort.putRowK enc k (Sort.ahead w n) bk 0 l'.toArray) := by
    refine Own.put (w := Sort.ahead w n) (hw.drawn (w.drawn + n) (Nat.le_add_right _ _)) ?_ ?_ ?_ rfl rfl rfl
    · show (w.heap.modify bk _)[bk]? = _
      rw [Array.getElem?_modify, if_pos rfl, hb]
      simp only [Option.map_some, Sort.onCells, Option.some.injEq, Obj.cells.injEq, and_true]
      rw [flatK_eq enc k hk h0]
      have hl1 : (l.flatMap enc).length = (l'.flatMap enc).length := by rw [flat_len enc k hk, flat_len enc k hk, hl]
      apply Array.ext_getElem?
      intro t
      simp only [Sort.putCells, Array.getElem?_mapIdx, List.getElem?_toArray, Nat.zero_le, true_and, Nat.zero_add, Nat.sub_zero, List.size_toArray, id]
      by_cases ht : t < (l'.flatMap enc).length
      · rw [List.getElem?_append_left (by omega), List.getElem?_append_left ht, List.getElem?_eq_getElem (by omega), List.getElem?_eq_getElem ht, Option.map_some, if_pos ht, getElem!_pos _ t (by simpa using ht), List.getElem_toArray]
      · rw [List.getElem?_append_right (by omega), List.getElem?_append_right (by omega), hl1]
        cases extra[t - (l'.flatMap enc).length]? with
        | none => rfl
        | some u => rw [Option.map_some, if_neg ht]
    · intro j hj
      show (w.heap.modify bk _)[j]? = w.heap[j]?
      rw [Array.getElem?_modify, if_neg (Ne.symm hj)]
    · show (w.heap.modify bk _).size = w.heap.size
      simp
  unfold sortWorldK
  refine hput.grow ⟨rfl, rfl, rfl, by simp [Sort.grow], fun i hi => ?_⟩ (Nat.le_refl _)
  simp only [Sort.grow]
  exact Array.getElem?_append_left hi

variable {P : Program} {ρ : Ren}
theorem T.sortFunc (L : SlLaysF0.n6 P ρ) (k : Nat) (h0 : 0 < k) (aE : ∀ w, (isAgg (ρ.t 24)).run P w = .ok true w) (zE : ∀ w, (Go.sizeOf (ρ.t 24)).run P w = .ok k w) (enc : α → List Value) (hk : ∀ x, (enc x).length = k) (h1 : ∀ x, ∀ v ∈ enc x, v.oneCell' = true)
    (cf : α → α → Int) (hT : Tot cf) (g : Nat) (eg : ∀ args w, (callFunc g args).run P w = .ok (.enter g args) w)
    (hcmp : ∀ X x y, T P X g #[.agg (enc x).toArray, .agg (enc y).toArray] [] (fun v _ => v = .int .i64 (cf x y))) (l : List α) (hl : l.length < 4611686018427387904) (cap : Nat) :
    T P W0 (ρ.f 6) #[.slice (some ⟨bk, 0, none⟩) l.length cap, .func (.func g) #[] #[]] ((bk, .cells (l.flatMap enc ++ extra).toArray el (0, 0)) :: F)
      (fun v H' => v = .tuple #[] ∧ H' = (bk, .cells ((sortF cf l).flatMap enc ++ extra).toArray el (0, 0)) :: F) := .of fun w hw => by
  have hb := (hw.mem _ (List.mem_cons_self)).2
  simp only at hb
  have hC : CmpLays P g #[] enc k cf bk 0 l.toArray.size w := by
    intro m os dk _ x y
    have := hcmp (sortWorldK enc k w bk 0 m dk os) x y _ (Own.start _)
    refine this.mono ?_
    rintro e w' ⟨v, H', rfl, rfl, ho⟩
    exact ⟨rfl, own_grown (ho.sub (List.nil_sublist _))⟩
  have hO : Sort.SWO (ltOf cf) := hT.swo
  have := AnyQ.slices_SortFunc_total L k aE zE enc hk h1 cf hO g #[] bk 0 cap l.toArray w eg hC (holds_row enc k hk h0 l hb) (lt_of_some hb) (by simpa using hl) (fun x y a b => hT.same x y (by
    unfold ltOf at a b
    simp only [decide_eq_false_iff_not] at a b
    have := hT.neg x y
    omega))
  simp only [List.size_toArray] at this
  refine this.mono ?_
  rintro e w' ⟨rfl, n, os, rfl⟩
  exact ⟨_, _, rfl, ⟨rfl, rfl⟩, own_row enc k hk h0 l (sortF cf l) (sortF_len cf l) n os hw⟩
theorem T.sortFunc0 (L : SlLaysF0.n6 P ρ) (p : Option Addr) (cap : Nat) (fv : Value) : T P W0 (ρ.f 6) #[.slice p 0 cap, fv] F (fun v H' => v = .tuple #[] ∧ H' = F) := .of fun w hw =>
  (AnyF.slices_SortFunc_none L p cap fv w).mono (by rintro e w' ⟨rfl, rfl⟩; exact ⟨_, _, rfl, ⟨rfl, rfl⟩, hw⟩)
end
end Go.Own

namespace Go.Cid
open Go.Own Go.Proofs Go.RowKit Go.Lib Go.Asc Go.Adr Go.Nam Go.Tri
attribute [local irreducible] GC GQ G Rd Eff T
set_option maxRecDepth 20000
set_option maxHeartbeats 4000000
/-- A range of an address that is one. -/
abbrev CdA : Type := { c : Cd // c.addr.length = 16 }
instance : Inhabited CdA := ⟨⟨zeroC, rfl⟩⟩
abbrev encA (x : CdA) : List Value := cdC x.1
theorem tot_A : Tot (fun x y : CdA => cmpC x.1 y.1) where
  neg a b := tot_cmpC.neg a.1 b.1
  same _ _ h := Subtype.ext (tot_cmpC.same _ _ h)
  trans a b c := tot_cmpC.trans a.1 b.1 c.1
theorem as_A {l : List Cd} (h : ∀ c ∈ l, c.addr.length = 16) : ∃ m : List CdA, m.map (fun x => x.1) = l := ⟨l.attach.map (fun x => ⟨x.1, h x.1 x.2⟩), by rw [List.map_map]; exact List.attach_map_subtype_val l⟩
theorem flat_A (m : List CdA) : m.flatMap encA = (m.map (fun x => x.1)).flatMap cdC := by rw [List.flatMap_map]
section
variable {W0 : World} {F : Heap}
theorem sortCd_spec {l : List Cd} (ha : ∀ c ∈ l, c.addr.length = 16) (hl : l.length ≤ 1000000000) {bk cap : Nat} {el : TypeId} {extra : List Value} :
    T Tryz.prog W0 206 #[.slice (some ⟨bk, 0, none⟩) l.length cap, .func (.func 207) #[] #[]] ((bk, .cells (l.flatMap cdC ++ extra).toArray el (0, 0)) :: F)
      (fun v H' => v = .tuple #[] ∧ H' = (bk, .cells ((sortC l).flatMap cdC ++ extra).toArray el (0, 0)) :: F) := by
  obtain ⟨m, rfl⟩ := as_A ha
  have h := T.sortFunc (W0 := W0) (F := F) (bk := bk) (el := el) (extra := extra) Tryz.sortCd 17 (by omega) Tryz.isAgg50 Tryz.sizeOf50 encA (fun x => cdC_len x.2) (fun x => cdC_one x.1) (fun x y : CdA => cmpC x.1 y.1) tot_A 207
    (CallF.run (P := Tryz.prog) (f := 207)) (fun X x y => cdCmp_spec (W0 := X) (F := []) x.1 y.1 x.2 y.2) m (by rw [List.length_map] at hl; omega) cap
  rw [flat_A, flat_A, sortF_map (f := cmpC) tot_cmpC tot_A (fun x : CdA => x.1) (fun _ _ => rfl)] at h
  rw [List.length_map]
  exact h
/-- The set's ranges, in order. -/
theorem call_spec {l : List Cd} {bs : Nat} {H : Heap} (h : SetQ l bs H) (hl : l.length ≤ 2000000) (hs : ∀ c ∈ l, SizC c) : T Tryz.prog W0 173 #[.pointer (some ⟨bs, 0, none⟩)] (H ++ F)
    (fun v H' => ∃ B, Buf 50 17 v l.length ((sortC l).flatMap cdC) B ∧ H' = B ++ (H ++ F)) := by
  obtain ⟨mp, om, rfl, hM⟩ := h
  simp only [List.cons_append, List.nil_append]
  refine T.intro (args := [_]) Tryz.func173 rfl Tryz.ntmps173 rfl ?_
  repeat' first | refine Y.st ?_ | (refine nw ?_; intro _) | refine Y.kn ?_ | fail
  refine G.ef rfl rfl rfl (Eff.rangeM rfl hM (fun r oi hi => ?_))
  repeat' first | refine Y.st ?_ | (refine nw ?_; intro _) | refine Y.kn ?_ | fail
  refine GC.loopE (ι := { q : List Cd × List Cd × Value × Heap × Obj // (q.2.1 ++ q.1).Perm l ∧ Buf 50 17 q.2.2.1 q.2.1.length (q.2.1.flatMap cdC) q.2.2.2.1 ∧ IterIs cdV oneV mp om (hasL q.1) q.2.2.2.2 }) (fun i => [(3, i.1.2.2.1)]) [(9, _)]
    (fun q => q.1.2.2.2.1 ++ ((r, q.1.2.2.2.2) :: (bs, .cells #[.map (some mp)] 269 (0, 0)) :: (mp, om) :: F)) (fun q => q.1.1.length) ⟨(l, [], .slice none 0 0, [], oi), by simp, .nil, hi⟩ ⟨rfl, rfl, trivial⟩ (fun _ h => h) ?_
  rintro ⟨⟨left, got, v, B, oi⟩, hperm, hB, hi⟩
  dsimp only [List.cons_append, List.nil_append] at hperm hB hi ⊢
  have hln : got.length + left.length = l.length := by rw [← List.length_append]; exact hperm.length_eq
  repeat' first | refine Y.st ?_ | (refine nw ?_; intro _) | refine Y.kn ?_ | fail
  refine G.ef rfl rfl rfl (Eff.nextM rfl hi (fun h0 => ?_) (fun A q D oi' hA hi' hlast => ?_))
  · have hl0 : left = [] := by simpa using h0
    subst hl0
    rw [List.append_nil] at hperm
    have hgl : got.length = l.length := by simpa using hln
    have hsz : ∀ c ∈ got, c.addr.length = 16 := fun c hc => (hs c (hperm.mem_iff.1 hc)).1
    have hso : sortC got = sortC l := sortF_eq tot_cmpC hperm
    rcases Buf.parts hB with ⟨rfl, hn, _, rfl⟩ | ⟨b, cap, extra, rfl, rfl, hcap, hx, hmax⟩
    · have hl0 : l = [] := List.eq_nil_of_length_eq_zero (by omega)
      subst hl0
      repeat' first | refine Y.st ?_ | (refine nw ?_; intro _) | refine Y.kn ?_ | fail
      refine G.ef rfl rfl rfl (Eff.callF rfl ((T.sortFunc0 Tryz.sortCd none 0 _).mono ?_))
      rintro v H' ⟨rfl, rfl⟩
      repeat' first | refine Y.st ?_ | (refine nw ?_; intro _) | refine Y.kn ?_ | fail
      refine GQ.heap (H' := (bs, .cells #[.map (some mp)] 269 (0, 0)) :: (mp, om) :: F) ?_ (fun w hw => hw.sub (List.sublist_cons_self _ _))
      exact GQ.done1 rfl rfl ⟨[], by rw [show sortC [] = [] by simp [sortC, sortF]]; exact .nil, rfl⟩
    · simp only [List.cons_append, List.nil_append]
      repeat' first | refine Y.st ?_ | (refine nw ?_; intro _) | refine Y.kn ?_ | fail
      refine G.ef rfl rfl rfl (Eff.callF rfl ((sortCd_spec hsz (by omega)).mono ?_))
      rintro v H' ⟨rfl, rfl⟩
      repeat' first | refine Y.st ?_ | (refine nw ?_; intro _) | refine Y.kn ?_ | fail
      refine GQ.heap (H' := (b, .cells ((sortC got).flatMap cdC ++ extra).toArray 50 (0, 0)) :: (bs, .cells #[.map (some mp)] 269 (0, 0)) :: (mp, om) :: F) ?_ (fun w hw => hw.sub ((List.sublist_cons_self _ _).cons_cons _))
      have hcl := cells_len (l := sortC got) (fun c hc => hs c (hperm.mem_iff.1 (sortF_mem.1 hc)))
      have hcl2 := cells_len (l := got) (fun c hc => hs c (hperm.mem_iff.1 hc))
      have hsl : (sortC got).length = got.length := sortF_len _ _
      exact GQ.done1 rfl rfl ⟨_, by rw [← hso, ← hgl]; exact Buf.row b got.length cap _ extra (by rw [hcl, hsl]) (by rw [hcl, hsl, ← hx, hcl2]) hcap hmax, rfl⟩
  · obtain ⟨A', R', rfl, hA1, hA2⟩ := List.map_eq_append_iff.1 hA
    obtain ⟨c, D', rfl, hq, hD⟩ := List.map_eq_cons_iff.1 hA2
    subst hA1 hq hD
    have hcl : c ∈ l := hperm.mem_iff.1 (by simp)
    have hc := hs c hcl
    have hlc := cdC_len hc.1
    have hln2 : got.length < 2000000 := by simp only [List.length_append, List.length_cons] at hln; omega
    repeat' first | refine Y.st ?_ | (refine nw ?_; intro _) | refine Y.kn ?_ | fail
    refine G.rd (Rd.entryM rfl hlast) rfl rfl ?_
    refine G.rd (Rd.extract rfl rfl) rfl rfl ?_
    refine G.ef rfl rfl rfl (Eff.allocA (cs := cdC zeroC) (fun b4 => ?_))
    refine G.ef rfl rfl rfl (Eff.storeAll (cs := cdC zeroC) (vs := cdC c) rfl rfl (cdC_one _) (by rw [hlc]; rfl) hlc ?_)
    repeat' first | refine Y.st ?_ | (refine nw ?_; intro _) | refine Y.kn ?_ | fail
    refine G.ef rfl rfl rfl (Eff.buildSlice (cells := (cdC c).toArray) rfl (by exact fill_cd hc.1) (by omega) (fun b6 => ?_))
    refine G.ef rfl rfl rfl (Eff.append (ys := cdC c) (F := (b6, .cells (cdC c).toArray 50 (0, 0)) :: (b4, .cells (cdC c).toArray 50 (0, 0)) :: (r, oi') :: (bs, .cells #[.map (some mp)] 269 (0, 0)) :: (mp, om) :: F) (by omega) rfl hB rfl (by exact permC) (by rw [hlc]) (at_here (cs := cdC c)) (cdC_one c) (by omega) (by omega) (fun v' B' hB' => ?_))
    repeat' first | refine Y.st ?_ | (refine nw ?_; intro _) | refine Y.kn ?_ | fail
    exact GQ.back ⟨(A' ++ D', got ++ [c], v', B', oi'), by
      refine List.Perm.trans ?_ hperm
      simp only [List.append_assoc, List.singleton_append]
      exact (List.perm_middle.symm).append_left got, by rw [List.length_append, List.flatMap_append]; simpa using hB', by rw [← List.map_append] at hi'; exact hi'⟩ (by simp only [List.length_append, List.length_cons]; omega) ⟨rfl, rfl, trivial⟩
      (fun w hw => hw.sub (List.Sublist.append_left ((List.sublist_cons_self _ _).trans (List.sublist_cons_self _ _)) _))
end
end Go.Cid

namespace Go.Cid
open Go.Own Go.Proofs Go.RowKit Go.Lib Go.Asc Go.Adr Go.Nam Go.Tri
attribute [local irreducible] GC GQ G Rd Eff T
set_option maxRecDepth 20000
set_option maxHeartbeats 4000000
theorem flat_get_mem {α : Type} (f : α → List Value) (m : Nat) : ∀ (l : List α) (_ : ∀ a ∈ l, (f a).length = m) (k j : Nat), j < m → (l.flatMap f)[k * m + j]? = (l[k]?).bind fun a => (f a)[j]?
  | [], _, k, j, _ => by simp
  | a :: l, hf, 0, j, hj => by
    simp only [List.flatMap_cons, Nat.zero_mul, Nat.zero_add, List.getElem?_cons_zero, Option.bind_some]
    exact List.getElem?_append_left (by rw [hf a (by simp)]; exact hj)
  | a :: l, hf, k + 1, j, hj => by
    simp only [List.flatMap_cons, List.getElem?_cons_succ]
    rw [List.getElem?_append_right (by rw [hf a (by simp), Nat.add_mul]; omega), hf a (by simp), ← flat_get_mem f m l (fun x hx => hf x (List.mem_cons_of_mem _ hx)) k j hj]
    congr 1
    rw [Nat.add_mul]; omega
theorem flat_len_mem {α : Type} (f : α → List Value) (m : Nat) : ∀ (l : List α) (_ : ∀ a ∈ l, (f a).length = m), (l.flatMap f).length = l.length * m
  | [], _ => by simp
  | a :: l, hf => by simp only [List.flatMap_cons, List.length_append, hf a (by simp), flat_len_mem f m l (fun x hx => hf x (List.mem_cons_of_mem _ hx)), List.length_cons, Nat.add_mul]; omega
/-- Elements that lie one behind the other: where each lies. -/
theorem row_get {α : Type} {f : α → List Value} {m : Nat} {l : List α} {W0 : World} {H : Heap} {p : Option Addr} (hl : ∀ x ∈ l, (f x).length = m) (h0 : 0 < m) (h : Go.Tri.Lies W0 H p (l.flatMap f)) {k : Nat} (hk : k < l.length) :
    ∃ b o, p = some ⟨b, o, none⟩ ∧ ∀ j (hj : j < l.length) w, Own W0 H w → CellsAt w b (o + j * m) (f l[j]) := by
  rcases h with h1 | ⟨b, o, h1, h2⟩
  · have := congrArg List.length h1
    rw [flat_len_mem f m l hl] at this
    simp only [List.length_nil] at this
    have := Nat.mul_pos (show 0 < l.length by omega) h0
    omega
  · refine ⟨b, o, h1, fun j hj w hw i u hi => ?_⟩
    have him : i < m := by have := (List.getElem?_eq_some_iff.1 hi).1; rw [hl _ (List.getElem_mem hj)] at this; exact this
    rw [Nat.add_assoc]
    refine h2.here hw (j * m + i) u ?_
    rw [flat_get_mem f m l hl j i him, List.getElem?_eq_getElem hj]
    exact hi
/-! ### Many added -/
theorem add_len (s : List Cd) (c : Cd) : (addC s c).1.length = s.length + (if (addC s c).2 = true then 1 else 0) := by
  unfold addC
  split <;> simp
/-! ### What is found -/
section
variable {W : World}
end
section
variable {W0 : World} {F : Heap}
attribute [local irreducible] rightC ofL Lit.wf addC
def lessC (a b : Cd) : Bool := decide (cmpC a b < 0)
theorem less_spec (a b : Cd) (ha : SizC a) (hb : SizC b) : T Tryz.prog W0 137 #[cdV a, cdV b] F (fun v H' => v = .bool (lessC a b) ∧ H' = F) := by
  have ha1 := ha.1
  have hb1 := hb.1
  refine T.intro (args := [_, _]) Tryz.func137 rfl Tryz.ntmps137 rfl ?_
  repeat' first | refine Y.st ?_ | (refine nw ?_; intro _) | refine Y.kn ?_ | fail
  rename_i b2 b3
  refine GC.loopE (ι := { k : Nat // k ≤ 16 ∧ cmpL a.addr b.addr = cmpL (a.addr.drop k) (b.addr.drop k) }) (fun i => [(5, .int .i64 (i.1 : Int))]) [(2, _), (3, _)] (fun _ => (b3, .cells (cdC b).toArray 50 (0, 0)) :: (b2, .cells (cdC a).toArray 50 (0, 0)) :: F) (fun i => 16 - i.1) ⟨0, Nat.zero_le _, rfl⟩ ⟨rfl, rfl, rfl, trivial⟩ (fun _ h => h) ?_
  rintro ⟨k, hk, hE⟩
  dsimp only [List.cons_append, List.nil_append] at hk hE ⊢
  by_cases hlt : k < 16
  · have hka : k < a.addr.length := by omega
    have hkb : k < b.addr.length := by omega
    have c1 : ∀ w, Own W0 ((b3, .cells (cdC b).toArray 50 (0, 0)) :: (b2, .cells (cdC a).toArray 50 (0, 0)) :: F) w → w.cell? ⟨b2, 0 + 0 + k * 1, none⟩ = some (.int .u8 ((a.addr[k]).toNat : Int)) := fun w hw => by
      rw [Nat.mul_one]; exact cd_addr0 w hw k _ (by simp [u8s, hka])
    have c2 : ∀ w, Own W0 ((b3, .cells (cdC b).toArray 50 (0, 0)) :: (b2, .cells (cdC a).toArray 50 (0, 0)) :: F) w → w.cell? ⟨b3, 0 + 0 + k * 1, none⟩ = some (.int .u8 ((b.addr[k]).toNat : Int)) := fun w hw => by
      rw [Nat.mul_one]; exact cd_addr0 w hw k _ (by simp [u8s, hkb])
    have hst := cmpL_step hka hkb
    rw [← hE] at hst
    by_cases hz : (a.addr[k]).toNat = (b.addr[k]).toNat
    · rw [if_pos (cmpN_zero.2 (by omega))] at hst
      repeat' first | refine Y.st ?_ | (refine nw ?_; intro _) | refine Y.kn ?_ | fail
      refine GC.drawnH [(0, .read), (1, .read), (2, .read), (3, .read), (4, .read), (5, .read), (6, .read), (7, .read), (8, .read)] (by kernel_rfl) (by kernel_rfl) rfl ?_
      repeat' first | refine Y.st ?_ | (refine nw ?_; intro _) | refine Y.kn ?_ | fail
      exact GQ.back ⟨k + 1, by omega, hst⟩ (by simp only; omega) ⟨rfl, rfl, rfl, trivial⟩ (fun w hw => hw)
    · have hz2 : cmpN ((a.addr[k]).toNat : Int) ((b.addr[k]).toNat : Int) ≠ 0 := fun h => hz (by have := cmpN_zero.1 h; omega)
      rw [if_neg hz2] at hst
      have hres : lessC a b = decide (((a.addr[k]).toNat : Int) < ((b.addr[k]).toNat : Int)) := by
        unfold lessC cmpC thenF
        rw [hst, if_neg hz2]
        unfold cmpN
        by_cases h1 : ((a.addr[k]).toNat : Int) < ((b.addr[k]).toNat : Int)
        · rw [if_pos h1, decide_eq_true h1]; rfl
        · rw [if_neg h1, if_pos (by omega), decide_eq_false h1]; rfl
      repeat' first | refine Y.st ?_ | (refine nw ?_; intro _) | refine Y.kn ?_ | fail
      refine GC.drawnH [(0, .read), (1, .read), (2, .read), (3, .read), (4, .read), (5, .read), (6, .read), (7, .read), (8, .read)] (by kernel_rfl) (by kernel_rfl) rfl ?_
      repeat' first | refine Y.st ?_ | (refine nw ?_; intro _) | refine Y.kn ?_ | fail
      refine GC.drawnH [(0, .read), (1, .read), (2, .read), (3, .read), (4, .read), (5, .read), (6, .read), (7, .read), (8, .read), (9, .read)] (by kernel_rfl) (by kernel_rfl) rfl ?_
      repeat' first | refine Y.st ?_ | (refine nw ?_; intro _) | refine Y.kn ?_ | fail
      exact GQ.pure1 rfl (.tmp rfl) (by rw [hres])
  · obtain rfl : k = 16 := by omega
    rw [List.drop_of_length_le (by omega), List.drop_of_length_le (by omega)] at hE
    have hres : lessC a b = decide (a.bits < b.bits) := by
      unfold lessC cmpC thenF
      rw [hE, show cmpL ([] : List UInt8) [] = 0 from rfl, if_pos rfl]
      unfold cmpN
      by_cases h1 : a.bits < b.bits
      · rw [if_pos h1, decide_eq_true h1]; rfl
      · rw [if_neg h1, decide_eq_false h1]; split <;> rfl
    repeat' first | refine Y.st ?_ | (refine nw ?_; intro _) | refine Y.kn ?_ | fail
    refine G.rd (Rd.cdBits rfl rfl ha1) rfl rfl ?_
    repeat' first | refine Y.st ?_ | (refine nw ?_; intro _) | refine Y.kn ?_ | fail
    refine G.rd (Rd.cdBits rfl rfl hb1) rfl rfl ?_
    repeat' first | refine Y.st ?_ | (refine nw ?_; intro _) | refine Y.kn ?_ | fail
    exact GQ.pure1 rfl (.tmp rfl) (by rw [hres])
end
end Go.Cid
