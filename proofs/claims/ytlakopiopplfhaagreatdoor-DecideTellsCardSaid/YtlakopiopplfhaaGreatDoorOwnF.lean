/-
  WHAT A LAW'S ARGUMENTS ARE: from the form's reading of a value to a tree of plain values, and where its slices lie. Over any program.
-/
import Derived.Test.YtlakopiopplfhaaGreatDoorOwnE
import Derived.OpenShut
import Derived.SizedLaws
import Derived.ChangeArms
import Derived.Deep.Slices
namespace Go.Own
open Go.RowKit

/-- A value as it came in. -/
inductive VT where
  | int (k : IntKind) (n : Int)
  | bool (b : Bool)
  | str (l : List UInt8)
  | slice (p : Option Addr) (cap : Nat) (elems : List VT)
  | agg (parts : List VT)

mutual
def VT.cells : VT → List Value
  | .int k n => [.int k n]
  | .bool b => [.bool b]
  | .str l => [S l]
  | .slice p cap es => [.slice p es.length cap]
  | .agg ps => VT.cellsL ps
def VT.cellsL : List VT → List Value
  | [] => []
  | v :: r => v.cells ++ VT.cellsL r
end

/-- Where a slice that is not empty lies. -/
def Pt (p : Option Addr) (n : Nat) : Prop := n = 0 ∨ ∃ b o, p = some ⟨b, o, none⟩

mutual
/-- Its slices lie in w, and every size is within the form's reach. -/
def VT.Lies (P : Program) (w : World) (t : TypeId) : VT → Prop
  | .int k n => P.underlying t = some (.int k) ∧ (Lit.int k n).wf = true
  | .bool _ => P.underlying t = some .bool
  | .str l => P.underlying t = some .string ∧ l.length ≤ 140737488351232
  | .slice p cap es => ∃ e, P.underlying t = some (.slice e) ∧ Pt p es.length ∧ es.length ≤ cap ∧ cap * P.bytesOf e ≤ 140737488351232 ∧ At w p (VT.cellsL es) ∧ VT.LiesAll P w e es
  | .agg ps => (∃ fs, P.underlying t = some (.struct fs) ∧ VT.LiesEach P w (fs.toList.map (·.type)) ps) ∨ (∃ n e, P.underlying t = some (.array n e) ∧ ps.length = n ∧ VT.LiesAll P w e ps)
def VT.LiesAll (P : Program) (w : World) (e : TypeId) : List VT → Prop
  | [] => True
  | v :: r => VT.Lies P w e v ∧ VT.LiesAll P w e r
def VT.LiesEach (P : Program) (w : World) : List TypeId → List VT → Prop
  | [], [] => True
  | t :: ts, v :: r => VT.Lies P w t v ∧ VT.LiesEach P w ts r
  | _, _ => False
end

/-- Fields that lie one behind the other, from off to total. -/
def contig (P : Program) : List (Nat × TypeId) → Nat → Nat → Bool
  | [], off, total => off == total
  | (o, t) :: r, off, total => (o == off) && contig P r (off + P.cellsOf t) total

/-- Types of numbers, bools, strings, and slices, structs and arrays of these. -/
def plainT (P : Program) : Nat → TypeId → Bool
  | 0, _ => false
  | d + 1, t => match P.underlying t with
    | some .bool | some (.int _) | some .string => true
    | some (.slice e) => plainT P d e && decide (0 < P.cellsOf e)
    | some (.struct fs) => fs.toList.all (fun f => plainT P d f.type) && contig P (fs.toList.map fun f => (f.offset, f.type)) 0 (P.cellsOf t)
    | some (.array n e) => plainT P d e && (P.cellsOf t == n * P.cellsOf e)
    | _ => false

section
variable {H : Type} {enc : TypeId × Value → H} {P : Program} {w : World}

def Tree (P : Program) (w : World) (t : TypeId) (cs : List Value) : Prop := ∃ v : VT, cs = v.cells ∧ v.Lies P w t

/-- Parts one behind the other. -/
theorem tree_parts : ∀ (segs : List (Nat × TypeId)) (off total : Nat) (cs : List Value), contig P segs off total = true → cs.length = total →
    (∀ s ∈ segs, Tree P w s.2 ((cs.drop s.1).take (P.cellsOf s.2))) → ∃ vs : List VT, cs.drop off = VT.cellsL vs ∧ VT.LiesEach P w (segs.map (·.2)) vs
  | [], off, total, cs, hc, hl, _ => by
    simp only [contig, beq_iff_eq] at hc
    exact ⟨[], by rw [VT.cellsL]; exact List.drop_eq_nil_of_le (by omega), by simp [VT.LiesEach]⟩
  | (o, t) :: r, off, total, cs, hc, hl, hx => by
    simp only [contig, Bool.and_eq_true, beq_iff_eq] at hc
    obtain ⟨rfl, hc⟩ := hc
    obtain ⟨vs, h1, h2⟩ := tree_parts r _ total cs hc hl (fun s hs => hx s (by simp [hs]))
    obtain ⟨v, h3, h4⟩ := hx (o, t) (by simp)
    refine ⟨v :: vs, ?_, by simpa [VT.LiesEach] using ⟨h4, h2⟩⟩
    rw [VT.cellsL, ← h3, ← h1]
    simp only [← List.drop_drop]
    exact (List.take_append_drop _ _).symm

theorem lies_all {e : TypeId} : ∀ (n : Nat) (vs : List VT), VT.LiesEach P w (List.replicate n e) vs → vs.length = n ∧ VT.LiesAll P w e vs
  | 0, [], _ => ⟨rfl, trivial⟩
  | 0, _ :: _, h => by simp [VT.LiesEach] at h
  | n + 1, [], h => by simp [List.replicate_succ, VT.LiesEach] at h
  | n + 1, v :: vs, h => by
    simp only [List.replicate_succ, VT.LiesEach] at h
    have := lies_all n vs h.2
    exact ⟨by simp [this.1], ⟨h.1, this.2⟩⟩

theorem contig_array (e : TypeId) (tot : Nat) : ∀ (m k : Nat), (k + m) * P.cellsOf e = tot → contig P ((List.range' k m).map fun i => (i * P.cellsOf e, e)) (k * P.cellsOf e) tot = true
  | 0, k, h => by simpa [contig] using h
  | m + 1, k, h => by
    simp only [List.range'_succ, List.map_cons, contig, beq_self_eq_true, Bool.true_and]
    have := contig_array e tot m (k + 1) (by rw [← h]; congr 1; omega)
    rwa [Nat.add_mul, Nat.one_mul] at this

theorem weights_all {e : TypeId} {ds : List (DataW H)} (h : (DataW.weightsAll P e ds).all (· ≤ reachBytes) = true) : ∀ d ∈ ds, (d.weights P e).all (· ≤ reachBytes) = true := by
  induction ds with
  | nil => intro d hd; cases hd
  | cons x r ih =>
    simp only [DataW.weightsAll, List.all_append, Bool.and_eq_true] at h
    intro d hd
    rcases List.mem_cons.1 hd with rfl | hd
    · exact h.1
    · exact ih h.2 d hd
theorem weights_each {ts : List TypeId} {ds : List (DataW H)} (h : (DataW.weightsEach P ts ds).all (· ≤ reachBytes) = true) {j : Nat} {t : TypeId} {d : DataW H} (ht : ts[j]? = some t) (hd : ds[j]? = some d) : (d.weights P t).all (· ≤ reachBytes) = true :=
  List.all_eq_true.2 fun n hn => List.all_eq_true.1 h n (DataW.weights_mem_each ht hd n hn)

theorem cellsL_at {b : Addr} {size : Nat} : ∀ (vs : List VT) (k : Nat), (∀ i (h : i < vs.length), (vs[i]).cells.length = size ∧ ∀ j u, (vs[i]).cells[j]? = some u → w.cell? (b.add ((k + i) * size + j)) = some u) →
    ∀ j u, (VT.cellsL vs)[j]? = some u → w.cell? (b.add (k * size + j)) = some u
  | [], _, _, j, u, hj => by simp [VT.cellsL] at hj
  | v :: vs, k, h, j, u, hj => by
    have h0 := h 0 (by simp)
    simp only [List.getElem_cons_zero] at h0
    rw [VT.cellsL] at hj
    by_cases hlt : j < size
    · rw [List.getElem?_append_left (by omega)] at hj
      have := h0.2 j u hj
      simpa using this
    · rw [List.getElem?_append_right (by omega), h0.1] at hj
      have := cellsL_at vs (k + 1) (fun i hi => by
        have := h (i + 1) (by simp; omega)
        simp only [List.getElem_cons_succ] at this
        rwa [show k + (i + 1) = k + 1 + i by omega] at this) (j - size) u hj
      rw [Nat.add_mul] at this
      rwa [show k * size + 1 * size + (j - size) = k * size + j by omega] at this

theorem lies_all_mk {e : TypeId} : ∀ (vs : List VT), (∀ v ∈ vs, v.Lies P w e) → VT.LiesAll P w e vs
  | [], _ => trivial
  | v :: vs, h => ⟨h v (by simp), lies_all_mk vs fun x hx => h x (by simp [hx])⟩

/-- **FROM THE FORM'S READING TO A TREE.** -/
theorem tree_of_trod : ∀ (d : Nat) (t : TypeId) (fuel : Nat) (cs : List Value) (x : DataW H × List MemPlace), plainT P d t = true → DataW.trod enc P w 0 (fun _ => true) true fuel t cs = some x →
    (x.1.weights P t).all (· ≤ reachBytes) = true → Tree P w t cs := by
  intro d
  induction d with
  | zero => intro t fuel cs x h; simp [plainT] at h
  | succ d ih =>
    intro t fuel cs x hp h hw
    unfold plainT at hp
    split at hp
    · rename_i hu
      obtain ⟨b, rfl, _⟩ := DataW.trod_bool hu h
      exact ⟨.bool b, by simp [VT.cells], by simpa [VT.Lies] using hu⟩
    · rename_i k hu
      obtain ⟨n, rfl, _, hwf⟩ := DataW.trod_int hu h
      exact ⟨.int k n, by simp [VT.cells], by simpa [VT.Lies] using ⟨hu, hwf⟩⟩
    · rename_i hu
      obtain ⟨s, rfl, rfl, _⟩ := DataW.trod_string hu h
      refine ⟨.str s.data.toList, by simp [VT.cells], ?_⟩
      simp only [DataW.weights, List.all_cons, List.all_nil, Bool.and_true] at hw
      have hw' := of_decide_eq_true hw
      simp only [VT.Lies]
      exact ⟨hu, by simpa [reachBytes] using hw'⟩
    · rename_i e hu
      simp only [Bool.and_eq_true, decide_eq_true_eq] at hp
      rcases DataW.trod_slice hu h with ⟨rfl, rfl⟩ | ⟨a, len, cap, elems, rest, n, _, rfl, rfl, _, hlc, hcm, hlen, hel, hsp, _⟩
      · exact ⟨.slice none 0 [], by simp [VT.cells], by simp [VT.Lies, hu, Pt, At, VT.cellsL, VT.LiesAll]⟩
      · have hsp' := hsp rfl
        simp only [DataW.weights, hu, List.all_cons, List.all_append, Bool.and_eq_true, decide_eq_true_eq] at hw
        have hel' : ∀ i, ∃ v : VT, i < len → (v.cells.length = P.cellsOf e ∧ (∀ j u, v.cells[j]? = some u → w.cell? (a.add (i * P.cellsOf e + j)) = some u) ∧ v.Lies P w e) := by
          intro i
          by_cases hi : i < len
          · have h1 := hel i hi
            rw [List.getElem?_eq_getElem (by omega)] at h1
            obtain ⟨cs', h2, h3⟩ := Option.bind_eq_some_iff.1 h1
            have hwi := weights_all hw.2.1 (elems[i]).1 (List.mem_map.2 ⟨elems[i], by simp, rfl⟩)
            obtain ⟨v, rfl, hv⟩ := ih e n cs' _ hp.1 h3 hwi
            obtain ⟨_, h5, h6⟩ := World.cells?_some h2
            refine ⟨v, fun _ => ⟨h5, fun j u hj => ?_, hv⟩⟩
            have hjl : j < P.cellsOf e := by rw [← h5]; exact (List.getElem?_eq_some_iff.1 hj).1
            have := h6 j hjl
            rw [Deep.add_add, hj] at this
            exact this
          · exact ⟨.bool false, fun h => absurd h hi⟩
        let f : Nat → VT := fun i => Classical.choose (hel' i)
        have hf : ∀ i, i < len → ((f i).cells.length = P.cellsOf e ∧ (∀ j u, (f i).cells[j]? = some u → w.cell? (a.add (i * P.cellsOf e + j)) = some u) ∧ (f i).Lies P w e) := fun i hi => Classical.choose_spec (hel' i) hi
        have hlen2 : ((List.range len).map f).length = len := by simp
        have hcells := cellsL_at (w := w) (b := a) (size := P.cellsOf e) ((List.range len).map f) 0 (fun i hi => by
          have hi' : i < len := by simpa using hi
          simpa using ⟨(hf i hi').1, (hf i hi').2.1⟩)
        have hbytes : cap * P.bytesOf e ≤ 140737488351232 := by
          have e1 : (elems.map (·.1)).length + (rest.map (·.1)).length = cap := by simp only [List.length_map]; omega
          have := hw.1
          rw [e1] at this
          exact this
        -- a slice that is not empty has a plain address
        have hpt : Pt (some a) len := by
          by_cases h0 : len = 0
          · exact .inl h0
          · right
            have h1 := (hf 0 (by omega))
            obtain ⟨u, hu0⟩ : ∃ u, (f 0).cells[0]? = some u := ⟨_, List.getElem?_eq_getElem (by rw [h1.1]; exact hp.2)⟩
            have := h1.2.1 0 u hu0
            simp only [Nat.zero_mul, Nat.zero_add] at this
            have e2 : a.add 0 = a := rfl
            rw [e2] at this
            obtain ⟨b, o, s⟩ := a
            cases s with
            | none => exact ⟨b, o, rfl⟩
            | some s =>
              simp only [World.cell?] at this
              split at this <;> simp at this
        refine ⟨.slice (some a) cap ((List.range len).map f), by simp [VT.cells], ?_⟩
        simp only [VT.Lies]
        refine ⟨e, hu, by rwa [hlen2], by rwa [hlen2], hbytes, ?_, lies_all_mk _ fun v hv => ?_⟩
        · rcases hpt with h0 | ⟨b, o, hab⟩
          · subst h0; exact .inl (by simp [VT.cellsL])
          · cases hab
            refine .inr ⟨b, o, rfl, fun j u hj => ?_⟩
            have := hcells j u hj
            rw [add_off] at this
            simpa using this
        · obtain ⟨i, hi, rfl⟩ := List.mem_map.1 hv
          exact (hf i (List.mem_range.1 hi)).2.2
    · rename_i fs hu
      simp only [Bool.and_eq_true] at hp
      obtain ⟨xs, n, _, rfl, hl, hxl, hx⟩ := DataW.trod_struct hu h
      simp only [DataW.weights, hu] at hw
      obtain ⟨vs, h1, h2⟩ := tree_parts (w := w) (fs.toList.map fun f => (f.offset, f.type)) 0 _ cs hp.2 hl (fun s hs => by
        obtain ⟨f, hf, rfl⟩ := List.mem_map.1 hs
        obtain ⟨i, hi, hfi⟩ := List.getElem_of_mem hf
        have hfi' : fs[i]? = some f := by
          have hi' : i < fs.size := by simpa using hi
          rw [Array.getElem?_eq_getElem hi']
          simpa using hfi
        have h3 := hx i f hfi'
        have hi2 : i < xs.length := by rw [hxl]; simpa using hi
        rw [List.getElem?_eq_getElem hi2] at h3
        refine ih f.type n _ _ (List.all_eq_true.1 hp.1 f hf) h3 ?_
        exact weights_each hw (j := i) (by simp [hfi']) (by simp [hi2]))
      refine ⟨.agg vs, by simpa [VT.cells] using h1, ?_⟩
      simp only [VT.Lies]
      refine .inl ⟨fs, hu, ?_⟩
      simpa [List.map_map, Function.comp_def] using h2
    · rename_i n e hu
      simp only [Bool.and_eq_true, beq_iff_eq] at hp
      obtain ⟨xs, m, _, rfl, hl, hxl, hx⟩ := DataW.trod_array hu h
      simp only [DataW.weights, hu] at hw
      have hcg := contig_array (P := P) e (P.cellsOf t) n 0 (by rw [Nat.zero_add]; exact hp.2.symm)
      rw [Nat.zero_mul] at hcg
      obtain ⟨vs, h1, h2⟩ := tree_parts (w := w) _ 0 _ cs hcg hl (fun s hs => by
        obtain ⟨i, hi, rfl⟩ := List.mem_map.1 hs
        have hi' : i < n := by have := List.mem_range'.1 hi; omega
        have h3 := hx i hi'
        have hi2 : i < xs.length := by omega
        rw [List.getElem?_eq_getElem hi2] at h3
        exact ih e m _ _ hp.1 h3 (weights_all hw _ (List.mem_map.2 ⟨xs[i], by simp, rfl⟩)))
      refine ⟨.agg vs, by simpa [VT.cells] using h1, ?_⟩
      simp only [VT.Lies]
      have h5 : (List.map (fun x : Nat × TypeId => x.2) ((List.range' 0 n).map fun i => (i * P.cellsOf e, e))) = List.replicate n e := by
        rw [List.map_map]
        apply List.ext_getElem <;> simp
      rw [h5] at h2
      exact .inr ⟨n, e, hu, lies_all n vs h2⟩
    · cases hp
end
end Go.Own
