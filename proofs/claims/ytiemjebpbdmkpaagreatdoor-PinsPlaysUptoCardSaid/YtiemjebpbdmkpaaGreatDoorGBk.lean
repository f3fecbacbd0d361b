/-
  HOW MUCH COMES IN: a law's arguments as trees of plain values, of no more values and letters than the form's reading has: over any program.
  A LAW'S ROW UNDER A BOUND ON WHAT COMES IN, FROM ITS WALK: over any program.
  THE ROWS' OWN COUNT OF WHAT COMES IN.
-/
import Derived.Test.YtiemjebpbdmkpaaGreatDoorOwnG
import Derived.Test.YtiemjebpbdmkpaaGreatDoorOwnH
import Derived.Test.YtiemjebpbdmkpaaGreatDoorRows
namespace Go.Own
open Go.RowKit Go.ChangeShapes Go.WideShapes Go.ChangeAt

mutual
/-- How many values and letters. -/
def VT.bulk : VT → Nat
  | .int _ _ => 1
  | .bool _ => 1
  | .str l => l.length + 1
  | .slice _ _ es => VT.bulkL es + 1
  | .agg ps => VT.bulkL ps + 1
def VT.bulkL : List VT → Nat
  | [] => 0
  | v :: r => v.bulk + VT.bulkL r
end
/-- A count of a reading that is no less than its parts' counts. -/
structure Counts (H : Type) where
  one : DataW H → Nat
  all : List (DataW H) → Nat
  bool : ∀ b, 1 ≤ one (.lit (.bool b))
  int : ∀ k n, 1 ≤ one (.lit (.int k n))
  str : ∀ bs, bs.length + 1 ≤ one (.lit (.string bs))
  nil : 1 ≤ one .nil
  slice : ∀ es sp, all es + 1 ≤ one (.slice es sp)
  agg : ∀ ps, all ps + 1 ≤ one (.agg ps)
  none : 0 ≤ all []
  cons : ∀ d r, one d + all r ≤ all (d :: r)

section
variable {H : Type} {enc : TypeId × Value → H} {P : Program} {w W : World}
def TreeB (P : Program) (w : World) (t : TypeId) (cs : List Value) (m : Nat) : Prop := ∃ v : VT, cs = v.cells ∧ v.Lies P w t ∧ v.bulk ≤ m

theorem tree_partsB (K : Counts H) : ∀ (segs : List (Nat × TypeId)) (ds : List (DataW H)) (off total : Nat) (cs : List Value), contig P segs off total = true → cs.length = total → ds.length = segs.length →
    (∀ (i : Nat) (s : Nat × TypeId) (d : DataW H), segs[i]? = some s → ds[i]? = some d → TreeB P w s.2 ((cs.drop s.1).take (P.cellsOf s.2)) (K.one d)) → ∃ vs : List VT, cs.drop off = VT.cellsL vs ∧ VT.LiesEach P w (segs.map (·.2)) vs ∧ VT.bulkL vs ≤ K.all ds
  | [], ds, off, total, cs, hc, hl, _, _ => by
    simp only [contig, beq_iff_eq] at hc
    exact ⟨[], by rw [VT.cellsL]; exact List.drop_eq_nil_of_le (by omega), by simp [VT.LiesEach], by simp [VT.bulkL]⟩
  | (o, t) :: r, [], off, total, cs, _, _, hd, _ => by simp at hd
  | (o, t) :: r, d :: ds, off, total, cs, hc, hl, hd, hx => by
    simp only [contig, Bool.and_eq_true, beq_iff_eq] at hc
    obtain ⟨rfl, hc⟩ := hc
    obtain ⟨vs, h1, h2, h5⟩ := tree_partsB K r ds _ total cs hc hl (by simpa using hd) (fun i s d hs hd' => hx (i + 1) s d (by simpa using hs) (by simpa using hd'))
    obtain ⟨v, h3, h4, h6⟩ := hx 0 (o, t) d rfl rfl
    refine ⟨v :: vs, ?_, by simpa [VT.LiesEach] using ⟨h4, h2⟩, ?_⟩
    · rw [VT.cellsL, ← h3, ← h1]
      simp only [← List.drop_drop]
      exact (List.take_append_drop _ _).symm
    · have := K.cons d ds
      simp only [VT.bulkL]; omega
theorem bulk_row (K : Counts H) (f : Nat → VT) : ∀ (ds : List (DataW H)) (k : Nat), (∀ i d, ds[i]? = some d → (f (k + i)).bulk ≤ K.one d) → VT.bulkL ((List.range' k ds.length).map f) ≤ K.all ds
  | [], _, _ => by simp [VT.bulkL]
  | d :: ds, k, h => by
    have h1 := bulk_row K f ds (k + 1) (fun i d hd => by
      have := h (i + 1) d (by simpa using hd)
      rwa [show k + (i + 1) = k + 1 + i by omega] at this)
    have h2 := h 0 d rfl
    have := K.cons d ds
    simp only [List.length_cons, List.range'_succ, List.map_cons, VT.bulkL]
    rw [Nat.add_zero] at h2
    omega

/-- **FROM THE FORM'S READING TO A TREE**, no greater. -/
theorem tree_of_trodB (K : Counts H) : ∀ (d : Nat) (t : TypeId) (fuel : Nat) (cs : List Value) (x : DataW H × List MemPlace), plainT P d t = true → DataW.trod enc P w 0 (fun _ => true) true fuel t cs = some x →
    (x.1.weights P t).all (· ≤ reachBytes) = true → TreeB P w t cs (K.one x.1) := by
  intro d
  induction d with
  | zero => intro t fuel cs x h; simp [plainT] at h
  | succ d ih =>
    intro t fuel cs x hp h hw
    unfold plainT at hp
    split at hp
    · rename_i hu
      obtain ⟨b, rfl, rfl, _⟩ := DataW.trod_bool hu h
      exact ⟨.bool b, by simp [VT.cells], by simpa [VT.Lies] using hu, K.bool _⟩
    · rename_i k hu
      obtain ⟨n, rfl, rfl, hwf⟩ := DataW.trod_int hu h
      exact ⟨.int k n, by simp [VT.cells], by simpa [VT.Lies] using ⟨hu, hwf⟩, K.int _ _⟩
    · rename_i hu
      obtain ⟨s, rfl, rfl, _⟩ := DataW.trod_string hu h
      refine ⟨.str s.data.toList, by simp [VT.cells], ?_, K.str _⟩
      simp only [DataW.weights, List.all_cons, List.all_nil, Bool.and_true] at hw
      have hw' := of_decide_eq_true hw
      simp only [VT.Lies]
      exact ⟨hu, by simpa [reachBytes] using hw'⟩
    · rename_i e hu
      simp only [Bool.and_eq_true, decide_eq_true_eq] at hp
      rcases DataW.trod_slice hu h with ⟨rfl, rfl⟩ | ⟨a, len, cap, elems, rest, n, _, rfl, rfl, _, hlc, hcm, hlen, hel, hsp, _⟩
      · exact ⟨.slice none 0 [], by simp [VT.cells], by simp [VT.Lies, hu, Pt, At, VT.cellsL, VT.LiesAll], by simp only [VT.bulk, VT.bulkL]; exact K.nil⟩
      · have hsp' := hsp rfl
        simp only [DataW.weights, hu, List.all_cons, List.all_append, Bool.and_eq_true, decide_eq_true_eq] at hw
        have hel' : ∀ i, ∃ v : VT, i < len → (v.cells.length = P.cellsOf e ∧ (∀ j u, v.cells[j]? = some u → w.cell? (a.add (i * P.cellsOf e + j)) = some u) ∧ v.Lies P w e ∧ ∀ q, elems[i]? = some q → v.bulk ≤ K.one q.1) := by
          intro i
          by_cases hi : i < len
          · have h1 := hel i hi
            rw [List.getElem?_eq_getElem (by omega)] at h1
            obtain ⟨cs', h2, h3⟩ := Option.bind_eq_some_iff.1 h1
            have hwi := weights_all hw.2.1 (elems[i]).1 (List.mem_map.2 ⟨elems[i], by simp, rfl⟩)
            obtain ⟨v, rfl, hv, hb⟩ := ih e n cs' _ hp.1 h3 hwi
            obtain ⟨_, h5, h6⟩ := World.cells?_some h2
            refine ⟨v, fun _ => ⟨h5, fun j u hj => ?_, hv, fun q hq => ?_⟩⟩
            · have hjl : j < P.cellsOf e := by rw [← h5]; exact (List.getElem?_eq_some_iff.1 hj).1
              have := h6 j hjl
              rw [Deep.add_add, hj] at this
              exact this
            · rw [List.getElem?_eq_getElem (by omega)] at hq
              rw [← Option.some.inj hq]; exact hb
          · exact ⟨.bool false, fun h => absurd h hi⟩
        let f : Nat → VT := fun i => Classical.choose (hel' i)
        have hf : ∀ i, i < len → ((f i).cells.length = P.cellsOf e ∧ (∀ j u, (f i).cells[j]? = some u → w.cell? (a.add (i * P.cellsOf e + j)) = some u) ∧ (f i).Lies P w e ∧ ∀ q, elems[i]? = some q → (f i).bulk ≤ K.one q.1) := fun i hi => Classical.choose_spec (hel' i) hi
        have hlen2 : ((List.range len).map f).length = len := by simp
        have hcells := cellsL_at (w := w) (b := a) (size := P.cellsOf e) ((List.range len).map f) 0 (fun i hi => by
          have hi' : i < len := by simpa using hi
          simpa using ⟨(hf i hi').1, (hf i hi').2.1⟩)
        have hbytes : cap * P.bytesOf e ≤ 140737488351232 := by
          have e1 : (elems.map (·.1)).length + (rest.map (·.1)).length = cap := by simp only [List.length_map]; omega
          have := hw.1
          rw [e1] at this
          exact this
        have hpt : Pt (some a) len := by
          by_cases h0 : len = 0
          · exact .inl h0
          · right
            have h1 := (hf 0 (by omega))
            obtain ⟨u, hu0⟩ : ∃ u, (f 0).cells[0]? = some u := ⟨_, List.getElem?_eq_getElem (by rw [h1.1]; exact hp.2)⟩
            have := h1.2.1 0 u hu0
            simp only [Nat.zero_mul, Nat.zero_add] at this
            have e2 : a.add 0 = a := rfl
            rw [e2] at this
            obtain ⟨b, o, s⟩ := a
            cases s with
            | none => exact ⟨b, o, rfl⟩
            | some s =>
              simp only [World.cell?] at this
              split at this <;> simp at this
        refine ⟨.slice (some a) cap ((List.range len).map f), by simp [VT.cells], ?_, ?_⟩
        · simp only [VT.Lies]
          refine ⟨e, hu, by rwa [hlen2], by rwa [hlen2], hbytes, ?_, lies_all_mk _ fun v hv => ?_⟩
          · rcases hpt with h0 | ⟨b, o, hab⟩
            · subst h0; exact .inl (by simp [VT.cellsL])
            · cases hab
              refine .inr ⟨b, o, rfl, fun j u hj => ?_⟩
              have := hcells j u hj
              rw [add_off] at this
              simpa using this
          · obtain ⟨i, hi, rfl⟩ := List.mem_map.1 hv
            exact (hf i (List.mem_range.1 hi)).2.2.1
        · simp only [VT.bulk]
          have h1 := bulk_row K f (elems.map (·.1)) 0 (fun i q hq => by
            rw [List.getElem?_map] at hq
            obtain ⟨y, hy, rfl⟩ := Option.map_eq_some_iff.1 hq
            have hi : i < len := by have := (List.getElem?_eq_some_iff.1 hy).1; omega
            rw [Nat.zero_add]
            exact (hf i hi).2.2.2 y hy)
          have h2 := K.slice (elems.map (·.1)) (rest.map (·.1))
          rw [List.length_map, hlen, ← List.range_eq_range'] at h1
          omega
    · rename_i fs hu
      simp only [Bool.and_eq_true] at hp
      obtain ⟨xs, n, hx0, rfl, hl, hxl, hx⟩ := DataW.trod_struct hu h
      simp only [DataW.weights, hu] at hw
      obtain ⟨vs, h1, h2, h7⟩ := tree_partsB (w := w) K (fs.toList.map fun f => (f.offset, f.type)) (xs.map (·.1)) 0 _ cs hp.2 hl (by simp [hxl]) (fun i s q hs hq => by
        rw [List.getElem?_map] at hs hq
        obtain ⟨f, hf, rfl⟩ := Option.map_eq_some_iff.1 hs
        obtain ⟨y, hy, rfl⟩ := Option.map_eq_some_iff.1 hq
        have hfi' : fs[i]? = some f := by rw [← Array.getElem?_toList]; exact hf
        have h3 := hx i f hfi'
        rw [hy] at h3
        refine ih f.type n _ _ (List.all_eq_true.1 hp.1 f (List.mem_of_getElem? hf)) h3 ?_
        exact weights_each hw (j := i) (by simp [hfi']) (by simp [hy]))
      refine ⟨.agg vs, by simpa [VT.cells] using h1, ?_, ?_⟩
      · simp only [VT.Lies]
        refine .inl ⟨fs, hu, ?_⟩
        simpa [List.map_map, Function.comp_def] using h2
      · simp only [VT.bulk]
        have := K.agg (xs.map (·.1))
        omega
    · rename_i n e hu
      simp only [Bool.and_eq_true, beq_iff_eq] at hp
      obtain ⟨xs, m, hx0, rfl, hl, hxl, hx⟩ := DataW.trod_array hu h
      simp only [DataW.weights, hu] at hw
      have hcg := contig_array (P := P) e (P.cellsOf t) n 0 (by rw [Nat.zero_add]; exact hp.2.symm)
      rw [Nat.zero_mul] at hcg
      obtain ⟨vs, h1, h2, h7⟩ := tree_partsB (w := w) K _ (xs.map (·.1)) 0 _ cs hcg hl (by simp [hxl]) (fun i s q hs hq => by
        rw [List.getElem?_map] at hs hq
        obtain ⟨j, hj, rfl⟩ := Option.map_eq_some_iff.1 hs
        obtain ⟨y, hy, rfl⟩ := Option.map_eq_some_iff.1 hq
        have hj' : i < n ∧ j = i := by
          have h9 := List.getElem?_eq_some_iff.1 hj
          obtain ⟨h10, h11⟩ := h9
          simp at h10 h11
          omega
        obtain ⟨hin, rfl⟩ := hj'
        have h3 := hx j hin
        rw [hy] at h3
        exact ih e m _ _ hp.1 h3 (weights_all hw _ (List.mem_map.2 ⟨y, List.mem_of_getElem? hy, rfl⟩)))
      refine ⟨.agg vs, by simpa [VT.cells] using h1, ?_, ?_⟩
      · simp only [VT.Lies]
        have h5 : (List.map (fun x : Nat × TypeId => x.2) ((List.range' 0 n).map fun i => (i * P.cellsOf e, e))) = List.replicate n e := by
          rw [List.map_map]
          apply List.ext_getElem <;> simp
        rw [h5] at h2
        exact .inr ⟨n, e, hu, lies_all n vs h2⟩
      · simp only [VT.bulk]
        have := K.agg (xs.map (·.1))
        omega
    · cases hp
end
end Go.Own

namespace Go.Own
open Go.RowKit Go.ChangeShapes Go.WideShapes Go.ChangeAt

theorem args_treesB {H : Type} {enc : TypeId × Value → H} {P : Program} {W : World} (K : Counts H) {D : Nat} {base : Nat} : ∀ (ts : List TypeId) (vs : List Value) (ds : List (DataW H)) (ps : List MemPlace), ts.all (plainT P D) = true → DataW.TrodAll enc P W 0 (fun _ => true) true ts vs ds ps →
    (∀ (j : Nat) t v, ts[j]? = some t → vs[j]? = some v → Value.okWide P W .any base t v) → (DataW.weightsEach P ts ds).all (· ≤ reachBytes) = true → ∃ vts : List VT, vs = vts.map VT.val ∧ VT.LiesEach P W ts vts ∧ VT.bulkL vts ≤ K.all ds
  | [], vs, ds, ps, _, h, _, _ => by
    obtain ⟨rfl, _, _⟩ := trodAll_nil h
    exact ⟨[], rfl, by simp [VT.LiesEach], by simp [VT.bulkL]⟩
  | t :: ts, vs, ds, ps, hp, h, hv, hw => by
    obtain ⟨v, vs', d, ds', p, q, rfl, rfl, rfl, h0, h1⟩ := trodAll_cons h
    simp only [List.all_cons, Bool.and_eq_true] at hp
    simp only [DataW.weightsEach, List.all_append, Bool.and_eq_true] at hw
    obtain ⟨vts, h2, h3, h7⟩ := args_treesB K ts vs' ds' q hp.2 h1 (fun j t' v' hj hj' => hv (j + 1) t' v' (by simpa using hj) (by simpa using hj')) hw.2
    obtain ⟨fuel, hf⟩ := h0
    obtain ⟨vt, h4, h5, h8⟩ := tree_of_trodB K D t fuel _ _ hp.1 hf hw.1
    have h6 := okWide_plain (hv 0 t v rfl rfl) h4 h5
    refine ⟨vt :: vts, by rw [List.map_cons, ← h6, h2], by simpa [VT.LiesEach] using ⟨h5, h3⟩, ?_⟩
    have := K.cons d ds'
    simp only [VT.bulkL]
    have h9 : vt.bulk ≤ K.one d := h8
    omega

theorem law_upto {C : Checked} {os : Os} {f : FuncId} {fn : Func} {s : ChangeSpec} {conds : List PathCond} {D : Nat} {tb : TypeId} {H : Type} {enc : TypeId × Value → H} {apart : Bool} {F : Stop.Interp} {laid : List (String × DataW Unit)} {kc : (H : Type) → List (DataW H) → Bool} {N : Nat}
    (K : Counts H) (hK : ∀ ds : List (DataW H), kc H ds = true → K.all ds ≤ N)
    (own : ownKnob C.prog.godebug = none) (started : os.Started) (noInit : C.prog.inits.idxOf? f = none) (hfn : C.prog.funcs[f]? = some fn)
    (hvars : s.vars = []) (hres : fn.resultTypes = #[tb]) (htb : C.prog.underlying tb = some .bool)
    (hplain : fn.params.toList.all (plainT C.prog D) = true) (hread : fn.params.toList.all (fun t => C.prog.readableRec t && decide (t < C.prog.types.size)) = true) (hl : laidOutB C.prog = true)
    (hspec : ∀ (K : Type) (ds : List (DataW K)), ds.length = fn.params.toList.length → s.fn K ds = { results := [.lit (.bool true)], args := ds })
    (witness : ∃ (w : World) (tape : Tape) (i : Input), w.os = os ∧ (w.forCall tape i).Shaped C.prog ∧ i.vars = [] ∧ Input.okWide C.prog (w.forCall tape i) .any w.heap.size f i ∧
      ({ OpenSpec.ofChange s with cond := some kc }).preRow enc C.prog fn conds apart laid (w.forCall tape i).memory i.args ∧ ({} : Assume).holds C.prog (lone (Frame.enter C.prog f i.args .normal) [] (w.forCall tape i)))
    (walk : ∀ (W : World) (vts : List VT), W.ShapedOpen C.prog → laidMetH C.prog laid W → VT.LiesEach C.prog (zd W) fn.params.toList vts → VT.bulkL vts ≤ N → T C.prog (zd W) f (vts.map VT.val).toArray [] (fun v _ => v = .bool true)) :
    ReturnsInHanded {} C os f .any (({ OpenSpec.ofChange s with cond := some kc }).preRow enc C.prog fn conds apart laid) (((({ OpenSpec.ofChange s with cond := some kc }) : OpenSpec).at F).post enc C.prog fn apart true false false) := by
  refine returnsInHanded_of_row (C := C) (s := { OpenSpec.ofChange s with cond := some kc }) own started noInit hfn witness ?_
  intro W base args ds gs before hval hW hcnd hkc hsz hL hsh _
  have hW' := hW
  obtain ⟨p, q, hA, hV, rfl, hfz, hnd⟩ := hW
  have hV1 : DataW.TrodVars enc C.prog W (fun _ => true) s.vars gs q := hV
  rw [hvars] at hV1
  obtain ⟨rfl, rfl⟩ := trodVars_none hV1
  have hvt : ({ OpenSpec.ofChange s with cond := some kc } : OpenSpec).bare.plain.varTypes C.prog = [] := by
    show List.filterMap _ s.vars = []
    rw [hvars]; rfl
  rw [hvt, List.append_nil, List.append_nil] at hsz
  have hbk := hK _ (hkc kc rfl)
  rw [List.append_nil] at hbk
  obtain ⟨vts, h1, h2, h7⟩ := args_treesB K fn.params.toList args.toList ds p hplain hA (fun j t v hj hj' => hval j t v (by simpa using hj) (by simpa using hj')) hsz
  have hargs : args = (vts.map VT.val).toArray := by
    apply Array.toList_inj.1
    rw [h1]
  have hlen : ds.length = fn.params.toList.length := by
    have : ∀ (ts : List TypeId) (vs : List Value) (ds : List (DataW H)) (ps : List MemPlace), DataW.TrodAll enc C.prog W 0 (fun _ => true) true ts vs ds ps → ds.length = ts.length := by
      intro ts
      induction ts with
      | nil => intro vs ds ps h; obtain ⟨_, rfl, _⟩ := trodAll_nil h; rfl
      | cons t ts ih =>
        intro vs ds ps h
        obtain ⟨v, vs', d, ds', p, q, rfl, rfl, rfl, _, h1⟩ := trodAll_cons h
        simp [ih _ _ _ h1]
    exact this _ _ _ _ hA
  have hw := walk W vts hsh hL (liesEach_zd _ _ h2) (Nat.le_trans h7 hbk) W (own_zd W)
  rw [← hargs] at hw
  refine hw.mono ?_
  rintro e W' ⟨v, H', rfl, rfl, ho⟩
  have bel : Below W.heap.size W W' := ⟨ho.below.os, ho.below.tape, ho.below.output, ho.below.size, ho.below.block⟩
  refine ⟨_, rfl, ?_⟩
  show s.post enc C.prog fn apart true false false W args (.bool true) W'
  refine ⟨ds, [], p ++ [], [], p, [], ?_, ?_, ?_, ?_, bel.frame _, fun h => by cases h⟩
  · exact hW'
  · rw [List.append_nil, hspec H ds hlen, hres]
    exact trodAll_mk1 (shut_bool htb _)
  · rw [List.append_nil, hspec H ds hlen]
    exact args_back hl bel _ _ _ _ hread hA
  · rw [List.append_nil, hspec H ds hlen, hvars]
    rfl
end Go.Own

namespace Go.Own
open Go.Proofs.YtiemjebpbdmkpaaGreatDoor
def countsU (H : Type) : Counts H where
  one := Rows.uptoBulk
  all := Rows.uptoBulkAll
  bool _ := Nat.le_refl _
  int _ _ := Nat.le_refl _
  str _ := Nat.le_refl _
  nil := Nat.le_refl _
  slice _ _ := by simp only [Rows.uptoBulk]; omega
  agg _ := by simp only [Rows.uptoBulk]; exact Nat.le_refl _
  none := Nat.zero_le _
  cons _ _ := by simp only [Rows.uptoBulkAll]; exact Nat.le_refl _
end Go.Own
