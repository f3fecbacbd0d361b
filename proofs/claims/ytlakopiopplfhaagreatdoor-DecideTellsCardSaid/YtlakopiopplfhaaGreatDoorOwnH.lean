/-
  A LAW'S ROW THAT LISTS PACKAGE VARIABLES, FROM ITS WALK: whatever plain arguments; over any program.
-/
import Derived.Test.YtlakopiopplfhaaGreatDoorOwnG
import Derived.Deep.DeepHandedRow
import Derived.Lib.LaidTab
import Derived.OpenShut
namespace Go.Own
open Go.RowKit Go.ChangeShapes Go.WideShapes Go.ChangeAt

/-- The world of which nothing was drawn. -/
def zd (W : World) : World := { W with drawn := 0 }
theorem own_zd (W : World) : Own (zd W) [] W := ⟨⟨rfl, rfl, rfl, Nat.le_refl _, fun _ _ => rfl⟩, by simp, by simp, Nat.zero_le _⟩
mutual
theorem lies_zd {P : Program} {W : World} : ∀ (v : VT) (t : TypeId), VT.Lies P W t v → VT.Lies P (zd W) t v
  | .int _ _, _, h => h
  | .bool _, _, h => h
  | .str _, _, h => h
  | .slice p c es, t, h => by
    simp only [VT.Lies] at h ⊢
    obtain ⟨e, h1, h2, h3, h4, h5, h6⟩ := h
    exact ⟨e, h1, h2, h3, h4, h5, liesAll_zd es e h6⟩
  | .agg ps, t, h => by
    simp only [VT.Lies] at h ⊢
    rcases h with ⟨fs, h1, h2⟩ | ⟨n, e, h1, h2, h3⟩
    · exact .inl ⟨fs, h1, liesEach_zd ps _ h2⟩
    · exact .inr ⟨n, e, h1, h2, liesAll_zd ps e h3⟩
theorem liesAll_zd {P : Program} {W : World} : ∀ (vs : List VT) (e : TypeId), VT.LiesAll P W e vs → VT.LiesAll P (zd W) e vs
  | [], _, _ => by simp [VT.LiesAll]
  | v :: vs, e, h => by
    simp only [VT.LiesAll] at h ⊢
    exact ⟨lies_zd v e h.1, liesAll_zd vs e h.2⟩
theorem liesEach_zd {P : Program} {W : World} : ∀ (vs : List VT) (ts : List TypeId), VT.LiesEach P W ts vs → VT.LiesEach P (zd W) ts vs
  | [], [], _ => by simp [VT.LiesEach]
  | [], _ :: _, h => by simp [VT.LiesEach] at h
  | _ :: _, [], h => by simp [VT.LiesEach] at h
  | v :: vs, t :: ts, h => by
    simp only [VT.LiesEach] at h ⊢
    exact ⟨lies_zd v t h.1, liesEach_zd vs ts h.2⟩
end

/-- **THE SAME WHERE THE ROW LISTS VARIABLES**: the walk may use what they hold. -/
theorem law_laid {C : Checked} {os : Os} {f : FuncId} {fn : Func} {s : ChangeSpec} {conds : List PathCond} {D : Nat} {tb : TypeId} {H : Type} {enc : TypeId × Value → H} {apart : Bool} {F : Stop.Interp} {laid : List (String × DataW Unit)}
    (own : ownKnob C.prog.godebug = none) (started : os.Started) (noInit : C.prog.inits.idxOf? f = none) (hfn : C.prog.funcs[f]? = some fn)
    (hvars : s.vars = []) (hres : fn.resultTypes = #[tb]) (htb : C.prog.underlying tb = some .bool)
    (hplain : fn.params.toList.all (plainT C.prog D) = true) (hread : fn.params.toList.all (fun t => C.prog.readableRec t && decide (t < C.prog.types.size)) = true) (hl : laidOutB C.prog = true)
    (hspec : ∀ (K : Type) (ds : List (DataW K)), ds.length = fn.params.toList.length → s.fn K ds = { results := [.lit (.bool true)], args := ds })
    (witness : ∃ (w : World) (tape : Tape) (i : Input), w.os = os ∧ (w.forCall tape i).Shaped C.prog ∧ i.vars = [] ∧ Input.okWide C.prog (w.forCall tape i) .any w.heap.size f i ∧
      (OpenSpec.ofChange s).preRow enc C.prog fn conds apart laid (w.forCall tape i).memory i.args ∧ ({} : Assume).holds C.prog (lone (Frame.enter C.prog f i.args .normal) [] (w.forCall tape i)))
    (walk : ∀ (W : World) (vts : List VT), W.ShapedOpen C.prog → laidMetH C.prog laid W → VT.LiesEach C.prog (zd W) fn.params.toList vts → T C.prog (zd W) f (vts.map VT.val).toArray [] (fun v _ => v = .bool true)) :
    ReturnsInHanded {} C os f .any ((OpenSpec.ofChange s).preRow enc C.prog fn conds apart laid) (((OpenSpec.ofChange s).at F).post enc C.prog fn apart true false false) := by
  refine returnsInHanded_of_row (C := C) (s := OpenSpec.ofChange s) own started noInit hfn witness ?_
  intro W base args ds gs before hval hW hcnd _ hsz hL hsh _
  have hW' := hW
  obtain ⟨p, q, hA, hV, rfl, hfz, hnd⟩ := hW
  have hV1 : DataW.TrodVars enc C.prog W (fun _ => true) s.vars gs q := hV
  rw [hvars] at hV1
  obtain ⟨rfl, rfl⟩ := trodVars_none hV1
  have hvt : (OpenSpec.ofChange s).bare.plain.varTypes C.prog = [] := by
    show List.filterMap _ s.vars = []
    rw [hvars]; rfl
  rw [hvt, List.append_nil, List.append_nil] at hsz
  obtain ⟨vts, h1, h2⟩ := args_trees fn.params.toList args.toList ds p hplain hA (fun j t v hj hj' => hval j t v (by simpa using hj) (by simpa using hj')) hsz
  have hargs : args = (vts.map VT.val).toArray := by
    apply Array.toList_inj.1
    rw [h1]
  have hlen : ds.length = fn.params.toList.length := by
    have : ∀ (ts : List TypeId) (vs : List Value) (ds : List (DataW H)) (ps : List MemPlace), DataW.TrodAll enc C.prog W 0 (fun _ => true) true ts vs ds ps → ds.length = ts.length := by
      intro ts
      induction ts with
      | nil => intro vs ds ps h; obtain ⟨_, rfl, _⟩ := trodAll_nil h; rfl
      | cons t ts ih =>
        intro vs ds ps h
        obtain ⟨v, vs', d, ds', p, q, rfl, rfl, rfl, _, h1⟩ := trodAll_cons h
        simp [ih _ _ _ h1]
    exact this _ _ _ _ hA
  have hw := walk W vts hsh hL (liesEach_zd _ _ h2) W (own_zd W)
  rw [← hargs] at hw
  refine hw.mono ?_
  rintro e W' ⟨v, H', rfl, rfl, ho⟩
  have bel : Below W.heap.size W W' := ⟨ho.below.os, ho.below.tape, ho.below.output, ho.below.size, ho.below.block⟩
  refine ⟨_, rfl, ?_⟩
  show s.post enc C.prog fn apart true false false W args (.bool true) W'
  refine ⟨ds, [], p ++ [], [], p, [], ?_, ?_, ?_, ?_, bel.frame _, fun h => by cases h⟩
  · exact hW'
  · rw [List.append_nil, hspec H ds hlen, hres]
    exact trodAll_mk1 (shut_bool htb _)
  · rw [List.append_nil, hspec H ds hlen]
    exact args_back hl bel _ _ _ _ hread hA
  · rw [List.append_nil, hspec H ds hlen, hvars]
    rfl

/-! ### What a listed table gives, wherever it stands in the list -/
theorem laidVars_mem {P : Program} {w : World} {n : String} {d : DataW Unit} : ∀ {l : List (String × DataW Unit)} {ps : List MemPlace}, DataW.LaidVars P w l ps → (n, d) ∈ l →
    ∃ g t cs fuel p, P.globalNamed n = some g ∧ (P.globals[g]?).map (·.type) = some t ∧ w.var? P n = some cs ∧ DataW.trod (fun _ => ()) P w 0 (fun _ => true) false fuel t cs.toList = some (d, p)
  | [], _, _, hm => by cases hm
  | (n', d') :: r, ps, h, hm => by
    obtain ⟨g, t, cs, fuel, p, q, h1, h2, h3, h4, h5, _⟩ := h
    rcases List.mem_cons.1 hm with e | hm
    · cases e; exact ⟨g, t, cs, fuel, p, h1, h2, h3, h4⟩
    · exact laidVars_mem h5 hm
theorem tabIs_of_mem {P : Program} {W : World} {name : String} {k : IntKind} {zs : List Int} {l : List (String × DataW Unit)} {g : Nat} {t e : TypeId} {n : Nat}
    (hg : P.globalNamed name = some g) (hty : (P.globals[g]?).map (·.type) = some t) (ht : P.underlying t = some (.array n e)) (he : P.underlying e = some (.int k)) (hce : P.cellsOf e = 1) (hct : P.cellsOf t = n)
    (h : laidMet P l W) (hm : (name, Lib.tabData k zs) ∈ l) : Lib.TabIs P W name k zs := by
  obtain ⟨ps, hv, _⟩ := h
  obtain ⟨g', t', cs, fuel, p, hg', ht', hvar, hd⟩ := laidVars_mem hv hm
  obtain rfl := Option.some.inj (hg.symm.trans hg')
  obtain rfl := Option.some.inj (hty.symm.trans ht')
  unfold Lib.TabIs
  rw [hvar, ← Lib.cells_of_tab ht he hce hct hd]
end Go.Own
