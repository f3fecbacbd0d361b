/-
  PINS, PLACES, AND WHO LOOKS AT THEM, in memory: policy.checker.
  A TENANT'S FILE, what all about it share: a fresh checker, rows of pins.
  IS A TENANT'S FILE RIGHT: policy.Right.
  ARE TWO TENANTS' FILES THE SAME, ARE THEY FEW, AND WHAT COMES IN.
-/
import Derived.Test.YtlakopiopplfhaaGreatDoorGCi
import Derived.Test.YtlakopiopplfhaaGreatDoorGOwn
import Derived.Test.YtlakopiopplfhaaGreatDoorGTb
import Derived.Test.YtlakopiopplfhaaGreatDoorGPl
namespace Go.Pol
open Go.Own Go.Proofs Go.RowKit Go.Lib Go.Asc Go.Adr Go.Nam Go.Tri Go.Cid
attribute [local irreducible] GC GQ G Rd Eff T
set_option maxRecDepth 20000
set_option maxHeartbeats 4000000

abbrev pnC (x : Pn) : List Value := S x.name :: (u8s x.cidr.addr ++ [.int .i64 x.cidr.bits, .int .i64 x.till])
abbrev pnV (x : Pn) : Value := .agg (S x.name :: (u8s x.cidr.addr ++ [Value.int .i64 x.cidr.bits, Value.int .i64 x.till])).toArray
theorem pnC_len {x : Pn} (h : x.cidr.addr.length = 16) : (pnC x).length = 19 := by simp [u8s_length, h]
theorem pnC_one (x : Pn) : ∀ u ∈ pnC x, u.oneCell' = true := by
  intro u hu
  rcases List.mem_cons.1 hu with rfl | hu
  · rfl
  · rcases List.mem_append.1 hu with h | h
    · exact u8s_one _ u h
    · simp only [List.mem_cons, List.not_mem_nil, or_false] at h
      rcases h with rfl | rfl <;> rfl
def SizP (x : Pn) : Prop := SizC x.cidr ∧ (Lit.int .i64 x.till).wf = true ∧ x.name.length ≤ 140737488351232
abbrev plC (p : Lb × Cd) : List Value := S p.1 :: (u8s p.2.addr ++ [.int .i64 p.2.bits])
abbrev plV (p : Lb × Cd) : Value := .agg (S p.1 :: (u8s p.2.addr ++ [Value.int .i64 p.2.bits])).toArray
theorem plC_len {p : Lb × Cd} (h : p.2.addr.length = 16) : (plC p).length = 18 := by simp [u8s_length, h]
theorem plC_one (p : Lb × Cd) : ∀ u ∈ plC p, u.oneCell' = true := by
  intro u hu
  rcases List.mem_cons.1 hu with rfl | hu
  · rfl
  · exact cdC_one p.2 u hu
theorem plV_inj : ∀ a b : Lb × Cd, plV a = plV b → a = b := fun a b h => by
  have h1 : plC a = plC b := congrArg Array.toList (Value.agg.inj h)
  have h2 := List.cons.inj h1
  have h3 := cdC_inj (a := a.2) (b := b.2) h2.2
  exact Prod.ext (S_inj _ _ h2.1) h3
theorem pl_key (p : Lb × Cd) (h : SizC p.2) (hn : p.1.length ≤ 140737488351232) : isK Tryz.prog 198 (plV p) := by
  have hk : Tryz.prog.keyType 198 = true := by kernel_rfl
  have hc : Tryz.prog.cellsOf 198 = 18 := by kernel_rfl
  have c1 : Tryz.prog.cellsOf 9 = 1 := by kernel_rfl
  have c2 : Tryz.prog.cellsOf 50 = 17 := by kernel_rfl
  obtain ⟨d, hd⟩ : ∃ d, Tryz.prog.types.size + 1 = d + 4 := ⟨Tryz.prog.types.size - 3, by kernel_rfl⟩
  obtain ⟨ls, hls⟩ := cd_lits d h
  have hl := plC_len (p := p) h.1
  have hm : (⟨p.1.toArray⟩ : ByteArray).size ≤ maxLen := by show p.1.toArray.size ≤ _; simp [maxLen]; omega
  have e0 : Tryz.prog.keyLits (d + 3) 9 [S p.1] = some [.string p.1] := by
    unfold Program.keyLits; rw [Tryz.underlying9]; simp only [if_pos hm]
  have e1 : ((plC p).drop 0).take 1 = [S p.1] := rfl
  have e2 : ((plC p).drop 1).take 17 = cdC p.2 := by
    show (cdC p.2).take 17 = _
    exact List.take_of_length_le (by rw [cdC_len h.1]; exact Nat.le_refl _)
  unfold isK keyOf
  rw [Tryz.underlying198]
  simp only [hk, Value.formed, Tryz.underlying198, hc, hd, List.size_toArray, hl, Value.cells]
  rw [show (S p.1 :: (u8s p.2.addr ++ [Value.int .i64 p.2.bits])) = plC p from rfl]
  have : Tryz.prog.keyLits (d + 4) 198 (plC p) = some ([.string p.1] ++ ls) := by
    conv => lhs; unfold Program.keyLits
    rw [Tryz.underlying198]
    simp only [hl, hc]
    rw [if_pos ⟨trivial, by kernel_rfl⟩]
    simp only [List.mapM_cons, List.mapM_nil, c1, c2, e1, e2, hls, e0]
    simp
  rw [this]
  exact ⟨_, rfl⟩
abbrev intV (n : Int) : Value := .int .i64 n
instance : MapT Tryz.prog 145 198 3 (isK Tryz.prog 198) (.int .i64 0) :=
  ⟨Tryz.underlying145, keyLaws (Maps.Keyed.of_law (deep_law_laid (by kernel_rfl) (m := 5) (by omega) (of_decide_eq_true (by kernel_rfl)) (by kernel_rfl) (by kernel_rfl))), Tryz.zeroValue3⟩
abbrev hasP (ps : List Pn) : List ((Lb × Cd) × Int) := ps.map fun x => (placeOf x, (1 : Int))
theorem hasP_get (ps : List Pn) (k : Lb × Cd) : getK (hasP ps) k = if k ∈ ps.map placeOf then some 1 else none := by
  induction ps with
  | nil => rfl
  | cons r rs ih =>
    simp only [hasP, List.map_cons, getK, List.mem_cons] at ih ⊢
    by_cases h : placeOf r = k
    · subst h; simp
    · rw [if_neg h, ih]; simp [Ne.symm h]
/-- The checker, among what is owned. -/
def ChkQ (rs : List Ru) (ps : List Pn) (bc : Nat) (CH : Heap) : Prop := ∃ bt mp om TH, CH = (bc, .cells #[.pointer (some ⟨bt, 0, none⟩), .map (some mp)] 147 (0, 0)) :: (mp, om) :: TH ∧ TrieQ rs bt TH ∧ MapIs (isK Tryz.prog 198) plV intV (hasP ps) om
section
variable {W0 : World} {H : Heap} {e : Env} {x y : Operand}
theorem Rd.mkPl {nm : Lb} {c : Cd} (ha : c.addr.length = 16) (hx : opv e x = some (S nm)) (hy : opv e y = some (cdV c)) : Rd Tryz.prog W0 H e (.build 198 #[(0, x), (1, y)]) (plV (nm, c)) := by
  obtain ⟨a, n⟩ := c
  match a, ha with
  | [a0, a1, a2, a3, a4, a5, a6, a7, a8, a9, b0, b1, b2, b3, b4, b5], _ =>
    exact Rd.build (vs := [(0, S nm), (1, cdV ⟨[a0, a1, a2, a3, a4, a5, a6, a7, a8, a9, b0, b1, b2, b3, b4, b5], n⟩)]) (by simp [List.mapM_cons, hx, hy]) (by kernel_rfl)
theorem pn_cidr (x : Pn) : ∀ j u, (cdC x.cidr)[j]? = some u → (pnC x)[1 + j]? = some u := fun j u hj => by
  rw [Nat.add_comm, List.getElem?_cons_succ]
  have hlt := (List.getElem?_eq_some_iff.1 hj).1
  rw [show u8s x.cidr.addr ++ [.int .i64 x.cidr.bits, .int .i64 x.till] = cdC x.cidr ++ [.int .i64 x.till] by simp, List.getElem?_append_left hlt]
  exact hj
theorem pn_till {x : Pn} (ha : x.cidr.addr.length = 16) : (pnC x)[18]? = some (.int .i64 x.till) := by
  rw [List.getElem?_cons_succ, List.getElem?_append_right (by rw [u8s_length, ha]; omega), u8s_length, ha]; rfl
theorem Rd.pnCidr {b o : Nat} {p : Pn} {el : TypeId} {fr : Nat × Nat} (hx : opv e x = some (.pointer (some ⟨b, o, none⟩))) (ho : o = 1) [h : Has H b (.cells (pnC p).toArray el fr)] (ha : p.cidr.addr.length = 16) : Rd Tryz.prog W0 H e (.load 50 x) (cdV p.cidr) :=
  Rd.loadAggC hx (cellsH (h := h) (fun j u hj => by subst ho; rw [List.getElem?_toArray]; exact pn_cidr p j u hj)) (cdC_len ha)
theorem Rd.pnTill {b o : Nat} {p : Pn} {el : TypeId} {fr : Nat × Nat} (hx : opv e x = some (.pointer (some ⟨b, o, none⟩))) (ho : o = 18) [h : Has H b (.cells (pnC p).toArray el fr)] (ha : p.cidr.addr.length = 16) : Rd Tryz.prog W0 H e (.load 3 x) (.int .i64 p.till) :=
  Rd.load hx (cellH (h := h) (by subst ho; rw [List.getElem?_toArray]; exact pn_till ha))
end
section
variable {W0 : World} {F : Heap}
def PinR (rs : List Ru) (ps : List Pn) (x : Pn) (bc : Nat) (F : Heap) : Value → Heap → Prop := fun v H' => v = .int .i64 (pinErr ps x) ∧ ∃ CH, ChkQ rs (if pinErr ps x = 0 then ps ++ [x] else ps) bc CH ∧ H'.Perm (CH ++ F)
attribute [local irreducible] normalL rightC Lit.wf
theorem pin_spec (hv : Vars W0) {rs : List Ru} {ps : List Pn} {bc : Nat} {CH : Heap} (h : ChkQ rs ps bc CH) (x : Pn) (hs : SizP x) (hn : x.name.length < 4294967281) :
    T Tryz.prog W0 90 #[.pointer (some ⟨bc, 0, none⟩), pnV x] (CH ++ F) (PinR rs ps x bc F) := by
  have h' := h
  obtain ⟨bt, mp, om, TH, rfl, hT, hM⟩ := h
  obtain ⟨hs1, hs2, hs3⟩ := hs
  have ha := hs1.1
  simp only [List.cons_append]
  refine T.intro (args := [_, _]) Tryz.func90 rfl Tryz.ntmps90 rfl ?_
  have hpl := pl_key (placeOf x) hs1 hs3
  have hpc := plC_len (p := placeOf x) ha
  repeat' first | refine Y.st ?_ | (refine nw ?_; intro _) | refine Y.kn ?_ | fail
  rename_i b3
  refine G.rd (Rd.pnCidr rfl rfl ha) rfl rfl ?_
  refine G.rd (Rd.mkPl (nm := x.name) (c := x.cidr) ha rfl rfl) rfl rfl ?_
  refine G.ef rfl rfl rfl (Eff.allocA (cs := plC ([], zeroC)) (fun b7 => ?_))
  refine G.ef rfl rfl rfl (Eff.storeAll (cs := plC ([], zeroC)) (vs := plC (placeOf x)) rfl rfl (plC_one _) (by rw [hpc]; rfl) hpc ?_)
  have keep : ∀ w, Own W0 ((b7, Obj.cells (plC (placeOf x)).toArray 198 (0, 0)) :: (b3, Obj.cells (pnC x).toArray 52 (0, 0)) :: ((bc, Obj.cells #[.pointer (some ⟨bt, 0, none⟩), .map (some mp)] 147 (0, 0)) :: (mp, om) :: (TH ++ F))) w → Own W0 ((bc, Obj.cells #[.pointer (some ⟨bt, 0, none⟩), .map (some mp)] 147 (0, 0)) :: (mp, om) :: (TH ++ F)) w := fun w hw => hw.sub ((List.sublist_cons_self _ _).trans (List.sublist_cons_self _ _))
  by_cases hN : normalL x.name = (x.name, 0)
  case neg =>
    have he : pinErr ps x = 9 := by unfold pinErr; rw [if_pos hN]
    have fin : ∀ w, PinR rs ps x bc F (.int .i64 9) w ↔ ∃ CH, ChkQ rs ps bc CH ∧ w.Perm (CH ++ F) := fun w => by unfold PinR; rw [he]; simp
    by_cases h2 : (normalL x.name).2 = 0
    · have h1 : ¬ (normalL x.name).1 = x.name := fun h => hN (Prod.ext h h2)
      repeat' first | refine Y.st ?_ | (refine nw ?_; intro _) | refine Y.kn ?_ | fail
      refine GQ.heap ?_ keep
      exact GQ.done1 rfl rfl ((fin _).2 ⟨_, h', .refl _⟩)
    · repeat' first | refine Y.st ?_ | (refine nw ?_; intro _) | refine Y.kn ?_ | fail
      refine GQ.heap ?_ keep
      exact GQ.done1 rfl rfl ((fin _).2 ⟨_, h', .refl _⟩)
  have hN1 : (normalL x.name).1 = x.name := congrArg Prod.fst hN
  have hN2 : (normalL x.name).2 = 0 := congrArg Prod.snd hN
  cases hr : rightC x.cidr with
  | false =>
    have he : pinErr ps x = 1 := by unfold pinErr; rw [if_neg (by simp [hN]), if_pos (.inl hr)]
    have fin : ∀ w, PinR rs ps x bc F (.int .i64 1) w ↔ ∃ CH, ChkQ rs ps bc CH ∧ w.Perm (CH ++ F) := fun w => by unfold PinR; rw [he]; simp
    repeat' first | refine Y.st ?_ | (refine nw ?_; intro _) | refine Y.kn ?_ | fail
    refine G.rd (Rd.pnCidr rfl rfl ha) rfl rfl ?_
    repeat' first | refine Y.st ?_ | (refine nw ?_; intro _) | refine Y.kn ?_ | fail
    refine GQ.heap ?_ keep
    exact GQ.done1 rfl rfl ((fin _).2 ⟨_, h', .refl _⟩)
  | true =>
    by_cases ht : x.till < 0 ∨ 1099511627776 < x.till
    · have he : pinErr ps x = 1 := by unfold pinErr; rw [if_neg (by simp [hN]), if_pos (.inr ht)]
      have fin : ∀ w, PinR rs ps x bc F (.int .i64 1) w ↔ ∃ CH, ChkQ rs ps bc CH ∧ w.Perm (CH ++ F) := fun w => by unfold PinR; rw [he]; simp
      by_cases ht0 : x.till < 0
      · repeat' first | refine Y.st ?_ | (refine nw ?_; intro _) | refine Y.kn ?_ | fail
        refine G.rd (Rd.pnCidr rfl rfl ha) rfl rfl ?_
        repeat' first | refine Y.st ?_ | (refine nw ?_; intro _) | refine Y.kn ?_ | fail
        refine G.rd (Rd.pnTill rfl rfl ha) rfl rfl ?_
        repeat' first | refine Y.st ?_ | (refine nw ?_; intro _) | refine Y.kn ?_ | fail
        refine GQ.heap ?_ keep
        exact GQ.done1 rfl rfl ((fin _).2 ⟨_, h', .refl _⟩)
      · repeat' first | refine Y.st ?_ | (refine nw ?_; intro _) | refine Y.kn ?_ | fail
        refine G.rd (Rd.pnCidr rfl rfl ha) rfl rfl ?_
        repeat' first | refine Y.st ?_ | (refine nw ?_; intro _) | refine Y.kn ?_ | fail
        refine G.rd (Rd.pnTill rfl rfl ha) rfl rfl ?_
        repeat' first | refine Y.st ?_ | (refine nw ?_; intro _) | refine Y.kn ?_ | fail
        refine G.rd (Rd.pnTill rfl rfl ha) rfl rfl ?_
        repeat' first | refine Y.st ?_ | (refine nw ?_; intro _) | refine Y.kn ?_ | fail
        refine GQ.heap ?_ keep
        exact GQ.done1 rfl rfl ((fin _).2 ⟨_, h', .refl _⟩)
    · repeat' first | refine Y.st ?_ | (refine nw ?_; intro _) | refine Y.kn ?_ | fail
      refine G.rd (Rd.pnCidr rfl rfl ha) rfl rfl ?_
      repeat' first | refine Y.st ?_ | (refine nw ?_; intro _) | refine Y.kn ?_ | fail
      refine G.rd (Rd.pnTill rfl rfl ha) rfl rfl ?_
      repeat' first | refine Y.st ?_ | (refine nw ?_; intro _) | refine Y.kn ?_ | fail
      refine G.rd (Rd.pnTill rfl rfl ha) rfl rfl ?_
      repeat' first | refine Y.st ?_ | (refine nw ?_; intro _) | refine Y.kn ?_ | fail
      have hlook : lookV intV (hasP ps) (placeOf x) (.int .i64 0) = .int .i64 (if placeOf x ∈ ps.map placeOf then 1 else 0) := by
        have := hasP_get ps (placeOf x)
        by_cases hm : placeOf x ∈ ps.map placeOf
        · rw [if_pos hm] at this ⊢; simp only [lookV, this]
        · rw [if_neg hm] at this ⊢; simp only [lookV, this]
      refine GC.drawnH [(0, .read), (1, .read), (2, .read), (3, .read), (4, .read), (5, .read), (6, .read), (7, .read)] (by kernel_rfl) (by kernel_rfl) rfl ?_
      repeat' first | refine Y.st ?_ | (refine nw ?_; intro _) | refine Y.kn ?_ | fail
      refine G.rd (Rd.look (key := plV) (a := placeOf x) rfl rfl hM hpl) rfl rfl ?_
      rw [hlook]
      simp only [not_or, Int.not_lt] at ht
      by_cases hm : placeOf x ∈ ps.map placeOf
      · have he : pinErr ps x = 7 := by unfold pinErr; rw [if_neg (by simp [hN]), if_neg (by simp [hr]; omega), if_pos hm]
        have fin : ∀ w, PinR rs ps x bc F (.int .i64 7) w ↔ ∃ CH, ChkQ rs ps bc CH ∧ w.Perm (CH ++ F) := fun w => by unfold PinR; rw [he]; simp
        rw [if_pos hm]
        repeat' first | refine Y.st ?_ | (refine nw ?_; intro _) | refine Y.kn ?_ | fail
        refine GQ.heap ?_ keep
        exact GQ.done1 rfl rfl ((fin _).2 ⟨_, h', .refl _⟩)
      · have he : pinErr ps x = 0 := by unfold pinErr; rw [if_neg (by simp [hN]), if_neg (by simp [hr]; omega), if_neg hm]
        have hg : getK (hasP ps) (placeOf x) = none := by rw [hasP_get, if_neg hm]
        have hhas : putK (hasP ps) (placeOf x) 1 = hasP (ps ++ [x]) := by
          rw [putK_new (by rw [show (hasP ps).map Prod.fst = ps.map placeOf by simp [hasP]]; exact hm)]; simp [hasP]
        rw [if_neg hm]
        repeat' first | refine Y.st ?_ | (refine nw ?_; intro _) | refine Y.kn ?_ | fail
        refine GC.any [9] [(b7, Obj.cells (plC (placeOf x)).toArray 198 (0, 0)), (bc, Obj.cells #[.pointer (some ⟨bt, 0, none⟩), .map (some mp)] 147 (0, 0))] 10 rfl (by kernel_rfl) ?_
        refine GA.read 0 rfl (by kernel_rfl) (by kernel_rfl) (fun w hw => hw.sub SubH.out) (Rd.move rfl) rfl rfl ?_
        refine GA.read 1 rfl (by kernel_rfl) (by kernel_rfl) (fun w hw => hw.sub SubH.out) (Rd.nilCheck rfl) rfl rfl ?_
        refine GA.read 2 rfl (by kernel_rfl) (by kernel_rfl) (fun w hw => hw.sub SubH.out) (Rd.fieldAddr rfl) rfl rfl ?_
        refine GA.read 3 rfl (by kernel_rfl) (by kernel_rfl) (fun w hw => hw.sub SubH.out) (Rd.load rfl (cellN rfl)) rfl rfl ?_
        refine GA.read 4 rfl (by kernel_rfl) (by kernel_rfl) (fun w hw => hw.sub SubH.out) (Rd.loadBlk (cs := plC (placeOf x)) rfl hpc) rfl rfl ?_
        refine GA.two 5 7 (by kernel_rfl) rfl rfl rfl rfl rfl rfl (Eff.rd (Rd.look (key := plV) (a := placeOf x) rfl rfl hM hpl) ⟨fun _ w hw => hw.sub SubH.out, ?_⟩)
          (Eff.mapEntry (key := plV) (val := intV) (a := placeOf x) (0 : Int) rfl rfl rfl hM hpl (fun om' n hM' hst => ⟨fun _ w hw => hw.sub SubH.out, ?_⟩))
        · rw [hlook, if_neg hm]
          refine GA.toG [(6, .read), (7, .eff), (8, .read), (9, .tail)] (by kernel_rfl) rfl ?_
          repeat' first | refine Y.st ?_ | (refine nw ?_; intro _) | refine Y.kn ?_ | fail
          refine G.eeP rfl rfl rfl (Eff.mapEntry (key := plV) (val := intV) (a := placeOf x) (0 : Int) rfl rfl rfl hM hpl (fun om' n hM' hst => ⟨fun w hw => hw.sub SubH.out, ?_⟩))
          repeat' first | refine Y.st ?_ | (refine nw ?_; intro _) | refine Y.kn ?_ | fail
          refine G.ef rfl rfl rfl (Eff.entryStore (key := plV) (val := intV) (a := placeOf x) (v := 0 + 1) rfl rfl rfl hM' hst (fun om2 hM2 => ?_))
          rw [putK_putK, show (0 : Int) + 1 = 1 from rfl, hhas] at hM2
          repeat' first | refine Y.st ?_ | (refine nw ?_; intro _) | refine Y.kn ?_ | fail
          refine GQ.heap (H' := (bc, Obj.cells #[.pointer (some ⟨bt, 0, none⟩), .map (some mp)] 147 (0, 0)) :: (mp, om2) :: (TH ++ F)) ?_ (fun w hw => hw.sub ((List.sublist_cons_self _ _).trans (List.sublist_cons_self _ _)))
          exact GQ.done1 rfl rfl ⟨by rw [he], _, by rw [if_pos he]; exact ⟨bt, mp, om2, TH, rfl, hT, hM2⟩, .refl _⟩
        · rw [hg] at hM' ⊢
          refine GA.toG [(8, .read), (5, .eff), (6, .read), (9, .tail)] (by kernel_rfl) rfl ?_
          repeat' first | refine Y.st ?_ | (refine nw ?_; intro _) | refine Y.kn ?_ | fail
          refine G.eeP rfl rfl rfl (Eff.rd (Rd.look (key := plV) (a := placeOf x) rfl rfl hM' hpl) ⟨fun w hw => hw.sub SubH.out, ?_⟩)
          rw [show lookV intV (putK (hasP ps) (placeOf x) ((none : Option Int).getD 0)) (placeOf x) (.int .i64 0) = .int .i64 0 by simp only [lookV, getK_put_self]; rfl]
          repeat' first | refine Y.st ?_ | (refine nw ?_; intro _) | refine Y.kn ?_ | fail
          refine G.ef rfl rfl rfl (Eff.entryStore (key := plV) (val := intV) (a := placeOf x) (v := 0 + 1) rfl rfl rfl hM' hst (fun om2 hM2 => ?_))
          rw [putK_putK, show (0 : Int) + 1 = 1 from rfl, hhas] at hM2
          repeat' first | refine Y.st ?_ | (refine nw ?_; intro _) | refine Y.kn ?_ | fail
          refine GQ.heap (H' := (bc, Obj.cells #[.pointer (some ⟨bt, 0, none⟩), .map (some mp)] 147 (0, 0)) :: (mp, om2) :: (TH ++ F)) ?_ (fun w hw => hw.sub ((List.sublist_cons_self _ _).trans (List.sublist_cons_self _ _)))
          exact GQ.done1 rfl rfl ⟨by rw [he], _, by rw [if_pos he]; exact ⟨bt, mp, om2, TH, rfl, hT, hM2⟩, .refl _⟩
end
end Go.Pol

namespace Go.Pol
open Go.Own Go.Proofs Go.RowKit Go.Lib Go.Asc Go.Adr Go.Nam Go.Tri Go.Cid
attribute [local irreducible] GC GQ G Rd Eff T
set_option maxRecDepth 20000
set_option maxHeartbeats 4000000
theorem flat_get_mem {α : Type} (f : α → List Value) (m : Nat) : ∀ (l : List α) (_ : ∀ a ∈ l, (f a).length = m) (k j : Nat), j < m → (l.flatMap f)[k * m + j]? = (l[k]?).bind fun a => (f a)[j]?
  | [], _, k, j, _ => by simp
  | a :: l, hf, 0, j, hj => by
    simp only [List.flatMap_cons, Nat.zero_mul, Nat.zero_add, List.getElem?_cons_zero, Option.bind_some]
    exact List.getElem?_append_left (by rw [hf a (by simp)]; exact hj)
  | a :: l, hf, k + 1, j, hj => by
    simp only [List.flatMap_cons, List.getElem?_cons_succ]
    rw [List.getElem?_append_right (by rw [hf a (by simp), Nat.add_mul]; omega), hf a (by simp), ← flat_get_mem f m l (fun x hx => hf x (List.mem_cons_of_mem _ hx)) k j hj]
    congr 1
    rw [Nat.add_mul]; omega
theorem flat_len_mem {α : Type} (f : α → List Value) (m : Nat) : ∀ (l : List α) (_ : ∀ a ∈ l, (f a).length = m), (l.flatMap f).length = l.length * m
  | [], _ => by simp
  | a :: l, hf => by simp only [List.flatMap_cons, List.length_append, hf a (by simp), flat_len_mem f m l (fun x hx => hf x (List.mem_cons_of_mem _ hx)), List.length_cons, Nat.add_mul]; omega
def zeroP : Pn := ⟨[], zeroC, 0⟩
/-- Where pins lie. -/
def PinsAt (W0 : World) (F : Heap) (v : Value) (ps : List Pn) : Prop := ∃ p c, v = .slice p ps.length c ∧ ps.length ≤ c ∧ Go.Tri.Lies W0 F p (ps.flatMap pnC)
theorem pins_get {W0 : World} {H : Heap} {p : Option Addr} {ps : List Pn} (h16 : ∀ x ∈ ps, SizP x) (h : Go.Tri.Lies W0 H p (ps.flatMap pnC)) {k : Nat} (hk : k < ps.length) : ∃ b o, p = some ⟨b, o, none⟩ ∧ ∀ m, m < ps.length → ∀ w, Own W0 H w → CellsAt w b (o + m * 19) (pnC (ps.getD m zeroP)) := by
  have hl : ∀ x ∈ ps, (pnC x).length = 19 := fun x hx => pnC_len (h16 x hx).1.1
  rcases h with h0 | ⟨b, o, h1, h2⟩
  · have := congrArg List.length h0; rw [flat_len_mem pnC 19 ps hl] at this; simp only [List.length_nil] at this; omega
  · refine ⟨b, o, h1, fun m hm w hw j u hj => ?_⟩
    have hmem : ps.getD m zeroP ∈ ps := by rw [List.getD_eq_getElem?_getD, List.getElem?_eq_getElem hm]; exact List.getElem_mem hm
    have hj19 : j < 19 := by have := (List.getElem?_eq_some_iff.1 hj).1; rw [hl _ hmem] at this; exact this
    rw [Nat.add_assoc]
    refine h2.here hw (m * 19 + j) u ?_
    rw [flat_get_mem pnC 19 ps hl m j hj19, List.getElem?_eq_getElem hm]
    rw [List.getD_eq_getElem?_getD, List.getElem?_eq_getElem hm] at hj
    exact hj
theorem getD_siz {ps : List Pn} (h : ∀ x ∈ ps, SizP x) {k : Nat} (hk : k < ps.length) : SizP (ps.getD k zeroP) := h _ (by rw [List.getD_eq_getElem?_getD, List.getElem?_eq_getElem hk]; exact List.getElem_mem hk)
theorem fill_pn {nm : Lb} {c : Cd} {tl : Int} (ha : c.addr.length = 16) : Instr.fill (fun i => some (i * 19, 19)) ((Array.range (1 * 19)).map (fun x => (pnV ⟨[], zeroC, 0⟩).cells[x % (pnV ⟨[], zeroC, 0⟩).cells.size]!)) [(0, pnV ⟨nm, c, tl⟩)] = some (pnC ⟨nm, c, tl⟩).toArray := by
  obtain ⟨a, n⟩ := c
  match a, ha with
  | [a0, a1, a2, a3, a4, a5, a6, a7, a8, a9, b0, b1, b2, b3, b4, b5], _ =>
    show _ = _
    kernel_rfl
section
variable {W0 : World} {F : Heap}
theorem fresh_spec : T Tryz.prog W0 89 #[] F (fun v H' => ∃ bc CH, v = .pointer (some ⟨bc, 0, none⟩) ∧ ChkQ [] [] bc CH ∧ H' = CH ++ F) := by
  refine T.intro (args := []) Tryz.func89 rfl Tryz.ntmps89 rfl ?_
  repeat' first | refine Y.st ?_ | (refine nw ?_; intro _) | refine Y.kn ?_ | fail
  refine G.ef rfl rfl rfl (Eff.callF rfl (new_spec.mono ?_))
  rintro v H' ⟨bt, TH, rfl, hT, rfl⟩
  repeat' first | refine Y.st ?_ | (refine nw ?_; intro _) | refine Y.kn ?_ | fail
  refine G.ef rfl rfl rfl (Eff.makeMap (fun mp => ?_))
  repeat' first | refine Y.st ?_ | (refine nw ?_; intro _) | refine Y.kn ?_ | fail
  refine G.rd (Rd.build (cells := #[.pointer (some ⟨bt, 0, none⟩), .map (some mp)]) rfl (by rfl)) rfl rfl ?_
  refine G.ef rfl rfl rfl (Eff.boxA rfl (fun bc => ?_))
  repeat' first | refine Y.st ?_ | (refine nw ?_; intro _) | refine Y.kn ?_ | (refine sp ?_ ?_ <;> intro _) | fail
  exact GQ.done1 rfl rfl ⟨bc, _, rfl, ⟨bt, mp, .map #[] 0, TH, rfl, hT, .empty plV_inj⟩, rfl⟩
abbrev polV (p : Pol) (rv pv : Value) : Value := .agg #[.bool p.allow, rv, pv]
end
end Go.Pol

namespace Go.Pol
open Go.Own Go.Proofs Go.RowKit Go.Lib Go.Asc Go.Adr Go.Nam Go.Tri Go.Cid
attribute [local irreducible] GC GQ G Rd Eff T
set_option maxRecDepth 20000
set_option maxHeartbeats 4000000
theorem drop_getD {α : Type} (l : List α) (d : α) {k : Nat} (hk : k < l.length) : l.drop k = l.getD k d :: l.drop (k + 1) := by
  rw [List.getD_eq_getElem?_getD, List.getElem?_eq_getElem hk]
  exact (List.drop_eq_getElem_cons hk)
theorem take_getD {α : Type} (l : List α) (d : α) {k : Nat} (hk : k < l.length) : l.take (k + 1) = l.take k ++ [l.getD k d] := by
  rw [List.take_succ_eq_append_getElem hk, List.getD_eq_getElem?_getD, List.getElem?_eq_getElem hk]; rfl
theorem rulesErr_step {l : List Ru} {k : Nat} (hk : k < l.length) (h : rulesErr [] l = rulesErr (l.take k) (l.drop k)) :
    ((addL (l.take k) (l.getD k zeroR)).2 = 0 → rulesErr [] l = rulesErr (l.take (k + 1)) (l.drop (k + 1))) ∧ ((addL (l.take k) (l.getD k zeroR)).2 ≠ 0 → rulesErr [] l = (addL (l.take k) (l.getD k zeroR)).2) := by
  rw [drop_getD l zeroR hk] at h
  simp only [rulesErr] at h
  constructor
  · intro h0; rw [h, if_pos h0, take_getD l zeroR hk]
  · intro h0; rw [h, if_neg h0]
theorem pinsErr_step {l : List Pn} {k : Nat} (hk : k < l.length) (h : pinsErr [] l = pinsErr (l.take k) (l.drop k)) :
    (pinErr (l.take k) (l.getD k zeroP) = 0 → pinsErr [] l = pinsErr (l.take (k + 1)) (l.drop (k + 1))) ∧ (pinErr (l.take k) (l.getD k zeroP) ≠ 0 → pinsErr [] l = pinErr (l.take k) (l.getD k zeroP)) := by
  rw [drop_getD l zeroP hk] at h
  simp only [pinsErr] at h
  constructor
  · intro h0; rw [h, if_pos h0, take_getD l zeroP hk]
  · intro h0; rw [h, if_neg h0]
section
variable {W0 : World} {F : Heap}
attribute [local irreducible] Lit.wf addL pinErr rulesErr pinsErr
theorem pright_spec2 (hv : Vars W0) (p : Pol) (rv pv : Value) (hr : RulesAt W0 F rv p.rules) (hp : PinsAt W0 F pv p.pins) (sr : ∀ r ∈ p.rules, Sized r ∧ r.pat.length ≤ 2000000) (sp : ∀ x ∈ p.pins, SizP x) (sn : ∀ x ∈ p.pins, x.name.length ≤ 2000000)
    (hrl : p.rules.length ≤ 2000000) (hpl : p.pins.length ≤ 2000000) : T Tryz.prog W0 45 #[polV p rv pv] F (fun v H' => v = .int .i64 (rightP p) ∧ H' = F) := by
  obtain ⟨pa, ca, rfl, hca, hat⟩ := hr
  obtain ⟨pb, cb, rfl, hcb, hbt⟩ := hp
  refine T.intro (args := [_]) Tryz.func45 rfl Tryz.ntmps45 rfl ?_
  repeat' first | refine Y.st ?_ | (refine nw ?_; intro _) | refine Y.kn ?_ | fail
  rename_i b1
  refine G.ef rfl rfl rfl (Eff.callF rfl (fresh_spec.mono ?_))
  rintro v H' ⟨bc, CH0, rfl, hC0, rfl⟩
  repeat' first | refine Y.st ?_ | (refine nw ?_; intro _) | refine Y.kn ?_ | fail
  refine GC.loopE (ι := { q : Nat × Heap // q.1 ≤ p.rules.length ∧ ChkQ (p.rules.take q.1) [] bc q.2 ∧ rulesErr [] p.rules = rulesErr (p.rules.take q.1) (p.rules.drop q.1) }) (fun i => [(14, .int .i64 (i.1.1 : Int))]) [(1, _), (3, _), (12, _), (13, _)]
    (fun q => q.1.2 ++ ((b1, .cells #[.bool p.allow, .slice pa p.rules.length ca, .slice pb p.pins.length cb] 25 (0, 0)) :: F)) (fun q => p.rules.length - q.1.1) ⟨(0, CH0), Nat.zero_le _, hC0, rfl⟩ ⟨rfl, rfl, rfl, rfl, rfl, trivial⟩ (fun _ h => h) ?_
  rintro ⟨⟨k, CH⟩, hk, hC, hE⟩
  dsimp only [List.cons_append, List.nil_append] at hk hC hE ⊢
  by_cases hlt : k < p.rules.length
  · obtain ⟨b, o, rfl, hc1⟩ := lies_get ((hat.cons (b1, .cells #[.bool p.allow, .slice pa p.rules.length ca, .slice pb p.pins.length cb] 25 (0, 0))).app CH) hlt
    have h1 := hc1 k hlt
    have hS := sr _ (getD_mem hlt)
    have hst := rulesErr_step hlt hE
    have htk := take_getD p.rules zeroR hlt
    generalize hrk : p.rules.getD k zeroR = r at h1 hS hst htk
    obtain ⟨bt, mp, om, TH, rfl, hT, hM⟩ := hC
    simp only [List.cons_append] at h1 ⊢
    repeat' first | refine Y.st ?_ | (refine nw ?_; intro _) | refine Y.kn ?_ | fail
    rename_i b5
    refine GC.drawn [(0, .read), (1, .read), (2, .read), (3, .read), (4, .read), (5, .tail), (6, .tail)] ([(b5, .cells (ruA r) 48 (0, 0)), (bc, .cells #[.pointer (some ⟨bt, 0, none⟩), .map (some mp)] 147 (0, 0))]) (by kernel_rfl) (by kernel_rfl) rfl ?_
    repeat' first | refine Y.st ?_ | (refine nw ?_; intro _) | refine Y.kn ?_ | fail
    refine G.ef rfl rfl rfl (Eff.callP (first := #[]) (captured := #[]) rfl rfl (H' := TH ++ ((b5, .cells (ruC r).toArray 48 (0, 0)) :: (bc, .cells #[.pointer (some ⟨bt, 0, none⟩), .map (some mp)] 147 (0, 0)) :: (mp, om) :: (b1, .cells #[.bool p.allow, .slice (some ⟨b, o, none⟩) p.rules.length ca, .slice pb p.pins.length cb] 25 (0, 0)) :: F)) (by exact permC) ((add_spec hv hT r hS.1 (by have := hS.2; omega)).mono ?_))
    rintro v H' ⟨rfl, TH', hT', hp'⟩
    have hp2 := hp'.trans (show (TH' ++ ((b5, .cells (ruC r).toArray 48 (0, 0)) :: (bc, .cells #[.pointer (some ⟨bt, 0, none⟩), .map (some mp)] 147 (0, 0)) :: (mp, om) :: (b1, .cells #[.bool p.allow, .slice (some ⟨b, o, none⟩) p.rules.length ca, .slice pb p.pins.length cb] 25 (0, 0)) :: F)).Perm ((b5, .cells (ruC r).toArray 48 (0, 0)) :: (((bc, .cells #[.pointer (some ⟨bt, 0, none⟩), .map (some mp)] 147 (0, 0)) :: (mp, om) :: TH') ++ ((b1, .cells #[.bool p.allow, .slice (some ⟨b, o, none⟩) p.rules.length ca, .slice pb p.pins.length cb] 25 (0, 0)) :: F))) by exact permC)
    refine G.heap ?_ (fun w hw => hw.perm hp2)
    by_cases h0 : (addL (p.rules.take k) r).2 = 0
    · rw [h0]
      have h9 := hst.1 h0
      rw [add_ok h0, ← htk] at hT'
      repeat' first | refine Y.st ?_ | (refine nw ?_; intro _) | refine Y.kn ?_ | fail
      exact GQ.back ⟨(k + 1, (bc, .cells #[.pointer (some ⟨bt, 0, none⟩), .map (some mp)] 147 (0, 0)) :: (mp, om) :: TH'), by omega, ⟨bt, mp, om, TH', rfl, hT', hM⟩, h9⟩ (by simp only; omega) ⟨rfl, rfl, rfl, rfl, rfl, trivial⟩ (fun w hw => hw.sub (List.sublist_cons_self _ _))
    · have h9 := hst.2 h0
      have hR : rightP p = (addL (p.rules.take k) r).2 := by unfold rightP; rw [h9, if_pos h0]
      repeat' first | refine Y.st ?_ | (refine nw ?_; intro _) | refine Y.kn ?_ | fail
      refine GQ.heap (H' := F) ?_ (fun w hw => hw.sub ((List.sublist_cons_self _ _).trans ((List.sublist_append_right _ _).trans (List.sublist_cons_self _ _))))
      exact GQ.done1 rfl rfl ⟨by rw [hR], rfl⟩
  · obtain rfl : k = p.rules.length := by omega
    rw [List.take_length, List.drop_length] at hE
    rw [List.take_length] at hC
    have hE0 : rulesErr [] p.rules = 0 := by rw [hE]; delta rulesErr; rfl
    have hR0 : rightP p = if 200 < p.pins.length then 2 else pinsErr [] p.pins := by unfold rightP; rw [hE0]; rfl
    by_cases h200 : 200 < p.pins.length
    · repeat' first | refine Y.st ?_ | (refine nw ?_; intro _) | refine Y.kn ?_ | fail
      refine GQ.heap (H' := F) ?_ (fun w hw => hw.sub ((List.sublist_cons_self _ _).trans (List.sublist_append_right _ _)))
      exact GQ.done1 rfl rfl ⟨by rw [hR0, if_pos h200], rfl⟩
    · rw [if_neg h200] at hR0
      repeat' first | refine Y.st ?_ | (refine nw ?_; intro _) | refine Y.kn ?_ | fail
      refine GC.loopE (ι := { q : Nat × Heap // q.1 ≤ p.pins.length ∧ ChkQ p.rules (p.pins.take q.1) bc q.2 ∧ pinsErr [] p.pins = pinsErr (p.pins.take q.1) (p.pins.drop q.1) }) (fun i => [(35, .int .i64 (i.1.1 : Int))]) [(3, _), (33, _), (34, _)]
        (fun q => q.1.2 ++ ((b1, .cells #[.bool p.allow, .slice pa p.rules.length ca, .slice pb p.pins.length cb] 25 (0, 0)) :: F)) (fun q => p.pins.length - q.1.1) ⟨(0, CH), Nat.zero_le _, hC, rfl⟩ ⟨rfl, rfl, rfl, rfl, trivial⟩ (fun _ h => h) ?_
      rintro ⟨⟨k, CH⟩, hk, hC, hE⟩
      dsimp only [List.cons_append, List.nil_append] at hk hC hE ⊢
      by_cases hlt : k < p.pins.length
      · obtain ⟨b, o, rfl, hc1⟩ := pins_get sp ((hbt.cons (b1, .cells #[.bool p.allow, .slice pa p.rules.length ca, .slice pb p.pins.length cb] 25 (0, 0))).app CH) hlt
        have h1 := hc1 k hlt
        have hS := getD_siz sp hlt
        have hN : (p.pins.getD k zeroP).name.length ≤ 2000000 := sn _ (by rw [List.getD_eq_getElem?_getD, List.getElem?_eq_getElem hlt]; exact List.getElem_mem hlt)
        have hst := pinsErr_step hlt hE
        have htk := take_getD p.pins zeroP hlt
        generalize hxk : p.pins.getD k zeroP = x at h1 hS hst htk hN
        have ha := hS.1.1
        have hpc := pnC_len ha
        repeat' first | refine Y.st ?_ | (refine nw ?_; intro _) | refine Y.kn ?_ | fail
        refine G.rd (Rd.loadAggC rfl h1 hpc) rfl rfl ?_
        refine G.ef rfl rfl rfl (Eff.allocA (cs := pnC zeroP) (fun b8 => ?_))
        refine G.ef rfl rfl rfl (Eff.storeAll (cs := pnC zeroP) (vs := pnC x) rfl rfl (pnC_one _) (by rw [hpc]; rfl) hpc ?_)
        repeat' first | refine Y.st ?_ | (refine nw ?_; intro _) | refine Y.kn ?_ | fail
        refine G.ef rfl rfl rfl (Eff.callP (first := #[]) (captured := #[]) rfl rfl (H' := CH ++ ((b8, .cells (pnC x).toArray 52 (0, 0)) :: (b1, .cells #[.bool p.allow, .slice pa p.rules.length ca, .slice (some ⟨b, o, none⟩) p.pins.length cb] 25 (0, 0)) :: F)) (by exact permC) ((pin_spec hv hC x hS (by omega)).mono ?_))
        rintro v H' ⟨rfl, CH', hC', hp'⟩
        have hp2 := hp'.trans (show (CH' ++ ((b8, .cells (pnC x).toArray 52 (0, 0)) :: (b1, .cells #[.bool p.allow, .slice pa p.rules.length ca, .slice (some ⟨b, o, none⟩) p.pins.length cb] 25 (0, 0)) :: F)).Perm ((b8, .cells (pnC x).toArray 52 (0, 0)) :: (CH' ++ ((b1, .cells #[.bool p.allow, .slice pa p.rules.length ca, .slice (some ⟨b, o, none⟩) p.pins.length cb] 25 (0, 0)) :: F))) by exact permC)
        refine G.heap ?_ (fun w hw => hw.perm hp2)
        by_cases h0 : pinErr (p.pins.take k) x = 0
        · have h9 := hst.1 h0
          rw [if_pos h0, ← htk] at hC'
          rw [h0]
          repeat' first | refine Y.st ?_ | (refine nw ?_; intro _) | refine Y.kn ?_ | fail
          exact GQ.back ⟨(k + 1, CH'), by omega, hC', h9⟩ (by simp only; omega) ⟨rfl, rfl, rfl, rfl, trivial⟩ (fun w hw => hw.sub (List.sublist_cons_self _ _))
        · have h9 := hst.2 h0
          repeat' first | refine Y.st ?_ | (refine nw ?_; intro _) | refine Y.kn ?_ | fail
          refine GQ.heap (H' := F) ?_ (fun w hw => hw.sub ((List.sublist_cons_self _ _).trans ((List.sublist_append_right _ _).trans (List.sublist_cons_self _ _))))
          exact GQ.done1 rfl rfl ⟨by rw [hR0, h9], rfl⟩
      · obtain rfl : k = p.pins.length := by omega
        rw [List.take_length, List.drop_length] at hE
        have hE0 : pinsErr [] p.pins = 0 := by rw [hE]; delta pinsErr; rfl
        repeat' first | refine Y.st ?_ | (refine nw ?_; intro _) | refine Y.kn ?_ | fail
        refine GQ.heap (H' := F) ?_ (fun w hw => hw.sub ((List.sublist_cons_self _ _).trans (List.sublist_append_right _ _)))
        exact GQ.done1 rfl rfl ⟨by rw [hR0, hE0], rfl⟩
end
end Go.Pol

namespace Go.Pol
open Go.Own Go.Proofs Go.RowKit Go.Lib Go.Asc Go.Adr Go.Nam Go.Tri Go.Cid
attribute [local irreducible] GC GQ G Rd Eff T
set_option maxRecDepth 20000
set_option maxHeartbeats 4000000
theorem pnC_inj {a b : Pn} (h : pnC a = pnC b) (ha : a.cidr.addr.length = 16) (hb : b.cidr.addr.length = 16) : a = b := by
  obtain ⟨n, ⟨x, m⟩, t⟩ := a
  obtain ⟨n', ⟨x', m'⟩, t'⟩ := b
  simp only at ha hb
  have h2 := List.cons.inj h
  have h3 : u8s x ++ [Value.int .i64 m, Value.int .i64 t] = u8s x' ++ [Value.int .i64 m', Value.int .i64 t'] := h2.2
  obtain ⟨e1, e2⟩ := List.append_inj h3 (by rw [u8s_length, u8s_length, ha, hb])
  simp only [List.cons.injEq, Value.int.injEq, true_and, and_true] at e2
  have e3 : cdC ⟨x, m⟩ = cdC ⟨x', m'⟩ := by show u8s x ++ [Value.int .i64 m] = u8s x' ++ [Value.int .i64 m']; rw [e1, e2.1]
  have e4 := cdC_inj e3
  have e5 : n = n' := S_inj _ _ h2.1
  rw [e5, e4, e2.2]
theorem pn_key (p : Pn) (h : SizP p) : isK Tryz.prog 52 (pnV p) := by
  obtain ⟨h1, h2, h3⟩ := h
  have hk : Tryz.prog.keyType 52 = true := by kernel_rfl
  have hc : Tryz.prog.cellsOf 52 = 19 := by kernel_rfl
  have c1 : Tryz.prog.cellsOf 9 = 1 := by kernel_rfl
  have c2 : Tryz.prog.cellsOf 50 = 17 := by kernel_rfl
  have c3 : Tryz.prog.cellsOf 3 = 1 := by kernel_rfl
  obtain ⟨d, hd⟩ : ∃ d, Tryz.prog.types.size + 1 = d + 4 := ⟨Tryz.prog.types.size - 3, by kernel_rfl⟩
  obtain ⟨ls, hls⟩ := cd_lits d h1
  have hl := pnC_len (x := p) h1.1
  have hm : (⟨p.name.toArray⟩ : ByteArray).size ≤ maxLen := by show p.name.toArray.size ≤ _; simp [maxLen]; omega
  have e0 : Tryz.prog.keyLits (d + 3) 9 [S p.name] = some [.string p.name] := by
    unfold Program.keyLits; rw [Tryz.underlying9]; simp only [if_pos hm]
  have e9 : Tryz.prog.keyLits (d + 3) 3 [.int .i64 p.till] = some [.int .i64 p.till] := by unfold Program.keyLits; rw [Tryz.underlying3]; simp only [h2, and_self, if_true]
  have e1 : ((pnC p).drop 0).take 1 = [S p.name] := rfl
  have e4 : pnC p = S p.name :: (cdC p.cidr ++ [.int .i64 p.till]) := by simp
  have e2 : ((pnC p).drop 1).take 17 = cdC p.cidr := by
    rw [e4]
    exact List.take_left' (cdC_len h1.1)
  have e3 : ((pnC p).drop 18).take 1 = [.int .i64 p.till] := by
    rw [e4, List.drop_succ_cons, List.drop_left' (cdC_len h1.1)]; rfl
  unfold isK keyOf
  rw [Tryz.underlying52]
  simp only [hk, Value.formed, Tryz.underlying52, hc, hd, List.size_toArray, hl, Value.cells]
  rw [show (S p.name :: (u8s p.cidr.addr ++ [Value.int .i64 p.cidr.bits, Value.int .i64 p.till])) = pnC p from rfl]
  have : ∃ q, Tryz.prog.keyLits (d + 4) 52 (pnC p) = some q := by
    conv => enter [1, q]; lhs; unfold Program.keyLits
    rw [Tryz.underlying52]
    simp only [hl, hc]
    rw [if_pos ⟨trivial, by kernel_rfl⟩]
    simp only [List.mapM_cons, List.mapM_nil, c1, c2, c3, e1, e2, e3, hls, e0, e9]
    simp
  obtain ⟨q, hq⟩ := this
  rw [hq]
  exact ⟨_, rfl⟩
section
variable {W0 : World} {H : Heap} {e : Env} {x y : Operand}
theorem run_sameP (a b : Pn) (ha : SizP a) (hb : SizP b) (w : World) : (Op.equal 52 (pnV a) (pnV b)).run Tryz.prog w = .ok (decide (a = b)) w := by
  obtain ⟨la, hla⟩ := pn_key a ha
  obtain ⟨lb, hlb⟩ := pn_key b hb
  obtain ⟨r, hr, hiff⟩ := run_equal_deep (P := Tryz.prog) w (m := 5) (by omega) (k := 52) (by kernel_rfl) (by kernel_rfl) hla hlb
  rw [hr]
  congr 1
  rw [Bool.eq_iff_iff, hiff, decide_eq_true_eq]
  constructor
  · rintro rfl
    have K := Maps.Keyed.of_law (deep_law_laid (P := Tryz.prog) (by kernel_rfl) (m := 5) (by omega) (k := 52) (of_decide_eq_true (by kernel_rfl)) (by kernel_rfl) (by kernel_rfl))
    exact pnC_inj (congrArg Array.toList (Value.agg.inj (K.inj hla hlb))) ha.1.1 hb.1.1
  · rintro rfl
    rw [hla] at hlb; exact Option.some.inj hlb
theorem Rd.neqPn (a b : Pn) (hx : opv e x = some (pnV a)) (hy : opv e y = some (pnV b)) (ha : SizP a) (hb : SizP b) {t' : TypeId} : Rd Tryz.prog W0 H e (.binOp .neq 52 x y t') (.bool (!decide (a = b))) := by
    delta Rd
    intro ρ hρ w _ op ho
    have hg : Tryz.prog.eqGuardType Tryz.prog.depth 52 = false := by kernel_rfl
    have h : (binOp .neq 52 (pnV a) (pnV b)).run Tryz.prog w = .ok (.bool (!decide (a = b))) w := by
      simp only [binOp]; simp [run_sameP a b ha hb w]
    simp [execOp, ho, hρ x _ hx, hρ y _ hy, eqGuard, hg, h]
end
section
variable {W : World}
theorem lies_pin {v : VT} (h : VT.Lies Tryz.prog W 52 v) : ∃ x : Pn, v.cells = pnC x ∧ SizP x := by
  obtain ⟨ps, rfl, h1⟩ := Go.Own.Lies.agg h
  obtain ⟨a1, r1, rfl, k1, h1⟩ := lies_one h1
  obtain ⟨a2, r2, rfl, k2, h1⟩ := lies_one h1
  obtain ⟨a3, r3, rfl, k3, h1⟩ := lies_one h1
  obtain rfl := lies_nil h1
  obtain ⟨p, rfl, hp⟩ := Go.Own.Lies.str k1
  obtain ⟨c, hc, _, e2⟩ := lies_cidr k2
  obtain ⟨n, rfl, hn⟩ := Go.Own.Lies.int k3
  exact ⟨⟨p, c, n⟩, by simp [VT.cells, VT.cellsL, e2], hc, hn, hp⟩
theorem lies_pins : ∀ {es : List VT}, VT.LiesAll Tryz.prog W 52 es → ∃ l : List Pn, l.length = es.length ∧ VT.cellsL es = l.flatMap pnC ∧ ∀ r ∈ l, SizP r
  | [], _ => ⟨[], rfl, by simp [VT.cellsL], by simp⟩
  | x :: es, h => by
    simp only [VT.LiesAll] at h
    obtain ⟨r, h2, h3⟩ := lies_pin h.1
    obtain ⟨l, k1, k2, k3⟩ := lies_pins h.2
    refine ⟨r :: l, by simp [k1], ?_, ?_⟩
    · rw [VT.cellsL, h2, k2, List.flatMap_cons]
    · intro y hy
      rcases List.mem_cons.1 hy with rfl | hy
      · exact h3
      · exact k3 y hy
/-- A tenant's file that came in. -/
theorem lies_policy {v : VT} (h : VT.Lies Tryz.prog W 25 v) : ∃ (p : Pol) (rv pv : Value), v.val = polV p rv pv ∧ (∀ r ∈ p.rules, Sized r) ∧ (∀ x ∈ p.pins, SizP x) ∧ p.rules.length ≤ 140737488351232 ∧ p.pins.length ≤ 140737488351232 ∧ (∀ F, RulesAt W F rv p.rules) ∧ ∀ F, PinsAt W F pv p.pins := by
  obtain ⟨ps, rfl, h1⟩ := Go.Own.Lies.agg h
  obtain ⟨a1, r1, rfl, k1, h1⟩ := lies_one h1
  obtain ⟨a2, r2, rfl, k2, h1⟩ := lies_one h1
  obtain ⟨a3, r3, rfl, k3, h1⟩ := lies_one h1
  obtain rfl := lies_nil h1
  obtain ⟨b, rfl⟩ := Go.Own.Lies.bool k1
  obtain ⟨l, p, c, hls, hll, e0, hc, hat⟩ := lies_rulesAt k2
  obtain ⟨p2, c2, es, rfl, hp2, hc2, hb2, hat2, hes⟩ := Go.Own.Lies.slice k3
  obtain ⟨l2, g1, g2, g3⟩ := lies_pins hes
  rw [g2] at hat2
  have hone : ∀ v : VT, ∀ p n c, v.val = .slice p n c → v.cells = [.slice p n c] := by
    intro v p n c hv
    cases v with
    | slice p' c' es' => simp only [VT.val] at hv; simp only [VT.cells]; rw [hv]
    | int k n => simp [VT.val] at hv
    | bool b => simp [VT.val] at hv
    | str l => simp [VT.val] at hv
    | agg ps => simp [VT.val] at hv
  have hbb : 0 < Tryz.prog.bytesOf 52 := by rw [show Tryz.prog.bytesOf 52 = 48 by kernel_rfl]; omega
  refine ⟨⟨b, l, l2⟩, .slice p l.length c, .slice p2 l2.length c2, by simp [VT.val, VT.cells, VT.cellsL, hone _ _ _ _ e0, g1], hls, g3, hll, ?_, fun F => ⟨p, c, rfl, hc, hat F⟩, fun F => ⟨p2, c2, rfl, by show l2.length ≤ c2; omega, lies_base hat2⟩⟩
  have : c2 ≤ c2 * Tryz.prog.bytesOf 52 := Nat.le_mul_of_pos_right _ hbb
  show l2.length ≤ _
  omega
end
end Go.Pol
