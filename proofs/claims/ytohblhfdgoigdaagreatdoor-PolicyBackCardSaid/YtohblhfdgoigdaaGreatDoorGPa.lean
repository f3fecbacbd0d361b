/-
  PINS, PLACES, AND WHO LOOKS AT THEM, in memory: policy.checker.
  LINES OF A TENANT'S FILE: numbers with a sign, words behind keys, rules.
  LINES OF A TENANT'S FILE: policy.reader: preset, rule, pin.
  LINES OF A TENANT'S FILE: policy.reader: pin, line.
-/
import Derived.Test.YtohblhfdgoigdaaGreatDoorGCi
import Derived.Test.YtohblhfdgoigdaaGreatDoorGOwn
import Derived.Test.YtohblhfdgoigdaaGreatDoorGTb
import Derived.Test.YtohblhfdgoigdaaGreatDoorGPl
import Derived.Test.YtohblhfdgoigdaaGreatDoorGFl
namespace Go.Pol
open Go.Own Go.Proofs Go.RowKit Go.Lib Go.Asc Go.Adr Go.Nam Go.Tri Go.Cid
attribute [local irreducible] GC GQ G Rd Eff T
set_option maxRecDepth 20000
set_option maxHeartbeats 4000000

abbrev pnC (x : Pn) : List Value := S x.name :: (u8s x.cidr.addr ++ [.int .i64 x.cidr.bits, .int .i64 x.till])
abbrev pnV (x : Pn) : Value := .agg (S x.name :: (u8s x.cidr.addr ++ [Value.int .i64 x.cidr.bits, Value.int .i64 x.till])).toArray
theorem pnC_len {x : Pn} (h : x.cidr.addr.length = 16) : (pnC x).length = 19 := by simp [u8s_length, h]
theorem pnC_one (x : Pn) : ∀ u ∈ pnC x, u.oneCell' = true := by
  intro u hu
  rcases List.mem_cons.1 hu with rfl | hu
  · rfl
  · rcases List.mem_append.1 hu with h | h
    · exact u8s_one _ u h
    · simp only [List.mem_cons, List.not_mem_nil, or_false] at h
      rcases h with rfl | rfl <;> rfl
def SizP (x : Pn) : Prop := SizC x.cidr ∧ (Lit.int .i64 x.till).wf = true ∧ x.name.length ≤ 140737488351232
abbrev plC (p : Lb × Cd) : List Value := S p.1 :: (u8s p.2.addr ++ [.int .i64 p.2.bits])
abbrev plV (p : Lb × Cd) : Value := .agg (S p.1 :: (u8s p.2.addr ++ [Value.int .i64 p.2.bits])).toArray
theorem plC_len {p : Lb × Cd} (h : p.2.addr.length = 16) : (plC p).length = 18 := by simp [u8s_length, h]
theorem plC_one (p : Lb × Cd) : ∀ u ∈ plC p, u.oneCell' = true := by
  intro u hu
  rcases List.mem_cons.1 hu with rfl | hu
  · rfl
  · exact cdC_one p.2 u hu
theorem plV_inj : ∀ a b : Lb × Cd, plV a = plV b → a = b := fun a b h => by
  have h1 : plC a = plC b := congrArg Array.toList (Value.agg.inj h)
  have h2 := List.cons.inj h1
  have h3 := cdC_inj (a := a.2) (b := b.2) h2.2
  exact Prod.ext (S_inj _ _ h2.1) h3
theorem pl_key (p : Lb × Cd) (h : SizC p.2) (hn : p.1.length ≤ 140737488351232) : isK Tryz.prog 128 (plV p) := by
  have hk : Tryz.prog.keyType 128 = true := by kernel_rfl
  have hc : Tryz.prog.cellsOf 128 = 18 := by kernel_rfl
  have c1 : Tryz.prog.cellsOf 9 = 1 := by kernel_rfl
  have c2 : Tryz.prog.cellsOf 41 = 17 := by kernel_rfl
  obtain ⟨d, hd⟩ : ∃ d, Tryz.prog.types.size + 1 = d + 4 := ⟨Tryz.prog.types.size - 3, by kernel_rfl⟩
  obtain ⟨ls, hls⟩ := cd_lits d h
  have hl := plC_len (p := p) h.1
  have hm : (⟨p.1.toArray⟩ : ByteArray).size ≤ maxLen := by show p.1.toArray.size ≤ _; simp [maxLen]; omega
  have e0 : Tryz.prog.keyLits (d + 3) 9 [S p.1] = some [.string p.1] := by
    unfold Program.keyLits; rw [Tryz.underlying9]; simp only [if_pos hm]
  have e1 : ((plC p).drop 0).take 1 = [S p.1] := rfl
  have e2 : ((plC p).drop 1).take 17 = cdC p.2 := by
    show (cdC p.2).take 17 = _
    exact List.take_of_length_le (by rw [cdC_len h.1]; exact Nat.le_refl _)
  unfold isK keyOf
  rw [Tryz.underlying128]
  simp only [hk, Value.formed, Tryz.underlying128, hc, hd, List.size_toArray, hl, Value.cells]
  rw [show (S p.1 :: (u8s p.2.addr ++ [Value.int .i64 p.2.bits])) = plC p from rfl]
  have : Tryz.prog.keyLits (d + 4) 128 (plC p) = some ([.string p.1] ++ ls) := by
    conv => lhs; unfold Program.keyLits
    rw [Tryz.underlying128]
    simp only [hl, hc]
    rw [if_pos ⟨trivial, by kernel_rfl⟩]
    simp only [List.mapM_cons, List.mapM_nil, c1, c2, e1, e2, hls, e0]
    simp
  rw [this]
  exact ⟨_, rfl⟩
abbrev intV (n : Int) : Value := .int .i64 n
instance : MapT Tryz.prog 68 128 3 (isK Tryz.prog 128) (.int .i64 0) :=
  ⟨Tryz.underlying68, keyLaws (Maps.Keyed.of_law (deep_law_laid (by kernel_rfl) (m := 5) (by omega) (of_decide_eq_true (by kernel_rfl)) (by kernel_rfl) (by kernel_rfl))), Tryz.zeroValue3⟩
abbrev hasP (ps : List Pn) : List ((Lb × Cd) × Int) := ps.map fun x => (placeOf x, (1 : Int))
theorem hasP_get (ps : List Pn) (k : Lb × Cd) : getK (hasP ps) k = if k ∈ ps.map placeOf then some 1 else none := by
  induction ps with
  | nil => rfl
  | cons r rs ih =>
    simp only [hasP, List.map_cons, getK, List.mem_cons] at ih ⊢
    by_cases h : placeOf r = k
    · subst h; simp
    · rw [if_neg h, ih]; simp [Ne.symm h]
/-- The checker, among what is owned. -/
def ChkQ (rs : List Ru) (ps : List Pn) (bc : Nat) (CH : Heap) : Prop := ∃ bt mp om TH, CH = (bc, .cells #[.pointer (some ⟨bt, 0, none⟩), .map (some mp)] 70 (0, 0)) :: (mp, om) :: TH ∧ TrieQ rs bt TH ∧ MapIs (isK Tryz.prog 128) plV intV (hasP ps) om
section
variable {W0 : World} {H : Heap} {e : Env} {x y : Operand}
theorem Rd.mkPl {nm : Lb} {c : Cd} (ha : c.addr.length = 16) (hx : opv e x = some (S nm)) (hy : opv e y = some (cdV c)) : Rd Tryz.prog W0 H e (.build 128 #[(0, x), (1, y)]) (plV (nm, c)) := by
  obtain ⟨a, n⟩ := c
  match a, ha with
  | [a0, a1, a2, a3, a4, a5, a6, a7, a8, a9, b0, b1, b2, b3, b4, b5], _ =>
    exact Rd.build (vs := [(0, S nm), (1, cdV ⟨[a0, a1, a2, a3, a4, a5, a6, a7, a8, a9, b0, b1, b2, b3, b4, b5], n⟩)]) (by simp [List.mapM_cons, hx, hy]) (by kernel_rfl)
theorem Rd.mkPn {nm : Lb} {c : Cd} (ha : c.addr.length = 16) (hx : opv e x = some (S nm)) (hy : opv e y = some (cdV c)) : Rd Tryz.prog W0 H e (.build 63 #[(0, x), (1, y)]) (pnV ⟨nm, c, 0⟩) := by
  obtain ⟨a, n⟩ := c
  match a, ha with
  | [a0, a1, a2, a3, a4, a5, a6, a7, a8, a9, b0, b1, b2, b3, b4, b5], _ =>
    exact Rd.build (vs := [(0, S nm), (1, cdV ⟨[a0, a1, a2, a3, a4, a5, a6, a7, a8, a9, b0, b1, b2, b3, b4, b5], n⟩)]) (by simp [List.mapM_cons, hx, hy]) (by kernel_rfl)
theorem pn_cidr (x : Pn) : ∀ j u, (cdC x.cidr)[j]? = some u → (pnC x)[1 + j]? = some u := fun j u hj => by
  rw [Nat.add_comm, List.getElem?_cons_succ]
  have hlt := (List.getElem?_eq_some_iff.1 hj).1
  rw [show u8s x.cidr.addr ++ [.int .i64 x.cidr.bits, .int .i64 x.till] = cdC x.cidr ++ [.int .i64 x.till] by simp, List.getElem?_append_left hlt]
  exact hj
theorem pn_till {x : Pn} (ha : x.cidr.addr.length = 16) : (pnC x)[18]? = some (.int .i64 x.till) := by
  rw [List.getElem?_cons_succ, List.getElem?_append_right (by rw [u8s_length, ha]; omega), u8s_length, ha]; rfl
theorem Rd.pnCidr {b o : Nat} {p : Pn} {el : TypeId} {fr : Nat × Nat} (hx : opv e x = some (.pointer (some ⟨b, o, none⟩))) (ho : o = 1) [h : Has H b (.cells (pnC p).toArray el fr)] (ha : p.cidr.addr.length = 16) : Rd Tryz.prog W0 H e (.load 41 x) (cdV p.cidr) :=
  Rd.loadAggC hx (cellsH (h := h) (fun j u hj => by subst ho; rw [List.getElem?_toArray]; exact pn_cidr p j u hj)) (cdC_len ha)
theorem Rd.pnTill {b o : Nat} {p : Pn} {el : TypeId} {fr : Nat × Nat} (hx : opv e x = some (.pointer (some ⟨b, o, none⟩))) (ho : o = 18) [h : Has H b (.cells (pnC p).toArray el fr)] (ha : p.cidr.addr.length = 16) : Rd Tryz.prog W0 H e (.load 3 x) (.int .i64 p.till) :=
  Rd.load hx (cellH (h := h) (by subst ho; rw [List.getElem?_toArray]; exact pn_till ha))
end
section
variable {W0 : World} {F : Heap}
def PinR (rs : List Ru) (ps : List Pn) (x : Pn) (bc : Nat) (F : Heap) : Value → Heap → Prop := fun v H' => v = .int .i64 (pinErr ps x) ∧ ∃ CH, ChkQ rs (if pinErr ps x = 0 then ps ++ [x] else ps) bc CH ∧ H'.Perm (CH ++ F)
attribute [local irreducible] normalL rightC Lit.wf
theorem pin_spec (hv : Vars W0) {rs : List Ru} {ps : List Pn} {bc : Nat} {CH : Heap} (h : ChkQ rs ps bc CH) (x : Pn) (hs : SizP x) (hn : x.name.length < 4294967281) :
    T Tryz.prog W0 39 #[.pointer (some ⟨bc, 0, none⟩), pnV x] (CH ++ F) (PinR rs ps x bc F) := by
  have h' := h
  obtain ⟨bt, mp, om, TH, rfl, hT, hM⟩ := h
  obtain ⟨hs1, hs2, hs3⟩ := hs
  have ha := hs1.1
  simp only [List.cons_append]
  refine T.intro (args := [_, _]) Tryz.func39 rfl Tryz.ntmps39 rfl ?_
  have hpl := pl_key (placeOf x) hs1 hs3
  have hpc := plC_len (p := placeOf x) ha
  repeat' first | refine Y.st ?_ | (refine nw ?_; intro _) | refine Y.kn ?_ | fail
  rename_i b3
  refine G.rd (Rd.pnCidr rfl rfl ha) rfl rfl ?_
  refine G.rd (Rd.mkPl (nm := x.name) (c := x.cidr) ha rfl rfl) rfl rfl ?_
  refine G.ef rfl rfl rfl (Eff.allocA (cs := plC ([], zeroC)) (fun b7 => ?_))
  refine G.ef rfl rfl rfl (Eff.storeAll (cs := plC ([], zeroC)) (vs := plC (placeOf x)) rfl rfl (plC_one _) (by rw [hpc]; rfl) hpc ?_)
  have keep : ∀ w, Own W0 ((b7, Obj.cells (plC (placeOf x)).toArray 128 (0, 0)) :: (b3, Obj.cells (pnC x).toArray 63 (0, 0)) :: ((bc, Obj.cells #[.pointer (some ⟨bt, 0, none⟩), .map (some mp)] 70 (0, 0)) :: (mp, om) :: (TH ++ F))) w → Own W0 ((bc, Obj.cells #[.pointer (some ⟨bt, 0, none⟩), .map (some mp)] 70 (0, 0)) :: (mp, om) :: (TH ++ F)) w := fun w hw => hw.sub ((List.sublist_cons_self _ _).trans (List.sublist_cons_self _ _))
  by_cases hN : normalL x.name = (x.name, 0)
  case neg =>
    have he : pinErr ps x = 9 := by unfold pinErr; rw [if_pos hN]
    have fin : ∀ w, PinR rs ps x bc F (.int .i64 9) w ↔ ∃ CH, ChkQ rs ps bc CH ∧ w.Perm (CH ++ F) := fun w => by unfold PinR; rw [he]; simp
    by_cases h2 : (normalL x.name).2 = 0
    · have h1 : ¬ (normalL x.name).1 = x.name := fun h => hN (Prod.ext h h2)
      repeat' first | refine Y.st ?_ | (refine nw ?_; intro _) | refine Y.kn ?_ | fail
      refine GQ.heap ?_ keep
      exact GQ.done1 rfl rfl ((fin _).2 ⟨_, h', .refl _⟩)
    · repeat' first | refine Y.st ?_ | (refine nw ?_; intro _) | refine Y.kn ?_ | fail
      refine GQ.heap ?_ keep
      exact GQ.done1 rfl rfl ((fin _).2 ⟨_, h', .refl _⟩)
  have hN1 : (normalL x.name).1 = x.name := congrArg Prod.fst hN
  have hN2 : (normalL x.name).2 = 0 := congrArg Prod.snd hN
  cases hr : rightC x.cidr with
  | false =>
    have he : pinErr ps x = 1 := by unfold pinErr; rw [if_neg (by simp [hN]), if_pos (.inl hr)]
    have fin : ∀ w, PinR rs ps x bc F (.int .i64 1) w ↔ ∃ CH, ChkQ rs ps bc CH ∧ w.Perm (CH ++ F) := fun w => by unfold PinR; rw [he]; simp
    repeat' first | refine Y.st ?_ | (refine nw ?_; intro _) | refine Y.kn ?_ | fail
    refine G.rd (Rd.pnCidr rfl rfl ha) rfl rfl ?_
    repeat' first | refine Y.st ?_ | (refine nw ?_; intro _) | refine Y.kn ?_ | fail
    refine GQ.heap ?_ keep
    exact GQ.done1 rfl rfl ((fin _).2 ⟨_, h', .refl _⟩)
  | true =>
    by_cases ht : x.till < 0 ∨ 1099511627776 < x.till
    · have he : pinErr ps x = 1 := by unfold pinErr; rw [if_neg (by simp [hN]), if_pos (.inr ht)]
      have fin : ∀ w, PinR rs ps x bc F (.int .i64 1) w ↔ ∃ CH, ChkQ rs ps bc CH ∧ w.Perm (CH ++ F) := fun w => by unfold PinR; rw [he]; simp
      by_cases ht0 : x.till < 0
      · repeat' first | refine Y.st ?_ | (refine nw ?_; intro _) | refine Y.kn ?_ | fail
        refine G.rd (Rd.pnCidr rfl rfl ha) rfl rfl ?_
        repeat' first | refine Y.st ?_ | (refine nw ?_; intro _) | refine Y.kn ?_ | fail
        refine G.rd (Rd.pnTill rfl rfl ha) rfl rfl ?_
        repeat' first | refine Y.st ?_ | (refine nw ?_; intro _) | refine Y.kn ?_ | fail
        refine GQ.heap ?_ keep
        exact GQ.done1 rfl rfl ((fin _).2 ⟨_, h', .refl _⟩)
      · repeat' first | refine Y.st ?_ | (refine nw ?_; intro _) | refine Y.kn ?_ | fail
        refine G.rd (Rd.pnCidr rfl rfl ha) rfl rfl ?_
        repeat' first | refine Y.st ?_ | (refine nw ?_; intro _) | refine Y.kn ?_ | fail
        refine G.rd (Rd.pnTill rfl rfl ha) rfl rfl ?_
        repeat' first | refine Y.st ?_ | (refine nw ?_; intro _) | refine Y.kn ?_ | fail
        refine G.rd (Rd.pnTill rfl rfl ha) rfl rfl ?_
        repeat' first | refine Y.st ?_ | (refine nw ?_; intro _) | refine Y.kn ?_ | fail
        refine GQ.heap ?_ keep
        exact GQ.done1 rfl rfl ((fin _).2 ⟨_, h', .refl _⟩)
    · repeat' first | refine Y.st ?_ | (refine nw ?_; intro _) | refine Y.kn ?_ | fail
      refine G.rd (Rd.pnCidr rfl rfl ha) rfl rfl ?_
      repeat' first | refine Y.st ?_ | (refine nw ?_; intro _) | refine Y.kn ?_ | fail
      refine G.rd (Rd.pnTill rfl rfl ha) rfl rfl ?_
      repeat' first | refine Y.st ?_ | (refine nw ?_; intro _) | refine Y.kn ?_ | fail
      refine G.rd (Rd.pnTill rfl rfl ha) rfl rfl ?_
      repeat' first | refine Y.st ?_ | (refine nw ?_; intro _) | refine Y.kn ?_ | fail
      have hlook : lookV intV (hasP ps) (placeOf x) (.int .i64 0) = .int .i64 (if placeOf x ∈ ps.map placeOf then 1 else 0) := by
        have := hasP_get ps (placeOf x)
        by_cases hm : placeOf x ∈ ps.map placeOf
        · rw [if_pos hm] at this ⊢; simp only [lookV, this]
        · rw [if_neg hm] at this ⊢; simp only [lookV, this]
      refine GC.drawnH [(0, .read), (1, .read), (2, .read), (3, .read), (4, .read), (5, .read), (6, .read), (7, .read)] (by kernel_rfl) (by kernel_rfl) rfl ?_
      repeat' first | refine Y.st ?_ | (refine nw ?_; intro _) | refine Y.kn ?_ | fail
      refine G.rd (Rd.look (key := plV) (a := placeOf x) rfl rfl hM hpl) rfl rfl ?_
      rw [hlook]
      simp only [not_or, Int.not_lt] at ht
      by_cases hm : placeOf x ∈ ps.map placeOf
      · have he : pinErr ps x = 7 := by unfold pinErr; rw [if_neg (by simp [hN]), if_neg (by simp [hr]; omega), if_pos hm]
        have fin : ∀ w, PinR rs ps x bc F (.int .i64 7) w ↔ ∃ CH, ChkQ rs ps bc CH ∧ w.Perm (CH ++ F) := fun w => by unfold PinR; rw [he]; simp
        rw [if_pos hm]
        repeat' first | refine Y.st ?_ | (refine nw ?_; intro _) | refine Y.kn ?_ | fail
        refine GQ.heap ?_ keep
        exact GQ.done1 rfl rfl ((fin _).2 ⟨_, h', .refl _⟩)
      · have he : pinErr ps x = 0 := by unfold pinErr; rw [if_neg (by simp [hN]), if_neg (by simp [hr]; omega), if_neg hm]
        have hg : getK (hasP ps) (placeOf x) = none := by rw [hasP_get, if_neg hm]
        have hhas : putK (hasP ps) (placeOf x) 1 = hasP (ps ++ [x]) := by
          rw [putK_new (by rw [show (hasP ps).map Prod.fst = ps.map placeOf by simp [hasP]]; exact hm)]; simp [hasP]
        rw [if_neg hm]
        repeat' first | refine Y.st ?_ | (refine nw ?_; intro _) | refine Y.kn ?_ | fail
        refine GC.any [9] [(b7, Obj.cells (plC (placeOf x)).toArray 128 (0, 0)), (bc, Obj.cells #[.pointer (some ⟨bt, 0, none⟩), .map (some mp)] 70 (0, 0))] 10 rfl (by kernel_rfl) ?_
        refine GA.read 0 rfl (by kernel_rfl) (by kernel_rfl) (fun w hw => hw.sub SubH.out) (Rd.move rfl) rfl rfl ?_
        refine GA.read 1 rfl (by kernel_rfl) (by kernel_rfl) (fun w hw => hw.sub SubH.out) (Rd.nilCheck rfl) rfl rfl ?_
        refine GA.read 2 rfl (by kernel_rfl) (by kernel_rfl) (fun w hw => hw.sub SubH.out) (Rd.fieldAddr rfl) rfl rfl ?_
        refine GA.read 3 rfl (by kernel_rfl) (by kernel_rfl) (fun w hw => hw.sub SubH.out) (Rd.load rfl (cellN rfl)) rfl rfl ?_
        refine GA.read 4 rfl (by kernel_rfl) (by kernel_rfl) (fun w hw => hw.sub SubH.out) (Rd.loadBlk (cs := plC (placeOf x)) rfl hpc) rfl rfl ?_
        refine GA.two 5 7 (by kernel_rfl) rfl rfl rfl rfl rfl rfl (Eff.rd (Rd.look (key := plV) (a := placeOf x) rfl rfl hM hpl) ⟨fun _ w hw => hw.sub SubH.out, ?_⟩)
          (Eff.mapEntry (key := plV) (val := intV) (a := placeOf x) (0 : Int) rfl rfl rfl hM hpl (fun om' n hM' hst => ⟨fun _ w hw => hw.sub SubH.out, ?_⟩))
        · rw [hlook, if_neg hm]
          refine GA.toG [(6, .read), (7, .eff), (8, .read), (9, .tail)] (by kernel_rfl) rfl ?_
          repeat' first | refine Y.st ?_ | (refine nw ?_; intro _) | refine Y.kn ?_ | fail
          refine G.eeP rfl rfl rfl (Eff.mapEntry (key := plV) (val := intV) (a := placeOf x) (0 : Int) rfl rfl rfl hM hpl (fun om' n hM' hst => ⟨fun w hw => hw.sub SubH.out, ?_⟩))
          repeat' first | refine Y.st ?_ | (refine nw ?_; intro _) | refine Y.kn ?_ | fail
          refine G.ef rfl rfl rfl (Eff.entryStore (key := plV) (val := intV) (a := placeOf x) (v := 0 + 1) rfl rfl rfl hM' hst (fun om2 hM2 => ?_))
          rw [putK_putK, show (0 : Int) + 1 = 1 from rfl, hhas] at hM2
          repeat' first | refine Y.st ?_ | (refine nw ?_; intro _) | refine Y.kn ?_ | fail
          refine GQ.heap (H' := (bc, Obj.cells #[.pointer (some ⟨bt, 0, none⟩), .map (some mp)] 70 (0, 0)) :: (mp, om2) :: (TH ++ F)) ?_ (fun w hw => hw.sub ((List.sublist_cons_self _ _).trans (List.sublist_cons_self _ _)))
          exact GQ.done1 rfl rfl ⟨by rw [he], _, by rw [if_pos he]; exact ⟨bt, mp, om2, TH, rfl, hT, hM2⟩, .refl _⟩
        · rw [hg] at hM' ⊢
          refine GA.toG [(8, .read), (5, .eff), (6, .read), (9, .tail)] (by kernel_rfl) rfl ?_
          repeat' first | refine Y.st ?_ | (refine nw ?_; intro _) | refine Y.kn ?_ | fail
          refine G.eeP rfl rfl rfl (Eff.rd (Rd.look (key := plV) (a := placeOf x) rfl rfl hM' hpl) ⟨fun w hw => hw.sub SubH.out, ?_⟩)
          rw [show lookV intV (putK (hasP ps) (placeOf x) ((none : Option Int).getD 0)) (placeOf x) (.int .i64 0) = .int .i64 0 by simp only [lookV, getK_put_self]; rfl]
          repeat' first | refine Y.st ?_ | (refine nw ?_; intro _) | refine Y.kn ?_ | fail
          refine G.ef rfl rfl rfl (Eff.entryStore (key := plV) (val := intV) (a := placeOf x) (v := 0 + 1) rfl rfl rfl hM' hst (fun om2 hM2 => ?_))
          rw [putK_putK, show (0 : Int) + 1 = 1 from rfl, hhas] at hM2
          repeat' first | refine Y.st ?_ | (refine nw ?_; intro _) | refine Y.kn ?_ | fail
          refine GQ.heap (H' := (bc, Obj.cells #[.pointer (some ⟨bt, 0, none⟩), .map (some mp)] 70 (0, 0)) :: (mp, om2) :: (TH ++ F)) ?_ (fun w hw => hw.sub ((List.sublist_cons_self _ _).trans (List.sublist_cons_self _ _)))
          exact GQ.done1 rfl rfl ⟨by rw [he], _, by rw [if_pos he]; exact ⟨bt, mp, om2, TH, rfl, hT, hM2⟩, .refl _⟩
end
end Go.Pol

namespace Go.Pol
open Go.Own Go.Proofs Go.RowKit Go.Lib Go.Asc Go.Adr Go.Nam Go.Tri Go.Cid
attribute [local irreducible] GC GQ G Rd Eff T
set_option maxRecDepth 20000
set_option maxHeartbeats 4000000
/-- Words, where they lie. -/
def SlS (W0 : World) (F : Heap) (v : Value) (ws : List Lb) : Prop := ∃ p c, v = .slice p ws.length c ∧ ws.length ≤ c ∧ Go.Tri.Lies W0 F p (strs ws)
theorem strs_drop (ws : List Lb) (n : Nat) : (strs ws).drop n = strs (ws.drop n) := by simp [strs, List.map_drop]
theorem SlS.cut {W0 : World} {F : Heap} {p : Option Addr} {c n : Nat} {ws : List Lb} (h : Go.Tri.Lies W0 F p (strs ws)) (hc : ws.length ≤ c) (hn : n ≤ ws.length) : SlS W0 F (.slice (cutA p c n 1) (ws.length - n) (c - n)) (ws.drop n) := by
  refine ⟨_, _, by rw [List.length_drop], by rw [List.length_drop]; omega, ?_⟩
  rcases h with h | ⟨b, o, rfl, hro⟩
  · left
    have : ws = [] := by have := congrArg List.length h; rw [strs_length] at this; exact List.eq_nil_of_length_eq_zero this
    rw [this]; simp [strs]
  · rcases Nat.lt_or_ge n ws.length with hl | hl
    · right
      rw [cutA_off (by omega)]
      refine ⟨b, o + n * 1, rfl, hro.mono fun w hw j u hj => ?_⟩
      rw [Nat.add_assoc]
      refine hw (n * 1 + j) u ?_
      rw [← strs_drop, List.getElem?_drop] at hj
      rw [Nat.mul_one]; exact hj
    · left
      rw [List.drop_eq_nil_of_le hl]; rfl
theorem SlS.cell {W0 : World} {H : Heap} {p : Option Addr} {ws : List Lb} (h : Go.Tri.Lies W0 H p (strs ws)) {k : Nat} (hk : k < ws.length) : ∃ b o, p = some ⟨b, o, none⟩ ∧ ∀ m (hm : m < ws.length), ∀ w, Own W0 H w → w.cell? ⟨b, o + m * 1, none⟩ = some (S ws[m]) := by
  rcases h with h | ⟨b, o, rfl, hro⟩
  · have := congrArg List.length h; rw [strs_length] at this; simp only [List.length_nil] at this; omega
  · refine ⟨b, o, rfl, fun m hm w hw => ?_⟩
    rw [Nat.mul_one]
    exact hro.here hw m _ (by simp [strs, hm])
def sgV : Option Int → Value
  | some n => .tuple #[.int .i64 n, .bool true]
  | none => .tuple #[.int .i64 0, .bool false]
section
variable {W0 : World} {F : Heap}
def minP (l : Lb) : Lb := if l.head? = some 45 then l.tail else l
theorem cutMin_spec (l : Lb) (hl : l.length ≤ 140737488351232) : T Tryz.prog W0 72 #[S l, S [45]] F (fun v H' => v = .tuple #[S (minP l), .bool (decide (l.head? = some 45))] ∧ H' = F) := by
  have hi : ∀ F, T Tryz.prog W0 108 #[S l, S [45]] F (fun v H' => v = .tuple #[S (minP l), .bool (decide (l.head? = some 45))] ∧ H' = F) := fun F => by
    refine T.intro (args := [_, _]) Tryz.func108 rfl Tryz.ntmps108 rfl ?_
    have h1 : [(45 : UInt8)].length = 1 := rfl
    by_cases h : l.head? = some 45
    · obtain ⟨r, rfl⟩ : ∃ r, l = 45 :: r := by cases l with
        | nil => cases h
        | cons a r => simp at h; exact ⟨r, by rw [h]⟩
      have hdec : decide ((45 :: r).take [(45 : UInt8)].length = [45]) = true := by simp
      have hlen : 1 ≤ (45 :: r).length := by simp
      repeat' first | refine Y.st ?_ | (refine nw ?_; intro _) | refine Y.kn ?_ | (refine sp ?_ ?_ <;> intro _) | fail
      exact GQ.pure2 rfl (.tmp rfl) (.tmp rfl) (by rw [decide_eq_true h, minP, if_pos h]; rfl)
    · have hdec : decide (l.take [(45 : UInt8)].length = [45]) = false := by
        rw [decide_eq_false]
        intro h2
        cases l with
        | nil => cases h2
        | cons a r => simp at h2; exact h (by simp [h2])
      repeat' first | refine Y.st ?_ | (refine nw ?_; intro _) | refine Y.kn ?_ | (refine sp ?_ ?_ <;> intro _) | fail
      exact GQ.pure2 rfl (.tmp rfl) (.tmp rfl) (by rw [decide_eq_false h, minP, if_neg h])
  haveI : PureF Tryz.prog W0 108 [S l, S [45]] True (.tuple #[S (minP l), .bool (decide (l.head? = some 45))]) := ⟨fun _ F => hi F⟩
  refine T.intro (args := [_, _]) Tryz.func72 rfl Tryz.ntmps72 rfl ?_
  repeat' first | refine Y.st ?_ | (refine nw ?_; intro _) | refine Y.kn ?_ | (refine sp ?_ ?_ <;> intro _) | fail
  exact GQ.pure2 rfl (.tmp rfl) (.tmp rfl) rfl
instance {l : Lb} : PureF Tryz.prog W0 72 [S l, .string ⟨#[45]⟩] (l.length ≤ 140737488351232) (.tuple #[S (minP l), .bool (decide (l.head? = some 45))]) := ⟨fun h _ => cutMin_spec l h⟩
theorem minP_len (l : Lb) : (minP l).length ≤ l.length := by unfold minP; split <;> simp
theorem signed_spec (l : Lb) (hl : l.length ≤ 140737488351232) : T Tryz.prog W0 118 #[S l] F (fun v H' => v = sgV (signedL l) ∧ H' = F) := by
  have hml := minP_len l
  refine T.intro (args := [_]) Tryz.func118 rfl Tryz.ntmps118 rfl ?_
  by_cases h : l.head? = some 45
  · have hm : minP l = l.tail := by rw [minP, if_pos h]
    repeat' first | refine Y.st ?_ | (refine nw ?_; intro _) | refine Y.kn ?_ | fail
    rw [hm]
    cases hn : number l.tail 1000 with
    | none =>
      repeat' first | refine Y.st ?_ | (refine nw ?_; intro _) | refine Y.kn ?_ | fail
      refine G.rd (Rd.neg rfl (by rfl)) rfl rfl ?_
      repeat' first | refine Y.st ?_ | (refine nw ?_; intro _) | refine Y.kn ?_ | fail
      exact GQ.pure2 rfl (.tmp rfl) (.tmp rfl) (by rw [signedL, if_pos h, hn]; rfl)
    | some n =>
      have hnl := number_le hn
      repeat' first | refine Y.st ?_ | (refine nw ?_; intro _) | refine Y.kn ?_ | fail
      refine G.rd (Rd.neg rfl (IntWalk.i64_in _ (by omega))) rfl rfl ?_
      repeat' first | refine Y.st ?_ | (refine nw ?_; intro _) | refine Y.kn ?_ | fail
      exact GQ.pure2 rfl (.tmp rfl) (.tmp rfl) (by rw [signedL, if_pos h, hn]; simp [sgV])
  · have hm : minP l = l := by rw [minP, if_neg h]
    repeat' first | refine Y.st ?_ | (refine nw ?_; intro _) | refine Y.kn ?_ | fail
    rw [hm]
    cases hn : number l 1000 with
    | none =>
      repeat' first | refine Y.st ?_ | (refine nw ?_; intro _) | refine Y.kn ?_ | fail
      exact GQ.pure2 rfl (.tmp rfl) (.tmp rfl) (by rw [signedL, if_neg h, hn]; rfl)
    | some n =>
      repeat' first | refine Y.st ?_ | (refine nw ?_; intro _) | refine Y.kn ?_ | fail
      exact GQ.pure2 rfl (.tmp rfl) (.tmp rfl) (by rw [signedL, if_neg h, hn]; rfl)
instance {l : Lb} : PureF Tryz.prog W0 118 [S l] (l.length ≤ 140737488351232) (sgV (signedL l)) := ⟨fun h _ => signed_spec l h⟩
/-- What take leaves. -/
def TakeR (W0 : World) (F : Heap) (b : Nat) (u : Value) (ws : List Lb) (key : Lb) : Value → Heap → Prop := fun v H' => match takeL ws key with
  | some (w, r) => v = .tuple #[S w, .bool true] ∧ ∃ u', (∀ F0, SlS W0 F0 u ws → SlS W0 F0 u' r) ∧ H' = (b, .cells #[u'] 76 (0, 0)) :: F
  | none => v = .tuple #[S [], .bool false] ∧ H' = (b, .cells #[u] 76 (0, 0)) :: F
theorem take_spec (b : Nat) (u : Value) (ws : List Lb) (key : Lb) (hu : SlS W0 F u ws) (hl : ws.length ≤ 1000000) : T Tryz.prog W0 119 #[.pointer (some ⟨b, 0, none⟩), S key] ((b, .cells #[u] 76 (0, 0)) :: F) (TakeR W0 F b u ws key) := by
  obtain ⟨p, c, rfl, hc, hat⟩ := hu
  have hatH : Go.Tri.Lies W0 ((b, .cells #[.slice p ws.length c] 76 (0, 0)) :: F) p (strs ws) := hat.cons _
  refine T.intro (args := [_, _]) Tryz.func119 rfl Tryz.ntmps119 rfl ?_
  by_cases h2 : ws.length < 2
  · have ht : takeL ws key = none := by
      match ws, h2 with
      | [], _ => rfl
      | [_], _ => rfl
    repeat' first | refine Y.st ?_ | (refine nw ?_; intro _) | refine Y.kn ?_ | fail
    exact GQ.done2 rfl rfl rfl (by unfold TakeR; rw [ht]; exact ⟨rfl, rfl⟩)
  · obtain ⟨k0, w0, r0, hws⟩ : ∃ k0 w0 r0, ws = k0 :: w0 :: r0 := by
      match ws, h2 with
      | [], h => simp at h
      | [_], h => simp at h
      | a :: b :: r, _ => exact ⟨a, b, r, rfl⟩
    obtain ⟨ab, ao, rfl, hcell⟩ := SlS.cell hatH (k := 0) (by omega)
    have h0 := hcell 0 (by omega)
    have h1 := hcell 1 (by omega)
    have e0 : ws[0]'(by omega) = k0 := by simp [hws]
    have e1 : ws[1]'(by omega) = w0 := by simp [hws]
    rw [e0] at h0
    rw [e1] at h1
    by_cases hk : k0 = key
    · have ht : takeL ws key = some (w0, r0) := by rw [hws]; simp [takeL, hk]
      repeat' first | refine Y.st ?_ | (refine nw ?_; intro _) | refine Y.kn ?_ | fail
      refine G.rd (Rd.slL (l := 2) rfl rfl rfl (by omega) hc) rfl rfl ?_
      repeat' first | refine Y.st ?_ | (refine nw ?_; intro _) | refine Y.kn ?_ | fail
      refine GQ.done2 rfl rfl rfl (by
        unfold TakeR; rw [ht]
        refine ⟨rfl, _, fun F0 h0 => ?_, rfl⟩
        obtain ⟨p', c', e1, hc', hat'⟩ := h0
        obtain ⟨rfl, rfl⟩ : some (⟨ab, ao, none⟩ : Addr) = p' ∧ c = c' := by simpa using e1
        have := SlS.cut (n := 2) hat' hc' (by omega)
        rw [show ws.drop 2 = r0 by rw [hws]; rfl] at this
        exact this)
    · have ht : takeL ws key = none := by rw [hws]; simp [takeL, hk]
      repeat' first | refine Y.st ?_ | (refine nw ?_; intro _) | refine Y.kn ?_ | fail
      exact GQ.done2 rfl rfl rfl (by unfold TakeR; rw [ht]; exact ⟨rfl, rfl⟩)
end
end Go.Pol

namespace Go.Pol
open Go.Own Go.Proofs Go.RowKit Go.Lib Go.Asc Go.Adr Go.Nam Go.Tri Go.Cid
attribute [local irreducible] GC GQ G Rd Eff T
set_option maxRecDepth 20000
set_option maxHeartbeats 4000000
/-- The reader, among what is owned. -/
structure RdAt (p : Pol) (bc : Nat) (rv pv : Value) (CH Br Bp : Heap) : Prop where
  chk : ChkQ p.rules p.pins bc CH
  rules : Buf 61 5 rv p.rules.length (p.rules.flatMap ruC) Br
  pins : Buf 63 19 pv p.pins.length (p.pins.flatMap pnC) Bp
  rlen : p.rules.length ≤ 200
  plen : p.pins.length ≤ 200
abbrev rdC (bc : Nat) (p : Pol) (rv pv : Value) : Array Value := #[.pointer (some ⟨bc, 0, none⟩), .bool p.allow, rv, pv]
def RdrQ (p : Pol) (br : Nat) (RH : Heap) : Prop := ∃ bc rv pv CH Br Bp, RdAt p bc rv pv CH Br Bp ∧ RH = (br, .cells (rdC bc p rv pv) 75 (0, 0)) :: (CH ++ (Br ++ Bp))
/-- What reading a line leaves. -/
def ResR (o : Pol × Int) (br : Nat) (F : Heap) : Value → Heap → Prop := fun v H' => v = .int .i64 o.2 ∧ (o.2 = 0 → ∃ RH, RdrQ o.1 br RH ∧ H'.Perm (RH ++ F)) ∧ (∃ X, H'.Perm (X ++ F))
def ruleOut (p : Pol) (ws : List Lb) : Pol × Int := match ruleL ws with
  | some x => ({ p with rules := p.rules ++ [x] }, (addL p.rules x).2)
  | none => (p, 3)
def pinOut (p : Pol) (ws : List Lb) : Pol × Int := match pinL ws with
  | some x => if p.pins.length = 200 then (p, 2) else ({ p with pins := p.pins ++ [x] }, pinErr p.pins x)
  | none => (p, 3)
def presetOut (p : Pol) (ws : List Lb) : Pol × Int := match ws with
  | [_, w1] => if w1 = kAllow then ({ p with allow := true }, 0) else if w1 = kDeny then ({ p with allow := false }, 0) else (p, 3)
  | _ => (p, 3)
theorem ResR.bad {p : Pol} {br : Nat} {F X : Heap} {n : Int} (h : n ≠ 0) : ResR (p, n) br F (.int .i64 n) (X ++ F) := ⟨rfl, fun h0 => absurd h0 h, X, .refl _⟩
section
variable {W0 : World} {F : Heap}
theorem preset_spec {p : Pol} {br : Nat} {RH : Heap} (h : RdrQ p br RH) (ws : List Lb) (v : Value) (hws : SlS W0 F v ws) :
    T Tryz.prog W0 80 #[.pointer (some ⟨br, 0, none⟩), v] (RH ++ F) (ResR (presetOut p ws) br F) := by
  obtain ⟨bc, rv, pv, CH, Br, Bp, ha, rfl⟩ := h
  obtain ⟨pp, c, rfl, hc, hat⟩ := hws
  have hatH : Go.Tri.Lies W0 ((br, .cells (rdC bc p rv pv) 75 (0, 0)) :: (CH ++ (Br ++ Bp)) ++ F) pp (strs ws) := hat.app _
  refine T.intro (args := [_, _]) Tryz.func80 rfl Tryz.ntmps80 rfl ?_
  by_cases h2 : ws.length = 2
  · obtain ⟨w0, w1, rfl⟩ : ∃ w0 w1, ws = [w0, w1] := by
      match ws, h2 with
      | [a, b], _ => exact ⟨a, b, rfl⟩
    obtain ⟨ab, ao, rfl, hcell⟩ := SlS.cell hatH (k := 0) (by omega)
    have h1 := hcell 1 (by omega)
    have e1 : [w0, w1][1]'(by omega) = w1 := rfl
    rw [e1] at h1
    by_cases hA : w1 = kAllow
    · have ho : presetOut p [w0, w1] = ({ p with allow := true }, 0) := by simp [presetOut, hA]
      have hA' : w1 = [97, 108, 108, 111, 119] := hA
      repeat' first | refine Y.st ?_ | (refine nw ?_; intro _) | refine Y.kn ?_ | fail
      refine GQ.heap (H' := (br, .cells (rdC bc { p with allow := true } rv pv) 75 (0, 0)) :: (CH ++ (Br ++ Bp)) ++ F) ?_ (fun _ h => h)
      exact GQ.done1 rfl rfl (by rw [ho]; exact ⟨rfl, fun _ => ⟨_, ⟨bc, rv, pv, CH, Br, Bp, ⟨ha.chk, ha.rules, ha.pins, ha.rlen, ha.plen⟩, rfl⟩, .refl _⟩, _, .refl _⟩)
    · have hA' : ¬ w1 = [97, 108, 108, 111, 119] := hA
      by_cases hD : w1 = kDeny
      · have ho : presetOut p [w0, w1] = ({ p with allow := false }, 0) := by simp only [presetOut]; rw [if_neg hA, if_pos hD]
        have hD' : w1 = [100, 101, 110, 121] := hD
        repeat' first | refine Y.st ?_ | (refine nw ?_; intro _) | refine Y.kn ?_ | fail
        refine GQ.heap (H' := (br, .cells (rdC bc { p with allow := false } rv pv) 75 (0, 0)) :: (CH ++ (Br ++ Bp)) ++ F) ?_ (fun _ h => h)
        exact GQ.done1 rfl rfl (by rw [ho]; exact ⟨rfl, fun _ => ⟨_, ⟨bc, rv, pv, CH, Br, Bp, ⟨ha.chk, ha.rules, ha.pins, ha.rlen, ha.plen⟩, rfl⟩, .refl _⟩, _, .refl _⟩)
      · have ho : presetOut p [w0, w1] = (p, 3) := by simp [presetOut, hA, hD]
        have hD' : ¬ w1 = [100, 101, 110, 121] := hD
        repeat' first | refine Y.st ?_ | (refine nw ?_; intro _) | refine Y.kn ?_ | fail
        exact GQ.done1 rfl rfl (by rw [ho]; exact ResR.bad (by omega))
  · have ho : presetOut p ws = (p, 3) := by
      match ws, h2 with
      | [], _ => rfl
      | [_], _ => rfl
      | [_, _], h => simp at h
      | _ :: _ :: _ :: _, _ => rfl
    repeat' first | refine Y.st ?_ | (refine nw ?_; intro _) | refine Y.kn ?_ | fail
    exact GQ.done1 rfl rfl (by rw [ho]; exact ResR.bad (by omega))
theorem takeL_mem {l : List Lb} {k w : Lb} {r : List Lb} (h : takeL l k = some (w, r)) : w ∈ l ∧ (∀ x ∈ r, x ∈ l) ∧ r.length ≤ l.length := by
  unfold takeL at h
  split at h
  · split at h
    · cases h
      exact ⟨by simp, fun x hx => by simp [hx], by simp; omega⟩
    · cases h
  · cases h
theorem sg_cases (w : Lb) : ∃ n ok, sgV (signedL w) = .tuple #[.int .i64 n, .bool ok] ∧ ((ok = true ∧ signedL w = some n) ∨ (ok = false ∧ signedL w = none)) ∧ -1000 ≤ n ∧ n ≤ 1000 := by
  cases h : signedL w with
  | none => exact ⟨0, false, rfl, .inr ⟨rfl, rfl⟩, by omega, by omega⟩
  | some n =>
    refine ⟨n, true, rfl, .inl ⟨rfl, rfl⟩, ?_⟩
    unfold signedL at h
    split at h
    · cases hq : number w.tail 1000 with
      | none => rw [hq] at h; cases h
      | some m => rw [hq] at h; have := number_le hq; simp at h; omega
    · cases hq : number w 1000 with
      | none => rw [hq] at h; cases h
      | some m => rw [hq] at h; have := number_le hq; simp at h; omega
theorem ok_cases (w : Lb) (most : Int) (hm : 0 ≤ most) : ∃ (m : Nat) (ok : Bool), okV (number w most) = .tuple #[.int .i64 (m : Int), .bool ok] ∧ ((ok = true ∧ number w most = some m) ∨ (ok = false ∧ number w most = none)) ∧ (m : Int) ≤ most := by
  cases h : number w most with
  | none => exact ⟨0, false, rfl, .inr ⟨rfl, rfl⟩, by omega⟩
  | some n => exact ⟨n, true, rfl, .inl ⟨rfl, rfl⟩, number_le h⟩
/-- Where a rule's first words are read. -/
structure RuSt (ws rest : List Lb) (w1 : Lb) (W0 : World) (F : Heap) (ok : Bool) (n port : Int) (u : Value) (r1 : List Lb) : Prop where
  good : ok = true → signedL w1 = some n ∧ numBeh rest kPort 65535 = some (port, r1)
  bad : ok = false → signedL w1 = none ∨ numBeh rest kPort 65535 = none
  row : SlS W0 F u r1
  mem : ∀ x ∈ r1, x ∈ ws
  len : r1.length ≤ ws.length
  n1 : -1000 ≤ n
  n2 : n ≤ 1000
  q1 : 0 ≤ port
  q2 : port ≤ 65535
theorem SlS.app {W0 : World} {F : Heap} {v : Value} {ws : List Lb} (h : SlS W0 F v ws) (B : Heap) : SlS W0 (B ++ F) v ws := by
  obtain ⟨p, c, h1, h2, h3⟩ := h
  exact ⟨p, c, h1, h2, h3.app B⟩
theorem SlS.cons {W0 : World} {F : Heap} {v : Value} {ws : List Lb} (h : SlS W0 F v ws) (x : Nat × Obj) : SlS W0 (x :: F) v ws := by
  obtain ⟨p, c, h1, h2, h3⟩ := h
  exact ⟨p, c, h1, h2, h3.cons x⟩
theorem rdr_open {p : Pol} {br : Nat} {RH : Heap} (h : RdrQ p br RH) (F : Heap) : ∃ bc rv pv bt mp om TH Br Bp, TrieQ p.rules bt TH ∧ MapIs (isK Tryz.prog 128) plV intV (hasP p.pins) om ∧ Buf 61 5 rv p.rules.length (p.rules.flatMap ruC) Br ∧ Buf 63 19 pv p.pins.length (p.pins.flatMap pnC) Bp ∧ p.rules.length ≤ 200 ∧ p.pins.length ≤ 200 ∧
    RH ++ F = ((br, .cells (rdC bc p rv pv) 75 (0, 0)) :: ((bc, .cells #[.pointer (some ⟨bt, 0, none⟩), .map (some mp)] 70 (0, 0)) :: (mp, om) :: (TH ++ (Br ++ (Bp ++ F))))) := by
  obtain ⟨bc, rv, pv, CH, Br, Bp, ha, rfl⟩ := h
  obtain ⟨bt, mp, om, TH, rfl, hT, hM⟩ := ha.chk
  exact ⟨bc, rv, pv, bt, mp, om, TH, Br, Bp, hT, hM, ha.rules, ha.pins, ha.rlen, ha.plen, by simp⟩
theorem rdr_close {p : Pol} {br bc bt mp : Nat} {rv pv : Value} {om : Obj} {TH Br Bp : Heap} (hT : TrieQ p.rules bt TH) (hM : MapIs (isK Tryz.prog 128) plV intV (hasP p.pins) om) (hr : Buf 61 5 rv p.rules.length (p.rules.flatMap ruC) Br) (hp : Buf 63 19 pv p.pins.length (p.pins.flatMap pnC) Bp) (h1 : p.rules.length ≤ 200) (h2 : p.pins.length ≤ 200) (F : Heap) :
    ∃ RH, RdrQ p br RH ∧ ((br, .cells (rdC bc p rv pv) 75 (0, 0)) :: ((bc, .cells #[.pointer (some ⟨bt, 0, none⟩), .map (some mp)] 70 (0, 0)) :: (mp, om) :: (TH ++ (Br ++ (Bp ++ F))))).Perm (RH ++ F) :=
  ⟨_, ⟨bc, rv, pv, _, Br, Bp, ⟨⟨bt, mp, om, TH, rfl, hT, hM⟩, hr, hp, h1, h2⟩, rfl⟩, by simp⟩
theorem rule_spec (hv : Vars W0) {p : Pol} {br : Nat} {RH : Heap} (h : RdrQ p br RH) (ws : List Lb) (v : Value) (hws : SlS W0 F v ws) (hl : ws.length ≤ 1000000) (hw : ∀ w ∈ ws, w.length ≤ 1000000) :
    T Tryz.prog W0 81 #[.pointer (some ⟨br, 0, none⟩), v] (RH ++ F) (ResR (ruleOut p ws) br F) := by
  obtain ⟨bc, rv, pv, bt, mp, om, TH, Br, Bp, hT, hM, hr, hp, hrl, hpl, hRH⟩ := rdr_open h F
  rw [hRH]
  obtain ⟨pp, c, rfl, hc, hat⟩ := hws
  have hatF : Go.Tri.Lies W0 ((br, .cells (rdC bc p rv pv) 75 (0, 0)) :: ((bc, .cells #[.pointer (some ⟨bt, 0, none⟩), .map (some mp)] 70 (0, 0)) :: (mp, om) :: (TH ++ (Br ++ (Bp ++ F))))) pp (strs ws) := by
    have := (((hat.app Bp).app Br).app TH)
    exact ((this.cons _).cons _).cons _
  have bad : ∀ X : Heap, (X ++ F).Perm (X ++ F) := fun X => .refl _
  have fall : ruleL ws = none → ∀ H', (∃ X, H'.Perm (X ++ F)) → ResR (ruleOut p ws) br F (.int .i64 3) H' := fun h0 H' hx => by
    have : ruleOut p ws = (p, 3) := by rw [ruleOut, h0]
    rw [this]; exact ⟨rfl, fun h => by simp at h, hx⟩
  have anyX : ∀ A : Heap, ∃ X, (A ++ ((br, .cells (rdC bc p rv pv) 75 (0, 0)) :: ((bc, .cells #[.pointer (some ⟨bt, 0, none⟩), .map (some mp)] 70 (0, 0)) :: (mp, om) :: (TH ++ (Br ++ (Bp ++ F)))))).Perm (X ++ F) := fun A => ⟨A ++ ((br, .cells (rdC bc p rv pv) 75 (0, 0)) :: ((bc, .cells #[.pointer (some ⟨bt, 0, none⟩), .map (some mp)] 70 (0, 0)) :: (mp, om) :: (TH ++ (Br ++ Bp)))), by simp⟩
  refine T.intro (args := [_, _]) Tryz.func81 rfl Tryz.ntmps81 rfl ?_
  by_cases h3 : ws.length < 3
  · have ho : ruleL ws = none := by
      match ws, h3 with
      | [], _ => rfl
      | [_], _ => rfl
      | [_, _], _ => rfl
      | _ :: _ :: _ :: _, h => simp at h; omega
    repeat' first | refine Y.st ?_ | (refine nw ?_; intro _) | refine Y.kn ?_ | fail
    exact GQ.done1 rfl rfl (fall ho _ (anyX []))
  obtain ⟨w0, w1, w2, rest, hwsE⟩ : ∃ w0 w1 w2 rest, ws = w0 :: w1 :: w2 :: rest := by
    match ws, h3 with
    | [], h => simp at h
    | [_], h => simp at h
    | [_, _], h => simp at h
    | a :: b :: c :: r, _ => exact ⟨a, b, c, r, rfl⟩
  have hlen : ws.length = rest.length + 3 := by rw [hwsE]; rfl
  obtain ⟨ab, ao, rfl, hcell⟩ := SlS.cell hatF (k := 0) (by omega)
  have hl1 := hw w1 (by simp [hwsE])
  have hl2 := hw w2 (by simp [hwsE])
  have c0 : ∀ w, Own W0 ((br, .cells (rdC bc p rv pv) 75 (0, 0)) :: ((bc, .cells #[.pointer (some ⟨bt, 0, none⟩), .map (some mp)] 70 (0, 0)) :: (mp, om) :: (TH ++ (Br ++ (Bp ++ F))))) w → w.cell? ⟨ab, ao + 0 * 1, none⟩ = some (S w0) := fun w hw => by have := hcell 0 (by omega) w hw; simpa [hwsE] using this
  have c1 : ∀ x w, Own W0 (x :: ((br, .cells (rdC bc p rv pv) 75 (0, 0)) :: ((bc, .cells #[.pointer (some ⟨bt, 0, none⟩), .map (some mp)] 70 (0, 0)) :: (mp, om) :: (TH ++ (Br ++ (Bp ++ F)))))) w → w.cell? ⟨ab, ao + 1 * 1, none⟩ = some (S w1) := fun x w hw => by have := hcell 1 (by omega) w (hw.sub (List.sublist_cons_self _ _)); simpa [hwsE] using this
  have c2 : ∀ w, Own W0 ((br, .cells (rdC bc p rv pv) 75 (0, 0)) :: ((bc, .cells #[.pointer (some ⟨bt, 0, none⟩), .map (some mp)] 70 (0, 0)) :: (mp, om) :: (TH ++ (Br ++ (Bp ++ F))))) w → w.cell? ⟨ab, ao + 2 * 1, none⟩ = some (S w2) := fun w hw => by have := hcell 2 (by omega) w hw; simpa [hwsE] using this
  repeat' first | refine Y.st ?_ | (refine nw ?_; intro _) | refine Y.kn ?_ | fail
  refine GC.drawnH [(0, .read), (1, .read), (2, .read), (3, .read), (4, .read), (5, .read), (6, .read), (7, .read), (8, .eff), (9, .tail)] (by kernel_rfl) (by kernel_rfl) rfl ?_
  repeat' first | refine Y.st ?_ | (refine nw ?_; intro _) | refine Y.kn ?_ | fail
  refine G.rd (Rd.build (cells := ruA ⟨decide (w0 = kAllow), 0, w2, 0, []⟩) rfl (by rfl)) rfl rfl ?_
  refine G.eeP rfl rfl rfl (Eff.allocAA (fun b5 => ⟨fun w hw => hw.sub (List.sublist_cons_self _ _), ?_⟩))
  refine G.ef rfl rfl rfl (Eff.storeLit rfl rfl (by rfl) (by rfl) (by rfl) ?_)
  have c1' := c1 (b5, .cells (ruA ⟨decide (w0 = kAllow), 0, w2, 0, []⟩) 61 (0, 0))
  repeat' first | refine Y.st ?_ | (refine nw ?_; intro _) | refine Y.kn ?_ | fail
  obtain ⟨n, ok, hsg, hok, hn1, hn2⟩ := sg_cases w1
  rw [hsg]
  repeat' first | refine Y.st ?_ | (refine nw ?_; intro _) | refine Y.kn ?_ | fail
  refine G.rd (Rd.slL (l := 3) rfl rfl rfl (by omega) hc) rfl rfl ?_
  refine G.ef rfl rfl rfl (Eff.alloc1 rfl (fun b8 => ?_))
  refine G.ef rfl rfl rfl (Eff.store rfl rfl rfl (by simp) (by simp [Fz]) ?_)
  refine G.heap (H' := (b8, .cells #[.slice (cutA (some ⟨ab, ao, none⟩) c 3 1) (ws.length - 3) (c - 3)] 76 (0, 0)) :: (b5, .cells (ruA ⟨decide (w0 = kAllow), n, w2, 0, []⟩) 61 (0, 0)) :: ((br, .cells (rdC bc p rv pv) 75 (0, 0)) :: ((bc, .cells #[.pointer (some ⟨bt, 0, none⟩), .map (some mp)] 70 (0, 0)) :: (mp, om) :: (TH ++ (Br ++ (Bp ++ F)))))) ?_ (fun _ h => h)
  have hrow : SlS W0 F (.slice (cutA (some ⟨ab, ao, none⟩) c 3 1) (ws.length - 3) (c - 3)) rest := by
    have := SlS.cut (n := 3) hat hc (by omega)
    rw [show ws.drop 3 = rest by rw [hwsE]; rfl] at this
    exact this
  have lift : ∀ (A : Heap) (u : Value) (r : List Lb), SlS W0 F u r → SlS W0 (A ++ ((br, .cells (rdC bc p rv pv) 75 (0, 0)) :: ((bc, .cells #[.pointer (some ⟨bt, 0, none⟩), .map (some mp)] 70 (0, 0)) :: (mp, om) :: (TH ++ (Br ++ (Bp ++ F)))))) u r := fun A u r h => ((((((h.app Bp).app Br).app TH).cons _).cons _).cons _).app A
  have hrest : ws.length - 3 = rest.length := by omega
  rw [hrest] at hrow ⊢
  have hrmem : ∀ x ∈ rest, x ∈ ws := fun x hx => by rw [hwsE]; simp [hx]
  iterate 2 refine Y.one ?_
  refine GC.cutE (ι := { q : Bool × Int × Value × List Lb // RuSt ws rest w1 W0 F q.1 n q.2.1 q.2.2.1 q.2.2.2 }) (fun q => [(7, .bool q.1.1)]) [(0, .pointer (some ⟨br, 0, none⟩)), (5, .pointer (some ⟨b5, 0, none⟩)), (8, .pointer (some ⟨b8, 0, none⟩))]
    (fun q => (b8, .cells #[q.1.2.2.1] 76 (0, 0)) :: (b5, .cells (ruA ⟨decide (w0 = kAllow), n, w2, q.1.2.1, []⟩) 61 (0, 0)) :: ((br, .cells (rdC bc p rv pv) 75 (0, 0)) :: ((bc, .cells #[.pointer (some ⟨bt, 0, none⟩), .map (some mp)] 70 (0, 0)) :: (mp, om) :: (TH ++ (Br ++ (Bp ++ F)))))) ?_ ?_
  · repeat' first | refine Y.st ?_ | (refine nw ?_; intro _) | refine Y.kn ?_ | fail
    refine G.ef rfl rfl rfl (Eff.callF rfl ((take_spec b8 _ rest kPort (lift [(b5, .cells (ruA ⟨decide (w0 = kAllow), n, w2, 0, []⟩) 61 (0, 0))] _ _ hrow) (by omega)).mono ?_))
    intro v H' htk
    unfold TakeR at htk
    cases ht : takeL rest kPort with
    | none =>
      rw [ht] at htk
      obtain ⟨rfl, rfl⟩ := htk
      have hnb : numBeh rest kPort 65535 = some (0, rest) := by rw [numBeh, ht]
      repeat' first | refine Y.st ?_ | (refine nw ?_; intro _) | refine Y.kn ?_ | fail
      have hst : RuSt ws rest w1 W0 F ok n 0 (.slice (cutA (some ⟨ab, ao, none⟩) c 3 1) rest.length (c - 3)) rest := by
        refine ⟨fun h => ?_, fun h => ?_, hrow, hrmem, by omega, hn1, hn2, by omega, by omega⟩
        · rcases hok with ⟨_, h1⟩ | ⟨h1, _⟩
          · exact ⟨h1, hnb⟩
          · rw [h1] at h; cases h
        · rcases hok with ⟨h1, _⟩ | ⟨_, h1⟩
          · rw [h1] at h; cases h
          · exact .inl h1
      exact GQ.cutEnd ⟨(ok, 0, _, rest), hst⟩ ⟨rfl, rfl, rfl, rfl, trivial⟩ (fun _ h => h)
    | some pr =>
      obtain ⟨wp, rp⟩ := pr
      rw [ht] at htk
      obtain ⟨rfl, u', hu', rfl⟩ := htk
      have hmem := takeL_mem ht
      have hwl := hw wp (hrmem wp hmem.1)
      obtain ⟨m, okp, hnv, hnok, hmle⟩ := ok_cases wp 65535 (by omega)
      have hrp := hu' F hrow
      have hrl2 := hmem.2.2
      have hrpm : ∀ x ∈ rp, x ∈ ws := fun x hx => hrmem x (hmem.2.1 x hx)
      repeat' first | refine Y.st ?_ | (refine nw ?_; intro _) | refine Y.kn ?_ | fail
      rw [hnv]
      cases ok with
      | false =>
        have hst : RuSt ws rest w1 W0 F false n (m : Int) u' rp := ⟨fun h => (by cases h), fun _ => .inl (hok.elim (fun h => by cases h.1) (fun h => h.2)), hrp, hrpm, by omega, hn1, hn2, by omega, by omega⟩
        repeat' first | refine Y.st ?_ | (refine nw ?_; intro _) | refine Y.kn ?_ | fail
        exact GQ.cutEnd ⟨(false, (m : Int), u', rp), hst⟩ ⟨rfl, rfl, rfl, rfl, trivial⟩ (fun _ h => h)
      | true =>
        have hsl : signedL w1 = some n := hok.elim (fun h => h.2) (fun h => by cases h.1)
        cases okp with
        | false =>
          have hnn : number wp 65535 = none := hnok.elim (fun h => by cases h.1) (fun h => h.2)
          have hst : RuSt ws rest w1 W0 F false n (m : Int) u' rp := ⟨fun h => (by cases h), fun _ => .inr (by rw [numBeh, ht]; simp [hnn]), hrp, hrpm, by omega, hn1, hn2, by omega, by omega⟩
          repeat' first | refine Y.st ?_ | (refine nw ?_; intro _) | refine Y.kn ?_ | fail
          exact GQ.cutEnd ⟨(false, (m : Int), u', rp), hst⟩ ⟨rfl, rfl, rfl, rfl, trivial⟩ (fun _ h => h)
        | true =>
          have hnn : number wp 65535 = some m := hnok.elim (fun h => h.2) (fun h => by cases h.1)
          have hst : RuSt ws rest w1 W0 F true n (m : Int) u' rp := ⟨fun _ => ⟨hsl, by rw [numBeh, ht]; simp [hnn]⟩, fun h => (by cases h), hrp, hrpm, by omega, hn1, hn2, by omega, by omega⟩
          repeat' first | refine Y.st ?_ | (refine nw ?_; intro _) | refine Y.kn ?_ | fail
          exact GQ.cutEnd ⟨(true, (m : Int), u', rp), hst⟩ ⟨rfl, rfl, rfl, rfl, trivial⟩ (fun _ h => h)
  · rintro ⟨⟨okq, port, u, r1⟩, hq⟩
    dsimp only [List.cons_append, List.nil_append] at hq ⊢
    have hq5 := hq.len
    refine GC.cutE (ι := { q : Value × List Lb × Lb // SlS W0 F q.1 q.2.1 ∧ q.2.2.length ≤ 1000000 ∧ (takeL r1 kAlpn = some (q.2.2, q.2.1) ∨ (takeL r1 kAlpn = none ∧ q.2.2 = [] ∧ q.2.1 = r1)) }) (fun _ => []) [(0, .pointer (some ⟨br, 0, none⟩)), (5, .pointer (some ⟨b5, 0, none⟩)), (7, .bool okq), (8, .pointer (some ⟨b8, 0, none⟩))]
      (fun q => (b8, .cells #[q.1.1] 76 (0, 0)) :: (b5, .cells (ruA ⟨decide (w0 = kAllow), n, w2, port, q.1.2.2⟩) 61 (0, 0)) :: ((br, .cells (rdC bc p rv pv) 75 (0, 0)) :: ((bc, .cells #[.pointer (some ⟨bt, 0, none⟩), .map (some mp)] 70 (0, 0)) :: (mp, om) :: (TH ++ (Br ++ (Bp ++ F)))))) ?_ ?_
    · repeat' first | refine Y.st ?_ | (refine nw ?_; intro _) | refine Y.kn ?_ | fail
      refine G.ef rfl rfl rfl (Eff.callF rfl ((take_spec b8 u r1 kAlpn (lift [(b5, .cells (ruA ⟨decide (w0 = kAllow), n, w2, port, []⟩) 61 (0, 0))] _ _ hq.row) (by omega)).mono ?_))
      intro v H' htk
      unfold TakeR at htk
      cases ht : takeL r1 kAlpn with
      | none =>
        rw [ht] at htk
        obtain ⟨rfl, rfl⟩ := htk
        repeat' first | refine Y.st ?_ | (refine nw ?_; intro _) | refine Y.kn ?_ | fail
        exact GQ.cutEnd ⟨(u, r1, []), hq.row, Nat.zero_le _, .inr ⟨(by first | exact ht | rfl), rfl, rfl⟩⟩ ⟨rfl, rfl, rfl, rfl, trivial⟩ (fun _ h => h)
      | some pr =>
        obtain ⟨w4, r2⟩ := pr
        rw [ht] at htk
        obtain ⟨rfl, u', hu', rfl⟩ := htk
        have h4 := hw w4 (hq.mem _ (takeL_mem ht).1)
        repeat' first | refine Y.st ?_ | (refine nw ?_; intro _) | refine Y.kn ?_ | fail
        exact GQ.cutEnd ⟨(u', r2, w4), hu' F hq.row, h4, .inl (by first | exact ht | rfl)⟩ ⟨rfl, rfl, rfl, rfl, trivial⟩ (fun _ h => h)
    · rintro ⟨⟨u2, r2, w4⟩, hrow2, hw4, htk⟩
      dsimp only [List.cons_append, List.nil_append] at hrow2 hw4 htk ⊢
      obtain ⟨p2, c2, rfl, hc2, hat2⟩ := hrow2
      cases okq with
      | false =>
        have ho : ruleL ws = none := by
          rw [hwsE]
          simp only [ruleL]
          rcases hq.bad rfl with h | h
          · rw [h]
          · rw [h]; cases signedL w1 <;> rfl
        repeat' first | refine Y.st ?_ | (refine nw ?_; intro _) | refine Y.kn ?_ | fail
        exact GQ.done1 rfl rfl (fall ho _ (anyX [_, _]))
      | true =>
        obtain ⟨g1, g2⟩ := hq.good rfl
        by_cases hne : r2 = []
        · subst hne
          have ho : ruleL ws = some ⟨decide (w0 = kAllow), n, w2, port, w4⟩ := by
            rw [hwsE]
            simp only [ruleL, g1, g2]
            rcases htk with h | ⟨h, rfl, rfl⟩
            · rw [h]; rfl
            · rw [h]; rfl
          have hout : ruleOut p ws = ({ p with rules := p.rules ++ [⟨decide (w0 = kAllow), n, w2, port, w4⟩] }, (addL p.rules ⟨decide (w0 = kAllow), n, w2, port, w4⟩).2) := by rw [ruleOut, ho]
          have hsz : Sized ⟨decide (w0 = kAllow), n, w2, port, w4⟩ := ⟨wf_small (n := n) (by have := hq.n1; omega) (by have := hq.n2; omega), wf_small (n := port) (by have := hq.q1; omega) (by have := hq.q2; omega), by show w2.length ≤ _; omega, by show w4.length ≤ _; omega⟩
          repeat' first | refine Y.st ?_ | (refine nw ?_; intro _) | refine Y.kn ?_ | fail
          refine GC.drawnH [(0, .read), (1, .read), (2, .read), (3, .read), (4, .read), (5, .read), (6, .read), (7, .read), (8, .tail), (9, .tail)] (by kernel_rfl) (by kernel_rfl) rfl ?_
          repeat' first | refine Y.st ?_ | (refine nw ?_; intro _) | refine Y.kn ?_ | fail
          have q1 : (((b8, .cells #[.slice p2 ([] : List Lb).length c2] 76 (0, 0))) :: (b5, .cells (ruA ⟨decide (w0 = kAllow), n, w2, port, w4⟩) 61 (0, 0)) :: (br, .cells (rdC bc p rv pv) 75 (0, 0)) :: (bc, .cells #[.pointer (some ⟨bt, 0, none⟩), .map (some mp)] 70 (0, 0)) :: (mp, om) :: (TH ++ (Br ++ (Bp ++ F)))).Perm (TH ++ ((b8, .cells #[.slice p2 ([] : List Lb).length c2] 76 (0, 0)) :: (b5, .cells (ruA ⟨decide (w0 = kAllow), n, w2, port, w4⟩) 61 (0, 0)) :: (br, .cells (rdC bc p rv pv) 75 (0, 0)) :: (bc, .cells #[.pointer (some ⟨bt, 0, none⟩), .map (some mp)] 70 (0, 0)) :: (mp, om) :: (Br ++ (Bp ++ F)))) := by exact permC
          refine G.ef rfl rfl rfl (Eff.callP (first := #[]) (captured := #[]) rfl rfl q1 ((add_spec hv hT ⟨decide (w0 = kAllow), n, w2, port, w4⟩ hsz (by show w2.length < _; omega)).mono ?_))
          rintro v H' ⟨rfl, TH', hT', hp'⟩
          refine G.heap (H' := (b8, .cells #[.slice p2 ([] : List Lb).length c2] 76 (0, 0)) :: (b5, .cells (ruA ⟨decide (w0 = kAllow), n, w2, port, w4⟩) 61 (0, 0)) :: (br, .cells (rdC bc p rv pv) 75 (0, 0)) :: (bc, .cells #[.pointer (some ⟨bt, 0, none⟩), .map (some mp)] 70 (0, 0)) :: (mp, om) :: (TH' ++ (Br ++ (Bp ++ F)))) ?_ (fun w hw => (hw.perm hp').perm (by exact permC))
          repeat' first | refine Y.st ?_ | (refine nw ?_; intro _) | refine Y.kn ?_ | fail
          refine GC.drawn [(0, .read), (1, .read), (2, .read), (3, .read), (4, .read), (5, .read), (6, .read), (7, .eff), (8, .eff), (9, .read), (10, .read), (11, .read), (12, .tail)] ([(b5, .cells (ruA ⟨decide (w0 = kAllow), n, w2, port, w4⟩) 61 (0, 0)), (br, .cells (rdC bc p rv pv) 75 (0, 0))]) (by kernel_rfl) (by kernel_rfl) rfl ?_
          repeat' first | refine Y.st ?_ | (refine nw ?_; intro _) | refine Y.kn ?_ | fail
          refine G.eeP rfl rfl rfl (Eff.buildSlice (cells := ruA ⟨decide (w0 = kAllow), n, w2, port, w4⟩) rfl (by kernel_rfl) (by omega) (fun b7 => ⟨fun w hw => hw.sub SubH.out, ?_⟩))
          have q2 : ((b7, .cells (ruA ⟨decide (w0 = kAllow), n, w2, port, w4⟩) 61 (0, 0)) :: (b8, .cells #[.slice p2 ([] : List Lb).length c2] 76 (0, 0)) :: (b5, .cells (ruA ⟨decide (w0 = kAllow), n, w2, port, w4⟩) 61 (0, 0)) :: (br, .cells (rdC bc p rv pv) 75 (0, 0)) :: (bc, .cells #[.pointer (some ⟨bt, 0, none⟩), .map (some mp)] 70 (0, 0)) :: (mp, om) :: (TH' ++ (Br ++ (Bp ++ F)))).Perm (Br ++ ((b7, .cells (ruA ⟨decide (w0 = kAllow), n, w2, port, w4⟩) 61 (0, 0)) :: (b8, .cells #[.slice p2 ([] : List Lb).length c2] 76 (0, 0)) :: (b5, .cells (ruA ⟨decide (w0 = kAllow), n, w2, port, w4⟩) 61 (0, 0)) :: (br, .cells (rdC bc p rv pv) 75 (0, 0)) :: (bc, .cells #[.pointer (some ⟨bt, 0, none⟩), .map (some mp)] 70 (0, 0)) :: (mp, om) :: (TH' ++ (Bp ++ F)))) := by exact permC
          refine G.eeP rfl rfl rfl (Eff.app (ys := ruC ⟨decide (w0 = kAllow), n, w2, port, w4⟩) rfl hr rfl (hH := ⟨q2⟩) (by omega) rfl (at_here (cs := ruC ⟨decide (w0 = kAllow), n, w2, port, w4⟩)) (by have := rules_one [(⟨decide (w0 = kAllow), n, w2, port, w4⟩ : Ru)]; simpa using this) (by omega) (by omega) (fun rv' Br' hBr => ⟨fun w hw => hw.sub SubH.out, ?_⟩))
          have hrv' : rv'.oneCell' = true := by cases hBr <;> rfl
          have hBr' : Buf 61 5 rv' (p.rules ++ [(⟨decide (w0 = kAllow), n, w2, port, w4⟩ : Ru)]).length ((p.rules ++ [(⟨decide (w0 = kAllow), n, w2, port, w4⟩ : Ru)]).flatMap ruC) Br' := by simpa using hBr
          repeat' first | refine Y.st ?_ | (refine nw ?_; intro _) | refine Y.kn ?_ | fail
          refine G.ef rfl rfl rfl (Eff.store rfl rfl hrv' (by simp) (by simp [Fz]) ?_)
          refine G.heap (H' := Br' ++ ((b7, .cells (ruA ⟨decide (w0 = kAllow), n, w2, port, w4⟩) 61 (0, 0)) :: (b8, .cells #[.slice p2 ([] : List Lb).length c2] 76 (0, 0)) :: (b5, .cells (ruA ⟨decide (w0 = kAllow), n, w2, port, w4⟩) 61 (0, 0)) :: (br, .cells (rdC bc p rv' pv) 75 (0, 0)) :: (bc, .cells #[.pointer (some ⟨bt, 0, none⟩), .map (some mp)] 70 (0, 0)) :: (mp, om) :: (TH' ++ (Bp ++ F)))) ?_ (fun _ h => h)
          repeat' first | refine Y.st ?_ | (refine nw ?_; intro _) | refine Y.kn ?_ | fail
          have q3 : (Br' ++ ((b7, .cells (ruA ⟨decide (w0 = kAllow), n, w2, port, w4⟩) 61 (0, 0)) :: (b8, .cells #[.slice p2 ([] : List Lb).length c2] 76 (0, 0)) :: (b5, .cells (ruA ⟨decide (w0 = kAllow), n, w2, port, w4⟩) 61 (0, 0)) :: (br, .cells (rdC bc p rv' pv) 75 (0, 0)) :: (bc, .cells #[.pointer (some ⟨bt, 0, none⟩), .map (some mp)] 70 (0, 0)) :: (mp, om) :: (TH' ++ (Bp ++ F)))).Perm ((b7, .cells (ruA ⟨decide (w0 = kAllow), n, w2, port, w4⟩) 61 (0, 0)) :: (b8, .cells #[.slice p2 ([] : List Lb).length c2] 76 (0, 0)) :: (b5, .cells (ruA ⟨decide (w0 = kAllow), n, w2, port, w4⟩) 61 (0, 0)) :: ((br, .cells (rdC bc p rv' pv) 75 (0, 0)) :: (bc, .cells #[.pointer (some ⟨bt, 0, none⟩), .map (some mp)] 70 (0, 0)) :: (mp, om) :: (TH' ++ (Br' ++ (Bp ++ F))))) := by exact permC
          refine GQ.heap (H' := (br, .cells (rdC bc p rv' pv) 75 (0, 0)) :: (bc, .cells #[.pointer (some ⟨bt, 0, none⟩), .map (some mp)] 70 (0, 0)) :: (mp, om) :: (TH' ++ (Br' ++ (Bp ++ F)))) ?_ (fun w hw => (hw.perm q3).sub ((List.sublist_cons_self _ _).trans ((List.sublist_cons_self _ _).trans (List.sublist_cons_self _ _))))
          refine GQ.done1 rfl rfl ?_
          rw [hout]
          refine ⟨rfl, fun h0 => ?_, ⟨(br, .cells (rdC bc p rv' pv) 75 (0, 0)) :: (bc, .cells #[.pointer (some ⟨bt, 0, none⟩), .map (some mp)] 70 (0, 0)) :: (mp, om) :: (TH' ++ (Br' ++ Bp)), by simp⟩⟩
          have hadd := add_ok h0
          rw [hadd] at hT'
          exact rdr_close (p := { p with rules := p.rules ++ [⟨decide (w0 = kAllow), n, w2, port, w4⟩] }) hT' hM hBr' hp (by obtain ⟨_, _, _, _, _, _, _, _, _, _, hTA, _⟩ := hT'; exact hTA.len) hpl F
        · have hpos : 0 < r2.length := List.length_pos_iff.2 hne
          have ho : ruleL ws = none := by
            rw [hwsE]
            simp only [ruleL, g1, g2]
            rcases htk with h | ⟨h, h1, h2⟩
            · rw [h]; simp only; rw [if_neg hne]
            · rw [h]; simp only; rw [if_neg (by rw [← h2]; exact hne)]
          repeat' first | refine Y.st ?_ | (refine nw ?_; intro _) | refine Y.kn ?_ | fail
          exact GQ.done1 rfl rfl (fall ho _ (anyX [_, _]))
end
end Go.Pol

namespace Go.Pol
open Go.Own Go.Proofs Go.RowKit Go.Lib Go.Asc Go.Adr Go.Nam Go.Tri Go.Cid
attribute [local irreducible] GC GQ G Rd Eff T
set_option maxRecDepth 20000
set_option maxHeartbeats 4000000
theorem pn_set {nm : Lb} {c : Cd} {t t' : Int} (ha : c.addr.length = 16) : (pnC ⟨nm, c, t⟩).toArray.setIfInBounds (0 + 18) (.int .i64 t') = (pnC ⟨nm, c, t'⟩).toArray := by
  rw [List.setIfInBounds_toArray]
  congr 1
  rw [Nat.zero_add, List.set_cons_succ, List.set_append_right _ _ (by rw [u8s_length, ha]; omega), u8s_length, ha]
  rfl
theorem fill_pn {nm : Lb} {c : Cd} {tl : Int} (ha : c.addr.length = 16) : Instr.fill (fun i => some (i * 19, 19)) ((Array.range (1 * 19)).map (fun x => (pnV ⟨[], zeroC, 0⟩).cells[x % (pnV ⟨[], zeroC, 0⟩).cells.size]!)) [(0, pnV ⟨nm, c, tl⟩)] = some (pnC ⟨nm, c, tl⟩).toArray := by
  obtain ⟨a, n⟩ := c
  match a, ha with
  | [a0, a1, a2, a3, a4, a5, a6, a7, a8, a9, b0, b1, b2, b3, b4, b5], _ =>
    show _ = _
    kernel_rfl
structure PnSt (ws rest : List Lb) (w2 : Lb) (W0 : World) (F : Heap) (ok : Bool) (C : Cd) (tl : Int) (u : Value) (r1 : List Lb) : Prop where
  good : ok = true → parseC w2 = some C ∧ numBeh rest kUntil 1099511627776 = some (tl, r1)
  bad : ok = false → parseC w2 = none ∨ numBeh rest kUntil 1099511627776 = none
  row : SlS W0 F u r1
  q1 : 0 ≤ tl
  q2 : tl ≤ 1099511627776
theorem siz_right {c : Cd} (h : rightC c = true) (ha : c.addr.length = 16) : SizC c := by
  obtain ⟨h1, h2, _⟩ := right_iff.1 h
  exact ⟨ha, wf_small (by omega) (by omega)⟩
theorem parsed (w : Lb) : ∃ C ok, parseCV w = .tuple #[cdV C, .bool ok] ∧ ((ok = true ∧ parseC w = some C) ∨ (ok = false ∧ parseC w = none)) ∧ SizC C := by
  cases h : parseC w with
  | none => exact ⟨zeroC, false, by rw [parseCV, h]; rfl, .inr ⟨rfl, rfl⟩, rfl, wf_small (by decide) (by decide)⟩
  | some c => exact ⟨c, true, by rw [parseCV, h]; rfl, .inl ⟨rfl, rfl⟩, siz_right (Cid.parse_right h).1 (Cid.parse_right h).2⟩
section
variable {W0 : World} {F : Heap}
attribute [local irreducible] parseCV parseC numBeh Lit.wf pinErr
theorem pinl_spec (hv : Vars W0) {p : Pol} {br : Nat} {RH : Heap} (h : RdrQ p br RH) (ws : List Lb) (v : Value) (hws : SlS W0 F v ws) (hl : ws.length ≤ 1000000) (hw : ∀ w ∈ ws, w.length ≤ 1000000) :
    T Tryz.prog W0 82 #[.pointer (some ⟨br, 0, none⟩), v] (RH ++ F) (ResR (pinOut p ws) br F) := by
  obtain ⟨bc, rv, pv, bt, mp, om, TH, Br, Bp, hT, hM, hr, hp, hrl, hpl, hRH⟩ := rdr_open h F
  rw [hRH]
  obtain ⟨qb, qc, rfl, hqc, hqat⟩ := Buf.see hp
  obtain ⟨pp, c, rfl, hc, hat⟩ := hws
  have hatF : Go.Tri.Lies W0 ((br, .cells (rdC bc p rv (.slice qb p.pins.length qc)) 75 (0, 0)) :: ((bc, .cells #[.pointer (some ⟨bt, 0, none⟩), .map (some mp)] 70 (0, 0)) :: (mp, om) :: (TH ++ (Br ++ (Bp ++ F))))) pp (strs ws) := by
    have := (((hat.app Bp).app Br).app TH)
    exact ((this.cons _).cons _).cons _
  have fall : pinL ws = none → ∀ H', (∃ X, H'.Perm (X ++ F)) → ResR (pinOut p ws) br F (.int .i64 3) H' := fun h0 H' hx => by
    have : pinOut p ws = (p, 3) := by rw [pinOut, h0]
    rw [this]; exact ⟨rfl, fun h => by simp at h, hx⟩
  have anyX : ∀ A : Heap, ∃ X, (A ++ ((br, .cells (rdC bc p rv (.slice qb p.pins.length qc)) 75 (0, 0)) :: ((bc, .cells #[.pointer (some ⟨bt, 0, none⟩), .map (some mp)] 70 (0, 0)) :: (mp, om) :: (TH ++ (Br ++ (Bp ++ F)))))).Perm (X ++ F) := fun A => ⟨A ++ ((br, .cells (rdC bc p rv (.slice qb p.pins.length qc)) 75 (0, 0)) :: ((bc, .cells #[.pointer (some ⟨bt, 0, none⟩), .map (some mp)] 70 (0, 0)) :: (mp, om) :: (TH ++ (Br ++ Bp)))), by simp⟩
  refine T.intro (args := [_, _]) Tryz.func82 rfl Tryz.ntmps82 rfl ?_
  by_cases h3 : ws.length < 3
  · have ho : pinL ws = none := by
      match ws, h3 with
      | [], _ => rfl
      | [_], _ => rfl
      | [_, _], _ => rfl
      | _ :: _ :: _ :: _, h => simp at h; omega
    repeat' first | refine Y.st ?_ | (refine nw ?_; intro _) | refine Y.kn ?_ | fail
    exact GQ.done1 rfl rfl (fall ho _ (anyX []))
  obtain ⟨w0, w1, w2, rest, hwsE⟩ : ∃ w0 w1 w2 rest, ws = w0 :: w1 :: w2 :: rest := by
    match ws, h3 with
    | [], h => simp at h
    | [_], h => simp at h
    | [_, _], h => simp at h
    | a :: b :: c :: r, _ => exact ⟨a, b, c, r, rfl⟩
  have hlen : ws.length = rest.length + 3 := by rw [hwsE]; rfl
  obtain ⟨ab, ao, rfl, hcell⟩ := SlS.cell hatF (k := 0) (by omega)
  have hl1 := hw w1 (by simp [hwsE])
  have hl2 := hw w2 (by simp [hwsE])
  have c2 : ∀ w, Own W0 ((br, .cells (rdC bc p rv (.slice qb p.pins.length qc)) 75 (0, 0)) :: ((bc, .cells #[.pointer (some ⟨bt, 0, none⟩), .map (some mp)] 70 (0, 0)) :: (mp, om) :: (TH ++ (Br ++ (Bp ++ F))))) w → w.cell? ⟨ab, ao + 2 * 1, none⟩ = some (S w2) := fun w hw => by have := hcell 2 (by omega) w hw; simpa [hwsE] using this
  have c1 : ∀ x w, Own W0 (x :: ((br, .cells (rdC bc p rv (.slice qb p.pins.length qc)) 75 (0, 0)) :: ((bc, .cells #[.pointer (some ⟨bt, 0, none⟩), .map (some mp)] 70 (0, 0)) :: (mp, om) :: (TH ++ (Br ++ (Bp ++ F)))))) w → w.cell? ⟨ab, ao + 1 * 1, none⟩ = some (S w1) := fun x w hw => by have := hcell 1 (by omega) w (hw.sub (List.sublist_cons_self _ _)); simpa [hwsE] using this
  obtain ⟨C, ok, hcv, hok, hCs⟩ := parsed w2
  have hCa := hCs.1
  have hCl := cdC_len hCa
  have hPl : (pnC ⟨w1, C, 0⟩).length = 19 := pnC_len (x := ⟨w1, C, 0⟩) hCa
  repeat' first | refine Y.st ?_ | (refine nw ?_; intro _) | refine Y.kn ?_ | fail
  rw [hcv]
  iterate 2 refine Y.one ?_
  refine G.ef rfl rfl rfl (Eff.allocA (cs := cdC zeroC) (fun b5 => ?_))
  refine G.ef rfl rfl rfl (Eff.storeAll (cs := cdC zeroC) (vs := cdC C) rfl rfl (cdC_one _) (by rw [hCl]; rfl) hCl ?_)
  have c1' := c1 (b5, .cells (cdC C).toArray 41 (0, 0))
  repeat' first | refine Y.st ?_ | (refine nw ?_; intro _) | refine Y.kn ?_ | fail
  refine GC.drawnH [(0, .read), (1, .read), (2, .read), (3, .read), (4, .read), (5, .eff), (6, .tail)] (by kernel_rfl) (by kernel_rfl) rfl ?_
  repeat' first | refine Y.st ?_ | (refine nw ?_; intro _) | refine Y.kn ?_ | fail
  refine G.rd (Rd.mkPn (nm := w1) (c := C) hCa rfl rfl) rfl rfl ?_
  refine G.eeP rfl rfl rfl (Eff.allocA (cs := pnC ⟨[], zeroC, 0⟩) (fun b7 => ⟨fun w hw => hw.sub (List.sublist_cons_self _ _), ?_⟩))
  refine G.ef rfl rfl rfl (Eff.storeAll (cs := pnC ⟨[], zeroC, 0⟩) (vs := pnC ⟨w1, C, 0⟩) rfl rfl (pnC_one _) (by rw [hPl]; rfl) hPl ?_)
  repeat' first | refine Y.st ?_ | (refine nw ?_; intro _) | refine Y.kn ?_ | fail
  refine G.rd (Rd.slL (l := 3) rfl rfl rfl (by omega) hc) rfl rfl ?_
  refine G.ef rfl rfl rfl (Eff.alloc1 rfl (fun b8 => ?_))
  refine G.ef rfl rfl rfl (Eff.store rfl rfl rfl (by simp) (by simp [Fz]) ?_)
  have hrow : SlS W0 F (.slice (cutA (some ⟨ab, ao, none⟩) c 3 1) (ws.length - 3) (c - 3)) rest := by
    have := SlS.cut (n := 3) hat hc (by omega)
    rw [show ws.drop 3 = rest by rw [hwsE]; rfl] at this
    exact this
  have lift : ∀ (A : Heap) (u : Value) (r : List Lb), SlS W0 F u r → SlS W0 (A ++ ((br, .cells (rdC bc p rv (.slice qb p.pins.length qc)) 75 (0, 0)) :: ((bc, .cells #[.pointer (some ⟨bt, 0, none⟩), .map (some mp)] 70 (0, 0)) :: (mp, om) :: (TH ++ (Br ++ (Bp ++ F)))))) u r := fun A u r h => ((((((h.app Bp).app Br).app TH).cons _).cons _).cons _).app A
  have hrest : ws.length - 3 = rest.length := by omega
  rw [hrest] at hrow ⊢
  have hrmem : ∀ x ∈ rest, x ∈ ws := fun x hx => by rw [hwsE]; simp [hx]
  refine G.heap (H' := (b8, .cells #[.slice (cutA (some ⟨ab, ao, none⟩) c 3 1) rest.length (c - 3)] 76 (0, 0)) :: (b7, .cells (pnC ⟨w1, C, 0⟩).toArray 63 (0, 0)) :: (b5, .cells (cdC C).toArray 41 (0, 0)) :: ((br, .cells (rdC bc p rv (.slice qb p.pins.length qc)) 75 (0, 0)) :: ((bc, .cells #[.pointer (some ⟨bt, 0, none⟩), .map (some mp)] 70 (0, 0)) :: (mp, om) :: (TH ++ (Br ++ (Bp ++ F)))))) ?_ (fun _ h => h)
  iterate 2 refine Y.one ?_
  refine GC.cutE (ι := { q : Bool × Int × Value × List Lb // PnSt ws rest w2 W0 F q.1 C q.2.1 q.2.2.1 q.2.2.2 }) (fun q => [(6, .bool q.1.1)]) [(0, .pointer (some ⟨br, 0, none⟩)), (7, .pointer (some ⟨b7, 0, none⟩)), (8, .pointer (some ⟨b8, 0, none⟩))]
    (fun q => (b8, .cells #[q.1.2.2.1] 76 (0, 0)) :: (b7, .cells (pnC ⟨w1, C, q.1.2.1⟩).toArray 63 (0, 0)) :: (b5, .cells (cdC C).toArray 41 (0, 0)) :: ((br, .cells (rdC bc p rv (.slice qb p.pins.length qc)) 75 (0, 0)) :: ((bc, .cells #[.pointer (some ⟨bt, 0, none⟩), .map (some mp)] 70 (0, 0)) :: (mp, om) :: (TH ++ (Br ++ (Bp ++ F)))))) ?_ ?_
  · repeat' first | refine Y.st ?_ | (refine nw ?_; intro _) | refine Y.kn ?_ | fail
    refine G.ef rfl rfl rfl (Eff.callF rfl ((take_spec b8 _ rest kUntil (lift [(b7, .cells (pnC ⟨w1, C, 0⟩).toArray 63 (0, 0)), (b5, .cells (cdC C).toArray 41 (0, 0))] _ _ hrow) (by omega)).mono ?_))
    intro v H' htk
    unfold TakeR at htk
    cases ht : takeL rest kUntil with
    | none =>
      rw [ht] at htk
      obtain ⟨rfl, rfl⟩ := htk
      have hnb : numBeh rest kUntil 1099511627776 = some (0, rest) := by unfold numBeh; rw [ht]
      have hst : PnSt ws rest w2 W0 F ok C 0 (.slice (cutA (some ⟨ab, ao, none⟩) c 3 1) rest.length (c - 3)) rest := by
        refine ⟨fun h => ?_, fun h => ?_, hrow, by omega, by omega⟩
        · rcases hok with ⟨_, h1⟩ | ⟨h1, _⟩
          · exact ⟨h1, hnb⟩
          · rw [h1] at h; cases h
        · rcases hok with ⟨h1, _⟩ | ⟨_, h1⟩
          · rw [h1] at h; cases h
          · exact .inl h1
      repeat' first | refine Y.st ?_ | (refine nw ?_; intro _) | refine Y.kn ?_ | fail
      exact GQ.cutEnd ⟨(ok, 0, _, rest), hst⟩ ⟨rfl, rfl, rfl, rfl, trivial⟩ (fun _ h => h)
    | some pr =>
      obtain ⟨wp, rp⟩ := pr
      rw [ht] at htk
      obtain ⟨rfl, u', hu', rfl⟩ := htk
      have hmem := takeL_mem ht
      have hwl := hw wp (hrmem wp hmem.1)
      obtain ⟨m, okp, hnv, hnok, hmle⟩ := ok_cases wp 1099511627776 (by omega)
      have hrp := hu' F hrow
      have hset := pn_set (nm := w1) (c := C) (t := 0) (t' := (m : Int)) hCa
      repeat' first | refine Y.st ?_ | (refine nw ?_; intro _) | refine Y.kn ?_ | fail
      rw [hnv]
      cases ok with
      | false =>
        have hst : PnSt ws rest w2 W0 F false C (m : Int) u' rp := ⟨fun h => (by cases h), fun _ => .inl (hok.elim (fun h => by cases h.1) (fun h => h.2)), hrp, by omega, by omega⟩
        repeat' first | refine Y.st ?_ | (refine nw ?_; intro _) | refine Y.kn ?_ | fail
        rw [hset]
        exact GQ.cutEnd ⟨(false, (m : Int), u', rp), hst⟩ ⟨rfl, rfl, rfl, rfl, trivial⟩ (fun _ h => h)
      | true =>
        have hsl : parseC w2 = some C := hok.elim (fun h => h.2) (fun h => by cases h.1)
        cases okp with
        | false =>
          have hnn : number wp 1099511627776 = none := hnok.elim (fun h => by cases h.1) (fun h => h.2)
          have hst : PnSt ws rest w2 W0 F false C (m : Int) u' rp := ⟨fun h => (by cases h), fun _ => .inr (by unfold numBeh; rw [ht]; simp [hnn]), hrp, by omega, by omega⟩
          repeat' first | refine Y.st ?_ | (refine nw ?_; intro _) | refine Y.kn ?_ | fail
          rw [hset]
          exact GQ.cutEnd ⟨(false, (m : Int), u', rp), hst⟩ ⟨rfl, rfl, rfl, rfl, trivial⟩ (fun _ h => h)
        | true =>
          have hnn : number wp 1099511627776 = some m := hnok.elim (fun h => h.2) (fun h => by cases h.1)
          have hst : PnSt ws rest w2 W0 F true C (m : Int) u' rp := ⟨fun _ => ⟨hsl, by unfold numBeh; rw [ht]; simp [hnn]⟩, fun h => (by cases h), hrp, by omega, by omega⟩
          repeat' first | refine Y.st ?_ | (refine nw ?_; intro _) | refine Y.kn ?_ | fail
          rw [hset]
          exact GQ.cutEnd ⟨(true, (m : Int), u', rp), hst⟩ ⟨rfl, rfl, rfl, rfl, trivial⟩ (fun _ h => h)
  · rintro ⟨⟨okq, tl, u, r1⟩, hq⟩
    dsimp only [List.cons_append, List.nil_append] at hq ⊢
    obtain ⟨p2, c2', rfl, hc2, hat2⟩ := hq.row
    have hPl2 : (pnC ⟨w1, C, tl⟩).length = 19 := pnC_len (x := ⟨w1, C, tl⟩) hCa
    cases okq with
    | false =>
      have ho : pinL ws = none := by
        rw [hwsE]
        simp only [pinL]
        rcases hq.bad rfl with h | h
        · rw [h]
        · rw [h]; cases parseC w2 <;> rfl
      repeat' first | refine Y.st ?_ | (refine nw ?_; intro _) | refine Y.kn ?_ | fail
      exact GQ.done1 rfl rfl (fall ho _ (anyX [_, _, _]))
    | true =>
      obtain ⟨g1, g2⟩ := hq.good rfl
      by_cases hne : r1 = []
      · subst hne
        have ho : pinL ws = some ⟨w1, C, tl⟩ := by
          rw [hwsE]
          simp only [pinL, g1, g2]; rfl
        by_cases h200 : p.pins.length = 200
        · have hout : pinOut p ws = (p, 2) := by rw [pinOut, ho]; simp only; rw [if_pos h200]
          repeat' first | refine Y.st ?_ | (refine nw ?_; intro _) | refine Y.kn ?_ | fail
          exact GQ.done1 rfl rfl (by rw [hout]; exact ⟨rfl, fun h => by simp at h, anyX [_, _, _]⟩)
        · have hout : pinOut p ws = ({ p with pins := p.pins ++ [(⟨w1, C, tl⟩ : Pn)] }, pinErr p.pins ⟨w1, C, tl⟩) := by rw [pinOut, ho]; simp only; rw [if_neg h200]
          have hsz : SizP ⟨w1, C, tl⟩ := ⟨hCs, wf_small (n := tl) (by have := hq.q1; omega) (by have := hq.q2; omega), by show w1.length ≤ _; omega⟩
          repeat' first | refine Y.st ?_ | (refine nw ?_; intro _) | refine Y.kn ?_ | fail
          refine GC.drawn [(0, .read), (1, .read), (2, .read), (3, .read), (4, .read), (5, .read), (6, .read), (7, .eff), (8, .eff), (9, .read), (10, .read), (11, .read), (12, .tail)] ([(b7, .cells (pnC ⟨w1, C, tl⟩).toArray 63 (0, 0)), (br, .cells (rdC bc p rv (.slice qb p.pins.length qc)) 75 (0, 0))]) (by kernel_rfl) (by kernel_rfl) rfl ?_
          repeat' first | refine Y.st ?_ | (refine nw ?_; intro _) | refine Y.kn ?_ | fail
          refine G.eeP rfl rfl rfl (Eff.buildSlice (cells := (pnC ⟨w1, C, tl⟩).toArray) rfl (by exact fill_pn hCa) (by omega) (fun b9 => ⟨fun w hw => hw.sub SubH.out, ?_⟩))
          have q2 : ((b9, .cells (pnC ⟨w1, C, tl⟩).toArray 63 (0, 0)) :: (b8, .cells #[.slice p2 ([] : List Lb).length c2'] 76 (0, 0)) :: (b7, .cells (pnC ⟨w1, C, tl⟩).toArray 63 (0, 0)) :: (b5, .cells (cdC C).toArray 41 (0, 0)) :: (br, .cells (rdC bc p rv (.slice qb p.pins.length qc)) 75 (0, 0)) :: (bc, .cells #[.pointer (some ⟨bt, 0, none⟩), .map (some mp)] 70 (0, 0)) :: (mp, om) :: (TH ++ (Br ++ (Bp ++ F)))).Perm (Bp ++ ((b9, .cells (pnC ⟨w1, C, tl⟩).toArray 63 (0, 0)) :: (b8, .cells #[.slice p2 ([] : List Lb).length c2'] 76 (0, 0)) :: (b7, .cells (pnC ⟨w1, C, tl⟩).toArray 63 (0, 0)) :: (b5, .cells (cdC C).toArray 41 (0, 0)) :: (br, .cells (rdC bc p rv (.slice qb p.pins.length qc)) 75 (0, 0)) :: (bc, .cells #[.pointer (some ⟨bt, 0, none⟩), .map (some mp)] 70 (0, 0)) :: (mp, om) :: (TH ++ (Br ++ F)))) := by exact permC
          refine G.eeP rfl rfl rfl (Eff.app (ys := pnC ⟨w1, C, tl⟩) rfl hp rfl (hH := ⟨q2⟩) (by omega) (by rw [hPl2]) (at_here (cs := pnC ⟨w1, C, tl⟩)) (pnC_one _) (by omega) (by omega) (fun pv' Bp' hBp => ⟨fun w hw => hw.sub SubH.out, ?_⟩))
          have hpv' : pv'.oneCell' = true := by cases hBp <;> rfl
          have hBp' : Buf 63 19 pv' (p.pins ++ [(⟨w1, C, tl⟩ : Pn)]).length ((p.pins ++ [(⟨w1, C, tl⟩ : Pn)]).flatMap pnC) Bp' := by simpa using hBp
          repeat' first | refine Y.st ?_ | (refine nw ?_; intro _) | refine Y.kn ?_ | fail
          refine G.ef rfl rfl rfl (Eff.store rfl rfl hpv' (by simp) (by simp [Fz]) ?_)
          refine G.heap (H' := Bp' ++ ((b9, .cells (pnC ⟨w1, C, tl⟩).toArray 63 (0, 0)) :: (b8, .cells #[.slice p2 ([] : List Lb).length c2'] 76 (0, 0)) :: (b7, .cells (pnC ⟨w1, C, tl⟩).toArray 63 (0, 0)) :: (b5, .cells (cdC C).toArray 41 (0, 0)) :: (br, .cells (rdC bc p rv pv') 75 (0, 0)) :: (bc, .cells #[.pointer (some ⟨bt, 0, none⟩), .map (some mp)] 70 (0, 0)) :: (mp, om) :: (TH ++ (Br ++ F)))) ?_ (fun _ h => h)
          repeat' first | refine Y.st ?_ | (refine nw ?_; intro _) | refine Y.kn ?_ | fail
          refine GC.drawnH [(0, .read), (1, .read), (2, .read), (3, .read), (4, .read), (5, .tail), (6, .tail)] (by kernel_rfl) (by kernel_rfl) rfl ?_
          repeat' first | refine Y.st ?_ | (refine nw ?_; intro _) | refine Y.kn ?_ | fail
          have q4 : (Bp' ++ ((b9, .cells (pnC ⟨w1, C, tl⟩).toArray 63 (0, 0)) :: (b8, .cells #[.slice p2 ([] : List Lb).length c2'] 76 (0, 0)) :: (b7, .cells (pnC ⟨w1, C, tl⟩).toArray 63 (0, 0)) :: (b5, .cells (cdC C).toArray 41 (0, 0)) :: (br, .cells (rdC bc p rv pv') 75 (0, 0)) :: (bc, .cells #[.pointer (some ⟨bt, 0, none⟩), .map (some mp)] 70 (0, 0)) :: (mp, om) :: (TH ++ (Br ++ F)))).Perm (((bc, .cells #[.pointer (some ⟨bt, 0, none⟩), .map (some mp)] 70 (0, 0)) :: (mp, om) :: TH) ++ (Bp' ++ ((b9, .cells (pnC ⟨w1, C, tl⟩).toArray 63 (0, 0)) :: (b8, .cells #[.slice p2 ([] : List Lb).length c2'] 76 (0, 0)) :: (b7, .cells (pnC ⟨w1, C, tl⟩).toArray 63 (0, 0)) :: (b5, .cells (cdC C).toArray 41 (0, 0)) :: (br, .cells (rdC bc p rv pv') 75 (0, 0)) :: (Br ++ F)))) := by exact permC
          refine G.ef rfl rfl rfl (Eff.callP (first := #[]) (captured := #[]) rfl rfl q4 ((pin_spec hv ⟨bt, mp, om, TH, rfl, hT, hM⟩ ⟨w1, C, tl⟩ hsz (by show w1.length < _; omega)).mono ?_))
          rintro v H' ⟨rfl, CH', hC', hp'⟩
          refine G.heap ?_ (fun w hw => hw.perm hp')
          repeat' first | refine Y.st ?_ | (refine nw ?_; intro _) | refine Y.kn ?_ | fail
          have q5 : (CH' ++ (Bp' ++ ((b9, .cells (pnC ⟨w1, C, tl⟩).toArray 63 (0, 0)) :: (b8, .cells #[.slice p2 ([] : List Lb).length c2'] 76 (0, 0)) :: (b7, .cells (pnC ⟨w1, C, tl⟩).toArray 63 (0, 0)) :: (b5, .cells (cdC C).toArray 41 (0, 0)) :: (br, .cells (rdC bc p rv pv') 75 (0, 0)) :: (Br ++ F)))).Perm ((b9, .cells (pnC ⟨w1, C, tl⟩).toArray 63 (0, 0)) :: (b8, .cells #[.slice p2 ([] : List Lb).length c2'] 76 (0, 0)) :: (b7, .cells (pnC ⟨w1, C, tl⟩).toArray 63 (0, 0)) :: (b5, .cells (cdC C).toArray 41 (0, 0)) :: ((br, .cells (rdC bc p rv pv') 75 (0, 0)) :: (CH' ++ (Br ++ (Bp' ++ F))))) := by exact permC
          refine GQ.heap (H' := (br, .cells (rdC bc p rv pv') 75 (0, 0)) :: (CH' ++ (Br ++ (Bp' ++ F)))) ?_ (fun w hw => (hw.perm q5).sub ((List.sublist_cons_self _ _).trans ((List.sublist_cons_self _ _).trans ((List.sublist_cons_self _ _).trans (List.sublist_cons_self _ _)))))
          refine GQ.done1 rfl rfl ?_
          rw [hout]
          refine ⟨rfl, fun h0 => ⟨_, ⟨bc, rv, pv', CH', Br, Bp', ⟨?_, hr, hBp', hrl, by simp; omega⟩, rfl⟩, by simp⟩, ⟨(br, .cells (rdC bc p rv pv') 75 (0, 0)) :: (CH' ++ (Br ++ Bp')), by simp⟩⟩
          rw [if_pos h0] at hC'; exact hC'
      · have hpos : 0 < r1.length := List.length_pos_iff.2 hne
        have ho : pinL ws = none := by
          rw [hwsE]
          simp only [pinL, g1, g2]
          rw [if_neg hne]
        repeat' first | refine Y.st ?_ | (refine nw ?_; intro _) | refine Y.kn ?_ | fail
        exact GQ.done1 rfl rfl (fall ho _ (anyX [_, _, _]))
end
end Go.Pol
