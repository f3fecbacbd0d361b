/-
  A SET OF RANGES: cidr.New, Add, Drop, Find.
  A SET OF RANGES, SHOWN: (*cidr.Set).All where it has one range at most.
-/
import Derived.Test.YtlakopiopplfhaaGreatDoorGCi
import Derived.Test.YtlakopiopplfhaaGreatDoorGOwn
namespace Go.Cid
open Go.Own Go.Proofs Go.RowKit Go.Lib Go.Asc Go.Adr Go.Nam Go.Tri
attribute [local irreducible] GC GQ G Rd Eff T
set_option maxRecDepth 20000
set_option maxHeartbeats 4000000
instance : MapT Tryz.prog 267 50 3 (isK Tryz.prog 50) (.int .i64 0) :=
  ⟨Tryz.underlying267, keyLaws (Maps.Keyed.of_law (deep_law_laid (by kernel_rfl) (m := 4) (by omega) (of_decide_eq_true (by kernel_rfl)) (by kernel_rfl) (by kernel_rfl))), Tryz.zeroValue3⟩
abbrev oneV (n : Int) : Value := .int .i64 n
abbrev hasL (l : List Cd) : List (Cd × Int) := l.map fun c => (c, (1 : Int))
theorem hasL_get (l : List Cd) (k : Cd) : getK (hasL l) k = if k ∈ l then some 1 else none := by
  induction l with
  | nil => rfl
  | cons r rs ih =>
    simp only [hasL, List.map_cons, getK, List.mem_cons] at ih ⊢
    by_cases h : r = k
    · subst h; simp
    · rw [if_neg h, ih]; simp [Ne.symm h]
theorem hasL_look (l : List Cd) (k : Cd) : lookV oneV (hasL l) k (.int .i64 0) = .int .i64 (if k ∈ l then 1 else 0) := by
  unfold lookV
  rw [hasL_get]
  by_cases h : k ∈ l
  · rw [if_pos h, if_pos h]
  · rw [if_neg h, if_neg h]
theorem hasL_put {l : List Cd} {c : Cd} (h : c ∉ l) : putK (hasL l) c 1 = hasL (l ++ [c]) := by
  rw [putK_new (by simpa using h)]; simp
/-- The set, among what is owned. -/
def SetQ (l : List Cd) (bs : Nat) (H : Heap) : Prop := ∃ mp om, H = [(bs, .cells #[.map (some mp)] 269 (0, 0)), (mp, om)] ∧ MapIs (isK Tryz.prog 50) cdV oneV (hasL l) om
def addC (l : List Cd) (c : Cd) : List Cd × Bool := if rightC c = true ∧ c ∉ l then (l ++ [c], true) else (l, false)
section
variable {W0 : World} {F : Heap}
attribute [local irreducible] rightC ofL Lit.wf
theorem cnew_spec : T Tryz.prog W0 171 #[] F (fun v H' => ∃ bs H, v = .pointer (some ⟨bs, 0, none⟩) ∧ SetQ [] bs H ∧ H' = H ++ F) := by
  refine T.intro (args := []) Tryz.func171 rfl Tryz.ntmps171 rfl ?_
  repeat' first | refine Y.st ?_ | (refine nw ?_; intro _) | refine Y.kn ?_ | fail
  refine G.ef rfl rfl rfl (Eff.makeMap (fun mp => ?_))
  refine G.rd (Rd.build (cells := #[.map (some mp)]) rfl (by rfl)) rfl rfl ?_
  refine G.ef rfl rfl rfl (Eff.boxA rfl (fun bs => ?_))
  repeat' first | refine Y.st ?_ | (refine nw ?_; intro _) | refine Y.kn ?_ | fail
  exact GQ.done1 rfl rfl ⟨bs, _, rfl, ⟨mp, _, rfl, .empty (fun a b h => cdV_inj h)⟩, rfl⟩
theorem cadd_spec {l : List Cd} {bs : Nat} {H : Heap} (h : SetQ l bs H) (c : Cd) (hc : SizC c) : T Tryz.prog W0 172 #[.pointer (some ⟨bs, 0, none⟩), cdV c] (H ++ F)
    (fun v H' => v = .bool (addC l c).2 ∧ ∃ H2, SetQ (addC l c).1 bs H2 ∧ H' = H2 ++ F) := by
  have h' := h
  obtain ⟨mp, om, rfl, hM⟩ := h
  simp only [List.cons_append, List.nil_append]
  have hk := cd_key c hc
  have ha := hc.1
  have hSc : SizC ⟨c.addr, c.bits⟩ := hc
  refine T.intro (args := [_, _]) Tryz.func172 rfl Tryz.ntmps172 rfl ?_
  repeat' first | refine Y.st ?_ | (refine nw ?_; intro _) | refine Y.kn ?_ | fail
  rename_i b3
  cases hr : rightC c with
  | false =>
    have he : addC l c = (l, false) := by unfold addC; rw [if_neg (by rw [hr]; simp)]
    refine GC.drawn [(0, .read), (1, .eff), (2, .read), (3, .read), (4, .read), (5, .read), (6, .read), (7, .read), (8, .read), (9, .read), (10, .read), (11, .read)] ([(b3, .cells (cdC c).toArray 50 (0, 0)), (bs, .cells #[.map (some mp)] 269 (0, 0)), (mp, om)]) (by kernel_rfl) (by kernel_rfl) rfl ?_
    refine G.rd (Rd.loadAggC rfl (cellsH (fun j u hj => by simpa using hj)) (cdC_len ha)) rfl rfl ?_
    repeat' first | refine Y.st ?_ | (refine nw ?_; intro _) | refine Y.kn ?_ | fail
    refine GQ.heap (H' := [(bs, .cells #[.map (some mp)] 269 (0, 0)), (mp, om)] ++ F) ?_ (fun w hw => hw.sub (List.sublist_cons_self _ _))
    exact GQ.done1 rfl rfl ⟨by rw [he], _, by rw [he]; exact h', rfl⟩
  | true =>
    refine GC.drawn [(0, .read), (1, .eff), (2, .read), (3, .read), (4, .read), (5, .read), (6, .read), (7, .read), (8, .read), (9, .read), (10, .read), (11, .read)] ([(b3, .cells (cdC c).toArray 50 (0, 0)), (bs, .cells #[.map (some mp)] 269 (0, 0)), (mp, om)]) (by kernel_rfl) (by kernel_rfl) rfl ?_
    refine G.rd (Rd.loadAggC rfl (cellsH (fun j u hj => by simpa using hj)) (cdC_len ha)) rfl rfl ?_
    repeat' first | refine Y.st ?_ | (refine nw ?_; intro _) | refine Y.kn ?_ | fail
    refine G.rd (Rd.loadAggC rfl (cellsH (fun j u hj => by simpa using hj)) (cdC_len ha)) rfl rfl ?_
    repeat' first | refine Y.st ?_ | (refine nw ?_; intro _) | refine Y.kn ?_ | fail
    refine G.rd (Rd.look (key := cdV) (a := c) rfl rfl hM hk) rfl rfl ?_
    rw [hasL_look]
    by_cases hm : c ∈ l
    · have he : addC l c = (l, false) := by unfold addC; rw [if_neg (by rintro ⟨_, h⟩; exact h hm)]
      rw [if_pos hm]
      repeat' first | refine Y.st ?_ | (refine nw ?_; intro _) | refine Y.kn ?_ | fail
      refine GQ.heap (H' := [(bs, .cells #[.map (some mp)] 269 (0, 0)), (mp, om)] ++ F) ?_ (fun w hw => hw.sub (List.sublist_cons_self _ _))
      exact GQ.done1 rfl rfl ⟨by rw [he], _, by rw [he]; exact h', rfl⟩
    · have he : addC l c = (l ++ [c], true) := by unfold addC; rw [if_pos ⟨hr, hm⟩]
      rw [if_neg hm]
      repeat' first | refine Y.st ?_ | (refine nw ?_; intro _) | refine Y.kn ?_ | fail
      refine GC.drawnH [(0, .read), (1, .read), (2, .read), (3, .read), (4, .read), (5, .tail)] (by kernel_rfl) (by kernel_rfl) rfl ?_
      repeat' first | refine Y.st ?_ | (refine nw ?_; intro _) | refine Y.kn ?_ | fail
      refine G.rd (Rd.loadAggC rfl (cellsH (fun j u hj => by simpa using hj)) (cdC_len ha)) rfl rfl ?_
      refine G.ef rfl rfl rfl (Eff.mapPut (key := cdV) (val := oneV) (a := c) (v := 1) rfl rfl rfl hM hk (fun om' hM' => ?_))
      rw [hasL_put hm] at hM'
      repeat' first | refine Y.st ?_ | (refine nw ?_; intro _) | refine Y.kn ?_ | fail
      refine GQ.heap (H' := [(bs, .cells #[.map (some mp)] 269 (0, 0)), (mp, om')] ++ F) ?_ (fun w hw => hw.sub (List.sublist_cons_self _ _))
      exact GQ.done1 rfl rfl ⟨by rw [he], _, by rw [he]; exact ⟨mp, om', rfl, hM'⟩, rfl⟩
end
end Go.Cid

namespace Go.Cid
open Go.Own Go.Proofs Go.RowKit Go.Lib Go.Asc Go.Adr Go.Nam Go.Tri
attribute [local irreducible] GC GQ G Rd Eff T
set_option maxRecDepth 20000
set_option maxHeartbeats 4000000
section
variable {W0 : World} {F : Heap}
attribute [local irreducible] rightC ofL Lit.wf
theorem cells_len {l : List Cd} (h : ∀ c ∈ l, SizC c) : (l.flatMap cdC).length = l.length * 17 := by
  induction l with
  | nil => rfl
  | cons c l ih =>
    have := ih (fun x hx => h x (List.mem_cons_of_mem _ hx))
    simp only [List.flatMap_cons, List.length_append, cdC_len (h c (by simp)).1, this, List.length_cons, Nat.add_mul]; omega
theorem fill_cd {c : Cd} (ha : c.addr.length = 16) : Instr.fill (fun i => some (i * 17, 17)) ((Array.range (1 * 17)).map ((cdV zeroC).cells[· % (cdV zeroC).cells.size]!)) [(0, cdV c)] = some (cdC c).toArray := by
  obtain ⟨a, n⟩ := c
  match a, ha with
  | [a0, a1, a2, a3, a4, a5, a6, a7, a8, a9, b0, b1, b2, b3, b4, b5], _ => show _ = _; kernel_rfl
end
end Go.Cid
