/-
  A SET OF RANGES: cidr.New, Add, Drop, Find.
  A SET OF RANGES, SHOWN: (*cidr.Set).All where it has one range at most.
-/
import Derived.Test.YtiemjebpbdmkpaaGreatDoorGCi
import Derived.Test.YtiemjebpbdmkpaaGreatDoorGOwn
namespace Go.Cid
open Go.Own Go.Proofs Go.RowKit Go.Lib Go.Asc Go.Adr Go.Nam Go.Tri
attribute [local irreducible] GC GQ G Rd Eff T
set_option maxRecDepth 20000
set_option maxHeartbeats 4000000
instance : MapT Tryz.prog 183 33 3 (isK Tryz.prog 33) (.int .i64 0) :=
  ⟨Tryz.underlying183, keyLaws (Maps.Keyed.of_law (deep_law_laid (by kernel_rfl) (m := 4) (by omega) (of_decide_eq_true (by kernel_rfl)) (by kernel_rfl) (by kernel_rfl))), Tryz.zeroValue3⟩
abbrev oneV (n : Int) : Value := .int .i64 n
abbrev hasL (l : List Cd) : List (Cd × Int) := l.map fun c => (c, (1 : Int))
theorem hasL_get (l : List Cd) (k : Cd) : getK (hasL l) k = if k ∈ l then some 1 else none := by
  induction l with
  | nil => rfl
  | cons r rs ih =>
    simp only [hasL, List.map_cons, getK, List.mem_cons] at ih ⊢
    by_cases h : r = k
    · subst h; simp
    · rw [if_neg h, ih]; simp [Ne.symm h]
theorem hasL_look (l : List Cd) (k : Cd) : lookV oneV (hasL l) k (.int .i64 0) = .int .i64 (if k ∈ l then 1 else 0) := by
  unfold lookV
  rw [hasL_get]
  by_cases h : k ∈ l
  · rw [if_pos h, if_pos h]
  · rw [if_neg h, if_neg h]
theorem hasL_put {l : List Cd} {c : Cd} (h : c ∉ l) : putK (hasL l) c 1 = hasL (l ++ [c]) := by
  rw [putK_new (by simpa using h)]; simp
theorem hasL_cut (l : List Cd) (c : Cd) : cutK (hasL l) c = hasL (l.erase c) := by
  induction l with
  | nil => rfl
  | cons r rs ih =>
    simp only [hasL, List.map_cons, cutK, List.erase_cons] at ih ⊢
    by_cases h : r = c
    · subst h; simp
    · rw [if_neg h, ih]; simp [h]
/-- The set, among what is owned. -/
def SetQ (l : List Cd) (bs : Nat) (H : Heap) : Prop := ∃ mp om, H = [(bs, .cells #[.map (some mp)] 185 (0, 0)), (mp, om)] ∧ MapIs (isK Tryz.prog 33) cdV oneV (hasL l) om
def addC (l : List Cd) (c : Cd) : List Cd × Bool := if rightC c = true ∧ c ∉ l then (l ++ [c], true) else (l, false)
/-- The longest range of the set that has the address. -/
def findK (l : List Cd) (a : List UInt8) : Nat → Option Cd
  | 0 => none
  | j + 1 => if ofL a (j : Int) ∈ l then some (ofL a (j : Int)) else findK l a j
def findC (l : List Cd) (a : List UInt8) : Option Cd := findK l a 129
def foundV : Option Cd → Value
  | some c => .tuple #[cdV c, .bool true]
  | none => .tuple #[cdV zeroC, .bool false]
section
variable {W0 : World} {F : Heap}
attribute [local irreducible] rightC ofL Lit.wf
theorem cnew_spec : T Tryz.prog W0 71 #[] F (fun v H' => ∃ bs H, v = .pointer (some ⟨bs, 0, none⟩) ∧ SetQ [] bs H ∧ H' = H ++ F) := by
  refine T.intro (args := []) Tryz.func71 rfl Tryz.ntmps71 rfl ?_
  repeat' first | refine Y.st ?_ | (refine nw ?_; intro _) | refine Y.kn ?_ | fail
  refine G.ef rfl rfl rfl (Eff.makeMap (fun mp => ?_))
  refine G.rd (Rd.build (cells := #[.map (some mp)]) rfl (by rfl)) rfl rfl ?_
  refine G.ef rfl rfl rfl (Eff.boxA rfl (fun bs => ?_))
  repeat' first | refine Y.st ?_ | (refine nw ?_; intro _) | refine Y.kn ?_ | fail
  exact GQ.done1 rfl rfl ⟨bs, _, rfl, ⟨mp, _, rfl, .empty (fun a b h => cdV_inj h)⟩, rfl⟩
theorem cadd_spec {l : List Cd} {bs : Nat} {H : Heap} (h : SetQ l bs H) (c : Cd) (hc : SizC c) : T Tryz.prog W0 72 #[.pointer (some ⟨bs, 0, none⟩), cdV c] (H ++ F)
    (fun v H' => v = .bool (addC l c).2 ∧ ∃ H2, SetQ (addC l c).1 bs H2 ∧ H' = H2 ++ F) := by
  have h' := h
  obtain ⟨mp, om, rfl, hM⟩ := h
  simp only [List.cons_append, List.nil_append]
  have hk := cd_key c hc
  have ha := hc.1
  have hSc : SizC ⟨c.addr, c.bits⟩ := hc
  refine T.intro (args := [_, _]) Tryz.func72 rfl Tryz.ntmps72 rfl ?_
  repeat' first | refine Y.st ?_ | (refine nw ?_; intro _) | refine Y.kn ?_ | fail
  rename_i b3
  cases hr : rightC c with
  | false =>
    have he : addC l c = (l, false) := by unfold addC; rw [if_neg (by rw [hr]; simp)]
    refine GC.drawn [(0, .read), (1, .eff), (2, .read), (3, .read), (4, .read), (5, .read), (6, .read), (7, .read), (8, .read), (9, .read), (10, .read), (11, .read)] ([(b3, .cells (cdC c).toArray 33 (0, 0)), (bs, .cells #[.map (some mp)] 185 (0, 0)), (mp, om)]) (by kernel_rfl) (by kernel_rfl) rfl ?_
    refine G.rd (Rd.loadAggC rfl (cellsH (fun j u hj => by simpa using hj)) (cdC_len ha)) rfl rfl ?_
    repeat' first | refine Y.st ?_ | (refine nw ?_; intro _) | refine Y.kn ?_ | fail
    refine GQ.heap (H' := [(bs, .cells #[.map (some mp)] 185 (0, 0)), (mp, om)] ++ F) ?_ (fun w hw => hw.sub (List.sublist_cons_self _ _))
    exact GQ.done1 rfl rfl ⟨by rw [he], _, by rw [he]; exact h', rfl⟩
  | true =>
    refine GC.drawn [(0, .read), (1, .eff), (2, .read), (3, .read), (4, .read), (5, .read), (6, .read), (7, .read), (8, .read), (9, .read), (10, .read), (11, .read)] ([(b3, .cells (cdC c).toArray 33 (0, 0)), (bs, .cells #[.map (some mp)] 185 (0, 0)), (mp, om)]) (by kernel_rfl) (by kernel_rfl) rfl ?_
    refine G.rd (Rd.loadAggC rfl (cellsH (fun j u hj => by simpa using hj)) (cdC_len ha)) rfl rfl ?_
    repeat' first | refine Y.st ?_ | (refine nw ?_; intro _) | refine Y.kn ?_ | fail
    refine G.rd (Rd.loadAggC rfl (cellsH (fun j u hj => by simpa using hj)) (cdC_len ha)) rfl rfl ?_
    repeat' first | refine Y.st ?_ | (refine nw ?_; intro _) | refine Y.kn ?_ | fail
    refine G.rd (Rd.look (key := cdV) (a := c) rfl rfl hM hk) rfl rfl ?_
    rw [hasL_look]
    by_cases hm : c ∈ l
    · have he : addC l c = (l, false) := by unfold addC; rw [if_neg (by rintro ⟨_, h⟩; exact h hm)]
      rw [if_pos hm]
      repeat' first | refine Y.st ?_ | (refine nw ?_; intro _) | refine Y.kn ?_ | fail
      refine GQ.heap (H' := [(bs, .cells #[.map (some mp)] 185 (0, 0)), (mp, om)] ++ F) ?_ (fun w hw => hw.sub (List.sublist_cons_self _ _))
      exact GQ.done1 rfl rfl ⟨by rw [he], _, by rw [he]; exact h', rfl⟩
    · have he : addC l c = (l ++ [c], true) := by unfold addC; rw [if_pos ⟨hr, hm⟩]
      rw [if_neg hm]
      repeat' first | refine Y.st ?_ | (refine nw ?_; intro _) | refine Y.kn ?_ | fail
      refine GC.drawnH [(0, .read), (1, .read), (2, .read), (3, .read), (4, .read), (5, .tail)] (by kernel_rfl) (by kernel_rfl) rfl ?_
      repeat' first | refine Y.st ?_ | (refine nw ?_; intro _) | refine Y.kn ?_ | fail
      refine G.rd (Rd.loadAggC rfl (cellsH (fun j u hj => by simpa using hj)) (cdC_len ha)) rfl rfl ?_
      refine G.ef rfl rfl rfl (Eff.mapPut (key := cdV) (val := oneV) (a := c) (v := 1) rfl rfl rfl hM hk (fun om' hM' => ?_))
      rw [hasL_put hm] at hM'
      repeat' first | refine Y.st ?_ | (refine nw ?_; intro _) | refine Y.kn ?_ | fail
      refine GQ.heap (H' := [(bs, .cells #[.map (some mp)] 185 (0, 0)), (mp, om')] ++ F) ?_ (fun w hw => hw.sub (List.sublist_cons_self _ _))
      exact GQ.done1 rfl rfl ⟨by rw [he], _, by rw [he]; exact ⟨mp, om', rfl, hM'⟩, rfl⟩
end
end Go.Cid

namespace Go.Cid
open Go.Own Go.Proofs Go.RowKit Go.Lib Go.Asc Go.Adr Go.Nam Go.Tri
attribute [local irreducible] GC GQ G Rd Eff T
set_option maxRecDepth 20000
set_option maxHeartbeats 4000000
section
variable {W0 : World} {F : Heap}
attribute [local irreducible] rightC ofL Lit.wf
theorem ins1_spec (p : Option Addr) (n c : Nat) (hn : n ≤ 1) (f : Value) : T Tryz.prog W0 203 #[.slice p n c, .int .i64 0, .int .i64 (n : Int), f] F (fun _ H' => H' = F) := by
  refine T.intro (args := [_, _, _, _]) Tryz.func203 rfl Tryz.ntmps203 rfl ?_
  repeat' first | refine Y.st ?_ | (refine nw ?_; intro _) | refine Y.kn ?_ | fail
  refine GC.loopE (ι := Unit) (fun i => [(8, .int .i64 1)]) [(0, _), (1, _), (2, _), (3, _)] (fun _ => F) (fun _ => 0) () ⟨rfl, rfl, rfl, rfl, rfl, trivial⟩ (fun _ h => h) ?_
  intro _
  repeat' first | refine Y.st ?_ | (refine nw ?_; intro _) | refine Y.kn ?_ | fail
  first | exact GQ.done0n rfl rfl | exact GQ.done0 rfl rfl
theorem len64_spec (n : Nat) (hn : n ≤ 1) : T Tryz.prog W0 212 #[.int .u64 (n : Int)] F (fun v H' => v = .int .i64 (n : Int) ∧ H' = F) := by
  refine T.intro (args := [_]) Tryz.func212 rfl Tryz.ntmps212 rfl ?_
  repeat' first | refine Y.st ?_ | (refine nw ?_; intro _) | refine Y.kn ?_ | fail
  rcases (by omega : n = 0 ∨ n = 1) with rfl | rfl
  · refine G.rd (Rd.idxS rfl rfl (by decide) (by decide +kernel)) rfl rfl ?_
    refine G.rd (Rd.conv (c := 0) rfl (by decide +kernel)) rfl rfl ?_
    repeat' first | refine Y.st ?_ | (refine nw ?_; intro _) | refine Y.kn ?_ | fail
    exact GQ.done1 rfl rfl ⟨rfl, rfl⟩
  · refine G.rd (Rd.idxS rfl rfl (by decide) (by decide +kernel)) rfl rfl ?_
    refine G.rd (Rd.conv (c := 1) rfl (by decide +kernel)) rfl rfl ?_
    repeat' first | refine Y.st ?_ | (refine nw ?_; intro _) | refine Y.kn ?_ | fail
    exact GQ.done1 rfl rfl ⟨rfl, rfl⟩
theorem len1_spec (n : Nat) (hn : n ≤ 1) : T Tryz.prog W0 169 #[.int .u64 (n : Int)] F (fun v H' => v = .int .i64 (n : Int) ∧ H' = F) := by
  refine T.intro (args := [_]) Tryz.func169 rfl Tryz.ntmps169 rfl ?_
  repeat' first | refine Y.st ?_ | (refine nw ?_; intro _) | refine Y.kn ?_ | fail
  refine G.ef rfl rfl rfl (Eff.callF rfl ((len64_spec n hn).mono ?_))
  rintro v H' ⟨rfl, rfl⟩
  repeat' first | refine Y.st ?_ | (refine nw ?_; intro _) | refine Y.kn ?_ | fail
  exact GQ.done1 rfl rfl ⟨rfl, rfl⟩
theorem pdq1_spec (p : Option Addr) (n c : Nat) (hn : n ≤ 1) (f : Value) (m : Int) : T Tryz.prog W0 168 #[.slice p n c, .int .i64 0, .int .i64 (n : Int), .int .i64 m, f] F (fun _ H' => H' = F) := by
  refine T.intro (args := [_, _, _, _, _]) Tryz.func168 rfl Tryz.ntmps168 rfl ?_
  repeat' first | refine Y.st ?_ | (refine nw ?_; intro _) | refine Y.kn ?_ | fail
  refine GC.loopE (ι := Unit) (fun i => [(1, .int .i64 0), (2, .int .i64 (n : Int)), (3, .int .i64 m), (10, .bool true), (11, .bool true)]) [(0, _), (4, _)] (fun _ => F) (fun _ => 0) () ⟨rfl, rfl, rfl, rfl, rfl, rfl, rfl, trivial⟩ (fun _ h => h) ?_
  intro _
  repeat' first | refine Y.st ?_ | (refine nw ?_; intro _) | refine Y.kn ?_ | fail
  refine G.ef rfl rfl rfl (Eff.callF rfl ((ins1_spec p n c hn f).mono ?_))
  rintro v H' rfl
  repeat' first | refine Y.st ?_ | (refine nw ?_; intro _) | refine Y.kn ?_ | fail
  first | exact GQ.done0n rfl rfl | exact GQ.done0 rfl rfl
theorem sort1_spec (p : Option Addr) (n c : Nat) (hn : n ≤ 1) (f : Value) : T Tryz.prog W0 131 #[.slice p n c, f] F (fun _ H' => H' = F) := by
  refine T.intro (args := [_, _]) Tryz.func131 rfl Tryz.ntmps131 rfl ?_
  repeat' first | refine Y.st ?_ | (refine nw ?_; intro _) | refine Y.kn ?_ | fail
  refine G.rd (Rd.conv (j := .u64) (c := (n : Int)) rfl (by rcases (by omega : n = 0 ∨ n = 1) with rfl | rfl <;> rfl)) rfl rfl ?_
  refine G.ef rfl rfl rfl (Eff.callF rfl ((len1_spec n hn).mono ?_))
  rintro v H' ⟨rfl, rfl⟩
  repeat' first | refine Y.st ?_ | (refine nw ?_; intro _) | refine Y.kn ?_ | fail
  refine G.ef rfl rfl rfl (Eff.callF rfl ((pdq1_spec p n c hn f _).mono ?_))
  rintro v H' rfl
  repeat' first | refine Y.st ?_ | (refine nw ?_; intro _) | refine Y.kn ?_ | fail
  first | exact GQ.done0n rfl rfl | exact GQ.done0 rfl rfl
theorem cells_len {l : List Cd} (h : ∀ c ∈ l, SizC c) : (l.flatMap cdC).length = l.length * 17 := by
  induction l with
  | nil => rfl
  | cons c l ih =>
    have := ih (fun x hx => h x (List.mem_cons_of_mem _ hx))
    simp only [List.flatMap_cons, List.length_append, cdC_len (h c (by simp)).1, this, List.length_cons, Nat.add_mul]; omega
theorem fill_cd {c : Cd} (ha : c.addr.length = 16) : Instr.fill (fun i => some (i * 17, 17)) ((Array.range (1 * 17)).map ((cdV zeroC).cells[· % (cdV zeroC).cells.size]!)) [(0, cdV c)] = some (cdC c).toArray := by
  obtain ⟨a, n⟩ := c
  match a, ha with
  | [a0, a1, a2, a3, a4, a5, a6, a7, a8, a9, b0, b1, b2, b3, b4, b5], _ => show _ = _; kernel_rfl
/-- The set's ranges, in some order. -/
theorem all1_spec {l : List Cd} {bs : Nat} {H : Heap} (h : SetQ l bs H) (hl : l.length ≤ 1) (hs : ∀ c ∈ l, SizC c) : T Tryz.prog W0 73 #[.pointer (some ⟨bs, 0, none⟩)] (H ++ F)
    (fun v H' => ∃ B, Buf 33 17 v l.length (l.flatMap cdC) B ∧ H' = B ++ (H ++ F)) := by
  obtain ⟨mp, om, rfl, hM⟩ := h
  simp only [List.cons_append, List.nil_append]
  refine T.intro (args := [_]) Tryz.func73 rfl Tryz.ntmps73 rfl ?_
  repeat' first | refine Y.st ?_ | (refine nw ?_; intro _) | refine Y.kn ?_ | fail
  refine G.ef rfl rfl rfl (Eff.rangeM rfl hM (fun r oi hi => ?_))
  repeat' first | refine Y.st ?_ | (refine nw ?_; intro _) | refine Y.kn ?_ | fail
  refine GC.loopE (ι := { q : List Cd × List Cd × Value × Heap × Obj // (q.2.1 ++ q.1).Perm l ∧ Buf 33 17 q.2.2.1 q.2.1.length (q.2.1.flatMap cdC) q.2.2.2.1 ∧ IterIs cdV oneV mp om (hasL q.1) q.2.2.2.2 }) (fun i => [(3, i.1.2.2.1)]) [(9, _)]
    (fun q => q.1.2.2.2.1 ++ ((r, q.1.2.2.2.2) :: (bs, .cells #[.map (some mp)] 185 (0, 0)) :: (mp, om) :: F)) (fun q => q.1.1.length) ⟨(l, [], .slice none 0 0, [], oi), by simp, .nil, hi⟩ ⟨rfl, rfl, trivial⟩ (fun _ h => h) ?_
  rintro ⟨⟨left, got, v, B, oi⟩, hperm, hB, hi⟩
  dsimp only [List.cons_append, List.nil_append] at hperm hB hi ⊢
  have hln : got.length + left.length = l.length := by rw [← List.length_append]; exact hperm.length_eq
  repeat' first | refine Y.st ?_ | (refine nw ?_; intro _) | refine Y.kn ?_ | fail
  refine G.ef rfl rfl rfl (Eff.nextM rfl hi (fun h0 => ?_) (fun A q D oi' hA hi' hlast => ?_))
  · have hl0 : left = [] := by simpa using h0
    subst hl0
    rw [List.append_nil] at hperm
    have hgl : got = l := by
      match l, hl with
      | [], _ => exact hperm.eq_nil
      | [c], _ => exact hperm.eq_singleton
    subst hgl
    obtain ⟨p', c', rfl, hc', _⟩ := Go.Tri.Buf.see hB
    repeat' first | refine Y.st ?_ | (refine nw ?_; intro _) | refine Y.kn ?_ | fail
    refine G.ef rfl rfl rfl (Eff.callF rfl ((sort1_spec p' got.length c' hl _).mono ?_))
    rintro v H' rfl
    repeat' first | refine Y.st ?_ | (refine nw ?_; intro _) | refine Y.kn ?_ | fail
    refine GQ.heap (H' := B ++ ((bs, .cells #[.map (some mp)] 185 (0, 0)) :: (mp, om) :: F)) ?_ (fun w hw => hw.sub (List.Sublist.append_left (List.sublist_cons_self _ _) _))
    exact GQ.done1 rfl rfl ⟨B, hB, rfl⟩
  · obtain ⟨A', R', rfl, hA1, hA2⟩ := List.map_eq_append_iff.1 hA
    obtain ⟨c, D', rfl, hq, hD⟩ := List.map_eq_cons_iff.1 hA2
    subst hA1 hq hD
    have hcl : c ∈ l := hperm.mem_iff.1 (by simp)
    have hc := hs c hcl
    have hlc := cdC_len hc.1
    have hln2 : got.length < 1 := by simp only [List.length_append, List.length_cons] at hln; omega
    repeat' first | refine Y.st ?_ | (refine nw ?_; intro _) | refine Y.kn ?_ | fail
    refine G.rd (Rd.entryM rfl hlast) rfl rfl ?_
    refine G.rd (Rd.extract rfl rfl) rfl rfl ?_
    refine G.ef rfl rfl rfl (Eff.allocA (cs := cdC zeroC) (fun b4 => ?_))
    refine G.ef rfl rfl rfl (Eff.storeAll (cs := cdC zeroC) (vs := cdC c) rfl rfl (cdC_one _) (by rw [hlc]; rfl) hlc ?_)
    repeat' first | refine Y.st ?_ | (refine nw ?_; intro _) | refine Y.kn ?_ | fail
    refine G.ef rfl rfl rfl (Eff.buildSlice (cells := (cdC c).toArray) rfl (by exact fill_cd hc.1) (by omega) (fun b6 => ?_))
    refine G.ef rfl rfl rfl (Eff.append (ys := cdC c) (F := (b6, .cells (cdC c).toArray 33 (0, 0)) :: (b4, .cells (cdC c).toArray 33 (0, 0)) :: (r, oi') :: (bs, .cells #[.map (some mp)] 185 (0, 0)) :: (mp, om) :: F) (by omega) rfl hB rfl (by exact permC) (by rw [hlc]) (at_here (cs := cdC c)) (cdC_one c) (by omega) (by omega) (fun v' B' hB' => ?_))
    repeat' first | refine Y.st ?_ | (refine nw ?_; intro _) | refine Y.kn ?_ | fail
    exact GQ.back ⟨(A' ++ D', got ++ [c], v', B', oi'), by
      refine List.Perm.trans ?_ hperm
      simp only [List.append_assoc, List.singleton_append]
      exact (List.perm_middle.symm).append_left got, by rw [List.length_append, List.flatMap_append]; simpa using hB', by rw [← List.map_append] at hi'; exact hi'⟩ (by simp only [List.length_append, List.length_cons]; omega) ⟨rfl, rfl, trivial⟩
      (fun w hw => hw.sub (List.Sublist.append_left ((List.sublist_cons_self _ _).trans (List.sublist_cons_self _ _)) _))
end
end Go.Cid
