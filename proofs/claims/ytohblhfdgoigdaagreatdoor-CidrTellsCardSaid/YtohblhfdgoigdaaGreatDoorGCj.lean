/-
  A SET OF RANGES: cidr.New, Add, Drop, Find.
  A SET OF RANGES, SHOWN: (*cidr.Set).All where it has one range at most.
  RANGES, ONE BY ONE: what stands ahead of each statement about them.
-/
import Derived.Test.YtohblhfdgoigdaaGreatDoorGCi
import Derived.Test.YtohblhfdgoigdaaGreatDoorGOwn
namespace Go.Cid
open Go.Own Go.Proofs Go.RowKit Go.Lib Go.Asc Go.Adr Go.Nam Go.Tri
attribute [local irreducible] GC GQ G Rd Eff T
set_option maxRecDepth 20000
set_option maxHeartbeats 4000000
instance : MapT Tryz.prog 105 41 3 (isK Tryz.prog 41) (.int .i64 0) :=
  ⟨Tryz.underlying105, keyLaws (Maps.Keyed.of_law (deep_law_laid (by kernel_rfl) (m := 4) (by omega) (of_decide_eq_true (by kernel_rfl)) (by kernel_rfl) (by kernel_rfl))), Tryz.zeroValue3⟩
abbrev oneV (n : Int) : Value := .int .i64 n
abbrev hasL (l : List Cd) : List (Cd × Int) := l.map fun c => (c, (1 : Int))
theorem hasL_get (l : List Cd) (k : Cd) : getK (hasL l) k = if k ∈ l then some 1 else none := by
  induction l with
  | nil => rfl
  | cons r rs ih =>
    simp only [hasL, List.map_cons, getK, List.mem_cons] at ih ⊢
    by_cases h : r = k
    · subst h; simp
    · rw [if_neg h, ih]; simp [Ne.symm h]
theorem hasL_look (l : List Cd) (k : Cd) : lookV oneV (hasL l) k (.int .i64 0) = .int .i64 (if k ∈ l then 1 else 0) := by
  unfold lookV
  rw [hasL_get]
  by_cases h : k ∈ l
  · rw [if_pos h, if_pos h]
  · rw [if_neg h, if_neg h]
theorem hasL_put {l : List Cd} {c : Cd} (h : c ∉ l) : putK (hasL l) c 1 = hasL (l ++ [c]) := by
  rw [putK_new (by simpa using h)]; simp
theorem hasL_cut (l : List Cd) (c : Cd) : cutK (hasL l) c = hasL (l.erase c) := by
  induction l with
  | nil => rfl
  | cons r rs ih =>
    simp only [hasL, List.map_cons, cutK, List.erase_cons] at ih ⊢
    by_cases h : r = c
    · subst h; simp
    · rw [if_neg h, ih]; simp [h]
/-- The set, among what is owned. -/
def SetQ (l : List Cd) (bs : Nat) (H : Heap) : Prop := ∃ mp om, H = [(bs, .cells #[.map (some mp)] 107 (0, 0)), (mp, om)] ∧ MapIs (isK Tryz.prog 41) cdV oneV (hasL l) om
def addC (l : List Cd) (c : Cd) : List Cd × Bool := if rightC c = true ∧ c ∉ l then (l ++ [c], true) else (l, false)
/-- The longest range of the set that has the address. -/
def findK (l : List Cd) (a : List UInt8) : Nat → Option Cd
  | 0 => none
  | j + 1 => if ofL a (j : Int) ∈ l then some (ofL a (j : Int)) else findK l a j
def findC (l : List Cd) (a : List UInt8) : Option Cd := findK l a 129
def foundV : Option Cd → Value
  | some c => .tuple #[cdV c, .bool true]
  | none => .tuple #[cdV zeroC, .bool false]
section
variable {W0 : World} {F : Heap}
attribute [local irreducible] rightC ofL Lit.wf
theorem cnew_spec : T Tryz.prog W0 30 #[] F (fun v H' => ∃ bs H, v = .pointer (some ⟨bs, 0, none⟩) ∧ SetQ [] bs H ∧ H' = H ++ F) := by
  refine T.intro (args := []) Tryz.func30 rfl Tryz.ntmps30 rfl ?_
  repeat' first | refine Y.st ?_ | (refine nw ?_; intro _) | refine Y.kn ?_ | fail
  refine G.ef rfl rfl rfl (Eff.makeMap (fun mp => ?_))
  refine G.rd (Rd.build (cells := #[.map (some mp)]) rfl (by rfl)) rfl rfl ?_
  refine G.ef rfl rfl rfl (Eff.boxA rfl (fun bs => ?_))
  repeat' first | refine Y.st ?_ | (refine nw ?_; intro _) | refine Y.kn ?_ | fail
  exact GQ.done1 rfl rfl ⟨bs, _, rfl, ⟨mp, _, rfl, .empty (fun a b h => cdV_inj h)⟩, rfl⟩
theorem cadd_spec {l : List Cd} {bs : Nat} {H : Heap} (h : SetQ l bs H) (c : Cd) (hc : SizC c) : T Tryz.prog W0 31 #[.pointer (some ⟨bs, 0, none⟩), cdV c] (H ++ F)
    (fun v H' => v = .bool (addC l c).2 ∧ ∃ H2, SetQ (addC l c).1 bs H2 ∧ H' = H2 ++ F) := by
  have h' := h
  obtain ⟨mp, om, rfl, hM⟩ := h
  simp only [List.cons_append, List.nil_append]
  have hk := cd_key c hc
  have ha := hc.1
  have hSc : SizC ⟨c.addr, c.bits⟩ := hc
  refine T.intro (args := [_, _]) Tryz.func31 rfl Tryz.ntmps31 rfl ?_
  repeat' first | refine Y.st ?_ | (refine nw ?_; intro _) | refine Y.kn ?_ | fail
  rename_i b3
  cases hr : rightC c with
  | false =>
    have he : addC l c = (l, false) := by unfold addC; rw [if_neg (by rw [hr]; simp)]
    refine GC.drawn [(0, .read), (1, .eff), (2, .read), (3, .read), (4, .read), (5, .read), (6, .read), (7, .read), (8, .read), (9, .read), (10, .read), (11, .read)] ([(b3, .cells (cdC c).toArray 41 (0, 0)), (bs, .cells #[.map (some mp)] 107 (0, 0)), (mp, om)]) (by kernel_rfl) (by kernel_rfl) rfl ?_
    refine G.rd (Rd.loadAggC rfl (cellsH (fun j u hj => by simpa using hj)) (cdC_len ha)) rfl rfl ?_
    repeat' first | refine Y.st ?_ | (refine nw ?_; intro _) | refine Y.kn ?_ | fail
    refine GQ.heap (H' := [(bs, .cells #[.map (some mp)] 107 (0, 0)), (mp, om)] ++ F) ?_ (fun w hw => hw.sub (List.sublist_cons_self _ _))
    exact GQ.done1 rfl rfl ⟨by rw [he], _, by rw [he]; exact h', rfl⟩
  | true =>
    refine GC.drawn [(0, .read), (1, .eff), (2, .read), (3, .read), (4, .read), (5, .read), (6, .read), (7, .read), (8, .read), (9, .read), (10, .read), (11, .read)] ([(b3, .cells (cdC c).toArray 41 (0, 0)), (bs, .cells #[.map (some mp)] 107 (0, 0)), (mp, om)]) (by kernel_rfl) (by kernel_rfl) rfl ?_
    refine G.rd (Rd.loadAggC rfl (cellsH (fun j u hj => by simpa using hj)) (cdC_len ha)) rfl rfl ?_
    repeat' first | refine Y.st ?_ | (refine nw ?_; intro _) | refine Y.kn ?_ | fail
    refine G.rd (Rd.loadAggC rfl (cellsH (fun j u hj => by simpa using hj)) (cdC_len ha)) rfl rfl ?_
    repeat' first | refine Y.st ?_ | (refine nw ?_; intro _) | refine Y.kn ?_ | fail
    refine G.rd (Rd.look (key := cdV) (a := c) rfl rfl hM hk) rfl rfl ?_
    rw [hasL_look]
    by_cases hm : c ∈ l
    · have he : addC l c = (l, false) := by unfold addC; rw [if_neg (by rintro ⟨_, h⟩; exact h hm)]
      rw [if_pos hm]
      repeat' first | refine Y.st ?_ | (refine nw ?_; intro _) | refine Y.kn ?_ | fail
      refine GQ.heap (H' := [(bs, .cells #[.map (some mp)] 107 (0, 0)), (mp, om)] ++ F) ?_ (fun w hw => hw.sub (List.sublist_cons_self _ _))
      exact GQ.done1 rfl rfl ⟨by rw [he], _, by rw [he]; exact h', rfl⟩
    · have he : addC l c = (l ++ [c], true) := by unfold addC; rw [if_pos ⟨hr, hm⟩]
      rw [if_neg hm]
      repeat' first | refine Y.st ?_ | (refine nw ?_; intro _) | refine Y.kn ?_ | fail
      refine GC.drawnH [(0, .read), (1, .read), (2, .read), (3, .read), (4, .read), (5, .tail)] (by kernel_rfl) (by kernel_rfl) rfl ?_
      repeat' first | refine Y.st ?_ | (refine nw ?_; intro _) | refine Y.kn ?_ | fail
      refine G.rd (Rd.loadAggC rfl (cellsH (fun j u hj => by simpa using hj)) (cdC_len ha)) rfl rfl ?_
      refine G.ef rfl rfl rfl (Eff.mapPut (key := cdV) (val := oneV) (a := c) (v := 1) rfl rfl rfl hM hk (fun om' hM' => ?_))
      rw [hasL_put hm] at hM'
      repeat' first | refine Y.st ?_ | (refine nw ?_; intro _) | refine Y.kn ?_ | fail
      refine GQ.heap (H' := [(bs, .cells #[.map (some mp)] 107 (0, 0)), (mp, om')] ++ F) ?_ (fun w hw => hw.sub (List.sublist_cons_self _ _))
      exact GQ.done1 rfl rfl ⟨by rw [he], _, by rw [he]; exact ⟨mp, om', rfl, hM'⟩, rfl⟩
theorem cdrop_spec {l : List Cd} {bs : Nat} {H : Heap} (h : SetQ l bs H) (c : Cd) (hc : SizC c) : T Tryz.prog W0 50 #[.pointer (some ⟨bs, 0, none⟩), cdV c] (H ++ F)
    (fun v H' => v = .bool (decide (c ∈ l)) ∧ ∃ H2, SetQ (l.erase c) bs H2 ∧ H' = H2 ++ F) := by
  obtain ⟨mp, om, rfl, hM⟩ := h
  simp only [List.cons_append, List.nil_append]
  have hk := cd_key c hc
  have ha := hc.1
  refine T.intro (args := [_, _]) Tryz.func50 rfl Tryz.ntmps50 rfl ?_
  repeat' first | refine Y.st ?_ | (refine nw ?_; intro _) | refine Y.kn ?_ | fail
  rename_i b3
  refine GC.drawnH [(0, .read), (1, .read), (2, .read), (3, .read), (4, .read), (5, .read), (6, .read), (7, .read)] (by kernel_rfl) (by kernel_rfl) rfl ?_
  repeat' first | refine Y.st ?_ | (refine nw ?_; intro _) | refine Y.kn ?_ | fail
  refine G.rd (Rd.loadAggC rfl (cellsH (fun j u hj => by simpa using hj)) (cdC_len ha)) rfl rfl ?_
  refine G.rd (Rd.look (key := cdV) (a := c) rfl rfl hM hk) rfl rfl ?_
  rw [hasL_look]
  refine G.isBin .gtr ?_
  refine G.rd (Rd.gtr rfl rfl) rfl rfl ?_
  rw [show decide ((0 : Int) < (if c ∈ l then 1 else 0)) = decide (c ∈ l) by by_cases h : c ∈ l <;> simp [h]]
  repeat' first | refine Y.st ?_ | (refine nw ?_; intro _) | refine Y.kn ?_ | fail
  refine GC.drawnH [(0, .read), (1, .read), (2, .read), (3, .read), (4, .read), (5, .tail)] (by kernel_rfl) (by kernel_rfl) rfl ?_
  repeat' first | refine Y.st ?_ | (refine nw ?_; intro _) | refine Y.kn ?_ | fail
  refine G.rd (Rd.loadAggC rfl (cellsH (fun j u hj => by simpa using hj)) (cdC_len ha)) rfl rfl ?_
  refine G.ef rfl rfl rfl (Eff.mapCut (key := cdV) (val := oneV) (a := c) rfl rfl hM hk (fun om' hM' => ?_))
  rw [hasL_cut] at hM'
  repeat' first | refine Y.st ?_ | (refine nw ?_; intro _) | refine Y.kn ?_ | fail
  refine GQ.heap (H' := [(bs, .cells #[.map (some mp)] 107 (0, 0)), (mp, om')] ++ F) ?_ (fun w hw => hw.sub (List.sublist_cons_self _ _))
  exact GQ.done1 rfl rfl ⟨rfl, _, ⟨mp, om', rfl, hM'⟩, rfl⟩
theorem cfind_spec {l : List Cd} {bs : Nat} {H : Heap} (h : SetQ l bs H) (a : List UInt8) (ha : a.length = 16) : T Tryz.prog W0 32 #[.pointer (some ⟨bs, 0, none⟩), .agg (u8s a).toArray] (H ++ F)
    (fun v H' => v = foundV (findC l a) ∧ H' = H ++ F) := by
  obtain ⟨mp, om, rfl, hM⟩ := h
  simp only [List.cons_append, List.nil_append]
  refine T.intro (args := [_, _]) Tryz.func32 rfl Tryz.ntmps32 rfl ?_
  repeat' first | refine Y.st ?_ | (refine nw ?_; intro _) | refine Y.kn ?_ | fail
  rename_i b3 b4
  refine GC.loopE (ι := { j : Nat // j ≤ 129 ∧ findC l a = findK l a j }) (fun i => [(6, .int .i64 ((i.1 : Int) - 1))]) [(0, _), (3, _), (4, _)]
    (fun _ => (b4, .cells (cdC zeroC).toArray 41 (0, 0)) :: (b3, .cells (u8s a).toArray 39 (0, 0)) :: (bs, .cells #[.map (some mp)] 107 (0, 0)) :: (mp, om) :: F) (fun j => j.1) ⟨129, Nat.le_refl _, rfl⟩ ⟨rfl, rfl, rfl, rfl, trivial⟩ (fun _ h => h) ?_
  rintro ⟨j, hj, hE⟩
  dsimp only [List.cons_append, List.nil_append] at hj hE ⊢
  cases j with
  | zero =>
    repeat' first | refine Y.st ?_ | (refine nw ?_; intro _) | refine Y.kn ?_ | fail
    refine G.rd (Rd.build (cells := (cdC zeroC).toArray) rfl (by kernel_rfl)) rfl rfl ?_
    refine G.ef rfl rfl rfl (Eff.storeAll (cs := cdC zeroC) (vs := cdC zeroC) rfl rfl (cdC_one _) rfl rfl ?_)
    repeat' first | refine Y.st ?_ | (refine nw ?_; intro _) | refine Y.kn ?_ | fail
    exact GQ.res2h (v := cdV zeroC) rfl (.agg rfl rfl) (.tmp rfl) _ (fun w hw => hw.sub ((List.sublist_cons_self _ _).trans (List.sublist_cons_self _ _))) ⟨by rw [hE]; rfl, rfl⟩
  | succ m =>
    have hw : (Lit.int .i64 (m : Int)).wf = true := wf_small (by omega) (by omega)
    have hO := siz_of ha (m : Int)
    have hk := cd_key (ofL a (m : Int)) hO
    have hlo := cdC_len hO.1
    rw [show (((m + 1 : Nat) : Int) - 1) = (m : Int) by omega]
    repeat' first | refine Y.st ?_ | (refine nw ?_; intro _) | refine Y.kn ?_ | fail
    rename_i b7
    refine G.ef rfl rfl rfl (Eff.storeAll (cs := cdC zeroC) (vs := cdC (ofL a (m : Int))) rfl rfl (cdC_one _) (by rw [hlo]; rfl) hlo ?_)
    repeat' first | refine Y.st ?_ | (refine nw ?_; intro _) | refine Y.kn ?_ | fail
    refine GC.drawnH [(0, .read), (1, .read), (2, .read), (3, .read), (4, .read), (5, .read), (6, .read)] (by kernel_rfl) (by kernel_rfl) rfl ?_
    repeat' first | refine Y.st ?_ | (refine nw ?_; intro _) | refine Y.kn ?_ | fail
    refine G.rd (Rd.look (key := cdV) (a := ofL a (m : Int)) rfl rfl hM hk) rfl rfl ?_
    rw [hasL_look]
    by_cases hm : ofL a (m : Int) ∈ l
    · have hf : findC l a = some (ofL a (m : Int)) := by rw [hE]; simp only [findK]; rw [if_pos hm]
      rw [if_pos hm]
      repeat' first | refine Y.st ?_ | (refine nw ?_; intro _) | refine Y.kn ?_ | fail
      refine G.ef rfl rfl rfl (Eff.storeAll (cs := cdC zeroC) (vs := cdC (ofL a (m : Int))) rfl rfl (cdC_one _) (by rw [hlo]; rfl) hlo ?_)
      repeat' first | refine Y.st ?_ | (refine nw ?_; intro _) | refine Y.kn ?_ | fail
      exact GQ.res2h (v := cdV (ofL a (m : Int))) rfl (.agg rfl hlo) (.tmp rfl) _ (fun w hw => hw.sub ((List.sublist_cons_self _ _).trans ((List.sublist_cons_self _ _).trans (List.sublist_cons_self _ _)))) ⟨by rw [hf]; rfl, rfl⟩
    · have hf : findC l a = findK l a m := by rw [hE]; simp only [findK]; rw [if_neg hm]
      rw [if_neg hm]
      repeat' first | refine Y.st ?_ | (refine nw ?_; intro _) | refine Y.kn ?_ | fail
      exact GQ.back ⟨m, by omega, hf⟩ (by simp only; omega) ⟨rfl, rfl, rfl, rfl, trivial⟩ (fun w hw => hw.sub (List.sublist_cons_self _ _))
end
end Go.Cid

namespace Go.Cid
open Go.Own Go.Proofs Go.RowKit Go.Lib Go.Asc Go.Adr Go.Nam Go.Tri
attribute [local irreducible] GC GQ G Rd Eff T
set_option maxRecDepth 20000
set_option maxHeartbeats 4000000
section
variable {W0 : World} {F : Heap}
attribute [local irreducible] rightC ofL Lit.wf
theorem ins1_spec (p : Option Addr) (n c : Nat) (hn : n ≤ 1) (f : Value) : T Tryz.prog W0 129 #[.slice p n c, .int .i64 0, .int .i64 (n : Int), f] F (fun _ H' => H' = F) := by
  refine T.intro (args := [_, _, _, _]) Tryz.func129 rfl Tryz.ntmps129 rfl ?_
  repeat' first | refine Y.st ?_ | (refine nw ?_; intro _) | refine Y.kn ?_ | fail
  refine GC.loopE (ι := Unit) (fun i => [(8, .int .i64 1)]) [(0, _), (1, _), (2, _), (3, _)] (fun _ => F) (fun _ => 0) () ⟨rfl, rfl, rfl, rfl, rfl, trivial⟩ (fun _ h => h) ?_
  intro _
  repeat' first | refine Y.st ?_ | (refine nw ?_; intro _) | refine Y.kn ?_ | fail
  first | exact GQ.done0n rfl rfl | exact GQ.done0 rfl rfl
theorem len64_spec (n : Nat) (hn : n ≤ 1) : T Tryz.prog W0 138 #[.int .u64 (n : Int)] F (fun v H' => v = .int .i64 (n : Int) ∧ H' = F) := by
  refine T.intro (args := [_]) Tryz.func138 rfl Tryz.ntmps138 rfl ?_
  repeat' first | refine Y.st ?_ | (refine nw ?_; intro _) | refine Y.kn ?_ | fail
  rcases (by omega : n = 0 ∨ n = 1) with rfl | rfl
  · refine G.rd (Rd.idxS rfl rfl (by decide) (by decide +kernel)) rfl rfl ?_
    refine G.rd (Rd.conv (c := 0) rfl (by decide +kernel)) rfl rfl ?_
    repeat' first | refine Y.st ?_ | (refine nw ?_; intro _) | refine Y.kn ?_ | fail
    exact GQ.done1 rfl rfl ⟨rfl, rfl⟩
  · refine G.rd (Rd.idxS rfl rfl (by decide) (by decide +kernel)) rfl rfl ?_
    refine G.rd (Rd.conv (c := 1) rfl (by decide +kernel)) rfl rfl ?_
    repeat' first | refine Y.st ?_ | (refine nw ?_; intro _) | refine Y.kn ?_ | fail
    exact GQ.done1 rfl rfl ⟨rfl, rfl⟩
theorem len1_spec (n : Nat) (hn : n ≤ 1) : T Tryz.prog W0 103 #[.int .u64 (n : Int)] F (fun v H' => v = .int .i64 (n : Int) ∧ H' = F) := by
  refine T.intro (args := [_]) Tryz.func103 rfl Tryz.ntmps103 rfl ?_
  repeat' first | refine Y.st ?_ | (refine nw ?_; intro _) | refine Y.kn ?_ | fail
  refine G.ef rfl rfl rfl (Eff.callF rfl ((len64_spec n hn).mono ?_))
  rintro v H' ⟨rfl, rfl⟩
  repeat' first | refine Y.st ?_ | (refine nw ?_; intro _) | refine Y.kn ?_ | fail
  exact GQ.done1 rfl rfl ⟨rfl, rfl⟩
theorem pdq1_spec (p : Option Addr) (n c : Nat) (hn : n ≤ 1) (f : Value) (m : Int) : T Tryz.prog W0 102 #[.slice p n c, .int .i64 0, .int .i64 (n : Int), .int .i64 m, f] F (fun _ H' => H' = F) := by
  refine T.intro (args := [_, _, _, _, _]) Tryz.func102 rfl Tryz.ntmps102 rfl ?_
  repeat' first | refine Y.st ?_ | (refine nw ?_; intro _) | refine Y.kn ?_ | fail
  refine GC.loopE (ι := Unit) (fun i => [(1, .int .i64 0), (2, .int .i64 (n : Int)), (3, .int .i64 m), (10, .bool true), (11, .bool true)]) [(0, _), (4, _)] (fun _ => F) (fun _ => 0) () ⟨rfl, rfl, rfl, rfl, rfl, rfl, rfl, trivial⟩ (fun _ h => h) ?_
  intro _
  repeat' first | refine Y.st ?_ | (refine nw ?_; intro _) | refine Y.kn ?_ | fail
  refine G.ef rfl rfl rfl (Eff.callF rfl ((ins1_spec p n c hn f).mono ?_))
  rintro v H' rfl
  repeat' first | refine Y.st ?_ | (refine nw ?_; intro _) | refine Y.kn ?_ | fail
  first | exact GQ.done0n rfl rfl | exact GQ.done0 rfl rfl
theorem sort1_spec (p : Option Addr) (n c : Nat) (hn : n ≤ 1) (f : Value) : T Tryz.prog W0 65 #[.slice p n c, f] F (fun _ H' => H' = F) := by
  refine T.intro (args := [_, _]) Tryz.func65 rfl Tryz.ntmps65 rfl ?_
  repeat' first | refine Y.st ?_ | (refine nw ?_; intro _) | refine Y.kn ?_ | fail
  refine G.rd (Rd.conv (j := .u64) (c := (n : Int)) rfl (by rcases (by omega : n = 0 ∨ n = 1) with rfl | rfl <;> rfl)) rfl rfl ?_
  refine G.ef rfl rfl rfl (Eff.callF rfl ((len1_spec n hn).mono ?_))
  rintro v H' ⟨rfl, rfl⟩
  repeat' first | refine Y.st ?_ | (refine nw ?_; intro _) | refine Y.kn ?_ | fail
  refine G.ef rfl rfl rfl (Eff.callF rfl ((pdq1_spec p n c hn f _).mono ?_))
  rintro v H' rfl
  repeat' first | refine Y.st ?_ | (refine nw ?_; intro _) | refine Y.kn ?_ | fail
  first | exact GQ.done0n rfl rfl | exact GQ.done0 rfl rfl
theorem cells_len {l : List Cd} (h : ∀ c ∈ l, SizC c) : (l.flatMap cdC).length = l.length * 17 := by
  induction l with
  | nil => rfl
  | cons c l ih =>
    have := ih (fun x hx => h x (List.mem_cons_of_mem _ hx))
    simp only [List.flatMap_cons, List.length_append, cdC_len (h c (by simp)).1, this, List.length_cons, Nat.add_mul]; omega
theorem fill_cd {c : Cd} (ha : c.addr.length = 16) : Instr.fill (fun i => some (i * 17, 17)) ((Array.range (1 * 17)).map ((cdV zeroC).cells[· % (cdV zeroC).cells.size]!)) [(0, cdV c)] = some (cdC c).toArray := by
  obtain ⟨a, n⟩ := c
  match a, ha with
  | [a0, a1, a2, a3, a4, a5, a6, a7, a8, a9, b0, b1, b2, b3, b4, b5], _ => show _ = _; kernel_rfl
/-- The set's ranges, in some order. -/
theorem all1_spec {l : List Cd} {bs : Nat} {H : Heap} (h : SetQ l bs H) (hl : l.length ≤ 1) (hs : ∀ c ∈ l, SizC c) : T Tryz.prog W0 33 #[.pointer (some ⟨bs, 0, none⟩)] (H ++ F)
    (fun v H' => ∃ B, Buf 41 17 v l.length (l.flatMap cdC) B ∧ H' = B ++ (H ++ F)) := by
  obtain ⟨mp, om, rfl, hM⟩ := h
  simp only [List.cons_append, List.nil_append]
  refine T.intro (args := [_]) Tryz.func33 rfl Tryz.ntmps33 rfl ?_
  repeat' first | refine Y.st ?_ | (refine nw ?_; intro _) | refine Y.kn ?_ | fail
  refine G.ef rfl rfl rfl (Eff.rangeM rfl hM (fun r oi hi => ?_))
  repeat' first | refine Y.st ?_ | (refine nw ?_; intro _) | refine Y.kn ?_ | fail
  refine GC.loopE (ι := { q : List Cd × List Cd × Value × Heap × Obj // (q.2.1 ++ q.1).Perm l ∧ Buf 41 17 q.2.2.1 q.2.1.length (q.2.1.flatMap cdC) q.2.2.2.1 ∧ IterIs cdV oneV mp om (hasL q.1) q.2.2.2.2 }) (fun i => [(3, i.1.2.2.1)]) [(9, _)]
    (fun q => q.1.2.2.2.1 ++ ((r, q.1.2.2.2.2) :: (bs, .cells #[.map (some mp)] 107 (0, 0)) :: (mp, om) :: F)) (fun q => q.1.1.length) ⟨(l, [], .slice none 0 0, [], oi), by simp, .nil, hi⟩ ⟨rfl, rfl, trivial⟩ (fun _ h => h) ?_
  rintro ⟨⟨left, got, v, B, oi⟩, hperm, hB, hi⟩
  dsimp only [List.cons_append, List.nil_append] at hperm hB hi ⊢
  have hln : got.length + left.length = l.length := by rw [← List.length_append]; exact hperm.length_eq
  repeat' first | refine Y.st ?_ | (refine nw ?_; intro _) | refine Y.kn ?_ | fail
  refine G.ef rfl rfl rfl (Eff.nextM rfl hi (fun h0 => ?_) (fun A q D oi' hA hi' hlast => ?_))
  · have hl0 : left = [] := by simpa using h0
    subst hl0
    rw [List.append_nil] at hperm
    have hgl : got = l := by
      match l, hl with
      | [], _ => exact hperm.eq_nil
      | [c], _ => exact hperm.eq_singleton
    subst hgl
    obtain ⟨p', c', rfl, hc', _⟩ := Go.Tri.Buf.see hB
    repeat' first | refine Y.st ?_ | (refine nw ?_; intro _) | refine Y.kn ?_ | fail
    refine G.ef rfl rfl rfl (Eff.callF rfl ((sort1_spec p' got.length c' hl _).mono ?_))
    rintro v H' rfl
    repeat' first | refine Y.st ?_ | (refine nw ?_; intro _) | refine Y.kn ?_ | fail
    refine GQ.heap (H' := B ++ ((bs, .cells #[.map (some mp)] 107 (0, 0)) :: (mp, om) :: F)) ?_ (fun w hw => hw.sub (List.Sublist.append_left (List.sublist_cons_self _ _) _))
    exact GQ.done1 rfl rfl ⟨B, hB, rfl⟩
  · obtain ⟨A', R', rfl, hA1, hA2⟩ := List.map_eq_append_iff.1 hA
    obtain ⟨c, D', rfl, hq, hD⟩ := List.map_eq_cons_iff.1 hA2
    subst hA1 hq hD
    have hcl : c ∈ l := hperm.mem_iff.1 (by simp)
    have hc := hs c hcl
    have hlc := cdC_len hc.1
    have hln2 : got.length < 1 := by simp only [List.length_append, List.length_cons] at hln; omega
    repeat' first | refine Y.st ?_ | (refine nw ?_; intro _) | refine Y.kn ?_ | fail
    refine G.rd (Rd.entryM rfl hlast) rfl rfl ?_
    refine G.rd (Rd.extract rfl rfl) rfl rfl ?_
    refine G.ef rfl rfl rfl (Eff.allocA (cs := cdC zeroC) (fun b4 => ?_))
    refine G.ef rfl rfl rfl (Eff.storeAll (cs := cdC zeroC) (vs := cdC c) rfl rfl (cdC_one _) (by rw [hlc]; rfl) hlc ?_)
    repeat' first | refine Y.st ?_ | (refine nw ?_; intro _) | refine Y.kn ?_ | fail
    refine G.ef rfl rfl rfl (Eff.buildSlice (cells := (cdC c).toArray) rfl (by exact fill_cd hc.1) (by omega) (fun b6 => ?_))
    refine G.ef rfl rfl rfl (Eff.append (ys := cdC c) (F := (b6, .cells (cdC c).toArray 41 (0, 0)) :: (b4, .cells (cdC c).toArray 41 (0, 0)) :: (r, oi') :: (bs, .cells #[.map (some mp)] 107 (0, 0)) :: (mp, om) :: F) (by omega) rfl hB rfl (by exact permC) (by rw [hlc]) (at_here (cs := cdC c)) (cdC_one c) (by omega) (by omega) (fun v' B' hB' => ?_))
    repeat' first | refine Y.st ?_ | (refine nw ?_; intro _) | refine Y.kn ?_ | fail
    exact GQ.back ⟨(A' ++ D', got ++ [c], v', B', oi'), by
      refine List.Perm.trans ?_ hperm
      simp only [List.append_assoc, List.singleton_append]
      exact (List.perm_middle.symm).append_left got, by rw [List.length_append, List.flatMap_append]; simpa using hB', by rw [← List.map_append] at hi'; exact hi'⟩ (by simp only [List.length_append, List.length_cons]; omega) ⟨rfl, rfl, trivial⟩
      (fun w hw => hw.sub (List.Sublist.append_left ((List.sublist_cons_self _ _).trans (List.sublist_cons_self _ _)) _))
end
end Go.Cid

namespace Go.Cid
open Go.Own Go.Proofs Go.RowKit Go.Lib Go.Asc Go.Adr Go.Nam Go.Tri
attribute [local irreducible] GC GQ G Rd Eff T
set_option maxRecDepth 20000
set_option maxHeartbeats 4000000
def smC : Cd := ⟨[0, 0, 0, 0, 0, 0, 0, 0, 0, 0, 255, 255, 10, 0, 0, 0], 104⟩
def smA : List UInt8 := aheadL ++ [10, 9, 0, 0]
theorem sc1 : parseC [49, 48, 46, 49, 46, 50, 46, 51, 47, 56] = some smC := by decide +kernel
theorem sc2 : parseC [58, 58, 47, 48] = some zeroC := by decide +kernel
theorem sc3 : parseC [49, 48, 46, 48, 46, 48, 46, 48, 47, 51, 51] = none := by decide +kernel
theorem sc4 : parseC [58, 58, 49] = none := by decide +kernel
theorem scAdd1 : addC [] smC = ([smC], true) := by decide +kernel
theorem scAdd2 : addC [smC] smC = ([smC], false) := by decide +kernel
theorem scAdd3 : addC [smC] zeroC = ([smC, zeroC], true) := by decide +kernel
theorem scFind1 : findC [smC, zeroC] smA = some smC := by decide +kernel
theorem scFind2 : findC [zeroC] smA = some zeroC := by decide +kernel
theorem scErase : [smC, zeroC].erase smC = [zeroC] := by decide +kernel
theorem scPrint : printC smC = [49, 48, 46, 48, 46, 48, 46, 48, 47, 56] := by decide +kernel
theorem scRight : rightC smC = true := by decide +kernel
theorem scHas : hasC smC smA = true := by decide +kernel
theorem scHas0 : hasC smC zero16 = false := by decide +kernel
theorem scRight9 : rightC ⟨zero16, 129⟩ = false := by decide +kernel
theorem scOf : (ofL smA 200).bits = 128 := by decide +kernel
theorem run_cdField (c : Cd) (ha : c.addr.length = 16) (w : World) : (Instr.field 41 (cdV c) 1).run Tryz.prog w = .ok (.int .i64 c.bits) w := by
  obtain ⟨a, n⟩ := c
  match a, ha with
  | [a0, a1, a2, a3, a4, a5, a6, a7, a8, a9, b0, b1, b2, b3, b4, b5], _ => show _ = _; kernel_rfl
theorem Rd.cdField {W0 : World} {H : Heap} {e : Env} {x : Operand} {c : Cd} (hx : opv e x = some (cdV c)) (ha : c.addr.length = 16) : Rd Tryz.prog W0 H e (.field 41 x 1) (.int .i64 c.bits) := by
  delta Rd
  intro ρ hρ w _ o ho
  simp [execOp, ho, hρ x _ hx, run_cdField c ha w]
section
variable {W0 : World} {F : Heap}
instance (priority := high) [hv : Vars W0] : PureF Tryz.prog W0 20 [.string ⟨#[49, 48, 46, 49, 46, 50, 46, 51, 47, 56]⟩] True (.tuple #[cdV smC, .bool true]) := ⟨fun _ _ => (cparse_spec hv [49, 48, 46, 49, 46, 50, 46, 51, 47, 56] (by decide)).mono (by rintro v H' ⟨rfl, rfl⟩; exact ⟨by rw [parseCV, sc1]; rfl, rfl⟩)⟩
instance (priority := high) [hv : Vars W0] : PureF Tryz.prog W0 20 [.string ⟨#[58, 58, 47, 48]⟩] True (.tuple #[cdV zeroC, .bool true]) := ⟨fun _ _ => (cparse_spec hv [58, 58, 47, 48] (by decide)).mono (by rintro v H' ⟨rfl, rfl⟩; exact ⟨by rw [parseCV, sc2]; rfl, rfl⟩)⟩
instance (priority := high) [hv : Vars W0] : PureF Tryz.prog W0 20 [.string ⟨#[49, 48, 46, 48, 46, 48, 46, 48, 47, 51, 51]⟩] True (.tuple #[cdV zeroC, .bool false]) := ⟨fun _ _ => (cparse_spec hv [49, 48, 46, 48, 46, 48, 46, 48, 47, 51, 51] (by decide)).mono (by rintro v H' ⟨rfl, rfl⟩; exact ⟨by rw [parseCV, sc3]; rfl, rfl⟩)⟩
instance (priority := high) [hv : Vars W0] : PureF Tryz.prog W0 20 [.string ⟨#[58, 58, 49]⟩] True (.tuple #[cdV zeroC, .bool false]) := ⟨fun _ _ => (cparse_spec hv [58, 58, 49] (by decide)).mono (by rintro v H' ⟨rfl, rfl⟩; exact ⟨by rw [parseCV, sc4]; rfl, rfl⟩)⟩
attribute [local irreducible] rightC ofL Lit.wf findC addC printC hasC
theorem csmall_spec (hv : Vars W0) : T Tryz.prog W0 19 #[] F (fun v H' => v = .bool true ∧ H' = F) := by
  have hC : SizC smC := ⟨by decide, wf_small (by decide) (by decide)⟩
  have hZ : SizC zeroC := ⟨by decide, wf_small (by decide) (by decide)⟩
  have hA : smA.length = 16 := by decide
  refine T.intro (args := []) Tryz.func19 rfl Tryz.ntmps19 rfl ?_
  repeat' first | refine Y.st ?_ | (refine nw ?_; intro _) | refine Y.kn ?_ | fail
  rename_i b1 b3 b5 b7
  refine G.ef rfl rfl rfl (Eff.callF rfl (cnew_spec.mono ?_))
  rintro v H' ⟨bs, H0, rfl, hS0, rfl⟩
  repeat' first | refine Y.st ?_ | (refine nw ?_; intro _) | refine Y.kn ?_ | fail
  refine G.rd (Rd.build (cells := (u8s [10, 9, 0, 0]).toArray) rfl (by kernel_rfl)) rfl rfl ?_
  refine G.ef rfl rfl rfl (Eff.callF rfl ((of4_spec hv [10, 9, 0, 0] rfl).mono ?_))
  rintro v H' ⟨rfl, rfl⟩
  refine G.ef rfl rfl rfl (Eff.allocA (cs := u8s zero16) (fun b10 => ?_))
  refine G.ef rfl rfl rfl (Eff.storeAll (cs := u8s zero16) (vs := u8s smA) rfl rfl (u8s_one _) rfl rfl ?_)
  repeat' first | refine Y.st ?_ | (refine nw ?_; intro _) | refine Y.kn ?_ | fail
  refine G.ef rfl rfl rfl (Eff.callP (first := #[]) (captured := #[]) rfl rfl (H' := H0 ++ ((b10, .cells (u8s smA).toArray 39 (0, 0)) :: (b7, .cells (u8s zeroC.addr ++ [Value.int .i64 zeroC.bits]).toArray 41 (0, 0)) :: (b5, .cells (u8s zeroC.addr ++ [Value.int .i64 zeroC.bits]).toArray 41 (0, 0)) :: (b3, .cells (u8s zeroC.addr ++ [Value.int .i64 zeroC.bits]).toArray 41 (0, 0)) :: (b1, .cells (u8s smC.addr ++ [Value.int .i64 smC.bits]).toArray 41 (0, 0)) :: F)) (by first | exact .refl _ | exact permC) ((cadd_spec (l := []) hS0 smC hC).mono ?_))
  rintro v H' ⟨rfl, H1, hS1, rfl⟩
  rw [scAdd1] at hS1 ⊢
  repeat' first | refine Y.st ?_ | (refine nw ?_; intro _) | refine Y.kn ?_ | fail
  refine G.ef rfl rfl rfl (Eff.callP (first := #[]) (captured := #[]) rfl rfl (H' := H1 ++ ((b10, .cells (u8s smA).toArray 39 (0, 0)) :: (b7, .cells (u8s zeroC.addr ++ [Value.int .i64 zeroC.bits]).toArray 41 (0, 0)) :: (b5, .cells (u8s zeroC.addr ++ [Value.int .i64 zeroC.bits]).toArray 41 (0, 0)) :: (b3, .cells (u8s zeroC.addr ++ [Value.int .i64 zeroC.bits]).toArray 41 (0, 0)) :: (b1, .cells (u8s smC.addr ++ [Value.int .i64 smC.bits]).toArray 41 (0, 0)) :: F)) (by first | exact .refl _ | exact permC) ((cadd_spec (l := [smC]) hS1 smC hC).mono ?_))
  rintro v H' ⟨rfl, H2, hS2, rfl⟩
  rw [scAdd2] at hS2 ⊢
  repeat' first | refine Y.st ?_ | (refine nw ?_; intro _) | refine Y.kn ?_ | fail
  refine G.ef rfl rfl rfl (Eff.callP (first := #[]) (captured := #[]) rfl rfl (H' := H2 ++ ((b10, .cells (u8s smA).toArray 39 (0, 0)) :: (b7, .cells (u8s zeroC.addr ++ [Value.int .i64 zeroC.bits]).toArray 41 (0, 0)) :: (b5, .cells (u8s zeroC.addr ++ [Value.int .i64 zeroC.bits]).toArray 41 (0, 0)) :: (b3, .cells (u8s zeroC.addr ++ [Value.int .i64 zeroC.bits]).toArray 41 (0, 0)) :: (b1, .cells (u8s smC.addr ++ [Value.int .i64 smC.bits]).toArray 41 (0, 0)) :: F)) (by first | exact .refl _ | exact permC) ((cadd_spec (l := [smC]) hS2 zeroC hZ).mono ?_))
  rintro v H' ⟨rfl, H3, hS3, rfl⟩
  rw [scAdd3] at hS3 ⊢
  repeat' first | refine Y.st ?_ | (refine nw ?_; intro _) | refine Y.kn ?_ | fail
  refine G.ef rfl rfl rfl (Eff.callF rfl ((cfind_spec hS3 smA hA).mono ?_))
  rintro v H' ⟨rfl, rfl⟩
  rw [scFind1, show foundV (some smC) = .tuple #[cdV smC, .bool true] from rfl]
  repeat' first | refine Y.st ?_ | (refine nw ?_; intro _) | refine Y.kn ?_ | fail
  rename_i b14
  refine G.ef rfl rfl rfl (Eff.callP (first := #[]) (captured := #[]) rfl rfl (H' := H3 ++ ((b14, .cells (u8s smC.addr ++ [Value.int .i64 smC.bits]).toArray 41 (0, 0)) :: (b10, .cells (u8s smA).toArray 39 (0, 0)) :: (b7, .cells (u8s zeroC.addr ++ [Value.int .i64 zeroC.bits]).toArray 41 (0, 0)) :: (b5, .cells (u8s zeroC.addr ++ [Value.int .i64 zeroC.bits]).toArray 41 (0, 0)) :: (b3, .cells (u8s zeroC.addr ++ [Value.int .i64 zeroC.bits]).toArray 41 (0, 0)) :: (b1, .cells (u8s smC.addr ++ [Value.int .i64 smC.bits]).toArray 41 (0, 0)) :: F)) (by exact permC) ((cdrop_spec hS3 smC hC).mono ?_))
  rintro v H' ⟨rfl, H4, hS4, rfl⟩
  rw [scErase] at hS4
  rw [show decide (smC ∈ [smC, zeroC]) = true by decide]
  repeat' first | refine Y.st ?_ | (refine nw ?_; intro _) | refine Y.kn ?_ | fail
  refine G.ef rfl rfl rfl (Eff.callF rfl ((cfind_spec hS4 smA hA).mono ?_))
  rintro v H' ⟨rfl, rfl⟩
  rw [scFind2, show foundV (some zeroC) = .tuple #[cdV zeroC, .bool true] from rfl]
  repeat' first | refine Y.st ?_ | (refine nw ?_; intro _) | refine Y.kn ?_ | fail
  rename_i b17
  refine G.ef rfl rfl rfl (Eff.callP (first := #[]) (captured := #[]) rfl rfl (H' := H4 ++ ((b17, .cells (u8s zeroC.addr ++ [Value.int .i64 zeroC.bits]).toArray 41 (0, 0)) :: (b14, .cells (u8s smC.addr ++ [Value.int .i64 smC.bits]).toArray 41 (0, 0)) :: (b10, .cells (u8s smA).toArray 39 (0, 0)) :: (b7, .cells (u8s zeroC.addr ++ [Value.int .i64 zeroC.bits]).toArray 41 (0, 0)) :: (b5, .cells (u8s zeroC.addr ++ [Value.int .i64 zeroC.bits]).toArray 41 (0, 0)) :: (b3, .cells (u8s zeroC.addr ++ [Value.int .i64 zeroC.bits]).toArray 41 (0, 0)) :: (b1, .cells (u8s smC.addr ++ [Value.int .i64 smC.bits]).toArray 41 (0, 0)) :: F)) (by exact permC) ((all1_spec hS4 (by decide) (fun c hc => by rw [List.mem_singleton.1 hc]; exact hZ)).mono ?_))
  rintro v H' ⟨BA, hBA, rfl⟩
  obtain ⟨pl, cl, rfl, hcl, hly⟩ := Go.Tri.Buf.see hBA
  repeat' first | refine Y.st ?_ | (refine nw ?_; intro _) | refine Y.kn ?_ | fail
  have hP := scPrint
  have hR := scRight
  have hH := scHas
  have hH0 := scHas0
  have hR9 := scRight9
  have hz16 : zero16.length = 16 := rfl
  have hw200 : (Lit.int .i64 200).wf = true := wf_small (by decide) (by decide)
  have h9 : SizC ⟨zero16, 129⟩ := ⟨rfl, wf_small (by decide) (by decide)⟩
  have hO := siz_of hA 200
  refine GC.drawnH [(0, .read), (1, .read), (2, .read), (3, .read), (4, .read), (5, .read), (6, .read), (7, .read), (8, .read), (9, .read), (10, .read), (11, .read), (12, .read), (13, .read), (14, .eff), (15, .read), (16, .read), (17, .read), (18, .read), (19, .read), (20, .read), (21, .read), (22, .read), (23, .read), (24, .eff), (25, .read), (26, .read), (27, .read), (28, .read), (29, .eff), (30, .read), (31, .read), (32, .read), (33, .read), (34, .eff), (35, .read), (36, .read), (37, .read), (38, .read), (39, .read), (40, .read), (41, .read), (42, .read), (43, .read), (44, .read), (45, .read), (46, .read), (47, .read), (48, .read), (49, .read), (50, .read), (51, .read), (52, .read), (53, .read), (54, .read), (55, .read), (56, .read), (57, .read), (58, .read), (59, .read), (60, .read), (61, .read), (62, .read), (63, .read), (64, .read), (65, .read), (66, .read), (67, .read), (68, .read), (69, .read), (70, .read), (71, .read), (72, .read), (73, .read), (74, .read), (75, .eff), (76, .read), (77, .read), (78, .read), (79, .read), (80, .eff), (81, .read), (82, .read), (83, .read), (84, .read)] (by kernel_rfl) (by kernel_rfl) rfl ?_
  repeat' first | refine Y.st ?_ | (refine nw ?_; intro _) | refine Y.kn ?_ | fail
  refine G.rd (Rd.build (cells := (u8s zero16).toArray) rfl (by kernel_rfl)) rfl rfl ?_
  repeat' first | refine Y.st ?_ | (refine nw ?_; intro _) | refine Y.kn ?_ | fail
  refine G.rd (Rd.eqlCd smC smC rfl rfl hC hC) rfl rfl ?_
  rw [decide_eq_true rfl]
  repeat' first | refine Y.st ?_ | (refine nw ?_; intro _) | refine Y.kn ?_ | fail
  refine G.rd (Rd.eqlCd zeroC zeroC rfl rfl hZ hZ) rfl rfl ?_
  rw [decide_eq_true rfl]
  repeat' first | refine Y.st ?_ | (refine nw ?_; intro _) | refine Y.kn ?_ | fail
  rcases hly W0 with h0 | ⟨bq, oq, hpq, hcq⟩
  · simp [zeroC] at h0
  subst hpq
  have hq : ∀ w, Own W0 (BA ++ (H4 ++ ((b17, .cells (u8s zeroC.addr ++ [Value.int .i64 zeroC.bits]).toArray 41 (0, 0)) :: (b14, .cells (u8s smC.addr ++ [Value.int .i64 smC.bits]).toArray 41 (0, 0)) :: (b10, .cells (u8s smA).toArray 39 (0, 0)) :: (b7, .cells (u8s zeroC.addr ++ [Value.int .i64 zeroC.bits]).toArray 41 (0, 0)) :: (b5, .cells (u8s zeroC.addr ++ [Value.int .i64 zeroC.bits]).toArray 41 (0, 0)) :: (b3, .cells (u8s zeroC.addr ++ [Value.int .i64 zeroC.bits]).toArray 41 (0, 0)) :: (b1, .cells (u8s smC.addr ++ [Value.int .i64 smC.bits]).toArray 41 (0, 0)) :: F))) w → CellsAt w bq (oq + 0 * 17) (cdC zeroC) := fun w hw => by
    have := (hcq.app (H4 ++ ((b17, .cells (u8s zeroC.addr ++ [Value.int .i64 zeroC.bits]).toArray 41 (0, 0)) :: (b14, .cells (u8s smC.addr ++ [Value.int .i64 smC.bits]).toArray 41 (0, 0)) :: (b10, .cells (u8s smA).toArray 39 (0, 0)) :: (b7, .cells (u8s zeroC.addr ++ [Value.int .i64 zeroC.bits]).toArray 41 (0, 0)) :: (b5, .cells (u8s zeroC.addr ++ [Value.int .i64 zeroC.bits]).toArray 41 (0, 0)) :: (b3, .cells (u8s zeroC.addr ++ [Value.int .i64 zeroC.bits]).toArray 41 (0, 0)) :: (b1, .cells (u8s smC.addr ++ [Value.int .i64 smC.bits]).toArray 41 (0, 0)) :: F))).perm List.perm_append_comm
    have := this.here hw
    simpa using this
  refine G.rd (Rd.indexN (m := 0) rfl rfl (by decide)) rfl rfl ?_
  refine G.rd (Rd.loadAggC rfl hq rfl) rfl rfl ?_
  repeat' first | refine Y.st ?_ | (refine nw ?_; intro _) | refine Y.kn ?_ | fail
  refine G.rd (Rd.eqlCd zeroC zeroC rfl rfl hZ hZ) rfl rfl ?_
  rw [decide_eq_true rfl]
  repeat' first | refine Y.st ?_ | (refine nw ?_; intro _) | refine Y.kn ?_ | fail
  refine G.rd (Rd.build (cells := (cdC ⟨zero16, 129⟩).toArray) rfl (by kernel_rfl)) rfl rfl ?_
  repeat' first | refine Y.st ?_ | (refine nw ?_; intro _) | refine Y.kn ?_ | fail
  refine G.rd (Rd.cdField (c := ofL smA 200) rfl hO.1) rfl rfl ?_
  rw [scOf]
  repeat' first | refine Y.st ?_ | (refine nw ?_; intro _) | refine Y.kn ?_ | fail
  refine GQ.heap (H' := F) ?_ (fun w hw => hw.sub ((((((((((List.Sublist.refl F).cons _).cons _).cons _).cons _).cons _).cons _).cons _).trans (List.sublist_append_right H4 _)).trans (List.sublist_append_right BA _)))
  exact GQ.done1 rfl rfl ⟨rfl, rfl⟩
end
end Go.Cid
