/-
  ADDRESSES AS TEXTS: the longest row of groups 0; is it one of four?
-/
import Derived.Test.YtajkpdhcefkopaaGreatDoorPrt0
namespace Go.Adr
open Go.Own Go.Proofs Go.RowKit Go.Lib Go.Asc
attribute [local irreducible] GC GQ G Rd Eff T
set_option maxRecDepth 20000
set_option maxHeartbeats 4000000


section
variable {W0 : World} {F : Heap}
theorem cell_u16s (l : List Nat) (k : Nat) (hk : k < l.length) : ((u16s l).toArray : Array Value)[0 + k * 1]? = some (.int .u16 ((l[k] : Nat) : Int)) := by
  rw [Nat.zero_add, Nat.mul_one, List.getElem?_toArray]
  simp [u16s, hk]
theorem row_spec (l : List Nat) (h8 : l.length = 8) (hn : ∀ n ∈ l, n < 65536) : T Tryz.prog W0 142 #[.agg (u16s l).toArray] F (fun v H' => v = .tuple #[.int .i64 ((rowL l).1 : Int), .int .i64 ((rowL l).2 : Int)] ∧ H' = F) := by
  refine T.intro (args := [_]) Tryz.func142 rfl Tryz.ntmps142 rfl ?_
  refine au ?_
  refine G.ef rfl rfl rfl (Eff.box rfl (fun b1 => ?_))
  refine G.heap (H' := (b1, .cells (u16s l).toArray 195 (0, 0)) :: F) ?_ (fun _ h => h)
  refine au ?_
  refine GC.loop (ι := { q : Nat × Nat × Nat // q.1 ≤ 8 ∧ (q.2.1, q.2.2) = (List.range q.1).foldl (rowStep l) (8, 1) ∧ q.2.1 ≤ 8 ∧ q.2.2 ≤ 8 }) (fun i => [(1, .pointer (some ⟨b1, 0, none⟩)), (4, .int .i64 (i.1.2.1 : Int)), (5, .int .i64 (i.1.2.2 : Int)), (6, .int .i64 (i.1.1 : Int))]) (fun _ => (b1, .cells (u16s l).toArray 195 (0, 0)) :: F) (fun i => 8 - i.1.1) ⟨(0, 8, 1), by simp⟩ ⟨rfl, rfl, rfl, rfl, trivial⟩ (fun _ h => h) ?_
  rintro ⟨⟨k, f, n⟩, hk, hfn, hf, hn8⟩
  dsimp only at hk hfn hf hn8 ⊢
  by_cases hlt : k < 8
  · refine au ?_
    refine GC.loop (ι := { e : Nat // k ≤ e ∧ e ≤ 8 ∧ ∀ i (h : i < l.length), k ≤ i → i < e → l[i] = 0 }) (fun i => [(1, .pointer (some ⟨b1, 0, none⟩)), (4, .int .i64 (f : Int)), (5, .int .i64 (n : Int)), (6, .int .i64 (k : Int)), (7, .int .i64 (i.1 : Int))]) (fun _ => (b1, .cells (u16s l).toArray 195 (0, 0)) :: F) (fun i => 8 - i.1) ⟨k, Nat.le_refl _, hk, fun i h h1 h2 => by omega⟩ ⟨rfl, rfl, rfl, rfl, rfl, trivial⟩ (fun _ h => h) ?_
    rintro ⟨e, hke, he, hz⟩
    dsimp only at hke he hz ⊢
    by_cases he8 : e < 8
    · have hel : e < l.length := by omega
      have hne := hn l[e] (by simp)
      by_cases h0 : l[e] = 0
      · refine au ?_
        refine G.rd (Rd.indexArr rfl rfl (by omega) (by omega)) rfl rfl ?_
        refine G.rd (Rd.load rfl (cellH (cell_u16s l e hel))) rfl rfl ?_
        refine au ?_
        have hz' : ∀ i (h : i < l.length), k ≤ i → i < e + 1 → l[i] = 0 := by
          intro i h h1 h2
          rcases Nat.lt_or_ge i e with h3 | h3
          · exact hz i h h1 h3
          · obtain rfl : i = e := by omega
            exact h0
        exact GQ.back ⟨e + 1, by omega, by omega, hz'⟩ (by simp only; omega) ⟨rfl, rfl, rfl, rfl, rfl, trivial⟩ (fun _ h => h)
      · skip
        have hzl : zlead (l.drop k) = e - k := zlead_eq l e (by omega) (fun _ => h0) (e - k) k (by omega) hz
        have hstep : (List.range (k + 1)).foldl (rowStep l) (8, 1) = if e - k > n then (k, e - k) else (f, n) := by
          rw [List.range_succ, List.foldl_append, ← hfn]
          simp only [List.foldl_cons, List.foldl_nil, rowStep, hzl]
        rcases Nat.lt_or_ge n (e - k) with hg | hg
        · refine au ?_
          refine G.rd (Rd.indexArr rfl rfl (by omega) (by omega)) rfl rfl ?_
          refine G.rd (Rd.load rfl (cellH (cell_u16s l e hel))) rfl rfl ?_
          refine au ?_
          exact GQ.back ⟨(k + 1, k, e - k), by omega, by rw [hstep, if_pos hg], by dsimp only; omega, by dsimp only; omega⟩ (by simp only; omega) ⟨rfl, rfl, (by show some _ = some (Value.int .i64 ((e - k : Nat) : Int)); congr 2; omega), rfl, trivial⟩ (fun _ h => h)
        · refine au ?_
          refine G.rd (Rd.indexArr rfl rfl (by omega) (by omega)) rfl rfl ?_
          refine G.rd (Rd.load rfl (cellH (cell_u16s l e hel))) rfl rfl ?_
          refine au ?_
          exact GQ.back ⟨(k + 1, f, n), by omega, by rw [hstep, if_neg (by omega)], hf, hn8⟩ (by simp only; omega) ⟨rfl, rfl, rfl, rfl, trivial⟩ (fun _ h => h)
    · have he9 : e = 8 := by omega
      skip
      have hzl : zlead (l.drop k) = e - k := zlead_eq l e (by omega) (fun h => by omega) (e - k) k (by omega) hz
      have hstep : (List.range (k + 1)).foldl (rowStep l) (8, 1) = if e - k > n then (k, e - k) else (f, n) := by
        rw [List.range_succ, List.foldl_append, ← hfn]
        simp only [List.foldl_cons, List.foldl_nil, rowStep, hzl]
      rcases Nat.lt_or_ge n (e - k) with hg | hg
      · refine au ?_
        skip
        exact GQ.back ⟨(k + 1, k, e - k), by omega, by rw [hstep, if_pos hg], by dsimp only; omega, by dsimp only; omega⟩ (by simp only; omega) ⟨rfl, rfl, (by show some _ = some (Value.int .i64 ((e - k : Nat) : Int)); congr 2; omega), rfl, trivial⟩ (fun _ h => h)
      · refine au ?_
        skip
        exact GQ.back ⟨(k + 1, f, n), by omega, by rw [hstep, if_neg (by omega)], hf, hn8⟩ (by simp only; omega) ⟨rfl, rfl, rfl, rfl, trivial⟩ (fun _ h => h)
  · obtain rfl : k = 8 := by omega
    refine au ?_
    refine GQ.heap (H' := F) ?_ (fun w hw => hw.sub SubH.out)
    refine GQ.done2 rfl rfl rfl ⟨?_, rfl⟩
    rw [rowL, h8, ← hfn]
theorem four_spec (hv : Vars W0) (a : List UInt8) (ha : a.length = 16) : T Tryz.prog W0 137 #[.agg (u8s a).toArray] F (fun v H' => v = .bool (a.take 12 == aheadL) ∧ H' = F) := by
  refine T.intro (args := [_]) Tryz.func137 rfl Tryz.ntmps137 rfl ?_
  refine au ?_
  refine G.ef rfl rfl rfl (Eff.box rfl (fun b1 => ?_))
  refine G.heap (H' := (b1, .cells (u8s a).toArray 24 (0, 0)) :: F) ?_ (fun _ h => h)
  refine au ?_
  refine GC.drawnH [(0, .read), (1, .read), (2, .read), (3, .read), (4, .read), (5, .read)] (by kernel_rfl) (by kernel_rfl) rfl ?_
  refine G.rd (Rd.slArrH (h := 12) rfl rfl rfl (by omega) (by omega)) rfl rfl ?_
  refine G.rd (Rd.arrPtr rfl (by omega)) rfl rfl ?_
  have h12 : (u8s (a.take 12)).length = 12 := by rw [u8s_length, List.length_take]; omega
  refine G.rd (Rd.loadAgg (cs := u8s (a.take 12)) rfl h12 (cellsH (cs := (u8s a).toArray) (fun j u hj => ?_))) rfl rfl ?_
  · rw [← u8s_take, List.getElem?_take] at hj
    split at hj
    · simpa using hj
    · cases hj
  refine G.rd (Rd.loadAgg (cs := u8s aheadL) rfl rfl (fun w hw j u hj => cell_kept (hv.ahead j u hj) hw)) rfl rfl ?_
  refine G.rd (Rd.eqlBytes (l := a.take 12) (m := aheadL) rfl (by kernel_rfl) rfl rfl (by rw [List.length_take, ha]; rfl) rfl) rfl rfl ?_
  refine au ?_
  refine GQ.heap (H' := F) ?_ (fun w hw => hw.sub SubH.out)
  exact GQ.done1 rfl rfl ⟨rfl, rfl⟩
end
end Go.Adr
