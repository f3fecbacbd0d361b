/-
  WHAT STANDS BETWEEN SIGNS: strings.Split at a separator of one byte.
-/
import Derived.Test.YtlakopiopplfhaaGreatDoorLib0
namespace Go.Asc
open Go.Own Go.Proofs Go.RowKit Go.Lib
attribute [local irreducible] GC GQ G Rd Eff T
set_option maxRecDepth 20000
set_option maxHeartbeats 4000000

/-! ### In plain words -/

/-- Strings' cells. -/
def strs (l : List (List UInt8)) : List Value := l.map S
theorem strs_length (l : List (List UInt8)) : (strs l).length = l.length := by simp [strs]

theorem set_strs (done : List (List UInt8)) (N : Nat) (hN : done.length < N) (x : List UInt8) :
    (strs done ++ List.replicate (N - done.length) (S [])).toArray.setIfInBounds (0 + done.length * 1) (S x) = (strs (done ++ [x]) ++ List.replicate (N - (done.length + 1)) (S [])).toArray := by
  simp only [Nat.zero_add, Nat.mul_one, List.setIfInBounds_toArray]
  congr 1
  rw [List.set_append_right _ _ (by rw [strs_length]; exact Nat.le_refl _), strs_length, Nat.sub_self, show N - done.length = (N - (done.length + 1)) + 1 by omega, List.replicate_succ, List.set_cons_zero]
  simp [strs]

section
variable {W0 : World} {F : Heap}
theorem sindex_spec (l : List UInt8) (c : UInt8) : T Tryz.prog W0 224 #[S l, S [c]] F (fun v H' => v = .int .i64 (indexByte l c) ∧ H' = F) := by
  have h1 : [c].length = 1 := rfl
  have hg : ([c] : List UInt8).getD (0 : Int).toNat 0 = c := rfl
  refine T.intro (args := [_, _]) Tryz.func224 rfl Tryz.ntmps224 rfl ?_
  by_cases hl : [c] = l
  · have h3 : indexByte l c = 0 := by rw [← hl]; simp [indexByte]
    refine au ?_
    exact GQ.done1 rfl rfl ⟨by rw [h3], rfl⟩
  · refine au ?_
    refine G.rd (Rd.idxS rfl rfl (by omega) (by omega)) rfl rfl ?_
    rw [hg]
    refine G.ef rfl rfl rfl (Eff.callF rfl ((sindexByte_spec l c).mono ?_))
    rintro v H' ⟨rfl, rfl⟩
    refine au ?_
    exact GQ.done1 rfl rfl ⟨rfl, rfl⟩
theorem index_spec (l : List UInt8) (c : UInt8) : T Tryz.prog W0 197 #[S l, S [c]] F (fun v H' => v = .int .i64 (indexByte l c) ∧ H' = F) := by
  refine T.intro (args := [_, _]) Tryz.func197 rfl Tryz.ntmps197 rfl ?_
  refine au ?_
  refine G.ef rfl rfl rfl (Eff.callF rfl ((sindex_spec l c).mono ?_))
  rintro v H' ⟨rfl, rfl⟩
  refine au ?_
  exact GQ.done1 rfl rfl ⟨rfl, rfl⟩
theorem count_spec (l : List UInt8) (c : UInt8) : T Tryz.prog W0 196 #[S l, S [c]] F (fun v H' => v = .int .i64 (l.count c : Nat) ∧ H' = F) := by
  have h1 : [c].length = 1 := rfl
  have hg : ([c] : List UInt8).getD (0 : Int).toNat 0 = c := rfl
  refine T.intro (args := [_, _]) Tryz.func196 rfl Tryz.ntmps196 rfl ?_
  refine au ?_
  refine G.rd (Rd.idxS rfl rfl (by omega) (by omega)) rfl rfl ?_
  rw [hg]
  refine G.rd (Rd.ext rfl (fun w _ => run_countString _ _ w)) rfl rfl ?_
  refine au ?_
  exact GQ.done1 rfl rfl ⟨by simp [countByte], rfl⟩

theorem genSplit_spec (l : List UInt8) (c : UInt8) (hl : l.length ≤ 17592186044415) : T Tryz.prog W0 162 #[S l, S [c], .int .i64 0, .int .i64 (-1)] F
    (fun v H' => ∃ bk, v = .slice (some ⟨bk, 0, none⟩) (splitB c l).length (splitB c l).length ∧ H' = (bk, .cells (strs (splitB c l)).toArray 9 (0, 0)) :: F) := by
  have h1 : [c].length = 1 := rfl
  have hcl : l.count c ≤ l.length := List.count_le_length
  obtain ⟨N, hN⟩ : ∃ N, N = l.count c + 1 := ⟨_, rfl⟩
  have hsl := splitB_length c l
  refine T.intro (args := [_, _, _, _]) Tryz.func162 rfl Tryz.ntmps162 rfl ?_
  refine au ?_
  refine G.ef rfl rfl rfl (Eff.callF rfl ((count_spec l c).mono ?_))
  rintro v H' ⟨rfl, rfl⟩
  refine au ?_
  refine G.ef rfl rfl rfl (Eff.make (n := N) rfl rfl (by omega) (by omega) (by omega) (by omega) rfl (fun bk => ?_))
  refine au ?_
  refine GC.loop (ι := { q : List (List UInt8) × List UInt8 // splitB c l = q.1 ++ splitB c q.2 ∧ q.2.length ≤ l.length }) (fun i => [(0, S i.1.2), (1, S [c]), (2, .int .i64 0), (3, .int .i64 ((N - 1 : Nat) : Int)), (9, .slice (some ⟨bk, 0, none⟩) N N), (10, .int .i64 (i.1.1.length : Int))])
    (fun i => (bk, .cells (strs i.1.1 ++ List.replicate (N - i.1.1.length) (S [])).toArray 9 (0, 0)) :: H') (fun i => N - i.1.1.length) ⟨([], l), by simp⟩ ⟨rfl, rfl, rfl, ?_, rfl, rfl, trivial⟩ (fun _ h => h) ?_
  · show some _ = some (Value.int .i64 ((N - 1 : Nat) : Int))
    congr 2
    omega
  rintro ⟨⟨done, rest⟩, hq, hrl⟩
  dsimp only at hq hrl ⊢
  have hrs := splitB_length c rest
  have hsum : N = done.length + (rest.count c + 1) := by
    have := congrArg List.length hq
    rw [List.length_append] at this
    omega
  have hrc : rest.count c ≤ rest.length := List.count_le_length
  by_cases hlt : done.length < N - 1
  · have hin : 0 ≤ indexByte rest c := by
      rcases Int.lt_or_le (indexByte rest c) 0 with h | h
      · have := (index_none h).2; omega
      · exact h
    obtain ⟨m, hm⟩ : ∃ m : Nat, indexByte rest c = (m : Int) := ⟨(indexByte rest c).toNat, by omega⟩
    obtain ⟨hml, hsp⟩ := index_some hm
    refine au ?_
    refine G.ef rfl rfl rfl (Eff.callF rfl ((index_spec rest c).mono ?_))
    rintro v H' ⟨rfl, rfl⟩
    rw [hm]
    refine au ?_
    refine G.rd (Rd.slSH (h := m) rfl rfl (by omega) (by omega)) rfl rfl ?_
    refine au ?_
    refine G.ef rfl rfl rfl (Eff.store rfl rfl rfl (by simp [strs_length]; omega) (by simp [Fz]) ?_)
    refine au ?_
    refine G.rd (Rd.slSL (l := m + 1) rfl rfl (by rw [h1]; omega) (by omega)) rfl rfl ?_
    refine au ?_
    refine GQ.back ⟨(done ++ [rest.take m], rest.drop (m + 1)), by rw [hq, hsp]; simp, by rw [List.length_drop]; omega⟩ (by simp only [List.length_append, List.length_singleton]; omega) ⟨rfl, rfl, rfl, rfl, rfl, ?_, trivial⟩ (fun w hw => ?_)
    · show some _ = some (Value.int .i64 ((done ++ [rest.take m]).length : Int))
      rw [List.length_append, List.length_singleton]; rfl
    · simp only [List.length_append, List.length_singleton]
      rw [← set_strs done N (by omega)]
      exact hw
  · have hdl : done.length = N - 1 := by omega
    have h0 : splitB c rest = [rest] := splitB_zero (by omega)
    refine au ?_
    refine G.ef rfl rfl rfl (Eff.store rfl rfl rfl (by simp [strs_length]; omega) (by simp [Fz]) ?_)
    refine au ?_
    refine G.rd (Rd.slH' (h := N) rfl rfl (by omega) (by omega)) rfl rfl ?_
    refine au ?_
    refine GQ.done1 rfl rfl ⟨bk, by rw [hsl, ← hN], ?_⟩
    show (bk, Obj.cells ((strs done ++ List.replicate (N - done.length) (S [])).toArray.setIfInBounds (0 + done.length * 1) (S rest)) _ _) :: H' = _
    rw [set_strs done N (by omega), show N - (done.length + 1) = 0 by omega, hq, h0]
    simp
end
end Go.Asc
