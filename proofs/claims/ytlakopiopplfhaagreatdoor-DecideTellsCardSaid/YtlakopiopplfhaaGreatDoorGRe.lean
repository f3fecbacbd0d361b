/-
  THE DOCUMENT'S ANSWERS, names: the labels; are two rows of texts the same?
-/
import Derived.Test.YtlakopiopplfhaaGreatDoorGRh
namespace Go.Rfn
open Go.Own Go.Proofs Go.RowKit Go.Lib Go.Asc Go.Adr Go.Nam
attribute [local irreducible] GC GQ G Rd Eff T
set_option maxRecDepth 20000
set_option maxHeartbeats 4000000
section
variable {W0 : World} {F : Heap}
theorem rLabels_spec (s : List UInt8) (hl : s.length ≤ 8796093022206) : T Tryz.prog W0 176 #[S s] F
    (fun v H' => ∃ B, Buf 9 1 v (labelsL s).length (strs (labelsL s)) B ∧ H' = B ++ F) := by
  refine T.intro (args := [_]) Tryz.func176 rfl Tryz.ntmps176 rfl ?_
  cases hp : parseL s with
  | some a =>
    have hps : (parseL s).isSome = true := by rw [hp]; rfl
    rw [labels_addr hp]
    repeat' first | refine st ?_ | (refine nw ?_; intro _) | refine kn ?_ | (refine sp ?_ ?_ <;> intro _) | fail
    refine G.ef rfl rfl rfl (Eff.buildSlice (cells := (strs [s]).toArray) rfl (by kernel_rfl) (by omega) (fun b2 => ?_))
    repeat' first | refine st ?_ | (refine nw ?_; intro _) | refine kn ?_ | (refine sp ?_ ?_ <;> intro _) | fail
    exact GQ.res1h rfl (.tmp rfl) ((b2, _) :: F) (fun w hw => hw.sub SubH.out) ⟨_, Buf.ofS 9 b2 [s] (by simp), rfl⟩
  | none =>
    have hps : (parseL s).isSome = false := by rw [hp]; rfl
    have hlab : labelsL s = (splitB 46 s).reverse := by simp only [labelsL, hp]
    rw [hlab]
    have hne := splitB_ne 46 s
    have hpl : (splitB 46 s).length ≤ s.length + 1 := by rw [splitB_length]; have := List.count_le_length (a := (46 : UInt8)) (l := s); omega
    have hple : ∀ x ∈ splitB 46 s, x.length ≤ s.length := splitB_le 46 s
    repeat' first | refine st ?_ | (refine nw ?_; intro _) | refine kn ?_ | (refine sp ?_ ?_ <;> intro _) | fail
    refine G.ef rfl rfl rfl (Eff.callF rfl ((Cut_spec s 46 (by omega)).mono ?_))
    rintro v H' ⟨B, hb, rfl⟩
    clear hlab
    generalize Asc.splitB 46 s = ps at hb hne hpl hple ⊢
    rcases Buf.parts hb with ⟨_, h0, _, _⟩ | ⟨bk, cap, extra, rfl, rfl, hcap, hx, hmax⟩
    · exact absurd (List.eq_nil_of_length_eq_zero h0) hne
    repeat' first | refine st ?_ | (refine nw ?_; intro _) | refine kn ?_ | (refine sp ?_ ?_ <;> intro _) | fail
    refine GC.loopE (ι := { q : Nat × Value × Heap // q.1 ≤ ps.length ∧ Buf 9 1 q.2.1 ((ps.drop q.1).reverse).length (strs (ps.drop q.1).reverse) q.2.2 }) (fun i => [(6, i.1.2.1), (7, .int .i64 ((i.1.1 : Int) - 1))]) [(5, _)] (fun i => i.1.2.2 ++ ((bk, .cells (strs ps ++ extra).toArray 9 (0, 0)) :: (_, .cells (u8s ((parseL s).getD zero16)).toArray 34 (0, 0)) :: F)) (fun i => i.1.1) ⟨(ps.length, .slice none 0 0, []), Nat.le_refl _, by simpa [strs] using Buf.nil⟩ ⟨rfl, rfl, rfl, trivial⟩ (fun _ h => h) ?_
    rintro ⟨⟨k, vo, B⟩, hk, hbo⟩
    dsimp only [List.cons_append, List.nil_append] at hk hbo ⊢
    by_cases hlt : 0 < k
    · have hL : LeN 1 k := ⟨hlt⟩
      have hk1 : k - 1 < ps.length := by omega
      have hpk := hple ps[k - 1] (by simp)
      have hm1 : ((k : Int) - 1 - 1) = ((k - 1 : Nat) : Int) - 1 := by omega
      have hrev : (ps.drop (k - 1)).reverse = (ps.drop k).reverse ++ [ps[k - 1]] := by
        rw [List.drop_eq_getElem_cons hk1, List.reverse_cons, show k - 1 + 1 = k by omega]
      have hlenr : ((ps.drop k).reverse).length ≤ ps.length := by rw [List.length_reverse, List.length_drop]; omega
      repeat' first | refine st ?_ | (refine nw ?_; intro _) | refine kn ?_ | (refine sp ?_ ?_ <;> intro _) | fail
      refine G.ef rfl rfl rfl (Eff.buildSlice (cells := (strs [ps[k - 1]]).toArray) rfl (by kernel_rfl) (by omega) (fun b2 => ?_))
      refine G.ef rfl rfl rfl (Eff.appendS (ys := [ps[k - 1]]) (B := B) rfl hbo rfl List.perm_middle.symm at_here (by simp only [List.length_singleton]; omega) (fun v2 B2 hb2 => ?_))
      repeat' first | refine st ?_ | (refine nw ?_; intro _) | refine kn ?_ | (refine sp ?_ ?_ <;> intro _) | fail
      simp only [hm1]
      rw [← hrev] at hb2
      exact GQ.back ⟨(k - 1, v2, B2), by omega, hb2⟩ (by simp only; omega) ⟨rfl, rfl, rfl, trivial⟩ (fun w hw => hw.sub SubH.out)
    · obtain rfl : k = 0 := by omega
      rw [List.drop_zero] at hbo
      repeat' first | refine st ?_ | (refine nw ?_; intro _) | refine kn ?_ | (refine sp ?_ ?_ <;> intro _) | fail
      exact GQ.res1h rfl (.tmp rfl) (B ++ F) (fun w hw => hw.sub SubH.out) ⟨B, hbo, rfl⟩
/-- Where a row of texts that is not empty lies. -/
theorem Buf.at {el n : Nat} {v : Value} {xs : List (List UInt8)} {B : Heap} (h : Buf el 1 v n (strs xs) B) (hn : xs ≠ []) : ∃ b cap, v = .slice (some ⟨b, 0, none⟩) xs.length cap ∧ ∀ (X Y : Heap) w, Own W0 (X ++ (B ++ Y)) w → CellsAt w b 0 (strs xs) := by
  have hl := h.len
  rw [strs_length, Nat.mul_one] at hl
  subst hl
  rcases Buf.parts h with ⟨_, h0, _, _⟩ | ⟨b, cap, extra, rfl, rfl, hcap, hx, hmax⟩
  · exact absurd (List.eq_nil_of_length_eq_zero h0) hn
  · refine ⟨b, cap, rfl, fun X Y w hw => ?_⟩
    have hh : Has (X ++ ([(b, Obj.cells (strs xs ++ extra).toArray el (0, 0))] ++ Y)) b (.cells (strs xs ++ extra).toArray el (0, 0)) := ⟨by simp⟩
    exact cellsH (h := hh) (fun j u hj => by
      have hlt := (List.getElem?_eq_some_iff.1 hj).1
      simp [List.getElem?_append_left hlt, hj]) w hw
end
end Go.Rfn
