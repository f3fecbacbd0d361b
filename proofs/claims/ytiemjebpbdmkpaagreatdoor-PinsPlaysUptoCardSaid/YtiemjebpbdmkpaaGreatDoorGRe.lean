/-
  THE DOCUMENT'S ANSWERS, names: the labels; are two rows of texts the same?
-/
import Derived.Test.YtiemjebpbdmkpaaGreatDoorGRh
namespace Go.Rfn
open Go.Own Go.Proofs Go.RowKit Go.Lib Go.Asc Go.Adr Go.Nam
attribute [local irreducible] GC GQ G Rd Eff T
set_option maxRecDepth 20000
set_option maxHeartbeats 4000000
section
variable {W0 : World} {F : Heap}
theorem rLabels_spec (s : List UInt8) (hl : s.length ≤ 8796093022206) : T Tryz.prog W0 225 #[S s] F
    (fun v H' => ∃ B, Buf 9 1 v (labelsL s).length (strs (labelsL s)) B ∧ H' = B ++ F) := by
  refine T.intro (args := [_]) Tryz.func225 rfl Tryz.ntmps225 rfl ?_
  cases hp : parseL s with
  | some a =>
    have hps : (parseL s).isSome = true := by rw [hp]; rfl
    rw [labels_addr hp]
    repeat' first | refine st ?_ | (refine nw ?_; intro _) | refine kn ?_ | (refine sp ?_ ?_ <;> intro _) | fail
    refine G.ef rfl rfl rfl (Eff.buildSlice (cells := (strs [s]).toArray) rfl (by kernel_rfl) (by omega) (fun b2 => ?_))
    repeat' first | refine st ?_ | (refine nw ?_; intro _) | refine kn ?_ | (refine sp ?_ ?_ <;> intro _) | fail
    exact GQ.res1h rfl (.tmp rfl) ((b2, _) :: F) (fun w hw => hw.sub SubH.out) ⟨_, Buf.ofS 9 b2 [s] (by simp), rfl⟩
  | none =>
    have hps : (parseL s).isSome = false := by rw [hp]; rfl
    have hlab : labelsL s = (splitB 46 s).reverse := by simp only [labelsL, hp]
    rw [hlab]
    have hne := splitB_ne 46 s
    have hpl : (splitB 46 s).length ≤ s.length + 1 := by rw [splitB_length]; have := List.count_le_length (a := (46 : UInt8)) (l := s); omega
    have hple : ∀ x ∈ splitB 46 s, x.length ≤ s.length := splitB_le 46 s
    repeat' first | refine st ?_ | (refine nw ?_; intro _) | refine kn ?_ | (refine sp ?_ ?_ <;> intro _) | fail
    refine G.ef rfl rfl rfl (Eff.callF rfl ((Cut_spec s 46 (by omega)).mono ?_))
    rintro v H' ⟨B, hb, rfl⟩
    clear hlab
    generalize Asc.splitB 46 s = ps at hb hne hpl hple ⊢
    rcases Buf.parts hb with ⟨_, h0, _, _⟩ | ⟨bk, cap, extra, rfl, rfl, hcap, hx, hmax⟩
    · exact absurd (List.eq_nil_of_length_eq_zero h0) hne
    repeat' first | refine st ?_ | (refine nw ?_; intro _) | refine kn ?_ | (refine sp ?_ ?_ <;> intro _) | fail
    refine GC.loopE (ι := { q : Nat × Value × Heap // q.1 ≤ ps.length ∧ Buf 9 1 q.2.1 ((ps.drop q.1).reverse).length (strs (ps.drop q.1).reverse) q.2.2 }) (fun i => [(6, i.1.2.1), (7, .int .i64 ((i.1.1 : Int) - 1))]) [(5, _)] (fun i => i.1.2.2 ++ ((bk, .cells (strs ps ++ extra).toArray 9 (0, 0)) :: (_, .cells (u8s ((parseL s).getD zero16)).toArray 24 (0, 0)) :: F)) (fun i => i.1.1) ⟨(ps.length, .slice none 0 0, []), Nat.le_refl _, by simpa [strs] using Buf.nil⟩ ⟨rfl, rfl, rfl, trivial⟩ (fun _ h => h) ?_
    rintro ⟨⟨k, vo, B⟩, hk, hbo⟩
    dsimp only [List.cons_append, List.nil_append] at hk hbo ⊢
    by_cases hlt : 0 < k
    · have hL : LeN 1 k := ⟨hlt⟩
      have hk1 : k - 1 < ps.length := by omega
      have hpk := hple ps[k - 1] (by simp)
      have hm1 : ((k : Int) - 1 - 1) = ((k - 1 : Nat) : Int) - 1 := by omega
      have hrev : (ps.drop (k - 1)).reverse = (ps.drop k).reverse ++ [ps[k - 1]] := by
        rw [List.drop_eq_getElem_cons hk1, List.reverse_cons, show k - 1 + 1 = k by omega]
      have hlenr : ((ps.drop k).reverse).length ≤ ps.length := by rw [List.length_reverse, List.length_drop]; omega
      repeat' first | refine st ?_ | (refine nw ?_; intro _) | refine kn ?_ | (refine sp ?_ ?_ <;> intro _) | fail
      refine G.ef rfl rfl rfl (Eff.buildSlice (cells := (strs [ps[k - 1]]).toArray) rfl (by kernel_rfl) (by omega) (fun b2 => ?_))
      refine G.ef rfl rfl rfl (Eff.appendS (ys := [ps[k - 1]]) (B := B) rfl hbo rfl List.perm_middle.symm at_here (by simp only [List.length_singleton]; omega) (fun v2 B2 hb2 => ?_))
      repeat' first | refine st ?_ | (refine nw ?_; intro _) | refine kn ?_ | (refine sp ?_ ?_ <;> intro _) | fail
      simp only [hm1]
      rw [← hrev] at hb2
      exact GQ.back ⟨(k - 1, v2, B2), by omega, hb2⟩ (by simp only; omega) ⟨rfl, rfl, rfl, trivial⟩ (fun w hw => hw.sub SubH.out)
    · obtain rfl : k = 0 := by omega
      rw [List.drop_zero] at hbo
      repeat' first | refine st ?_ | (refine nw ?_; intro _) | refine kn ?_ | (refine sp ?_ ?_ <;> intro _) | fail
      exact GQ.res1h rfl (.tmp rfl) (B ++ F) (fun w hw => hw.sub SubH.out) ⟨B, hbo, rfl⟩
/-- Where a row of texts that is not empty lies. -/
theorem Buf.at {el n : Nat} {v : Value} {xs : List (List UInt8)} {B : Heap} (h : Buf el 1 v n (strs xs) B) (hn : xs ≠ []) : ∃ b cap, v = .slice (some ⟨b, 0, none⟩) xs.length cap ∧ ∀ (X Y : Heap) w, Own W0 (X ++ (B ++ Y)) w → CellsAt w b 0 (strs xs) := by
  have hl := h.len
  rw [strs_length, Nat.mul_one] at hl
  subst hl
  rcases Buf.parts h with ⟨_, h0, _, _⟩ | ⟨b, cap, extra, rfl, rfl, hcap, hx, hmax⟩
  · exact absurd (List.eq_nil_of_length_eq_zero h0) hn
  · refine ⟨b, cap, rfl, fun X Y w hw => ?_⟩
    have hh : Has (X ++ ([(b, Obj.cells (strs xs ++ extra).toArray el (0, 0))] ++ Y)) b (.cells (strs xs ++ extra).toArray el (0, 0)) := ⟨by simp⟩
    exact cellsH (h := hh) (fun j u hj => by
      have hlt := (List.getElem?_eq_some_iff.1 hj).1
      simp [List.getElem?_append_left hlt, hj]) w hw
theorem rows_spec (xs ys : List (List UInt8)) (b1 b2 c1 c2 : Nat) (h1 : RO W0 F (fun w => CellsAt w b1 0 (strs xs))) (h2 : RO W0 F (fun w => CellsAt w b2 0 (strs ys))) (hx : xs.length ≤ 8796093022207) :
    T Tryz.prog W0 149 #[.slice (some ⟨b1, 0, none⟩) xs.length c1, .slice (some ⟨b2, 0, none⟩) ys.length c2] F (fun v H' => v = .bool (decide (xs = ys)) ∧ H' = F) := by
  refine T.intro (args := [_, _]) Tryz.func149 rfl Tryz.ntmps149 rfl ?_
  by_cases hlen : xs.length = ys.length
  · repeat' first | refine st ?_ | (refine nw ?_; intro _) | refine kn ?_ | (refine sp ?_ ?_ <;> intro _) | fail
    refine GC.loopE (ι := { k : Nat // k ≤ xs.length ∧ xs.take k = ys.take k }) (fun i => [(5, .int .i64 (i.1 : Int))]) [(0, _), (1, _)] (fun i => F) (fun i => xs.length - i.1) ⟨0, Nat.zero_le _, rfl⟩ ⟨rfl, rfl, rfl, trivial⟩ (fun _ h => h) ?_
    rintro ⟨k, hk, heq⟩
    dsimp only [List.cons_append, List.nil_append] at hk heq ⊢
    by_cases hlt : k < xs.length
    · have hlt2 : k < ys.length := by omega
      have e1 : (strs xs)[k]? = some (S xs[k]) := by simp [strs, hlt]
      have e2 : (strs ys)[k]? = some (S ys[k]) := by simp [strs, hlt2]
      have a1 : ∀ w, Own W0 F w → w.cell? ⟨b1, 0 + k * 1, none⟩ = some (S xs[k]) := fun w hw => by rw [Nat.mul_one]; exact h1.here hw k _ e1
      have a2 : ∀ w, Own W0 F w → w.cell? ⟨b2, 0 + k * 1, none⟩ = some (S ys[k]) := fun w hw => by rw [Nat.mul_one]; exact h2.here hw k _ e2
      by_cases hk2 : xs[k] = ys[k]
      · have hnext : xs.take (k + 1) = ys.take (k + 1) := by rw [List.take_succ_eq_append_getElem hlt, List.take_succ_eq_append_getElem hlt2, heq, hk2]
        repeat' first | refine st ?_ | (refine nw ?_; intro _) | refine kn ?_ | (refine sp ?_ ?_ <;> intro _) | fail
        refine GC.drawnH [(0, .read), (1, .read), (2, .read), (3, .read), (4, .read), (5, .read), (6, .read), (7, .read), (8, .read)] (by kernel_rfl) (by kernel_rfl) rfl ?_
        repeat' first | refine st ?_ | (refine nw ?_; intro _) | refine kn ?_ | (refine sp ?_ ?_ <;> intro _) | fail
        refine G.rd (Rd.load rfl a1) rfl rfl ?_
        repeat' first | refine st ?_ | (refine nw ?_; intro _) | refine kn ?_ | (refine sp ?_ ?_ <;> intro _) | fail
        refine G.rd (Rd.load rfl a2) rfl rfl ?_
        repeat' first | refine st ?_ | (refine nw ?_; intro _) | refine kn ?_ | (refine sp ?_ ?_ <;> intro _) | fail
        exact GQ.back ⟨k + 1, by omega, hnext⟩ (by simp only; omega) ⟨rfl, rfl, rfl, trivial⟩ (fun w hw => hw)
      · have hne : ¬ xs = ys := fun e => hk2 (by subst e; rfl)
        repeat' first | refine st ?_ | (refine nw ?_; intro _) | refine kn ?_ | (refine sp ?_ ?_ <;> intro _) | fail
        refine GC.drawnH [(0, .read), (1, .read), (2, .read), (3, .read), (4, .read), (5, .read), (6, .read), (7, .read), (8, .read)] (by kernel_rfl) (by kernel_rfl) rfl ?_
        repeat' first | refine st ?_ | (refine nw ?_; intro _) | refine kn ?_ | (refine sp ?_ ?_ <;> intro _) | fail
        refine G.rd (Rd.load rfl a1) rfl rfl ?_
        repeat' first | refine st ?_ | (refine nw ?_; intro _) | refine kn ?_ | (refine sp ?_ ?_ <;> intro _) | fail
        refine G.rd (Rd.load rfl a2) rfl rfl ?_
        repeat' first | refine st ?_ | (refine nw ?_; intro _) | refine kn ?_ | (refine sp ?_ ?_ <;> intro _) | fail
        exact GQ.pure1 rfl (.tmp rfl) (by rw [decide_eq_false hne])
    · have he : xs = ys := by
        rw [List.take_of_length_le (by omega), List.take_of_length_le (by omega)] at heq
        exact heq
      repeat' first | refine st ?_ | (refine nw ?_; intro _) | refine kn ?_ | (refine sp ?_ ?_ <;> intro _) | fail
      exact GQ.pure1 rfl (.tmp rfl) (by rw [decide_eq_true he])
  · have hne : ¬ xs = ys := fun e => hlen (by rw [e])
    repeat' first | refine st ?_ | (refine nw ?_; intro _) | refine kn ?_ | (refine sp ?_ ?_ <;> intro _) | fail
    exact GQ.pure1 rfl (.tmp rfl) (by rw [decide_eq_false hne])
end
end Go.Rfn
