/-
  THE DOCUMENT'S ANSWERS, names.
-/
import Derived.Test.YtabkbpckehdiaaaGreatDoorRf08
namespace Go.Rfn
open Go.Own Go.Proofs Go.RowKit Go.Lib Go.Asc Go.Adr Go.Nam
attribute [local irreducible] GC GQ G Rd Eff T
set_option maxRecDepth 20000
set_option maxHeartbeats 4000000
theorem strange_iff (c : Nat) : strangeP c = false ↔ ((97 ≤ c ∧ c ≤ 122) ∨ (65 ≤ c ∧ c ≤ 90) ∨ c = 45 ∨ c = 95 ∨ (48 ≤ c ∧ c ≤ 57)) := by
  simp only [strangeP, fineC, otherP, Bool.and_eq_false_iff, Bool.not_eq_false', Bool.or_eq_true, Bool.or_eq_false_iff, decide_eq_true_eq, decide_eq_false_iff_not]
  omega
theorem last_iff {l : List UInt8} (h : 0 < l.length) (c : UInt8) : l.getLast? = some c ↔ (l[l.length - 1]).toNat = c.toNat := by
  rw [List.getLast?_eq_getElem?, List.getElem?_eq_getElem (by omega)]
  simp only [Option.some.injEq]
  exact ⟨fun h => by rw [h], fun h => UInt8.toNat_inj.1 h⟩
theorem head_iff {l : List UInt8} (h : 0 < l.length) (c : UInt8) : l.head? = some c ↔ (l[0]).toNat = c.toNat := by
  rw [head_get, List.getElem?_eq_getElem h]
  simp only [Option.some.injEq]
  exact ⟨fun h => by rw [h], fun h => UInt8.toNat_inj.1 h⟩
section
variable {W0 : World} {F : Heap}
theorem label_spec (l : List UInt8) (hl : l.length ≤ 140737488351232) : T Tryz.prog W0 43 #[S l] F (fun v H' => v = .bool (!badL l) ∧ H' = F) := by
  refine T.intro (args := [_]) Tryz.func43 rfl Tryz.ntmps43 rfl ?_
  repeat' first | refine st ?_ | (refine nw ?_; intro _) | refine kn ?_ | (refine sp ?_ ?_ <;> intro _) | fail
  refine GC.loopE (ι := { k : Nat // k ≤ l.length ∧ ∀ b ∈ l.take k, strangeP b.toNat = false }) (fun i => [(3, .int .i64 (i.1 : Int))]) [(0, _)] (fun i => F) (fun i => l.length - i.1) ⟨0, Nat.zero_le _, by simp⟩ ⟨rfl, rfl, trivial⟩ (fun _ h => h) ?_
  rintro ⟨k, hk, hf⟩
  dsimp only [List.cons_append, List.nil_append] at hk hf ⊢
  by_cases hlt : k < l.length
  · cases hst : strangeP (l[k]).toNat with
    | false =>
      have hs := (strange_iff _).1 hst
      have hnext : ∀ b ∈ l.take (k + 1), strangeP b.toNat = false := by
        rw [List.take_succ_eq_append_getElem hlt]
        intro b hb
        rcases List.mem_append.1 hb with hb | hb
        · exact hf b hb
        · simp only [List.mem_singleton] at hb; subst hb; exact hst
      repeat' first | refine st ?_ | (refine nw ?_; intro _) | refine kn ?_ | (refine sp ?_ ?_ <;> intro _) | fail
      all_goals first
        | (exfalso; omega)
        | exact GQ.back ⟨k + 1, by omega, hnext⟩ (by simp only; omega) ⟨rfl, rfl, trivial⟩ (fun w hw => hw)
    | true =>
      have hs : ¬ ((97 ≤ (l[k]).toNat ∧ (l[k]).toNat ≤ 122) ∨ (65 ≤ (l[k]).toNat ∧ (l[k]).toNat ≤ 90) ∨ (l[k]).toNat = 45 ∨ (l[k]).toNat = 95 ∨ (48 ≤ (l[k]).toNat ∧ (l[k]).toNat ≤ 57)) := fun h => by
        rw [(strange_iff _).2 h] at hst; cases hst
      have hb : badL l = true := by
        cases hb : badL l with
        | true => rfl
        | false => have := (badL_ne hb).2.2 l[k] (by simp); rw [hst] at this; cases this
      rw [hb]
      repeat' first | refine st ?_ | (refine nw ?_; intro _) | refine kn ?_ | (refine sp ?_ ?_ <;> intro _) | fail
      all_goals first
        | (exfalso; omega)
        | exact GQ.pure1 rfl (.tmp rfl) rfl
  · obtain rfl : k = l.length := by omega
    rw [List.take_length] at hf
    have hany : l.any (fun b => strangeP b.toNat) = false := by
      rw [List.any_eq_false]; intro b hb; rw [hf b hb]; simp
    by_cases h0 : l = []
    · subst h0
      have hb : badL [] = true := by decide
      rw [hb]
      repeat' first | refine st ?_ | (refine nw ?_; intro _) | refine kn ?_ | (refine sp ?_ ?_ <;> intro _) | fail
      exact GQ.pure1 rfl (.tmp rfl) rfl
    have hpos := List.length_pos_iff.2 h0
    have hL : LeN 1 l.length := ⟨hpos⟩
    have h1 := head_iff hpos 45
    have h2 := last_iff hpos 45
    have e45 : (45 : UInt8).toNat = 45 := rfl
    rw [e45] at h1 h2
    have hb : badL l = (decide (63 < l.length) || decide ((l[0]).toNat = 45) || decide ((l[l.length - 1]).toNat = 45)) := by
      unfold badL
      rw [hany]
      simp only [h0, decide_false, Bool.false_or, Bool.or_false, h1, h2]
    rw [hb]
    by_cases c1 : 63 < l.length
    · rw [decide_eq_true c1]
      repeat' first | refine st ?_ | (refine nw ?_; intro _) | refine kn ?_ | (refine sp ?_ ?_ <;> intro _) | fail
      exact GQ.pure1 rfl (.tmp rfl) rfl
    · rw [decide_eq_false c1]
      by_cases c2 : (l[0]).toNat = 45
      · rw [decide_eq_true c2]
        repeat' first | refine st ?_ | (refine nw ?_; intro _) | refine kn ?_ | (refine sp ?_ ?_ <;> intro _) | fail
        exact GQ.pure1 rfl (.tmp rfl) rfl
      · rw [decide_eq_false c2]
        by_cases c3 : (l[l.length - 1]).toNat = 45
        · rw [decide_eq_true c3]
          repeat' first | refine st ?_ | (refine nw ?_; intro _) | refine kn ?_ | (refine sp ?_ ?_ <;> intro _) | fail
          exact GQ.pure1 rfl (.tmp rfl) rfl
        · rw [decide_eq_false c3]
          repeat' first | refine st ?_ | (refine nw ?_; intro _) | refine kn ?_ | (refine sp ?_ ?_ <;> intro _) | fail
          exact GQ.pure1 rfl (.tmp rfl) rfl
instance {l : List UInt8} : PureF Tryz.prog W0 43 [S l] (l.length ≤ 140737488351232) (.bool (!badL l)) := ⟨fun h _ => label_spec l h⟩
theorem digits_spec (l : List UInt8) (hl : l.length ≤ 140737488351232) : T Tryz.prog W0 44 #[S l] F (fun v H' => v = .bool (!l.any (fun b => otherP b.toNat)) ∧ H' = F) := by
  refine T.intro (args := [_]) Tryz.func44 rfl Tryz.ntmps44 rfl ?_
  repeat' first | refine st ?_ | (refine nw ?_; intro _) | refine kn ?_ | (refine sp ?_ ?_ <;> intro _) | fail
  refine GC.loopE (ι := { k : Nat // k ≤ l.length ∧ ∀ b ∈ l.take k, otherP b.toNat = false }) (fun i => [(3, .int .i64 (i.1 : Int))]) [(0, _)] (fun i => F) (fun i => l.length - i.1) ⟨0, Nat.zero_le _, by simp⟩ ⟨rfl, rfl, trivial⟩ (fun _ h => h) ?_
  rintro ⟨k, hk, hf⟩
  dsimp only [List.cons_append, List.nil_append] at hk hf ⊢
  by_cases hlt : k < l.length
  · have hoi : otherP (l[k]).toNat = true ↔ ((l[k]).toNat < 48 ∨ 57 < (l[k]).toNat) := by simp [otherP]
    cases hst : otherP (l[k]).toNat with
    | false =>
      have hs : ¬ ((l[k]).toNat < 48 ∨ 57 < (l[k]).toNat) := fun h => by rw [hoi.2 h] at hst; cases hst
      have hnext : ∀ b ∈ l.take (k + 1), otherP b.toNat = false := by
        rw [List.take_succ_eq_append_getElem hlt]
        intro b hb
        rcases List.mem_append.1 hb with hb | hb
        · exact hf b hb
        · simp only [List.mem_singleton] at hb; subst hb; exact hst
      repeat' first | refine st ?_ | (refine nw ?_; intro _) | refine kn ?_ | (refine sp ?_ ?_ <;> intro _) | fail
      all_goals first
        | (exfalso; omega)
        | exact GQ.back ⟨k + 1, by omega, hnext⟩ (by simp only; omega) ⟨rfl, rfl, trivial⟩ (fun w hw => hw)
    | true =>
      have hs := hoi.1 hst
      have hb : l.any (fun b => otherP b.toNat) = true := List.any_eq_true.2 ⟨l[k], by simp, hst⟩
      rw [hb]
      repeat' first | refine st ?_ | (refine nw ?_; intro _) | refine kn ?_ | (refine sp ?_ ?_ <;> intro _) | fail
      all_goals first
        | (exfalso; omega)
        | exact GQ.pure1 rfl (.tmp rfl) rfl
  · obtain rfl : k = l.length := by omega
    rw [List.take_length] at hf
    have hany : l.any (fun b => otherP b.toNat) = false := by
      rw [List.any_eq_false]; intro b hb; rw [hf b hb]; simp
    rw [hany]
    repeat' first | refine st ?_ | (refine nw ?_; intro _) | refine kn ?_ | (refine sp ?_ ?_ <;> intro _) | fail
    exact GQ.pure1 rfl (.tmp rfl) rfl
instance {l : List UInt8} : PureF Tryz.prog W0 44 [S l] (l.length ≤ 140737488351232) (.bool (!l.any (fun b => otherP b.toNat))) := ⟨fun h _ => digits_spec l h⟩
end
end Go.Rfn
