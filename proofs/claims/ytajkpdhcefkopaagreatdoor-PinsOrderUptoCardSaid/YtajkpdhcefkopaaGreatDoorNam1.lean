/-
  NAMES: is a label bad; is any label of a list?
-/
import Derived.Test.YtajkpdhcefkopaaGreatDoorNam0
namespace Go.Nam
open Go.Own Go.Proofs Go.RowKit Go.Lib Go.Asc Go.Adr
attribute [local irreducible] GC GQ G Rd Eff T
set_option maxRecDepth 20000
set_option maxHeartbeats 4000000


section
variable {W0 : World} {F : Heap}
theorem bad_spec (x : List UInt8) (hl : x.length ≤ 140737488351232) : T Tryz.prog W0 108 #[S x] F (fun v H' => v = .bool (badL x) ∧ H' = F) := by
  refine T.intro (args := [_]) Tryz.func108 rfl Tryz.ntmps108 rfl ?_
  by_cases h0 : x = []
  · refine au ?_
    exact GQ.done1 rfl rfl ⟨by simp [badL, h0], rfl⟩
  · by_cases h1 : 63 < x.length
    · refine au ?_
      exact GQ.done1 rfl rfl ⟨by simp [badL, h1], rfl⟩
    · refine au ?_
      refine G.ef rfl rfl rfl (Eff.callF rfl ((containsFunc_spec strange_pred strangeP_high x).mono ?_))
      rintro v H' ⟨rfl, rfl⟩
      cases h2 : x.any (fun b => strangeP b.toNat) with
      | true =>
        refine au ?_
        exact GQ.done1 rfl rfl ⟨by simp only [badL, h2]; simp, rfl⟩
      | false =>
        refine au ?_
        refine G.ef rfl rfl rfl (Eff.callF rfl ((hasPrefix_spec x 45 hl).mono ?_))
        rintro v H' ⟨rfl, rfl⟩
        by_cases h3 : x.head? = some 45
        · rw [show decide (x.head? = some 45) = true by simp [h3]]
          refine au ?_
          exact GQ.done1 rfl rfl ⟨by simp only [badL, h2, h3]; simp, rfl⟩
        · rw [show decide (x.head? = some 45) = false by simp [h3]]
          refine au ?_
          refine G.ef rfl rfl rfl (Eff.callF rfl ((hasSuffix_spec x 45 hl).mono ?_))
          rintro v H' ⟨rfl, rfl⟩
          refine au ?_
          exact GQ.done1 rfl rfl ⟨by simp [badL, h0, h1, h2, h3], rfl⟩

/-- Is any one of a list bad? -/
theorem anyBad_spec (ls : List (List UInt8)) (b c : Nat) (_ : ls.length ≤ c) (hN : ls.length ≤ 140737488351232) (hl : ∀ x ∈ ls, x.length ≤ 140737488351232) (hat : RO W0 F (fun w => CellsAt w b 0 (strs ls))) :
    T Tryz.prog W0 107 #[.slice (some ⟨b, 0, none⟩) ls.length c, .func (.func 108) #[] #[]] F (fun v H' => v = .bool (ls.any badL) ∧ H' = F) := by
  have hi : T Tryz.prog W0 145 #[.slice (some ⟨b, 0, none⟩) ls.length c, .func (.func 108) #[] #[]] F (fun v H' => ∃ n : Int, v = .int .i64 n ∧ (0 ≤ n ↔ ls.any badL = true) ∧ H' = F) := by
    refine T.intro (args := [_, _]) Tryz.func145 rfl Tryz.ntmps145 rfl ?_
    refine au ?_
    refine GC.loop (ι := { k : Nat // k ≤ ls.length ∧ (ls.take k).any badL = false }) (fun i => [(0, .slice (some ⟨b, 0, none⟩) ls.length c), (1, .func (.func 108) #[] #[]), (7, .int .i64 (ls.length : Int)), (8, .int .i64 (i.1 : Int))]) (fun _ => F) (fun i => ls.length - i.1) ⟨0, Nat.zero_le _, rfl⟩ ⟨rfl, rfl, rfl, rfl, trivial⟩ (fun _ h => h) ?_
    rintro ⟨k, hk, hall⟩
    dsimp only at hk hall ⊢
    by_cases hlt : k < ls.length
    · have hcell : ∀ w, Own W0 F w → w.cell? ⟨b, 0 + k * 1, none⟩ = some (S ls[k]) := fun w hw => by
        rw [Nat.mul_one]
        exact hat.here hw k _ (by simp [strs, hlt])
      refine au ?_
      refine G.rd (Rd.load rfl hcell) rfl rfl ?_
      refine G.ef rfl rfl rfl (Eff.callV rfl rfl ((bad_spec ls[k] (hl _ (by simp))).mono ?_))
      rintro v H' ⟨rfl, hH⟩
      subst hH
      cases hbk : badL ls[k] with
      | true =>
        refine au ?_
        exact GQ.done1 rfl rfl ⟨(k : Int), rfl, ⟨fun _ => List.any_eq_true.2 ⟨ls[k], by simp, hbk⟩, fun _ => by omega⟩, rfl⟩
      | false =>
        refine au ?_
        exact GQ.back ⟨k + 1, by omega, by rw [List.take_succ_eq_append_getElem hlt, List.any_append, hall]; simp [hbk]⟩ (by simp only; omega) ⟨rfl, rfl, rfl, rfl, trivial⟩ (fun _ h => h)
    · obtain rfl : k = ls.length := by omega
      rw [List.take_length] at hall
      refine au ?_
      exact GQ.done1 rfl rfl ⟨-1, rfl, ⟨fun h => by omega, fun h => by rw [hall] at h; cases h⟩, rfl⟩
  refine T.intro (args := [_, _]) Tryz.func107 rfl Tryz.ntmps107 rfl ?_
  refine au ?_
  refine G.ef rfl rfl rfl (Eff.callF rfl (hi.mono ?_))
  rintro v H' ⟨n, rfl, hn, rfl⟩
  refine au ?_
  refine GQ.done1 rfl rfl ⟨?_, rfl⟩
  congr 1
  cases hany : ls.any badL with
  | true => have := hn.2 hany; simp; omega
  | false =>
    have : ¬ 0 ≤ n := fun h => by have := hn.1 h; rw [hany] at this; cases this
    simp; omega
end
end Go.Nam
