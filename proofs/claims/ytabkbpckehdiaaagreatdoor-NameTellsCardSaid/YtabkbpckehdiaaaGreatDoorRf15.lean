/-
  THE DOCUMENT'S ANSWERS, names: the one form, the labels.
-/
import Derived.Test.YtabkbpckehdiaaaGreatDoorRf14
namespace Go.Rfn
open Go.Own Go.Proofs Go.RowKit Go.Lib Go.Asc Go.Adr Go.Nam
attribute [local irreducible] GC GQ G Rd Eff T
set_option maxRecDepth 20000
set_option maxHeartbeats 4000000
theorem drop_last_take {l : List UInt8} : l.take (l.length - 1) = l.dropLast := by rw [List.dropLast_eq_take]
section
variable {W0 : World} {F : Heap}
theorem rNormal_spec (s : List UInt8) (hl : s.length ≤ 8796093022207) : T Tryz.prog W0 12 #[S s] F (fun v H' => v = normalV s ∧ H' = F) := by
  refine T.intro (args := [_]) Tryz.func12 rfl Tryz.ntmps12 rfl ?_
  cases hp : parseL s with
  | some a =>
    have ha := parseL_len hp
    have hps : (parseL s).isSome = true := by rw [hp]; rfl
    have hga : (parseL s).getD zero16 = a := by rw [hp]; rfl
    have hnv : normalV s = .tuple #[S (printL a), .int .i64 0] := by simp only [normalV, normalL, hp]; rfl
    rw [hnv]
    have hgl : ((parseL s).getD zero16).length = 16 := by rw [hga]; exact ha
    repeat' first | refine st ?_ | (refine nw ?_; intro _) | refine kn ?_ | (refine sp ?_ ?_ <;> intro _) | fail
    exact GQ.pure2 rfl (.tmp rfl) (.tmp rfl) (by rw [hga])
  | none =>
    have hps : (parseL s).isSome = false := by rw [hp]; rfl
    have hll : (s.map lowB).length = s.length := List.length_map _
    have hn := normal_eq hp
    have hnv : normalV s = .tuple #[S (normalL s).1, .int .i64 ((normalL s).2 : Int)] := rfl
    rw [hnv, hn]
    clear hn hnv
    have hz : (trimL 46 (s.map lowB)).length ≤ s.length := by have := trimL_le 46 (s.map lowB); omega
    rcases Nat.eq_zero_or_pos (s.map lowB).length with hy | hy
    rotate_left
    have hL : LeN 1 (s.map lowB).length := ⟨hy⟩
    have hlast := last_iff hy 46
    have e46 : (46 : UInt8).toNat = 46 := rfl
    rw [e46] at hlast
    by_cases h46 : ((s.map lowB)[(s.map lowB).length - 1]).toNat = 46
    · have ht : trimL 46 (s.map lowB) = (s.map lowB).take ((s.map lowB).length - 1) := by
        rw [trimL, if_pos (hlast.2 h46), drop_last_take]
      rw [ht] at hz ⊢
      clear ht
      repeat' first | refine st ?_ | (refine nw ?_; intro _) | refine kn ?_ | fail
      refine GC.weak (e' := [(6, S ((s.map lowB).take ((s.map lowB).length - 1))), (37, .bool (decide (((s.map lowB).take ((s.map lowB).length - 1)) = [])))]) ?_ ⟨rfl, rfl, trivial⟩ (fun _ h => h)
      clear hlast h46 hL hps hp
      generalize (s.map lowB).take ((s.map lowB).length - 1) = z at hz ⊢
      by_cases c0 : z = []
      · rw [if_pos c0]
        repeat' first | refine st ?_ | (refine nw ?_; intro _) | refine kn ?_ | (refine sp ?_ ?_ <;> intro _) | fail
        exact GQ.pure2 rfl (.tmp rfl) (.tmp rfl) rfl
      rw [if_neg c0]
      by_cases c1 : 253 < z.length
      · rw [if_pos c1]
        repeat' first | refine st ?_ | (refine nw ?_; intro _) | refine kn ?_ | (refine sp ?_ ?_ <;> intro _) | fail
        exact GQ.pure2 rfl (.tmp rfl) (.tmp rfl) rfl
      rw [if_neg c1]
      have hple : ∀ x ∈ splitB 46 z, x.length ≤ z.length := splitB_le 46 z
      have hne := splitB_ne 46 z
      have hpl : (splitB 46 z).length ≤ z.length + 1 := by rw [splitB_length]; have := List.count_le_length (a := (46 : UInt8)) (l := z); omega
      repeat' first | refine st ?_ | (refine nw ?_; intro _) | refine kn ?_ | (refine sp ?_ ?_ <;> intro _) | fail
      refine G.ef rfl rfl rfl (Eff.callF rfl ((Cut_spec z 46 (by omega)).mono ?_))
      rintro v H' ⟨B, hb, rfl⟩
      generalize Asc.splitB 46 z = ps at hb hple hne hpl ⊢
      rcases Buf.parts hb with ⟨_, h0, _, _⟩ | ⟨bk, cap, extra, rfl, rfl, hcap, hx, hmax⟩
      · exact absurd (List.eq_nil_of_length_eq_zero h0) hne
      have hpos := List.length_pos_iff.2 hne
      have hLp : LeN 1 ps.length := ⟨hpos⟩
      have hlastp : ps.getLast?.getD [] = ps[ps.length - 1] := by rw [List.getLast?_eq_getElem?, List.getElem?_eq_getElem (by omega)]; rfl
      rw [hlastp]
      repeat' first | refine st ?_ | (refine nw ?_; intro _) | refine kn ?_ | (refine sp ?_ ?_ <;> intro _) | fail
      refine GC.loopE (ι := { k : Nat // k ≤ ps.length ∧ (ps.take k).any badL = false }) (fun i => [(8, .int .i64 (i.1 : Int))]) [(6, _), (7, _)] (fun i => (bk, .cells (strs ps ++ extra).toArray 9 (0, 0)) :: (_, .cells (u8s ((parseL s).getD zero16)).toArray 51 (0, 0)) :: F) (fun i => ps.length - i.1) ⟨0, Nat.zero_le _, by simp⟩ ⟨rfl, rfl, rfl, trivial⟩ (fun _ h => h) ?_
      rintro ⟨k, hk, hany⟩
      dsimp only [List.cons_append, List.nil_append] at hk hany ⊢
      by_cases hlt : k < ps.length
      · have hpk := hple ps[k] (by simp)
        cases hbd : badL ps[k] with
        | true =>
          have hall : ps.any badL = true := List.any_eq_true.2 ⟨ps[k], by simp, hbd⟩
          rw [if_pos (.inl hall)]
          repeat' first | refine st ?_ | (refine nw ?_; intro _) | refine kn ?_ | (refine sp ?_ ?_ <;> intro _) | fail
          exact GQ.pure2 rfl (.tmp rfl) (.tmp rfl) rfl
        | false =>
          have hnext : (ps.take (k + 1)).any badL = false := by rw [List.take_succ_eq_append_getElem hlt, List.any_append, hany]; simp [hbd]
          repeat' first | refine st ?_ | (refine nw ?_; intro _) | refine kn ?_ | (refine sp ?_ ?_ <;> intro _) | fail
          exact GQ.back ⟨k + 1, by omega, hnext⟩ (by simp only; omega) ⟨rfl, rfl, rfl, trivial⟩ (fun w hw => hw)
      · obtain rfl : k = ps.length := by omega
        rw [List.take_length] at hany
        have hpk := hple ps[ps.length - 1] (by simp)
        cases hlo : (ps[ps.length - 1]).any (fun b => otherP b.toNat) with
        | false =>
          rw [if_pos (.inr rfl)]
          repeat' first | refine st ?_ | (refine nw ?_; intro _) | refine kn ?_ | (refine sp ?_ ?_ <;> intro _) | fail
          exact GQ.pure2 rfl (.tmp rfl) (.tmp rfl) rfl
        | true =>
          rw [if_neg (by rw [hany]; simp)]
          repeat' first | refine st ?_ | (refine nw ?_; intro _) | refine kn ?_ | (refine sp ?_ ?_ <;> intro _) | fail
          exact GQ.pure2 rfl (.tmp rfl) (.tmp rfl) rfl
    · have ht : trimL 46 (s.map lowB) = s.map lowB := by rw [trimL, if_neg (fun e => h46 (hlast.1 e))]
      rw [ht] at hz ⊢
      clear ht
      repeat' first | refine st ?_ | (refine nw ?_; intro _) | refine kn ?_ | fail
      refine GC.weak (e' := [(6, S (s.map lowB)), (37, .bool (decide ((s.map lowB) = [])))]) ?_ ⟨rfl, rfl, trivial⟩ (fun _ h => h)
      clear hlast h46 hL hps hp hll hy
      generalize s.map lowB = z at hz ⊢
      by_cases c0 : z = []
      · rw [if_pos c0]
        repeat' first | refine st ?_ | (refine nw ?_; intro _) | refine kn ?_ | (refine sp ?_ ?_ <;> intro _) | fail
        exact GQ.pure2 rfl (.tmp rfl) (.tmp rfl) rfl
      rw [if_neg c0]
      by_cases c1 : 253 < z.length
      · rw [if_pos c1]
        repeat' first | refine st ?_ | (refine nw ?_; intro _) | refine kn ?_ | (refine sp ?_ ?_ <;> intro _) | fail
        exact GQ.pure2 rfl (.tmp rfl) (.tmp rfl) rfl
      rw [if_neg c1]
      have hple : ∀ x ∈ splitB 46 z, x.length ≤ z.length := splitB_le 46 z
      have hne := splitB_ne 46 z
      have hpl : (splitB 46 z).length ≤ z.length + 1 := by rw [splitB_length]; have := List.count_le_length (a := (46 : UInt8)) (l := z); omega
      repeat' first | refine st ?_ | (refine nw ?_; intro _) | refine kn ?_ | (refine sp ?_ ?_ <;> intro _) | fail
      refine G.ef rfl rfl rfl (Eff.callF rfl ((Cut_spec z 46 (by omega)).mono ?_))
      rintro v H' ⟨B, hb, rfl⟩
      generalize Asc.splitB 46 z = ps at hb hple hne hpl ⊢
      rcases Buf.parts hb with ⟨_, h0, _, _⟩ | ⟨bk, cap, extra, rfl, rfl, hcap, hx, hmax⟩
      · exact absurd (List.eq_nil_of_length_eq_zero h0) hne
      have hpos := List.length_pos_iff.2 hne
      have hLp : LeN 1 ps.length := ⟨hpos⟩
      have hlastp : ps.getLast?.getD [] = ps[ps.length - 1] := by rw [List.getLast?_eq_getElem?, List.getElem?_eq_getElem (by omega)]; rfl
      rw [hlastp]
      repeat' first | refine st ?_ | (refine nw ?_; intro _) | refine kn ?_ | (refine sp ?_ ?_ <;> intro _) | fail
      refine GC.loopE (ι := { k : Nat // k ≤ ps.length ∧ (ps.take k).any badL = false }) (fun i => [(8, .int .i64 (i.1 : Int))]) [(6, _), (7, _)] (fun i => (bk, .cells (strs ps ++ extra).toArray 9 (0, 0)) :: (_, .cells (u8s ((parseL s).getD zero16)).toArray 51 (0, 0)) :: F) (fun i => ps.length - i.1) ⟨0, Nat.zero_le _, by simp⟩ ⟨rfl, rfl, rfl, trivial⟩ (fun _ h => h) ?_
      rintro ⟨k, hk, hany⟩
      dsimp only [List.cons_append, List.nil_append] at hk hany ⊢
      by_cases hlt : k < ps.length
      · have hpk := hple ps[k] (by simp)
        cases hbd : badL ps[k] with
        | true =>
          have hall : ps.any badL = true := List.any_eq_true.2 ⟨ps[k], by simp, hbd⟩
          rw [if_pos (.inl hall)]
          repeat' first | refine st ?_ | (refine nw ?_; intro _) | refine kn ?_ | (refine sp ?_ ?_ <;> intro _) | fail
          exact GQ.pure2 rfl (.tmp rfl) (.tmp rfl) rfl
        | false =>
          have hnext : (ps.take (k + 1)).any badL = false := by rw [List.take_succ_eq_append_getElem hlt, List.any_append, hany]; simp [hbd]
          repeat' first | refine st ?_ | (refine nw ?_; intro _) | refine kn ?_ | (refine sp ?_ ?_ <;> intro _) | fail
          exact GQ.back ⟨k + 1, by omega, hnext⟩ (by simp only; omega) ⟨rfl, rfl, rfl, trivial⟩ (fun w hw => hw)
      · obtain rfl : k = ps.length := by omega
        rw [List.take_length] at hany
        have hpk := hple ps[ps.length - 1] (by simp)
        cases hlo : (ps[ps.length - 1]).any (fun b => otherP b.toNat) with
        | false =>
          rw [if_pos (.inr rfl)]
          repeat' first | refine st ?_ | (refine nw ?_; intro _) | refine kn ?_ | (refine sp ?_ ?_ <;> intro _) | fail
          exact GQ.pure2 rfl (.tmp rfl) (.tmp rfl) rfl
        | true =>
          rw [if_neg (by rw [hany]; simp)]
          repeat' first | refine st ?_ | (refine nw ?_; intro _) | refine kn ?_ | (refine sp ?_ ?_ <;> intro _) | fail
          exact GQ.pure2 rfl (.tmp rfl) (.tmp rfl) rfl
    · have ht : trimL 46 (s.map lowB) = s.map lowB := by
        have : s.map lowB = [] := List.eq_nil_of_length_eq_zero hy
        rw [this]; rfl
      rw [ht] at hz ⊢
      clear ht
      repeat' first | refine st ?_ | (refine nw ?_; intro _) | refine kn ?_ | fail
      refine GC.weak (e' := [(6, S (s.map lowB)), (37, .bool (decide ((s.map lowB) = [])))]) ?_ ⟨rfl, rfl, trivial⟩ (fun _ h => h)
      clear hps hp hll hy
      generalize s.map lowB = z at hz ⊢
      by_cases c0 : z = []
      · rw [if_pos c0]
        repeat' first | refine st ?_ | (refine nw ?_; intro _) | refine kn ?_ | (refine sp ?_ ?_ <;> intro _) | fail
        exact GQ.pure2 rfl (.tmp rfl) (.tmp rfl) rfl
      rw [if_neg c0]
      by_cases c1 : 253 < z.length
      · rw [if_pos c1]
        repeat' first | refine st ?_ | (refine nw ?_; intro _) | refine kn ?_ | (refine sp ?_ ?_ <;> intro _) | fail
        exact GQ.pure2 rfl (.tmp rfl) (.tmp rfl) rfl
      rw [if_neg c1]
      have hple : ∀ x ∈ splitB 46 z, x.length ≤ z.length := splitB_le 46 z
      have hne := splitB_ne 46 z
      have hpl : (splitB 46 z).length ≤ z.length + 1 := by rw [splitB_length]; have := List.count_le_length (a := (46 : UInt8)) (l := z); omega
      repeat' first | refine st ?_ | (refine nw ?_; intro _) | refine kn ?_ | (refine sp ?_ ?_ <;> intro _) | fail
      refine G.ef rfl rfl rfl (Eff.callF rfl ((Cut_spec z 46 (by omega)).mono ?_))
      rintro v H' ⟨B, hb, rfl⟩
      generalize Asc.splitB 46 z = ps at hb hple hne hpl ⊢
      rcases Buf.parts hb with ⟨_, h0, _, _⟩ | ⟨bk, cap, extra, rfl, rfl, hcap, hx, hmax⟩
      · exact absurd (List.eq_nil_of_length_eq_zero h0) hne
      have hpos := List.length_pos_iff.2 hne
      have hLp : LeN 1 ps.length := ⟨hpos⟩
      have hlastp : ps.getLast?.getD [] = ps[ps.length - 1] := by rw [List.getLast?_eq_getElem?, List.getElem?_eq_getElem (by omega)]; rfl
      rw [hlastp]
      repeat' first | refine st ?_ | (refine nw ?_; intro _) | refine kn ?_ | (refine sp ?_ ?_ <;> intro _) | fail
      refine GC.loopE (ι := { k : Nat // k ≤ ps.length ∧ (ps.take k).any badL = false }) (fun i => [(8, .int .i64 (i.1 : Int))]) [(6, _), (7, _)] (fun i => (bk, .cells (strs ps ++ extra).toArray 9 (0, 0)) :: (_, .cells (u8s ((parseL s).getD zero16)).toArray 51 (0, 0)) :: F) (fun i => ps.length - i.1) ⟨0, Nat.zero_le _, by simp⟩ ⟨rfl, rfl, rfl, trivial⟩ (fun _ h => h) ?_
      rintro ⟨k, hk, hany⟩
      dsimp only [List.cons_append, List.nil_append] at hk hany ⊢
      by_cases hlt : k < ps.length
      · have hpk := hple ps[k] (by simp)
        cases hbd : badL ps[k] with
        | true =>
          have hall : ps.any badL = true := List.any_eq_true.2 ⟨ps[k], by simp, hbd⟩
          rw [if_pos (.inl hall)]
          repeat' first | refine st ?_ | (refine nw ?_; intro _) | refine kn ?_ | (refine sp ?_ ?_ <;> intro _) | fail
          exact GQ.pure2 rfl (.tmp rfl) (.tmp rfl) rfl
        | false =>
          have hnext : (ps.take (k + 1)).any badL = false := by rw [List.take_succ_eq_append_getElem hlt, List.any_append, hany]; simp [hbd]
          repeat' first | refine st ?_ | (refine nw ?_; intro _) | refine kn ?_ | (refine sp ?_ ?_ <;> intro _) | fail
          exact GQ.back ⟨k + 1, by omega, hnext⟩ (by simp only; omega) ⟨rfl, rfl, rfl, trivial⟩ (fun w hw => hw)
      · obtain rfl : k = ps.length := by omega
        rw [List.take_length] at hany
        have hpk := hple ps[ps.length - 1] (by simp)
        cases hlo : (ps[ps.length - 1]).any (fun b => otherP b.toNat) with
        | false =>
          rw [if_pos (.inr rfl)]
          repeat' first | refine st ?_ | (refine nw ?_; intro _) | refine kn ?_ | (refine sp ?_ ?_ <;> intro _) | fail
          exact GQ.pure2 rfl (.tmp rfl) (.tmp rfl) rfl
        | true =>
          rw [if_neg (by rw [hany]; simp)]
          repeat' first | refine st ?_ | (refine nw ?_; intro _) | refine kn ?_ | (refine sp ?_ ?_ <;> intro _) | fail
          exact GQ.pure2 rfl (.tmp rfl) (.tmp rfl) rfl
instance {s : List UInt8} : PureF Tryz.prog W0 12 [S s] (s.length ≤ 8796093022207) (normalV s) := ⟨fun h _ => rNormal_spec s h⟩
end
end Go.Rfn
