/-
  THE DOCUMENT'S ANSWERS, addresses read: groups, and the whole.
-/
import Derived.Test.YtabkbpckehdiaaaGreatDoorRf03
namespace Go.Rfn
open Go.Own Go.Proofs Go.RowKit Go.Lib Go.Asc Go.Adr Go.Nam
attribute [local irreducible] GC GQ G Rd Eff T
set_option maxRecDepth 20000
set_option maxHeartbeats 4000000
section
variable {W0 : World} {F : Heap}
theorem groups_spec (l : List UInt8) (may : Bool) (hl : l.length ≤ 8796093022207) : T Tryz.prog W0 76 #[S l, .bool may] F
    (fun v H' => ∃ B, ReadR 5 (readL may l) v B ∧ H' = B ++ F) := by
  refine T.intro (args := [_, _]) Tryz.func76 rfl Tryz.ntmps76 rfl ?_
  by_cases hl0 : l = []
  · repeat' first | refine st ?_ | (refine nw ?_; intro _) | refine kn ?_ | (refine sp ?_ ?_ <;> intro _) | fail
    exact GQ.res2h rfl (.tmp rfl) (.tmp rfl) F (fun w hw => hw) ⟨[], by rw [readL, if_pos hl0]; exact .some [] _ _ .nil, rfl⟩
  have hple : ∀ x ∈ splitB 58 l, x.length ≤ l.length := splitB_le 58 l
  have hpl : (splitB 58 l).length ≤ l.length + 1 := by rw [splitB_length]; have := List.count_le_length (a := (58 : UInt8)) (l := l); omega
  have hread : readL may l = grp may (splitB 58 l) := by rw [readL, if_neg hl0]
  rw [hread]
  have hne := splitB_ne 58 l
  repeat' first | refine st ?_ | (refine nw ?_; intro _) | refine kn ?_ | (refine sp ?_ ?_ <;> intro _) | fail
  refine G.ef rfl rfl rfl (Eff.callF rfl ((Cut_spec l 58 hl).mono ?_))
  rintro v H' ⟨B, hb, rfl⟩
  clear hread
  generalize Asc.splitB 58 l = ps at hb hple hpl hne ⊢
  rcases Buf.parts hb with ⟨_, h0, _, _⟩ | ⟨bk, cap, extra, rfl, rfl, hcap, hx, hmax⟩
  · exact absurd (List.eq_nil_of_length_eq_zero h0) hne
  repeat' first | refine st ?_ | (refine nw ?_; intro _) | refine kn ?_ | (refine sp ?_ ?_ <;> intro _) | fail
  refine GC.loopE (ι := { q : Nat × List UInt8 × Value × Heap // q.1 ≤ ps.length ∧ Buf 5 1 q.2.2.1 q.2.1.length (u8s q.2.1) q.2.2.2 ∧ q.2.1.length ≤ 4 * q.1 ∧ grp may ps = (grp may (ps.drop q.1)).map (q.2.1 ++ ·) }) (fun i => [(7, i.1.2.2.1), (8, .int .i64 (i.1.1 : Int))]) [(1, _), (6, _)] (fun i => i.1.2.2.2 ++ ((bk, .cells (strs ps ++ extra).toArray 9 (0, 0)) :: F)) (fun i => ps.length - i.1.1) ⟨(0, [], .slice none 0 0, []), by simp, .nil, by simp, by simp⟩ ⟨rfl, rfl, rfl, rfl, trivial⟩ (fun _ h => h) ?_
  rintro ⟨⟨k, out, vo, B⟩, hk, hbuf, hol, hgrp⟩
  dsimp only [List.cons_append, List.nil_append] at hk hbuf hol hgrp ⊢
  by_cases hlt : k < ps.length
  · have hdrop : ps.drop k = ps[k] :: ps.drop (k + 1) := List.drop_eq_getElem_cons hlt
    have hpk := hple ps[k] (by simp)
    cases hn : hexR ps[k] with
    | some n =>
      have hn1 := hexR_lt hn
      repeat' first | refine st ?_ | (refine nw ?_; intro _) | refine kn ?_ | (refine sp ?_ ?_ <;> intro _) | fail
      simp only [hn, okV]
      repeat' first | refine st ?_ | (refine nw ?_; intro _) | refine kn ?_ | (refine sp ?_ ?_ <;> intro _) | fail
      have e1 : ((n / 256 : Nat) : Int) = ((UInt8.ofNat (n / 256)).toNat : Int) := by rw [UInt8.toNat_ofNat']; omega
      have e2 : ((n % 256 : Nat) : Int) = ((UInt8.ofNat (n % 256)).toNat : Int) := by rw [UInt8.toNat_ofNat']; omega
      simp only [e1, e2]
      refine G.ef rfl rfl rfl (Eff.buildSlice (cells := (u8s (two n)).toArray) rfl (by kernel_rfl) (by omega) (fun b2 => ?_))
      refine G.ef rfl rfl rfl (Eff.appU (ys := two n) (B := B) rfl hbuf rfl at_here (by show out.length + 2 ≤ _; omega) (fun v' B' hb' => ?_))
      repeat' first | refine st ?_ | (refine nw ?_; intro _) | refine kn ?_ | (refine sp ?_ ?_ <;> intro _) | fail
      refine GQ.back ⟨(k + 1, out ++ two n, v', B'), by omega, hb', by simp only [List.length_append]; show out.length + 2 ≤ _; omega, ?_⟩ (by simp only; omega) ⟨rfl, rfl, rfl, rfl, trivial⟩ (fun w hw => hw.sub SubH.out)
      rw [hgrp, hdrop, grp_some hn, Option.map_map]
      congr 1
      funext z
      simp
    | none =>
      repeat' first | refine st ?_ | (refine nw ?_; intro _) | refine kn ?_ | (refine sp ?_ ?_ <;> intro _) | fail
      simp only [hn, okV]
      repeat' first | refine st ?_ | (refine nw ?_; intro _) | refine kn ?_ | (refine sp ?_ ?_ <;> intro _) | fail
      refine G.ef rfl rfl rfl (Eff.callF rfl ((dotted_spec ps[k] (by omega)).mono ?_))
      rintro v H' ⟨B4, hd4, rfl⟩
      by_cases hd : (dot ps[k]).isSome = true ∧ may = true ∧ k + 1 = ps.length
      · obtain ⟨hd1, hd2, hd3⟩ := hd
        subst hd2
        obtain ⟨d, hdd⟩ := Option.isSome_iff_exists.1 hd1
        rw [hdd] at hd4
        cases hd4 with
        | some _ v4 _ h4 hb4 =>
          obtain ⟨p4, cap4, rfl, hc4, hat4⟩ := atB (W0 := W0) hb4
          repeat' first | refine st ?_ | (refine nw ?_; intro _) | refine kn ?_ | (refine sp ?_ ?_ <;> intro _) | fail
          refine G.ef rfl rfl rfl (Eff.appU (ys := d) (B := B) rfl hbuf rfl (fun w hw => hat4 [] _ w hw) (by omega) (fun v' B' hb' => ?_))
          repeat' first | refine st ?_ | (refine nw ?_; intro _) | refine kn ?_ | (refine sp ?_ ?_ <;> intro _) | fail
          refine GQ.back ⟨(k + 1, out ++ d, v', B'), by omega, hb', by simp only [List.length_append]; omega, ?_⟩ (by simp only; omega) ⟨rfl, rfl, rfl, rfl, trivial⟩ (fun w hw => hw.sub SubH.out)
          rw [hgrp, hdrop, grp_dot hn hdd rfl (List.drop_of_length_le (by omega)), List.drop_of_length_le (by omega)]
          simp [grp]
      · have hbad : grp may ps = none := by
          rw [hgrp, hdrop, grp_bad hn (fun h => hd ⟨h.1, h.2.1, by have := List.drop_eq_nil_iff.1 h.2.2; omega⟩)]; rfl
        rw [hbad]
        have fin : ∀ {Q : Prop}, Q → Q := fun h => h
        generalize hdo : dot ps[k] = od at hd4 hd
        cases hd4 with
        | none =>
          repeat' first | refine st ?_ | (refine nw ?_; intro _) | refine kn ?_ | (refine sp ?_ ?_ <;> intro _) | fail
          exact GQ.res2h rfl (.tmp rfl) (.tmp rfl) F (fun w hw => hw.sub SubH.out) ⟨[], .none, rfl⟩
        | some q v4 _ h4 hb4 =>
          cases may with
          | false =>
            repeat' first | refine st ?_ | (refine nw ?_; intro _) | refine kn ?_ | (refine sp ?_ ?_ <;> intro _) | fail
            exact GQ.res2h rfl (.tmp rfl) (.tmp rfl) F (fun w hw => hw.sub SubH.out) ⟨[], .none, rfl⟩
          | true =>
            have hne2 : k + 1 ≠ ps.length := fun h => hd ⟨rfl, rfl, h⟩
            repeat' first | refine st ?_ | (refine nw ?_; intro _) | refine kn ?_ | (refine sp ?_ ?_ <;> intro _) | fail
            exact GQ.res2h rfl (.tmp rfl) (.tmp rfl) F (fun w hw => hw.sub SubH.out) ⟨[], .none, rfl⟩
  · obtain rfl : k = ps.length := by omega
    repeat' first | refine st ?_ | (refine nw ?_; intro _) | refine kn ?_ | (refine sp ?_ ?_ <;> intro _) | fail
    refine GQ.res2h rfl (.tmp rfl) (.tmp rfl) (B ++ F) (fun w hw => hw.sub SubH.out) ⟨B, ?_, rfl⟩
    rw [hgrp, List.drop_length]
    simpa [grp] using ReadR.some out vo B hbuf
end
end Go.Rfn
