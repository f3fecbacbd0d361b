/-
  THE DOCUMENT'S ANSWERS, addresses read: they answer as package addr's functions do.
-/
import Derived.Test.YtabkbpckehdiaaaGreatDoorRf02
namespace Go.Rfn
open Go.Own Go.Proofs Go.RowKit Go.Lib Go.Asc Go.Adr Go.Nam
attribute [local irreducible] GC GQ G Rd Eff T
set_option maxRecDepth 20000
set_option maxHeartbeats 4000000
theorem Buf.ofS (el b : Nat) (xs : List (List UInt8)) (h : xs.length ≤ 9223372036854775807) : Buf el 1 (.slice (some ⟨b, 0, none⟩) xs.length xs.length) xs.length (strs xs) [(b, .cells (strs xs).toArray el (0, 0))] := by
  have := Buf.row (el := el) (size := 1) b xs.length xs.length (strs xs) [] (by rw [strs_length, Nat.mul_one]) (by simp [strs_length]) (Nat.le_refl _) h
  simpa using this
theorem set_last {xs : List (List UInt8)} (h : xs ≠ []) (x : List UInt8) : xs.set (xs.length - 1) x = xs.dropLast ++ [x] := by
  obtain ⟨ys, y, rfl⟩ : ∃ ys y, xs = ys ++ [y] := ⟨xs.dropLast, xs.getLast h, (List.dropLast_concat_getLast h).symm⟩
  simp
section
variable {W0 : World} {F : Heap}
theorem Cut_spec (l : List UInt8) (c : UInt8) (hl : l.length ≤ 8796093022207) : T Tryz.prog W0 42 #[S l, .int .u8 (c.toNat : Int)] F
    (fun v H' => ∃ B, Buf 9 1 v (splitB c l).length (strs (splitB c l)) B ∧ H' = B ++ F) := by
  refine T.intro (args := [_, _]) Tryz.func42 rfl Tryz.ntmps42 rfl ?_
  repeat' first | refine st ?_ | (refine nw ?_; intro _) | refine kn ?_ | (refine sp ?_ ?_ <;> intro _) | fail
  refine G.ef rfl rfl rfl (Eff.buildSlice (cells := (strs [[]]).toArray) rfl (by kernel_rfl) (by omega) (fun b2 => ?_))
  refine G.heap (H' := [(b2, .cells (strs [[]]).toArray 9 (0, 0))] ++ F) ?_ (fun _ h => h)
  repeat' first | refine st ?_ | (refine nw ?_; intro _) | refine kn ?_ | (refine sp ?_ ?_ <;> intro _) | fail
  refine GC.loopE (ι := { q : Nat × Value × Heap // q.1 ≤ l.length ∧ Buf 9 1 q.2.1 (splitB c (l.take q.1)).length (strs (splitB c (l.take q.1))) q.2.2 }) (fun i => [(5, i.1.2.1), (6, .int .i64 (i.1.1 : Int))]) [(0, _), (1, _)] (fun i => i.1.2.2 ++ F) (fun i => l.length - i.1.1) ⟨(0, _, _), Nat.zero_le _, Buf.ofS 9 b2 [[]] (by decide)⟩ ⟨rfl, rfl, rfl, rfl, trivial⟩ (fun _ h => h) ?_
  rintro ⟨⟨k, v, B⟩, hk, hb⟩
  dsimp only [List.cons_append, List.nil_append] at hk hb ⊢
  have hsl : (splitB c (l.take k)).length ≤ k + 1 := by
    rw [splitB_length]; have := List.count_le_length (a := c) (l := l.take k); rw [List.length_take] at this; omega
  by_cases hlt : k < l.length
  · have hts := List.take_succ_eq_append_getElem hlt
    have hc := (l[k]).toNat_lt
    have hc2 := c.toNat_lt
    by_cases he : l[k] = c
    · have he2 : (l[k]).toNat = c.toNat := by rw [he]
      have hn : splitB c (l.take (k + 1)) = splitB c (l.take k) ++ [[]] := by
        rw [hts, he, show l.take k ++ [c] = l.take k ++ c :: [] from rfl, splitB_append]; rfl
      repeat' first | refine st ?_ | (refine nw ?_; intro _) | refine kn ?_ | (refine sp ?_ ?_ <;> intro _) | fail
      refine G.ef rfl rfl rfl (Eff.buildSlice (cells := (strs [[]]).toArray) rfl (by kernel_rfl) (by omega) (fun b3 => ?_))
      refine G.heap (H' := (b3, .cells (strs [[]]).toArray 9 (0, 0)) :: (B ++ F)) ?_ (fun _ h => h)
      refine G.ef rfl rfl rfl (Eff.appendS (ys := [[]]) (B := B) rfl hb rfl List.perm_middle.symm at_here (by simp only [List.length_singleton]; omega) (fun v2 B2 hb2 => ?_))
      rw [← hn] at hb2
      repeat' first | refine st ?_ | (refine nw ?_; intro _) | refine kn ?_ | (refine sp ?_ ?_ <;> intro _) | fail
      exact GQ.back ⟨(k + 1, v2, B2), by omega, hb2⟩ (by simp only; omega) ⟨rfl, rfl, rfl, rfl, trivial⟩ (fun w hw => hw.sub SubH.out)
    · have he2 : (l[k]).toNat ≠ c.toNat := fun h => he (UInt8.toNat_inj.1 h)
      have hn : splitB c (l.take (k + 1)) = (splitB c (l.take k)).dropLast ++ [(splitB c (l.take k)).getLast?.getD [] ++ [l[k]]] := by
        rw [hts, splitB_snoc he]
      have hne := splitB_ne c (l.take k)
      have hle : ∀ x ∈ splitB c (l.take k), x.length ≤ l.length := fun x hx => by
        have := splitB_le c (l.take k) x hx; rw [List.length_take] at this; omega
      generalize splitB c (l.take k) = os at hb hn hne hsl hle
      have hpos := List.length_pos_iff.2 hne
      have hlast : os.getLast?.getD [] = os[os.length - 1] := by rw [List.getLast?_eq_getElem?, List.getElem?_eq_getElem (by omega)]; rfl
      have hlm := hle os[os.length - 1] (by simp)
      rcases Buf.parts hb with ⟨_, h0, _, _⟩ | ⟨b, cap, extra, rfl, rfl, hcap, hx, hmax⟩
      · omega
      have hw1 : (l.drop k).take (k + 1 - k) = [l[k]] := by
        rw [show k + 1 - k = 1 by omega, List.drop_eq_getElem_cons hlt]; rfl
      have hlen1 : ((l.drop k).take (k + 1 - k)).length = 1 := by rw [hw1]; rfl
      repeat' first | refine st ?_ | (refine nw ?_; intro _) | refine kn ?_ | (refine sp ?_ ?_ <;> intro _) | fail
      have hi : LeN 1 os.length := ⟨hpos⟩
      refine GC.drawnH [(0, .read), (1, .read), (2, .read), (3, .read), (4, .read), (5, .read), (6, .read), (7, .read), (8, .read), (9, .read), (10, .read), (11, .read), (12, .read), (13, .read), (14, .read), (15, .read), (16, .read), (17, .tail)] (by kernel_rfl) (by kernel_rfl) rfl ?_
      repeat' first | refine st ?_ | (refine nw ?_; intro _) | refine kn ?_ | (refine sp ?_ ?_ <;> intro _) | fail
      refine GQ.back ⟨(k + 1, _, [(b, .cells (strs (os.set (os.length - 1) (os[os.length - 1] ++ (l.drop k).take (k + 1 - k))) ++ extra).toArray 9 (0, 0))]), by omega, ?_⟩ (by simp only; omega) ⟨rfl, rfl, rfl, rfl, trivial⟩ (fun w hw => ?_)
      · have hos : os.set (os.length - 1) (os[os.length - 1] ++ (l.drop k).take (k + 1 - k)) = splitB c (l.take (k + 1)) := by
          rw [hn, hw1, hlast, set_last hne]
        simp only [hos]
        have hlen2 : (splitB c (l.take (k + 1))).length = os.length := by rw [← hos, List.length_set]
        rw [hlen2]
        exact Buf.row b os.length cap _ _ (by rw [strs_length, hlen2, Nat.mul_one]) (by rw [strs_length, hlen2]; rw [strs_length] at hx; exact hx) hcap hmax
      · dsimp only
        rw [← strs_set os extra (os.length - 1) (by omega)]
        exact hw
  · obtain rfl : k = l.length := by omega
    rw [List.take_length] at hb
    repeat' first | refine st ?_ | (refine nw ?_; intro _) | refine kn ?_ | (refine sp ?_ ?_ <;> intro _) | fail
    exact GQ.done1 rfl rfl ⟨B, hb, rfl⟩
theorem atB {el n : Nat} {v : Value} {l : List UInt8} {B : Heap} (h : Buf el 1 v n (u8s l) B) : ∃ p cap, v = .slice p l.length cap ∧ l.length ≤ cap ∧ ∀ (X Y : Heap) w, Own W0 (X ++ (B ++ Y)) w → At w p (u8s l) := by
  obtain ⟨_, p, cap, h1, h2, _, h3⟩ := Buf.bytes h
  exact ⟨p, cap, h1, h2, fun X Y w hw => h3 W0 w (hw.sub ((List.sublist_append_left B Y).trans (List.sublist_append_right X _)))⟩
/-- What dotted answers. -/
inductive DotR (el : TypeId) : Option (List UInt8) → Value → Heap → Prop
  | some (q : List UInt8) (v : Value) (B : Heap) (h4 : q.length = 4) (h : Buf el 1 v q.length (u8s q) B) : DotR el (some q) (.tuple #[v, .bool true]) B
  | none : DotR el none (.tuple #[.slice none 0 0, .bool false]) []
theorem dotted_spec (l : List UInt8) (hl : l.length ≤ 8796093022207) : T Tryz.prog W0 74 #[S l] F (fun v H' => ∃ B, DotR 5 (dot l) v B ∧ H' = B ++ F) := by
  refine T.intro (args := [_]) Tryz.func74 rfl Tryz.ntmps74 rfl ?_
  repeat' first | refine st ?_ | (refine nw ?_; intro _) | refine kn ?_ | (refine sp ?_ ?_ <;> intro _) | fail
  refine G.ef rfl rfl rfl (Eff.callF rfl ((Cut_spec l 46 hl).mono ?_))
  rintro v H' ⟨B, hb, rfl⟩
  have hple : ∀ x ∈ splitB 46 l, x.length ≤ l.length := splitB_le 46 l
  have hdot : dot l = if (splitB 46 l).length = 4 ∧ (splitB 46 l).all isNum = true then some ((splitB 46 l).map numB) else none := rfl
  have hpl : (splitB 46 l).length ≤ l.length + 1 := by rw [splitB_length]; have := List.count_le_length (a := (46 : UInt8)) (l := l); omega
  rw [hdot]
  have hne := splitB_ne 46 l
  generalize Asc.splitB 46 l = ps at hb hple hpl hne ⊢
  rcases Buf.parts hb with ⟨_, h0, _, _⟩ | ⟨b, cap, extra, rfl, rfl, hcap, hx, hmax⟩
  · exact absurd (List.eq_nil_of_length_eq_zero h0) hne
  by_cases h4 : ps.length = 4
  · repeat' first | refine st ?_ | (refine nw ?_; intro _) | refine kn ?_ | (refine sp ?_ ?_ <;> intro _) | fail
    refine GC.loopE (ι := { q : Nat × List UInt8 × Value × Heap // q.1 ≤ 4 ∧ q.2.1.length = q.1 ∧ Buf 5 1 q.2.2.1 q.2.1.length (u8s q.2.1) q.2.2.2 ∧ (ps.take q.1).all isNum = true ∧ (ps.take q.1).map numB = q.2.1 }) (fun i => [(5, i.1.2.2.1), (6, .int .i64 (i.1.1 : Int))]) [(4, _)] (fun i => i.1.2.2.2 ++ ((b, .cells (strs ps ++ extra).toArray 9 (0, 0)) :: F)) (fun i => 4 - i.1.1) ⟨(0, [], .slice none 0 0, []), by omega, rfl, .nil, by simp, by simp⟩ ⟨rfl, rfl, rfl, trivial⟩ (fun _ h => h) ?_
    rintro ⟨⟨k, out, vo, B⟩, hk, hol, hbo, hall, hmap⟩
    dsimp only [List.cons_append, List.nil_append] at hk hol hbo hall hmap ⊢
    by_cases hlt : k < 4
    · have hkp : k < ps.length := by omega
      have hts := List.take_succ_eq_append_getElem hkp
      have hpk := hple ps[k] (by simp)
      cases hn : number ps[k] 255 with
      | none =>
        have hbad : ¬ (ps.length = 4 ∧ ps.all isNum = true) := fun h => by
          have := List.all_eq_true.1 h.2 ps[k] (by simp)
          rw [isNum, hn] at this; cases this
        rw [if_neg hbad]
        repeat' first | refine st ?_ | (refine nw ?_; intro _) | refine kn ?_ | (refine sp ?_ ?_ <;> intro _) | fail
        simp only [hn, okV]
        repeat' first | refine st ?_ | (refine nw ?_; intro _) | refine kn ?_ | (refine sp ?_ ?_ <;> intro _) | fail
        exact GQ.res2h rfl (.tmp rfl) (.tmp rfl) F (fun w hw => hw.sub SubH.out) ⟨[], .none, rfl⟩
      | some n =>
        have hn1 := number_le hn
        repeat' first | refine st ?_ | (refine nw ?_; intro _) | refine kn ?_ | (refine sp ?_ ?_ <;> intro _) | fail
        simp only [hn, okV]
        repeat' first | refine st ?_ | (refine nw ?_; intro _) | refine kn ?_ | (refine sp ?_ ?_ <;> intro _) | fail
        have hc8 : (n : Int) = ((numB ps[k]).toNat : Int) := by rw [hn1.2.2]
        simp only [hc8]
        refine G.ef rfl rfl rfl (Eff.buildSlice (cells := (u8s [numB ps[k]]).toArray) rfl (by kernel_rfl) (by omega) (fun b2 => ?_))
        refine G.ef rfl rfl rfl (Eff.appU (ys := [numB ps[k]]) (B := B) rfl hbo rfl at_here (by simp only [List.length_singleton]; omega) (fun v2 B2 hb2 => ?_))
        repeat' first | refine st ?_ | (refine nw ?_; intro _) | refine kn ?_ | (refine sp ?_ ?_ <;> intro _) | fail
        refine GQ.back ⟨(k + 1, out ++ [numB ps[k]], v2, B2), by omega, by simp [hol], hb2, ?_, ?_⟩ (by simp only; omega) ⟨rfl, rfl, rfl, trivial⟩ (fun w hw => hw.sub SubH.out)
        · rw [hts, List.all_append, hall]; simp [isNum, hn]
        · rw [hts, List.map_append, hmap]; rfl
    · obtain rfl : k = 4 := by omega
      rw [← h4, List.take_length] at hall hmap
      rw [if_pos ⟨h4, hall⟩, hmap]
      repeat' first | refine st ?_ | (refine nw ?_; intro _) | refine kn ?_ | (refine sp ?_ ?_ <;> intro _) | fail
      exact GQ.res2h rfl (.tmp rfl) (.tmp rfl) (B ++ F) (fun w hw => hw.sub SubH.out) ⟨B, .some out _ _ (by omega) hbo, rfl⟩
  · rw [if_neg (fun h => h4 h.1)]
    repeat' first | refine st ?_ | (refine nw ?_; intro _) | refine kn ?_ | (refine sp ?_ ?_ <;> intro _) | fail
    exact GQ.res2h rfl (.tmp rfl) (.tmp rfl) F (fun w hw => hw.sub SubH.out) ⟨[], .none, rfl⟩
end
end Go.Rfn
