/-
  THE DOCUMENT'S ANSWERS, addresses printed: the whole.
-/
import Derived.Test.YtabkbpckehdiaaaGreatDoorRf07
namespace Go.Rfn
open Go.Own Go.Proofs Go.RowKit Go.Lib Go.Asc Go.Adr Go.Nam
attribute [local irreducible] GC GQ G Rd Eff T
set_option maxRecDepth 20000
set_option maxHeartbeats 4000000
def stepR (l : List Nat) (p : Nat × Nat) (k : Nat) : Nat × Nat := if zlead (l.drop k) > p.2 then (k, zlead (l.drop k)) else p
/-- The document's row of groups 0, after so many places. -/
def rowR (l : List Nat) (k : Nat) : Nat × Nat := (List.range k).foldl (stepR l) (0, 0)
theorem rowR_succ (l : List Nat) (k : Nat) : rowR l (k + 1) = stepR l (rowR l k) k := by simp [rowR, List.range_succ]
theorem row_same (l : List Nat) : ((rowR l l.length).2 < 2 ∧ rowL l = (8, 1)) ∨ (2 ≤ (rowR l l.length).2 ∧ rowL l = rowR l l.length) := by
  unfold rowR rowL
  generalize List.range l.length = ks
  suffices h : ∀ (ks : List Nat) (p q : Nat × Nat), ((q.2 < 2 ∧ p = (8, 1)) ∨ (2 ≤ q.2 ∧ p = q)) → (((ks.foldl (stepR l) q).2 < 2 ∧ ks.foldl (rowStep l) p = (8, 1)) ∨ (2 ≤ (ks.foldl (stepR l) q).2 ∧ ks.foldl (rowStep l) p = ks.foldl (stepR l) q)) from h ks (8, 1) (0, 0) (.inl ⟨by decide, rfl⟩)
  intro ks
  induction ks with
  | nil => intro p q h; exact h
  | cons k ks ih =>
    intro p q h
    rw [List.foldl_cons, List.foldl_cons]
    apply ih
    rcases h with ⟨h1, rfl⟩ | ⟨h1, rfl⟩
    · unfold stepR rowStep
      by_cases hz : 1 < zlead (l.drop k)
      · right
        rw [if_pos (show zlead (l.drop k) > q.2 by omega), if_pos (show zlead (l.drop k) > ((8, 1) : Nat × Nat).2 from hz)]
        exact ⟨hz, rfl⟩
      · left
        refine ⟨?_, if_neg hz⟩
        split
        · show zlead (l.drop k) < 2
          omega
        · exact h1
    · right
      unfold stepR rowStep
      split
      · exact ⟨by simp only; omega, rfl⟩
      · exact ⟨h1, rfl⟩
theorem rowR_le (l : List Nat) (k : Nat) : (rowR l k).1 ≤ k ∧ (rowR l k).2 ≤ l.length := by
  induction k with
  | zero => simp [rowR]
  | succ k ih =>
    rw [rowR_succ]
    unfold stepR
    split
    · have := zlead_le (l.drop k); rw [List.length_drop] at this; exact ⟨by simp only; omega, by simp only; omega⟩
    · omega
theorem textL_snoc (xs : List Nat) (n : Nat) : textL (xs ++ [n]) = if xs = [] then hexL n else textL xs ++ [58] ++ hexL n := by
  induction xs with
  | nil => simp [textL, join_one]
  | cons x xs ih =>
    rw [if_neg (by simp)]
    cases xs with
    | nil => simp [textL, join_one, join_two]
    | cons y xs =>
      rw [if_neg (by simp)] at ih
      unfold textL at ih ⊢
      simp only [List.cons_append, List.map_cons] at ih ⊢
      rw [join_two, join_two, ih]
      simp
/-- The text after k places. -/
def ptL (gs : List Nat) (f n k : Nat) : List UInt8 := if k ≤ f then textL (gs.take k) else textL (gs.take f) ++ [58, 58] ++ textL ((gs.drop (f + n)).take (k - (f + n)))
section
variable {gs : List Nat} {f n k : Nat}
theorem pt_le (h : k ≤ f) : ptL gs f n k = textL (gs.take k) := if_pos h
theorem pt_gt (h : f < k) : ptL gs f n k = textL (gs.take f) ++ [58, 58] ++ textL ((gs.drop (f + n)).take (k - (f + n))) := if_neg (by omega)
theorem pt_low (hk : k < gs.length) (h : k < f) : ptL gs f n (k + 1) = if k = 0 then hexL gs[k] else ptL gs f n k ++ [58] ++ hexL gs[k] := by
  rw [pt_le (by omega), pt_le (by omega), List.take_succ_eq_append_getElem hk, textL_snoc]
  by_cases h0 : k = 0
  · subst h0; simp
  · rw [if_neg h0, if_neg (by intro e; have := congrArg List.length e; rw [List.length_take, List.length_nil] at this; omega)]
theorem pt_at (hn : 1 ≤ n) : ptL gs k n (k + 1) = ptL gs k n k ++ [58, 58] := by
  rw [pt_gt (by omega), pt_le (Nat.le_refl k), show k + 1 - (k + n) = 0 by omega]
  simp [textL, join_nil]
theorem pt_mid (h1 : f < k) (h2 : k < f + n) : ptL gs f n (k + 1) = ptL gs f n k := by
  rw [pt_gt (by omega), pt_gt (by omega), show k + 1 - (f + n) = 0 by omega, show k - (f + n) = 0 by omega]
theorem pt_high (hk : k < gs.length) (h1 : f < k) (h2 : f + n ≤ k) : ptL gs f n (k + 1) = if k = f + n then ptL gs f n k ++ hexL gs[k] else ptL gs f n k ++ [58] ++ hexL gs[k] := by
  rw [pt_gt (by omega), pt_gt (by omega)]
  have hd : k - (f + n) < (gs.drop (f + n)).length := by rw [List.length_drop]; omega
  rw [show k + 1 - (f + n) = k - (f + n) + 1 by omega, List.take_succ_eq_append_getElem hd, textL_snoc]
  have hg : (gs.drop (f + n))[k - (f + n)] = gs[k] := by rw [List.getElem_drop]; congr 1; omega
  rw [hg]
  by_cases h0 : k = f + n
  · rw [if_pos h0, show k - (f + n) = 0 by omega]; simp [textL, join_nil]
  · rw [if_neg h0, if_neg (by intro e; have := congrArg List.length e; rw [List.length_take, List.length_drop, List.length_nil] at this; omega)]
    simp
end
theorem pt_end {gs : List Nat} {f n : Nat} (h8 : gs.length = 8) (hf : f = 8 ∨ (f < 8 ∧ f + n ≤ 8)) : ptL gs f n 8 = if f = 8 then textL gs else textL (gs.take f) ++ [58, 58] ++ textL (gs.drop (f + n)) := by
  by_cases h : f = 8
  · rw [if_pos h, pt_le (by omega), List.take_of_length_le (by omega)]
  · rw [if_neg h, pt_gt (by omega), List.take_of_length_le (l := gs.drop (f + n)) (by rw [List.length_drop]; omega)]
theorem pt_len {gs : List Nat} (f n k : Nat) (h8 : gs.length = 8) (hlt : ∀ m ∈ gs, m < 65536) : (ptL gs f n k).length ≤ 90 := by
  have hj : ∀ gs : List Nat, (∀ n ∈ gs, n < 65536) → (textL gs).length ≤ gs.length * 5 := fun gs h => by
    unfold textL
    have := join_len [58] 4 (gs.map hexL) (by
      intro x hx
      obtain ⟨m, hm, rfl⟩ := List.mem_map.1 hx
      exact hexL_len m (h m hm))
    simpa using this
  unfold ptL
  split
  · have := hj (gs.take k) (fun m hm => hlt m (List.mem_of_mem_take hm)); rw [List.length_take] at this; omega
  · have h1 := hj (gs.take f) (fun m hm => hlt m (List.mem_of_mem_take hm))
    have h2 := hj ((gs.drop (f + n)).take (k - (f + n))) (fun m hm => hlt m (List.mem_of_mem_drop (List.mem_of_mem_take hm)))
    rw [List.length_take] at h1
    rw [List.length_take, List.length_drop] at h2
    simp only [List.length_append, List.length_cons, List.length_nil]
    omega
theorem grp_get (a : List UInt8) (k : Nat) (hk : k < (groupsL a).length) : (groupsL a)[k] = grpN a k := by simp [groupsL, grpN]
section
variable {W0 : World} {F : Heap}
theorem Print_spec (a : List UInt8) (ha : a.length = 16) : T Tryz.prog W0 40 #[.agg (u8s a).toArray] F (fun v H' => v = S (printL a) ∧ H' = F) := by
  refine T.intro (args := [_]) Tryz.func40 rfl Tryz.ntmps40 rfl ?_
  have h8 := groupsL_len a
  have hlt := groupsL_lt a
  cases h4 : (a.take 12 == aheadL) with
  | true =>
    match a, ha with
    | [a0, a1, a2, a3, a4, a5, a6, a7, a8, a9, a10, a11, a12, a13, a14, a15], ha =>
      have hp : printL [a0, a1, a2, a3, a4, a5, a6, a7, a8, a9, a10, a11, a12, a13, a14, a15] = itoa (a12.toNat : Int) ++ [46] ++ itoa (a13.toNat : Int) ++ [46] ++ itoa (a14.toNat : Int) ++ [46] ++ itoa (a15.toNat : Int) := by
        rw [printL, if_pos (by simpa using h4)]
        simp [join_two, join_one]
      have hl16 : [a0, a1, a2, a3, a4, a5, a6, a7, a8, a9, a10, a11, a12, a13, a14, a15].length = 16 := rfl
      have b12 := a12.toNat_lt
      have b13 := a13.toNat_lt
      have b14 := a14.toNat_lt
      have b15 := a15.toNat_lt
      have i12 := itoa_len a12.toNat b12
      have i13 := itoa_len a13.toNat b13
      have i14 := itoa_len a14.toNat b14
      have i15 := itoa_len a15.toNat b15
      repeat' first | refine st ?_ | (refine nw ?_; intro _) | refine kn ?_ | (refine sp ?_ ?_ <;> intro _) | fail
      refine GC.drawnH [(0, .read), (1, .read), (2, .read), (5, .read), (6, .read), (7, .read), (11, .read), (12, .read), (13, .read), (17, .read), (18, .read), (19, .read), (3, .eff), (4, .read), (8, .eff), (9, .read), (10, .read), (14, .eff), (15, .read), (16, .read), (20, .eff), (21, .read), (22, .read)] (by kernel_rfl) (by kernel_rfl) rfl ?_
      repeat' first | refine st ?_ | (refine nw ?_; intro _) | refine kn ?_ | (refine sp ?_ ?_ <;> intro _) | fail
      exact GQ.pure1 rfl (.tmp rfl) (by rw [hp])
  | false =>
    have hz2 : ∀ k < 8, grpN a k < 65536 := fun k _ => grpN_lt a k
    obtain ⟨gs, hgs⟩ : ∃ gs, gs = groupsL a := ⟨_, rfl⟩
    rw [← hgs] at h8 hlt
    have hget : ∀ k (h : k < gs.length), gs[k] = grpN a k := fun k h => by subst hgs; exact grp_get a k h
    have hp : printL a = if (rowL gs).1 = 8 then textL gs else textL (gs.take (rowL gs).1) ++ [58, 58] ++ textL (gs.drop ((rowL gs).1 + (rowL gs).2)) := by
      rw [printL, if_neg (by intro e; rw [e] at h4; simp at h4), hgs]
    rw [hp]
    clear hp hgs
    repeat' first | refine st ?_ | (refine nw ?_; intro _) | refine kn ?_ | (refine sp ?_ ?_ <;> intro _) | fail
    rename_i b1
    refine GC.loopE (ι := { k : Nat // k ≤ 8 }) (fun i => [(3, .int .i64 ((rowR gs i.1).1 : Int)), (4, .int .i64 ((rowR gs i.1).2 : Int)), (5, .int .i64 (i.1 : Int))]) [(1, _)] (fun i => (b1, .cells (u8s a).toArray 51 (0, 0)) :: F) (fun i => 8 - i.1) ⟨0, Nat.zero_le _⟩ ⟨rfl, rfl, rfl, rfl, trivial⟩ (fun _ h => h) ?_
    rintro ⟨k, hk⟩
    dsimp only [List.cons_append, List.nil_append] at hk ⊢
    have hrl := rowR_le gs k
    by_cases hk8 : k < 8
    · repeat' first | refine st ?_ | (refine nw ?_; intro _) | refine kn ?_ | (refine sp ?_ ?_ <;> intro _) | fail
      refine GC.loopE (ι := { n : Nat // k + n ≤ 8 ∧ ∀ i (h : i < gs.length), k ≤ i → i < k + n → gs[i] = 0 }) (fun i => [(6, .int .i64 (i.1 : Int))]) [(1, _), (3, _), (4, _), (5, _)] (fun i => (b1, .cells (u8s a).toArray 51 (0, 0)) :: F) (fun i => 8 - i.1) ⟨0, by omega, fun i _ h1 h2 => by omega⟩ ⟨rfl, rfl, rfl, rfl, rfl, trivial⟩ (fun _ h => h) ?_
      rintro ⟨n, hn, hz⟩
      dsimp only [List.cons_append, List.nil_append] at hn hz ⊢
      have done : (∀ h : k + n < gs.length, gs[k + n] ≠ 0) → zlead (gs.drop k) = n := fun hend => zlead_eq gs (k + n) (by omega) hend n k rfl hz
      have hsucc := rowR_succ gs k
      by_cases hkn : k + n < 8
      · by_cases hg0 : grpN a (k + n) = 0
        · repeat' first | refine st ?_ | (refine nw ?_; intro _) | refine kn ?_ | (refine sp ?_ ?_ <;> intro _) | fail
          refine GQ.back ⟨n + 1, by omega, fun i h h1 h2 => ?_⟩ (by simp only; omega) ⟨rfl, rfl, rfl, rfl, rfl, trivial⟩ (fun w hw => hw)
          by_cases hik : i = k + n
          · subst hik; rw [hget _ h]; exact hg0
          · exact hz i h h1 (by omega)
        · have hzl := done (fun h => by rw [hget _ h]; exact hg0)
          unfold stepR at hsucc
          rw [hzl] at hsucc
          by_cases hgt : (rowR gs k).2 < n
          · rw [if_pos hgt] at hsucc
            repeat' first | refine st ?_ | (refine nw ?_; intro _) | refine kn ?_ | (refine sp ?_ ?_ <;> intro _) | fail
            exact GQ.back ⟨k + 1, by omega⟩ (by simp only; omega) ⟨(by first | rfl | (simp only [hsucc]; rfl)), (by first | rfl | (simp only [hsucc]; rfl)), (by first | rfl | (simp only [hsucc]; rfl)), (by first | rfl | (simp only [hsucc]; rfl)), trivial⟩ (fun w hw => hw)
          · rw [if_neg hgt] at hsucc
            repeat' first | refine st ?_ | (refine nw ?_; intro _) | refine kn ?_ | (refine sp ?_ ?_ <;> intro _) | fail
            exact GQ.back ⟨k + 1, by omega⟩ (by simp only; omega) ⟨(by first | rfl | (simp only [hsucc]; rfl)), (by first | rfl | (simp only [hsucc]; rfl)), (by first | rfl | (simp only [hsucc]; rfl)), (by first | rfl | (simp only [hsucc]; rfl)), trivial⟩ (fun w hw => hw)
      · have hzl := done (fun h => by omega)
        unfold stepR at hsucc
        rw [hzl] at hsucc
        by_cases hgt : (rowR gs k).2 < n
        · rw [if_pos hgt] at hsucc
          repeat' first | refine st ?_ | (refine nw ?_; intro _) | refine kn ?_ | (refine sp ?_ ?_ <;> intro _) | fail
          exact GQ.back ⟨k + 1, by omega⟩ (by simp only; omega) ⟨(by first | rfl | (simp only [hsucc]; rfl)), (by first | rfl | (simp only [hsucc]; rfl)), (by first | rfl | (simp only [hsucc]; rfl)), (by first | rfl | (simp only [hsucc]; rfl)), trivial⟩ (fun w hw => hw)
        · rw [if_neg hgt] at hsucc
          repeat' first | refine st ?_ | (refine nw ?_; intro _) | refine kn ?_ | (refine sp ?_ ?_ <;> intro _) | fail
          exact GQ.back ⟨k + 1, by omega⟩ (by simp only; omega) ⟨(by first | rfl | (simp only [hsucc]; rfl)), (by first | rfl | (simp only [hsucc]; rfl)), (by first | rfl | (simp only [hsucc]; rfl)), (by first | rfl | (simp only [hsucc]; rfl)), trivial⟩ (fun w hw => hw)
    obtain rfl : k = 8 := by omega
    have hrow := row_same gs
    rw [h8] at hrow
    have hb := rowL_bound gs h8
    obtain ⟨f, n, hf, hn, hfn, hfn2⟩ : ∃ f n : Nat, (if (rowR gs 8).2 < 2 then 8 else (rowR gs 8).1) = f ∧ (if (rowR gs 8).2 < 2 then 0 else (rowR gs 8).2) = n ∧ (f = 8 ∧ n = 0 ∨ f < 8 ∧ 2 ≤ n ∧ f + n ≤ 8) ∧ (if (rowL gs).1 = 8 then textL gs else textL (gs.take (rowL gs).1) ++ [58, 58] ++ textL (gs.drop ((rowL gs).1 + (rowL gs).2))) = ptL gs f n 8 := by
      refine ⟨_, _, rfl, rfl, ?_, ?_⟩
      · rcases hrow with ⟨h1, h2⟩ | ⟨h1, h2⟩
        · rw [if_pos h1, if_pos h1]; exact .inl ⟨rfl, rfl⟩
        · rw [if_neg (by omega), if_neg (by omega), ← h2]
          rw [← h2] at h1
          rcases hb with hb | hb
          · have := rowL_is gs
            rcases this with h3 | h3
            · rw [h3] at h1; simp at h1
            · have hd : gs.drop (rowL gs).1 = [] := List.drop_eq_nil_of_le (by omega)
              rw [hd] at h3; simp [zlead] at h3; omega
          · exact .inr ⟨hb.1, h1, hb.2⟩
      · rcases hrow with ⟨h1, h2⟩ | ⟨h1, h2⟩
        · rw [if_pos h1, if_pos h1, pt_end h8 (.inl rfl), h2]; rfl
        · rw [if_neg (c := (rowR gs 8).2 < 2) (by omega), if_neg (c := (rowR gs 8).2 < 2) (by omega), ← h2, pt_end h8 hb]
    rw [hfn2]
    clear hfn2 hrow hb hrl hk hk8
    have hmost : (rowR gs 8).2 ≤ 8 := by have := (rowR_le gs 8).2; omega
    by_cases hm : (rowR gs 8).2 < 2
    all_goals first | rw [if_pos hm] at hf hn | rw [if_neg hm] at hf hn
    all_goals
      repeat' first | refine st ?_ | (refine nw ?_; intro _) | refine kn ?_ | (refine sp ?_ ?_ <;> intro _) | fail
    all_goals
      refine GC.loopE (ι := { k : Nat // k ≤ 8 }) (fun i => [(3, .int .i64 (f : Int)), (4, .int .i64 (n : Int)), (7, S (ptL gs f n i.1)), (8, .int .i64 (i.1 : Int))]) [(1, _)] (fun i => (b1, .cells (u8s a).toArray 51 (0, 0)) :: F) (fun i => 8 - i.1) ⟨0, Nat.zero_le _⟩ ⟨(by first | rfl | (subst hf hn; rfl)), (by first | rfl | (subst hf hn; rfl)), (by first | rfl | (subst hf hn; rfl)), (by first | rfl | (subst hf hn; rfl)), (by first | rfl | (subst hf hn; rfl)), trivial⟩ (fun _ h => h) ?_
      clear hf hn hm
      rintro ⟨k, hk⟩
      dsimp only [List.cons_append, List.nil_append] at hk ⊢
      have hpl := pt_len f n k h8 hlt
      by_cases hk8 : k < 8
      · have hkg : k < gs.length := by omega
        have hxl := hexL_len (grpN a k) (grpN_lt a k)
        have hg := hget k hkg
        have hgl := grpN_lt a k
        by_cases c1 : k < f
        · have hs := pt_low (n := n) hkg c1
          rw [hg] at hs
          by_cases c2 : k = 0
          · rw [if_pos c2] at hs
            have hs2 : ptL gs f n k ++ hexL (grpN a k) = ptL gs f n (k + 1) := by
              rw [hs, pt_le (by omega), c2]; simp [textL, join_nil]
            repeat' first | refine st ?_ | (refine nw ?_; intro _) | refine kn ?_ | (refine sp ?_ ?_ <;> intro _) | fail
            exact GQ.back ⟨k + 1, by omega⟩ (by simp only; omega) ⟨(by first | rfl | (simp only [← hs2]; rfl)), (by first | rfl | (simp only [← hs2]; rfl)), (by first | rfl | (simp only [← hs2]; rfl)), (by first | rfl | (simp only [← hs2]; rfl)), (by first | rfl | (simp only [← hs2]; rfl)), trivial⟩ (fun w hw => hw)
          · rw [if_neg c2] at hs
            repeat' first | refine st ?_ | (refine nw ?_; intro _) | refine kn ?_ | (refine sp ?_ ?_ <;> intro _) | fail
            exact GQ.back ⟨k + 1, by omega⟩ (by simp only; omega) ⟨(by first | rfl | (simp only [hs]; rfl)), (by first | rfl | (simp only [hs]; rfl)), (by first | rfl | (simp only [hs]; rfl)), (by first | rfl | (simp only [hs]; rfl)), (by first | rfl | (simp only [hs]; rfl)), trivial⟩ (fun w hw => hw)
        by_cases c3 : k = f
        · subst c3
          have hs := pt_at (gs := gs) (k := k) (n := n) (by omega)
          repeat' first | refine st ?_ | (refine nw ?_; intro _) | refine kn ?_ | (refine sp ?_ ?_ <;> intro _) | fail
          exact GQ.back ⟨k + 1, by omega⟩ (by simp only; omega) ⟨(by first | rfl | (simp only [hs]; rfl)), (by first | rfl | (simp only [hs]; rfl)), (by first | rfl | (simp only [hs]; rfl)), (by first | rfl | (simp only [hs]; rfl)), (by first | rfl | (simp only [hs]; rfl)), trivial⟩ (fun w hw => hw)
        by_cases c4 : k < f + n
        · have hs := pt_mid (gs := gs) (show f < k by omega) c4
          repeat' first | refine st ?_ | (refine nw ?_; intro _) | refine kn ?_ | (refine sp ?_ ?_ <;> intro _) | fail
          exact GQ.back ⟨k + 1, by omega⟩ (by simp only; omega) ⟨(by first | rfl | (simp only [hs]; rfl)), (by first | rfl | (simp only [hs]; rfl)), (by first | rfl | (simp only [hs]; rfl)), (by first | rfl | (simp only [hs]; rfl)), (by first | rfl | (simp only [hs]; rfl)), trivial⟩ (fun w hw => hw)
        · have hs := pt_high (n := n) hkg (show f < k by omega) (by omega)
          rw [hg] at hs
          by_cases c2 : k = f + n
          · rw [if_pos c2] at hs
            repeat' first | refine st ?_ | (refine nw ?_; intro _) | refine kn ?_ | (refine sp ?_ ?_ <;> intro _) | fail
            exact GQ.back ⟨k + 1, by omega⟩ (by simp only; omega) ⟨(by first | rfl | (simp only [hs]; rfl)), (by first | rfl | (simp only [hs]; rfl)), (by first | rfl | (simp only [hs]; rfl)), (by first | rfl | (simp only [hs]; rfl)), (by first | rfl | (simp only [hs]; rfl)), trivial⟩ (fun w hw => hw)
          · rw [if_neg c2] at hs
            repeat' first | refine st ?_ | (refine nw ?_; intro _) | refine kn ?_ | (refine sp ?_ ?_ <;> intro _) | fail
            exact GQ.back ⟨k + 1, by omega⟩ (by simp only; omega) ⟨(by first | rfl | (simp only [hs]; rfl)), (by first | rfl | (simp only [hs]; rfl)), (by first | rfl | (simp only [hs]; rfl)), (by first | rfl | (simp only [hs]; rfl)), (by first | rfl | (simp only [hs]; rfl)), trivial⟩ (fun w hw => hw)
      · obtain rfl : k = 8 := by omega
        repeat' first | refine st ?_ | (refine nw ?_; intro _) | refine kn ?_ | (refine sp ?_ ?_ <;> intro _) | fail
        exact GQ.pure1 rfl (.tmp rfl) rfl
instance {a : List UInt8} : PureF Tryz.prog W0 40 [.agg (u8s a).toArray] (a.length = 16) (S (printL a)) := ⟨fun h _ => Print_spec a h⟩
end
end Go.Rfn
