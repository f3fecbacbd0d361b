/-
  THE DOCUMENT'S ANSWERS, addresses printed.
  THE DOCUMENT'S ANSWERS, addresses printed: the whole.
  THE DOCUMENT'S ANSWERS, names.
  THE DOCUMENT'S ANSWERS, names: the one form, the labels.
  THE DOCUMENT'S ANSWERS, names: the labels; are two rows of texts the same?
-/
import Derived.Test.YtabkbpckehdiaaaGreatDoorRf06
namespace Go.Rfn
open Go.Own Go.Proofs Go.RowKit Go.Lib Go.Asc Go.Adr Go.Nam
attribute [local irreducible] GC GQ G Rd Eff T
set_option maxRecDepth 20000
set_option maxHeartbeats 4000000
section
variable {W0 : World} {F : Heap}
theorem hexT : ∀ n < 16, ((([48, 49, 50, 51, 52, 53, 54, 55, 56, 57, 97, 98, 99, 100, 101, 102] : List UInt8).drop n).take (n + 1 - n)) = [hexC n] := by decide
theorem hex_spec (n : Nat) (hn : n < 65536) : T Tryz.prog W0 80 #[.int .i64 (n : Int)] F (fun v H' => v = S (hexL n) ∧ H' = F) := by
  induction n using Nat.strongRecOn generalizing F with
  | _ n ih =>
    refine T.intro (args := [_]) Tryz.func80 rfl Tryz.ntmps80 rfl ?_
    by_cases h : n < 16
    · have hl16 : ([48, 49, 50, 51, 52, 53, 54, 55, 56, 57, 97, 98, 99, 100, 101, 102] : List UInt8).length = 16 := rfl
      rw [hexL_small h]
      repeat' first | refine st ?_ | (refine nw ?_; intro _) | refine kn ?_ | (refine sp ?_ ?_ <;> intro _) | fail
      exact GQ.pure1 rfl (.tmp rfl) (congrArg S (hexT n h))
    · have hl1 := hexL_len (n / 16) (by omega)
      have hl2 := hexL_len (n % 16) (by omega)
      repeat' first | refine st ?_ | (refine nw ?_; intro _) | refine kn ?_ | (refine sp ?_ ?_ <;> intro _) | fail
      refine G.ef rfl rfl rfl (Eff.callF rfl ((ih (n / 16) (by omega) (by omega)).mono ?_))
      rintro v H' ⟨rfl, rfl⟩
      repeat' first | refine st ?_ | (refine nw ?_; intro _) | refine kn ?_ | (refine sp ?_ ?_ <;> intro _) | fail
      refine G.ef rfl rfl rfl (Eff.callF rfl ((ih (n % 16) (by omega) (by omega)).mono ?_))
      rintro v H' ⟨rfl, rfl⟩
      repeat' first | refine st ?_ | (refine nw ?_; intro _) | refine kn ?_ | (refine sp ?_ ?_ <;> intro _) | fail
      exact GQ.pure1 rfl (.tmp rfl) (by rw [hexL_big (n := n) (by omega), hexL_small (n := n % 16) (by omega)])
instance {i : Int} {n : Nat} [hn : NatLit i n] : PureF Tryz.prog W0 80 [.int .i64 i] (n < 65536) (S (hexL n)) := ⟨fun h _ => by rw [hn.eq]; exact hex_spec n h⟩
/-- Two bytes as a number. -/
def grpN (a : List UInt8) (k : Nat) : Nat := (a.getD (2 * k) 0).toNat * 256 + (a.getD (2 * k + 1) 0).toNat
theorem grpN_lt (a : List UInt8) (k : Nat) : grpN a k < 65536 := by
  have h1 := (a.getD (2 * k) 0).toNat_lt
  have h2 := (a.getD (2 * k + 1) 0).toNat_lt
  unfold grpN; omega
theorem group_spec (a : List UInt8) (ha : a.length = 16) (k : Nat) (hk : k < 8) : T Tryz.prog W0 79 #[.agg (u8s a).toArray, .int .i64 (k : Int)] F (fun v H' => v = .int .i64 (grpN a k : Int) ∧ H' = F) := by
  refine T.intro (args := [_, _]) Tryz.func79 rfl Tryz.ntmps79 rfl ?_
  repeat' first | refine st ?_ | (refine nw ?_; intro _) | refine kn ?_ | (refine sp ?_ ?_ <;> intro _) | fail
  refine GC.drawnH [(0, .read), (1, .read), (2, .read), (3, .read), (4, .read), (5, .read), (6, .read), (7, .read), (8, .read), (9, .read), (10, .read), (11, .read), (12, .read), (13, .read)] (by kernel_rfl) (by kernel_rfl) rfl ?_
  have h1 : 2 * k < a.length := by omega
  have h2 : 2 * k + 1 < a.length := by omega
  have e1 : a.getD (2 * k) 0 = a[2 * k] := by rw [List.getD_eq_getElem?_getD, List.getElem?_eq_getElem h1]; rfl
  have e2 : a.getD (2 * k + 1) 0 = a[2 * k + 1] := by rw [List.getD_eq_getElem?_getD, List.getElem?_eq_getElem h2]; rfl
  have b1 := (a[2 * k]).toNat_lt
  have b2 := (a[2 * k + 1]).toNat_lt
  repeat' first | refine st ?_ | (refine nw ?_; intro _) | refine kn ?_ | (refine sp ?_ ?_ <;> intro _) | fail
  exact GQ.pure1 rfl (.tmp rfl) (by rw [grpN, e1, e2]; rfl)
instance {a : List UInt8} {i : Int} {k : Nat} [hn : NatLit i k] : PureF Tryz.prog W0 79 [.agg (u8s a).toArray, .int .i64 i] (a.length = 16 ∧ k < 8) (.int .i64 (grpN a k : Int)) := ⟨fun h _ => by rw [hn.eq]; exact group_spec a h.1 k h.2⟩
theorem Four_spec (a : List UInt8) (ha : a.length = 16) : T Tryz.prog W0 77 #[.agg (u8s a).toArray] F (fun v H' => v = .bool (a.take 12 == aheadL) ∧ H' = F) := by
  match a, ha with
  | [a0, a1, a2, a3, a4, a5, a6, a7, a8, a9, a10, a11, a12, a13, a14, a15], _ =>
    obtain ⟨a, ha⟩ : ∃ a, a = [a0, a1, a2, a3, a4, a5, a6, a7, a8, a9, a10, a11, a12, a13, a14, a15] := ⟨_, rfl⟩
    have hl : a.length = 16 := by rw [ha]; rfl
    have key : (a.take 12 == aheadL) = true ↔ (∀ i (h : i < 10), (a[i]).toNat = 0) ∧ (a[10]).toNat = 255 ∧ (a[11]).toNat = 255 := by
      have hz : ∀ c : UInt8, c = 0 ↔ c.toNat = 0 := fun c => ⟨fun h => by rw [h]; rfl, fun h => UInt8.toNat_inj.1 h⟩
      have hf : ∀ c : UInt8, c = 255 ↔ c.toNat = 255 := fun c => ⟨fun h => by rw [h]; rfl, fun h => UInt8.toNat_inj.1 h⟩
      have hall : (∀ i (h : i < 10), (a[i]).toNat = 0) ↔ (a0.toNat = 0 ∧ a1.toNat = 0 ∧ a2.toNat = 0 ∧ a3.toNat = 0 ∧ a4.toNat = 0 ∧ a5.toNat = 0 ∧ a6.toNat = 0 ∧ a7.toNat = 0 ∧ a8.toNat = 0 ∧ a9.toNat = 0) := by
        subst ha
        constructor
        · intro h; exact ⟨h 0 (by omega), h 1 (by omega), h 2 (by omega), h 3 (by omega), h 4 (by omega), h 5 (by omega), h 6 (by omega), h 7 (by omega), h 8 (by omega), h 9 (by omega)⟩
        · rintro ⟨h0, h1, h2, h3, h4, h5, h6, h7, h8, h9⟩ i hi
          match i, hi with
          | 0, _ => exact h0
          | 1, _ => exact h1
          | 2, _ => exact h2
          | 3, _ => exact h3
          | 4, _ => exact h4
          | 5, _ => exact h5
          | 6, _ => exact h6
          | 7, _ => exact h7
          | 8, _ => exact h8
          | 9, _ => exact h9
      rw [hall]
      subst ha
      simp only [List.take_succ_cons, List.take_zero, aheadL, beq_iff_eq, List.cons.injEq, and_true, hz, hf, List.getElem_cons_succ, List.getElem_cons_zero, and_assoc]
    rw [← ha]
    clear ha
    refine T.intro (args := [_]) Tryz.func77 rfl Tryz.ntmps77 rfl ?_
    repeat' first | refine st ?_ | (refine nw ?_; intro _) | refine kn ?_ | (refine sp ?_ ?_ <;> intro _) | fail
    rename_i b1
    refine GC.loopE (ι := { k : Nat // k ≤ 10 ∧ ∀ i (h : i < a.length), i < k → (a[i]).toNat = 0 }) (fun i => [(3, .int .i64 (i.1 : Int))]) [(1, _)] (fun i => (b1, .cells (u8s a).toArray 51 (0, 0)) :: F) (fun i => 10 - i.1) ⟨0, Nat.zero_le _, fun i _ hi => by omega⟩ ⟨rfl, rfl, trivial⟩ (fun _ h => h) ?_
    rintro ⟨k, hk, hz⟩
    dsimp only [List.cons_append, List.nil_append] at hk hz ⊢
    by_cases hlt : k < 10
    · have hkl : k < a.length := by omega
      by_cases h0 : (a[k]).toNat = 0
      · repeat' first | refine st ?_ | (refine nw ?_; intro _) | refine kn ?_ | (refine sp ?_ ?_ <;> intro _) | fail
        refine GQ.back ⟨k + 1, by omega, fun i h hi => ?_⟩ (by simp only; omega) ⟨rfl, rfl, trivial⟩ (fun w hw => hw)
        by_cases hik : i = k
        · subst hik; exact h0
        · exact hz i h (by omega)
      · have hf : (a.take 12 == aheadL) = false := by
          rw [Bool.eq_false_iff]; intro h; exact h0 ((key.1 h).1 k hlt)
        repeat' first | refine st ?_ | (refine nw ?_; intro _) | refine kn ?_ | (refine sp ?_ ?_ <;> intro _) | fail
        exact GQ.pure1 rfl (.tmp rfl) (by rw [hf])
    · obtain rfl : k = 10 := by omega
      have h10 : 10 < a.length := by omega
      have h11 : 11 < a.length := by omega
      have hz2 : ∀ i (h : i < 10), (a[i]).toNat = 0 := fun i h => hz i (by omega) h
      by_cases c1 : (a[10]).toNat = 255
      · by_cases c2 : (a[11]).toNat = 255
        · have hf : (a.take 12 == aheadL) = true := key.2 ⟨hz2, c1, c2⟩
          repeat' first | refine st ?_ | (refine nw ?_; intro _) | refine kn ?_ | (refine sp ?_ ?_ <;> intro _) | fail
          exact GQ.pure1 rfl (.tmp rfl) (by rw [hf])
        · have hf : (a.take 12 == aheadL) = false := by
            rw [Bool.eq_false_iff]; intro h; exact c2 (key.1 h).2.2
          repeat' first | refine st ?_ | (refine nw ?_; intro _) | refine kn ?_ | (refine sp ?_ ?_ <;> intro _) | fail
          exact GQ.pure1 rfl (.tmp rfl) (by rw [hf])
      · have hf : (a.take 12 == aheadL) = false := by
          rw [Bool.eq_false_iff]; intro h; exact c1 (key.1 h).2.1
        repeat' first | refine st ?_ | (refine nw ?_; intro _) | refine kn ?_ | (refine sp ?_ ?_ <;> intro _) | fail
        exact GQ.pure1 rfl (.tmp rfl) (by rw [hf])
instance {a : List UInt8} : PureF Tryz.prog W0 77 [.agg (u8s a).toArray] (a.length = 16) (.bool (a.take 12 == aheadL)) := ⟨fun h _ => Four_spec a h⟩
end
end Go.Rfn

namespace Go.Rfn
open Go.Own Go.Proofs Go.RowKit Go.Lib Go.Asc Go.Adr Go.Nam
attribute [local irreducible] GC GQ G Rd Eff T
set_option maxRecDepth 20000
set_option maxHeartbeats 4000000
def stepR (l : List Nat) (p : Nat × Nat) (k : Nat) : Nat × Nat := if zlead (l.drop k) > p.2 then (k, zlead (l.drop k)) else p
/-- The document's row of groups 0, after so many places. -/
def rowR (l : List Nat) (k : Nat) : Nat × Nat := (List.range k).foldl (stepR l) (0, 0)
theorem rowR_succ (l : List Nat) (k : Nat) : rowR l (k + 1) = stepR l (rowR l k) k := by simp [rowR, List.range_succ]
theorem row_same (l : List Nat) : ((rowR l l.length).2 < 2 ∧ rowL l = (8, 1)) ∨ (2 ≤ (rowR l l.length).2 ∧ rowL l = rowR l l.length) := by
  unfold rowR rowL
  generalize List.range l.length = ks
  suffices h : ∀ (ks : List Nat) (p q : Nat × Nat), ((q.2 < 2 ∧ p = (8, 1)) ∨ (2 ≤ q.2 ∧ p = q)) → (((ks.foldl (stepR l) q).2 < 2 ∧ ks.foldl (rowStep l) p = (8, 1)) ∨ (2 ≤ (ks.foldl (stepR l) q).2 ∧ ks.foldl (rowStep l) p = ks.foldl (stepR l) q)) from h ks (8, 1) (0, 0) (.inl ⟨by decide, rfl⟩)
  intro ks
  induction ks with
  | nil => intro p q h; exact h
  | cons k ks ih =>
    intro p q h
    rw [List.foldl_cons, List.foldl_cons]
    apply ih
    rcases h with ⟨h1, rfl⟩ | ⟨h1, rfl⟩
    · unfold stepR rowStep
      by_cases hz : 1 < zlead (l.drop k)
      · right
        rw [if_pos (show zlead (l.drop k) > q.2 by omega), if_pos (show zlead (l.drop k) > ((8, 1) : Nat × Nat).2 from hz)]
        exact ⟨hz, rfl⟩
      · left
        refine ⟨?_, if_neg hz⟩
        split
        · show zlead (l.drop k) < 2
          omega
        · exact h1
    · right
      unfold stepR rowStep
      split
      · exact ⟨by simp only; omega, rfl⟩
      · exact ⟨h1, rfl⟩
theorem rowR_le (l : List Nat) (k : Nat) : (rowR l k).1 ≤ k ∧ (rowR l k).2 ≤ l.length := by
  induction k with
  | zero => simp [rowR]
  | succ k ih =>
    rw [rowR_succ]
    unfold stepR
    split
    · have := zlead_le (l.drop k); rw [List.length_drop] at this; exact ⟨by simp only; omega, by simp only; omega⟩
    · omega
theorem textL_snoc (xs : List Nat) (n : Nat) : textL (xs ++ [n]) = if xs = [] then hexL n else textL xs ++ [58] ++ hexL n := by
  induction xs with
  | nil => simp [textL, join_one]
  | cons x xs ih =>
    rw [if_neg (by simp)]
    cases xs with
    | nil => simp [textL, join_one, join_two]
    | cons y xs =>
      rw [if_neg (by simp)] at ih
      unfold textL at ih ⊢
      simp only [List.cons_append, List.map_cons] at ih ⊢
      rw [join_two, join_two, ih]
      simp
/-- The text after k places. -/
def ptL (gs : List Nat) (f n k : Nat) : List UInt8 := if k ≤ f then textL (gs.take k) else textL (gs.take f) ++ [58, 58] ++ textL ((gs.drop (f + n)).take (k - (f + n)))
section
variable {gs : List Nat} {f n k : Nat}
theorem pt_le (h : k ≤ f) : ptL gs f n k = textL (gs.take k) := if_pos h
theorem pt_gt (h : f < k) : ptL gs f n k = textL (gs.take f) ++ [58, 58] ++ textL ((gs.drop (f + n)).take (k - (f + n))) := if_neg (by omega)
theorem pt_low (hk : k < gs.length) (h : k < f) : ptL gs f n (k + 1) = if k = 0 then hexL gs[k] else ptL gs f n k ++ [58] ++ hexL gs[k] := by
  rw [pt_le (by omega), pt_le (by omega), List.take_succ_eq_append_getElem hk, textL_snoc]
  by_cases h0 : k = 0
  · subst h0; simp
  · rw [if_neg h0, if_neg (by intro e; have := congrArg List.length e; rw [List.length_take, List.length_nil] at this; omega)]
theorem pt_at (hn : 1 ≤ n) : ptL gs k n (k + 1) = ptL gs k n k ++ [58, 58] := by
  rw [pt_gt (by omega), pt_le (Nat.le_refl k), show k + 1 - (k + n) = 0 by omega]
  simp [textL, join_nil]
theorem pt_mid (h1 : f < k) (h2 : k < f + n) : ptL gs f n (k + 1) = ptL gs f n k := by
  rw [pt_gt (by omega), pt_gt (by omega), show k + 1 - (f + n) = 0 by omega, show k - (f + n) = 0 by omega]
theorem pt_high (hk : k < gs.length) (h1 : f < k) (h2 : f + n ≤ k) : ptL gs f n (k + 1) = if k = f + n then ptL gs f n k ++ hexL gs[k] else ptL gs f n k ++ [58] ++ hexL gs[k] := by
  rw [pt_gt (by omega), pt_gt (by omega)]
  have hd : k - (f + n) < (gs.drop (f + n)).length := by rw [List.length_drop]; omega
  rw [show k + 1 - (f + n) = k - (f + n) + 1 by omega, List.take_succ_eq_append_getElem hd, textL_snoc]
  have hg : (gs.drop (f + n))[k - (f + n)] = gs[k] := by rw [List.getElem_drop]; congr 1; omega
  rw [hg]
  by_cases h0 : k = f + n
  · rw [if_pos h0, show k - (f + n) = 0 by omega]; simp [textL, join_nil]
  · rw [if_neg h0, if_neg (by intro e; have := congrArg List.length e; rw [List.length_take, List.length_drop, List.length_nil] at this; omega)]
    simp
end
theorem pt_end {gs : List Nat} {f n : Nat} (h8 : gs.length = 8) (hf : f = 8 ∨ (f < 8 ∧ f + n ≤ 8)) : ptL gs f n 8 = if f = 8 then textL gs else textL (gs.take f) ++ [58, 58] ++ textL (gs.drop (f + n)) := by
  by_cases h : f = 8
  · rw [if_pos h, pt_le (by omega), List.take_of_length_le (by omega)]
  · rw [if_neg h, pt_gt (by omega), List.take_of_length_le (l := gs.drop (f + n)) (by rw [List.length_drop]; omega)]
theorem pt_len {gs : List Nat} (f n k : Nat) (h8 : gs.length = 8) (hlt : ∀ m ∈ gs, m < 65536) : (ptL gs f n k).length ≤ 90 := by
  have hj : ∀ gs : List Nat, (∀ n ∈ gs, n < 65536) → (textL gs).length ≤ gs.length * 5 := fun gs h => by
    unfold textL
    have := join_len [58] 4 (gs.map hexL) (by
      intro x hx
      obtain ⟨m, hm, rfl⟩ := List.mem_map.1 hx
      exact hexL_len m (h m hm))
    simpa using this
  unfold ptL
  split
  · have := hj (gs.take k) (fun m hm => hlt m (List.mem_of_mem_take hm)); rw [List.length_take] at this; omega
  · have h1 := hj (gs.take f) (fun m hm => hlt m (List.mem_of_mem_take hm))
    have h2 := hj ((gs.drop (f + n)).take (k - (f + n))) (fun m hm => hlt m (List.mem_of_mem_drop (List.mem_of_mem_take hm)))
    rw [List.length_take] at h1
    rw [List.length_take, List.length_drop] at h2
    simp only [List.length_append, List.length_cons, List.length_nil]
    omega
theorem grp_get (a : List UInt8) (k : Nat) (hk : k < (groupsL a).length) : (groupsL a)[k] = grpN a k := by simp [groupsL, grpN]
section
variable {W0 : World} {F : Heap}
theorem Print_spec (a : List UInt8) (ha : a.length = 16) : T Tryz.prog W0 40 #[.agg (u8s a).toArray] F (fun v H' => v = S (printL a) ∧ H' = F) := by
  refine T.intro (args := [_]) Tryz.func40 rfl Tryz.ntmps40 rfl ?_
  have h8 := groupsL_len a
  have hlt := groupsL_lt a
  cases h4 : (a.take 12 == aheadL) with
  | true =>
    match a, ha with
    | [a0, a1, a2, a3, a4, a5, a6, a7, a8, a9, a10, a11, a12, a13, a14, a15], ha =>
      have hp : printL [a0, a1, a2, a3, a4, a5, a6, a7, a8, a9, a10, a11, a12, a13, a14, a15] = itoa (a12.toNat : Int) ++ [46] ++ itoa (a13.toNat : Int) ++ [46] ++ itoa (a14.toNat : Int) ++ [46] ++ itoa (a15.toNat : Int) := by
        rw [printL, if_pos (by simpa using h4)]
        simp [join_two, join_one]
      have hl16 : [a0, a1, a2, a3, a4, a5, a6, a7, a8, a9, a10, a11, a12, a13, a14, a15].length = 16 := rfl
      have b12 := a12.toNat_lt
      have b13 := a13.toNat_lt
      have b14 := a14.toNat_lt
      have b15 := a15.toNat_lt
      have i12 := itoa_len a12.toNat b12
      have i13 := itoa_len a13.toNat b13
      have i14 := itoa_len a14.toNat b14
      have i15 := itoa_len a15.toNat b15
      repeat' first | refine st ?_ | (refine nw ?_; intro _) | refine kn ?_ | (refine sp ?_ ?_ <;> intro _) | fail
      refine GC.drawnH [(0, .read), (1, .read), (2, .read), (5, .read), (6, .read), (7, .read), (11, .read), (12, .read), (13, .read), (17, .read), (18, .read), (19, .read), (3, .eff), (4, .read), (8, .eff), (9, .read), (10, .read), (14, .eff), (15, .read), (16, .read), (20, .eff), (21, .read), (22, .read)] (by kernel_rfl) (by kernel_rfl) rfl ?_
      repeat' first | refine st ?_ | (refine nw ?_; intro _) | refine kn ?_ | (refine sp ?_ ?_ <;> intro _) | fail
      exact GQ.pure1 rfl (.tmp rfl) (by rw [hp])
  | false =>
    have hz2 : ∀ k < 8, grpN a k < 65536 := fun k _ => grpN_lt a k
    obtain ⟨gs, hgs⟩ : ∃ gs, gs = groupsL a := ⟨_, rfl⟩
    rw [← hgs] at h8 hlt
    have hget : ∀ k (h : k < gs.length), gs[k] = grpN a k := fun k h => by subst hgs; exact grp_get a k h
    have hp : printL a = if (rowL gs).1 = 8 then textL gs else textL (gs.take (rowL gs).1) ++ [58, 58] ++ textL (gs.drop ((rowL gs).1 + (rowL gs).2)) := by
      rw [printL, if_neg (by intro e; rw [e] at h4; simp at h4), hgs]
    rw [hp]
    clear hp hgs
    repeat' first | refine st ?_ | (refine nw ?_; intro _) | refine kn ?_ | (refine sp ?_ ?_ <;> intro _) | fail
    rename_i b1
    refine GC.loopE (ι := { k : Nat // k ≤ 8 }) (fun i => [(3, .int .i64 ((rowR gs i.1).1 : Int)), (4, .int .i64 ((rowR gs i.1).2 : Int)), (5, .int .i64 (i.1 : Int))]) [(1, _)] (fun i => (b1, .cells (u8s a).toArray 51 (0, 0)) :: F) (fun i => 8 - i.1) ⟨0, Nat.zero_le _⟩ ⟨rfl, rfl, rfl, rfl, trivial⟩ (fun _ h => h) ?_
    rintro ⟨k, hk⟩
    dsimp only [List.cons_append, List.nil_append] at hk ⊢
    have hrl := rowR_le gs k
    by_cases hk8 : k < 8
    · repeat' first | refine st ?_ | (refine nw ?_; intro _) | refine kn ?_ | (refine sp ?_ ?_ <;> intro _) | fail
      refine GC.loopE (ι := { n : Nat // k + n ≤ 8 ∧ ∀ i (h : i < gs.length), k ≤ i → i < k + n → gs[i] = 0 }) (fun i => [(6, .int .i64 (i.1 : Int))]) [(1, _), (3, _), (4, _), (5, _)] (fun i => (b1, .cells (u8s a).toArray 51 (0, 0)) :: F) (fun i => 8 - i.1) ⟨0, by omega, fun i _ h1 h2 => by omega⟩ ⟨rfl, rfl, rfl, rfl, rfl, trivial⟩ (fun _ h => h) ?_
      rintro ⟨n, hn, hz⟩
      dsimp only [List.cons_append, List.nil_append] at hn hz ⊢
      have done : (∀ h : k + n < gs.length, gs[k + n] ≠ 0) → zlead (gs.drop k) = n := fun hend => zlead_eq gs (k + n) (by omega) hend n k rfl hz
      have hsucc := rowR_succ gs k
      by_cases hkn : k + n < 8
      · by_cases hg0 : grpN a (k + n) = 0
        · repeat' first | refine st ?_ | (refine nw ?_; intro _) | refine kn ?_ | (refine sp ?_ ?_ <;> intro _) | fail
          refine GQ.back ⟨n + 1, by omega, fun i h h1 h2 => ?_⟩ (by simp only; omega) ⟨rfl, rfl, rfl, rfl, rfl, trivial⟩ (fun w hw => hw)
          by_cases hik : i = k + n
          · subst hik; rw [hget _ h]; exact hg0
          · exact hz i h h1 (by omega)
        · have hzl := done (fun h => by rw [hget _ h]; exact hg0)
          unfold stepR at hsucc
          rw [hzl] at hsucc
          by_cases hgt : (rowR gs k).2 < n
          · rw [if_pos hgt] at hsucc
            repeat' first | refine st ?_ | (refine nw ?_; intro _) | refine kn ?_ | (refine sp ?_ ?_ <;> intro _) | fail
            exact GQ.back ⟨k + 1, by omega⟩ (by simp only; omega) ⟨(by first | rfl | (simp only [hsucc]; rfl)), (by first | rfl | (simp only [hsucc]; rfl)), (by first | rfl | (simp only [hsucc]; rfl)), (by first | rfl | (simp only [hsucc]; rfl)), trivial⟩ (fun w hw => hw)
          · rw [if_neg hgt] at hsucc
            repeat' first | refine st ?_ | (refine nw ?_; intro _) | refine kn ?_ | (refine sp ?_ ?_ <;> intro _) | fail
            exact GQ.back ⟨k + 1, by omega⟩ (by simp only; omega) ⟨(by first | rfl | (simp only [hsucc]; rfl)), (by first | rfl | (simp only [hsucc]; rfl)), (by first | rfl | (simp only [hsucc]; rfl)), (by first | rfl | (simp only [hsucc]; rfl)), trivial⟩ (fun w hw => hw)
      · have hzl := done (fun h => by omega)
        unfold stepR at hsucc
        rw [hzl] at hsucc
        by_cases hgt : (rowR gs k).2 < n
        · rw [if_pos hgt] at hsucc
          repeat' first | refine st ?_ | (refine nw ?_; intro _) | refine kn ?_ | (refine sp ?_ ?_ <;> intro _) | fail
          exact GQ.back ⟨k + 1, by omega⟩ (by simp only; omega) ⟨(by first | rfl | (simp only [hsucc]; rfl)), (by first | rfl | (simp only [hsucc]; rfl)), (by first | rfl | (simp only [hsucc]; rfl)), (by first | rfl | (simp only [hsucc]; rfl)), trivial⟩ (fun w hw => hw)
        · rw [if_neg hgt] at hsucc
          repeat' first | refine st ?_ | (refine nw ?_; intro _) | refine kn ?_ | (refine sp ?_ ?_ <;> intro _) | fail
          exact GQ.back ⟨k + 1, by omega⟩ (by simp only; omega) ⟨(by first | rfl | (simp only [hsucc]; rfl)), (by first | rfl | (simp only [hsucc]; rfl)), (by first | rfl | (simp only [hsucc]; rfl)), (by first | rfl | (simp only [hsucc]; rfl)), trivial⟩ (fun w hw => hw)
    obtain rfl : k = 8 := by omega
    have hrow := row_same gs
    rw [h8] at hrow
    have hb := rowL_bound gs h8
    obtain ⟨f, n, hf, hn, hfn, hfn2⟩ : ∃ f n : Nat, (if (rowR gs 8).2 < 2 then 8 else (rowR gs 8).1) = f ∧ (if (rowR gs 8).2 < 2 then 0 else (rowR gs 8).2) = n ∧ (f = 8 ∧ n = 0 ∨ f < 8 ∧ 2 ≤ n ∧ f + n ≤ 8) ∧ (if (rowL gs).1 = 8 then textL gs else textL (gs.take (rowL gs).1) ++ [58, 58] ++ textL (gs.drop ((rowL gs).1 + (rowL gs).2))) = ptL gs f n 8 := by
      refine ⟨_, _, rfl, rfl, ?_, ?_⟩
      · rcases hrow with ⟨h1, h2⟩ | ⟨h1, h2⟩
        · rw [if_pos h1, if_pos h1]; exact .inl ⟨rfl, rfl⟩
        · rw [if_neg (by omega), if_neg (by omega), ← h2]
          rw [← h2] at h1
          rcases hb with hb | hb
          · have := rowL_is gs
            rcases this with h3 | h3
            · rw [h3] at h1; simp at h1
            · have hd : gs.drop (rowL gs).1 = [] := List.drop_eq_nil_of_le (by omega)
              rw [hd] at h3; simp [zlead] at h3; omega
          · exact .inr ⟨hb.1, h1, hb.2⟩
      · rcases hrow with ⟨h1, h2⟩ | ⟨h1, h2⟩
        · rw [if_pos h1, if_pos h1, pt_end h8 (.inl rfl), h2]; rfl
        · rw [if_neg (c := (rowR gs 8).2 < 2) (by omega), if_neg (c := (rowR gs 8).2 < 2) (by omega), ← h2, pt_end h8 hb]
    rw [hfn2]
    clear hfn2 hrow hb hrl hk hk8
    have hmost : (rowR gs 8).2 ≤ 8 := by have := (rowR_le gs 8).2; omega
    by_cases hm : (rowR gs 8).2 < 2
    all_goals first | rw [if_pos hm] at hf hn | rw [if_neg hm] at hf hn
    all_goals
      repeat' first | refine st ?_ | (refine nw ?_; intro _) | refine kn ?_ | (refine sp ?_ ?_ <;> intro _) | fail
    all_goals
      refine GC.loopE (ι := { k : Nat // k ≤ 8 }) (fun i => [(3, .int .i64 (f : Int)), (4, .int .i64 (n : Int)), (7, S (ptL gs f n i.1)), (8, .int .i64 (i.1 : Int))]) [(1, _)] (fun i => (b1, .cells (u8s a).toArray 51 (0, 0)) :: F) (fun i => 8 - i.1) ⟨0, Nat.zero_le _⟩ ⟨(by first | rfl | (subst hf hn; rfl)), (by first | rfl | (subst hf hn; rfl)), (by first | rfl | (subst hf hn; rfl)), (by first | rfl | (subst hf hn; rfl)), (by first | rfl | (subst hf hn; rfl)), trivial⟩ (fun _ h => h) ?_
      clear hf hn hm
      rintro ⟨k, hk⟩
      dsimp only [List.cons_append, List.nil_append] at hk ⊢
      have hpl := pt_len f n k h8 hlt
      by_cases hk8 : k < 8
      · have hkg : k < gs.length := by omega
        have hxl := hexL_len (grpN a k) (grpN_lt a k)
        have hg := hget k hkg
        have hgl := grpN_lt a k
        by_cases c1 : k < f
        · have hs := pt_low (n := n) hkg c1
          rw [hg] at hs
          by_cases c2 : k = 0
          · rw [if_pos c2] at hs
            have hs2 : ptL gs f n k ++ hexL (grpN a k) = ptL gs f n (k + 1) := by
              rw [hs, pt_le (by omega), c2]; simp [textL, join_nil]
            repeat' first | refine st ?_ | (refine nw ?_; intro _) | refine kn ?_ | (refine sp ?_ ?_ <;> intro _) | fail
            exact GQ.back ⟨k + 1, by omega⟩ (by simp only; omega) ⟨(by first | rfl | (simp only [← hs2]; rfl)), (by first | rfl | (simp only [← hs2]; rfl)), (by first | rfl | (simp only [← hs2]; rfl)), (by first | rfl | (simp only [← hs2]; rfl)), (by first | rfl | (simp only [← hs2]; rfl)), trivial⟩ (fun w hw => hw)
          · rw [if_neg c2] at hs
            repeat' first | refine st ?_ | (refine nw ?_; intro _) | refine kn ?_ | (refine sp ?_ ?_ <;> intro _) | fail
            exact GQ.back ⟨k + 1, by omega⟩ (by simp only; omega) ⟨(by first | rfl | (simp only [hs]; rfl)), (by first | rfl | (simp only [hs]; rfl)), (by first | rfl | (simp only [hs]; rfl)), (by first | rfl | (simp only [hs]; rfl)), (by first | rfl | (simp only [hs]; rfl)), trivial⟩ (fun w hw => hw)
        by_cases c3 : k = f
        · subst c3
          have hs := pt_at (gs := gs) (k := k) (n := n) (by omega)
          repeat' first | refine st ?_ | (refine nw ?_; intro _) | refine kn ?_ | (refine sp ?_ ?_ <;> intro _) | fail
          exact GQ.back ⟨k + 1, by omega⟩ (by simp only; omega) ⟨(by first | rfl | (simp only [hs]; rfl)), (by first | rfl | (simp only [hs]; rfl)), (by first | rfl | (simp only [hs]; rfl)), (by first | rfl | (simp only [hs]; rfl)), (by first | rfl | (simp only [hs]; rfl)), trivial⟩ (fun w hw => hw)
        by_cases c4 : k < f + n
        · have hs := pt_mid (gs := gs) (show f < k by omega) c4
          repeat' first | refine st ?_ | (refine nw ?_; intro _) | refine kn ?_ | (refine sp ?_ ?_ <;> intro _) | fail
          exact GQ.back ⟨k + 1, by omega⟩ (by simp only; omega) ⟨(by first | rfl | (simp only [hs]; rfl)), (by first | rfl | (simp only [hs]; rfl)), (by first | rfl | (simp only [hs]; rfl)), (by first | rfl | (simp only [hs]; rfl)), (by first | rfl | (simp only [hs]; rfl)), trivial⟩ (fun w hw => hw)
        · have hs := pt_high (n := n) hkg (show f < k by omega) (by omega)
          rw [hg] at hs
          by_cases c2 : k = f + n
          · rw [if_pos c2] at hs
            repeat' first | refine st ?_ | (refine nw ?_; intro _) | refine kn ?_ | (refine sp ?_ ?_ <;> intro _) | fail
            exact GQ.back ⟨k + 1, by omega⟩ (by simp only; omega) ⟨(by first | rfl | (simp only [hs]; rfl)), (by first | rfl | (simp only [hs]; rfl)), (by first | rfl | (simp only [hs]; rfl)), (by first | rfl | (simp only [hs]; rfl)), (by first | rfl | (simp only [hs]; rfl)), trivial⟩ (fun w hw => hw)
          · rw [if_neg c2] at hs
            repeat' first | refine st ?_ | (refine nw ?_; intro _) | refine kn ?_ | (refine sp ?_ ?_ <;> intro _) | fail
            exact GQ.back ⟨k + 1, by omega⟩ (by simp only; omega) ⟨(by first | rfl | (simp only [hs]; rfl)), (by first | rfl | (simp only [hs]; rfl)), (by first | rfl | (simp only [hs]; rfl)), (by first | rfl | (simp only [hs]; rfl)), (by first | rfl | (simp only [hs]; rfl)), trivial⟩ (fun w hw => hw)
      · obtain rfl : k = 8 := by omega
        repeat' first | refine st ?_ | (refine nw ?_; intro _) | refine kn ?_ | (refine sp ?_ ?_ <;> intro _) | fail
        exact GQ.pure1 rfl (.tmp rfl) rfl
instance {a : List UInt8} : PureF Tryz.prog W0 40 [.agg (u8s a).toArray] (a.length = 16) (S (printL a)) := ⟨fun h _ => Print_spec a h⟩
end
end Go.Rfn

namespace Go.Rfn
open Go.Own Go.Proofs Go.RowKit Go.Lib Go.Asc Go.Adr Go.Nam
attribute [local irreducible] GC GQ G Rd Eff T
set_option maxRecDepth 20000
set_option maxHeartbeats 4000000
theorem strange_iff (c : Nat) : strangeP c = false ↔ ((97 ≤ c ∧ c ≤ 122) ∨ (65 ≤ c ∧ c ≤ 90) ∨ c = 45 ∨ c = 95 ∨ (48 ≤ c ∧ c ≤ 57)) := by
  simp only [strangeP, fineC, otherP, Bool.and_eq_false_iff, Bool.not_eq_false', Bool.or_eq_true, Bool.or_eq_false_iff, decide_eq_true_eq, decide_eq_false_iff_not]
  omega
theorem last_iff {l : List UInt8} (h : 0 < l.length) (c : UInt8) : l.getLast? = some c ↔ (l[l.length - 1]).toNat = c.toNat := by
  rw [List.getLast?_eq_getElem?, List.getElem?_eq_getElem (by omega)]
  simp only [Option.some.injEq]
  exact ⟨fun h => by rw [h], fun h => UInt8.toNat_inj.1 h⟩
theorem head_iff {l : List UInt8} (h : 0 < l.length) (c : UInt8) : l.head? = some c ↔ (l[0]).toNat = c.toNat := by
  rw [head_get, List.getElem?_eq_getElem h]
  simp only [Option.some.injEq]
  exact ⟨fun h => by rw [h], fun h => UInt8.toNat_inj.1 h⟩
section
variable {W0 : World} {F : Heap}
theorem label_spec (l : List UInt8) (hl : l.length ≤ 140737488351232) : T Tryz.prog W0 43 #[S l] F (fun v H' => v = .bool (!badL l) ∧ H' = F) := by
  refine T.intro (args := [_]) Tryz.func43 rfl Tryz.ntmps43 rfl ?_
  repeat' first | refine st ?_ | (refine nw ?_; intro _) | refine kn ?_ | (refine sp ?_ ?_ <;> intro _) | fail
  refine GC.loopE (ι := { k : Nat // k ≤ l.length ∧ ∀ b ∈ l.take k, strangeP b.toNat = false }) (fun i => [(3, .int .i64 (i.1 : Int))]) [(0, _)] (fun i => F) (fun i => l.length - i.1) ⟨0, Nat.zero_le _, by simp⟩ ⟨rfl, rfl, trivial⟩ (fun _ h => h) ?_
  rintro ⟨k, hk, hf⟩
  dsimp only [List.cons_append, List.nil_append] at hk hf ⊢
  by_cases hlt : k < l.length
  · cases hst : strangeP (l[k]).toNat with
    | false =>
      have hs := (strange_iff _).1 hst
      have hnext : ∀ b ∈ l.take (k + 1), strangeP b.toNat = false := by
        rw [List.take_succ_eq_append_getElem hlt]
        intro b hb
        rcases List.mem_append.1 hb with hb | hb
        · exact hf b hb
        · simp only [List.mem_singleton] at hb; subst hb; exact hst
      repeat' first | refine st ?_ | (refine nw ?_; intro _) | refine kn ?_ | (refine sp ?_ ?_ <;> intro _) | fail
      all_goals first
        | (exfalso; omega)
        | exact GQ.back ⟨k + 1, by omega, hnext⟩ (by simp only; omega) ⟨rfl, rfl, trivial⟩ (fun w hw => hw)
    | true =>
      have hs : ¬ ((97 ≤ (l[k]).toNat ∧ (l[k]).toNat ≤ 122) ∨ (65 ≤ (l[k]).toNat ∧ (l[k]).toNat ≤ 90) ∨ (l[k]).toNat = 45 ∨ (l[k]).toNat = 95 ∨ (48 ≤ (l[k]).toNat ∧ (l[k]).toNat ≤ 57)) := fun h => by
        rw [(strange_iff _).2 h] at hst; cases hst
      have hb : badL l = true := by
        cases hb : badL l with
        | true => rfl
        | false => have := (badL_ne hb).2.2 l[k] (by simp); rw [hst] at this; cases this
      rw [hb]
      repeat' first | refine st ?_ | (refine nw ?_; intro _) | refine kn ?_ | (refine sp ?_ ?_ <;> intro _) | fail
      all_goals first
        | (exfalso; omega)
        | exact GQ.pure1 rfl (.tmp rfl) rfl
  · obtain rfl : k = l.length := by omega
    rw [List.take_length] at hf
    have hany : l.any (fun b => strangeP b.toNat) = false := by
      rw [List.any_eq_false]; intro b hb; rw [hf b hb]; simp
    by_cases h0 : l = []
    · subst h0
      have hb : badL [] = true := by decide
      rw [hb]
      repeat' first | refine st ?_ | (refine nw ?_; intro _) | refine kn ?_ | (refine sp ?_ ?_ <;> intro _) | fail
      exact GQ.pure1 rfl (.tmp rfl) rfl
    have hpos := List.length_pos_iff.2 h0
    have hL : LeN 1 l.length := ⟨hpos⟩
    have h1 := head_iff hpos 45
    have h2 := last_iff hpos 45
    have e45 : (45 : UInt8).toNat = 45 := rfl
    rw [e45] at h1 h2
    have hb : badL l = (decide (63 < l.length) || decide ((l[0]).toNat = 45) || decide ((l[l.length - 1]).toNat = 45)) := by
      unfold badL
      rw [hany]
      simp only [h0, decide_false, Bool.false_or, Bool.or_false, h1, h2]
    rw [hb]
    by_cases c1 : 63 < l.length
    · rw [decide_eq_true c1]
      repeat' first | refine st ?_ | (refine nw ?_; intro _) | refine kn ?_ | (refine sp ?_ ?_ <;> intro _) | fail
      exact GQ.pure1 rfl (.tmp rfl) rfl
    · rw [decide_eq_false c1]
      by_cases c2 : (l[0]).toNat = 45
      · rw [decide_eq_true c2]
        repeat' first | refine st ?_ | (refine nw ?_; intro _) | refine kn ?_ | (refine sp ?_ ?_ <;> intro _) | fail
        exact GQ.pure1 rfl (.tmp rfl) rfl
      · rw [decide_eq_false c2]
        by_cases c3 : (l[l.length - 1]).toNat = 45
        · rw [decide_eq_true c3]
          repeat' first | refine st ?_ | (refine nw ?_; intro _) | refine kn ?_ | (refine sp ?_ ?_ <;> intro _) | fail
          exact GQ.pure1 rfl (.tmp rfl) rfl
        · rw [decide_eq_false c3]
          repeat' first | refine st ?_ | (refine nw ?_; intro _) | refine kn ?_ | (refine sp ?_ ?_ <;> intro _) | fail
          exact GQ.pure1 rfl (.tmp rfl) rfl
instance {l : List UInt8} : PureF Tryz.prog W0 43 [S l] (l.length ≤ 140737488351232) (.bool (!badL l)) := ⟨fun h _ => label_spec l h⟩
theorem digits_spec (l : List UInt8) (hl : l.length ≤ 140737488351232) : T Tryz.prog W0 44 #[S l] F (fun v H' => v = .bool (!l.any (fun b => otherP b.toNat)) ∧ H' = F) := by
  refine T.intro (args := [_]) Tryz.func44 rfl Tryz.ntmps44 rfl ?_
  repeat' first | refine st ?_ | (refine nw ?_; intro _) | refine kn ?_ | (refine sp ?_ ?_ <;> intro _) | fail
  refine GC.loopE (ι := { k : Nat // k ≤ l.length ∧ ∀ b ∈ l.take k, otherP b.toNat = false }) (fun i => [(3, .int .i64 (i.1 : Int))]) [(0, _)] (fun i => F) (fun i => l.length - i.1) ⟨0, Nat.zero_le _, by simp⟩ ⟨rfl, rfl, trivial⟩ (fun _ h => h) ?_
  rintro ⟨k, hk, hf⟩
  dsimp only [List.cons_append, List.nil_append] at hk hf ⊢
  by_cases hlt : k < l.length
  · have hoi : otherP (l[k]).toNat = true ↔ ((l[k]).toNat < 48 ∨ 57 < (l[k]).toNat) := by simp [otherP]
    cases hst : otherP (l[k]).toNat with
    | false =>
      have hs : ¬ ((l[k]).toNat < 48 ∨ 57 < (l[k]).toNat) := fun h => by rw [hoi.2 h] at hst; cases hst
      have hnext : ∀ b ∈ l.take (k + 1), otherP b.toNat = false := by
        rw [List.take_succ_eq_append_getElem hlt]
        intro b hb
        rcases List.mem_append.1 hb with hb | hb
        · exact hf b hb
        · simp only [List.mem_singleton] at hb; subst hb; exact hst
      repeat' first | refine st ?_ | (refine nw ?_; intro _) | refine kn ?_ | (refine sp ?_ ?_ <;> intro _) | fail
      all_goals first
        | (exfalso; omega)
        | exact GQ.back ⟨k + 1, by omega, hnext⟩ (by simp only; omega) ⟨rfl, rfl, trivial⟩ (fun w hw => hw)
    | true =>
      have hs := hoi.1 hst
      have hb : l.any (fun b => otherP b.toNat) = true := List.any_eq_true.2 ⟨l[k], by simp, hst⟩
      rw [hb]
      repeat' first | refine st ?_ | (refine nw ?_; intro _) | refine kn ?_ | (refine sp ?_ ?_ <;> intro _) | fail
      all_goals first
        | (exfalso; omega)
        | exact GQ.pure1 rfl (.tmp rfl) rfl
  · obtain rfl : k = l.length := by omega
    rw [List.take_length] at hf
    have hany : l.any (fun b => otherP b.toNat) = false := by
      rw [List.any_eq_false]; intro b hb; rw [hf b hb]; simp
    rw [hany]
    repeat' first | refine st ?_ | (refine nw ?_; intro _) | refine kn ?_ | (refine sp ?_ ?_ <;> intro _) | fail
    exact GQ.pure1 rfl (.tmp rfl) rfl
instance {l : List UInt8} : PureF Tryz.prog W0 44 [S l] (l.length ≤ 140737488351232) (.bool (!l.any (fun b => otherP b.toNat))) := ⟨fun h _ => digits_spec l h⟩
end
end Go.Rfn

namespace Go.Rfn
open Go.Own Go.Proofs Go.RowKit Go.Lib Go.Asc Go.Adr Go.Nam
attribute [local irreducible] GC GQ G Rd Eff T
set_option maxRecDepth 20000
set_option maxHeartbeats 4000000
theorem drop_last_take {l : List UInt8} : l.take (l.length - 1) = l.dropLast := by rw [List.dropLast_eq_take]
section
variable {W0 : World} {F : Heap}
theorem rNormal_spec (s : List UInt8) (hl : s.length ≤ 8796093022207) : T Tryz.prog W0 12 #[S s] F (fun v H' => v = normalV s ∧ H' = F) := by
  refine T.intro (args := [_]) Tryz.func12 rfl Tryz.ntmps12 rfl ?_
  cases hp : parseL s with
  | some a =>
    have ha := parseL_len hp
    have hps : (parseL s).isSome = true := by rw [hp]; rfl
    have hga : (parseL s).getD zero16 = a := by rw [hp]; rfl
    have hnv : normalV s = .tuple #[S (printL a), .int .i64 0] := by simp only [normalV, normalL, hp]; rfl
    rw [hnv]
    have hgl : ((parseL s).getD zero16).length = 16 := by rw [hga]; exact ha
    repeat' first | refine st ?_ | (refine nw ?_; intro _) | refine kn ?_ | (refine sp ?_ ?_ <;> intro _) | fail
    exact GQ.pure2 rfl (.tmp rfl) (.tmp rfl) (by rw [hga])
  | none =>
    have hps : (parseL s).isSome = false := by rw [hp]; rfl
    have hll : (s.map lowB).length = s.length := List.length_map _
    have hn := normal_eq hp
    have hnv : normalV s = .tuple #[S (normalL s).1, .int .i64 ((normalL s).2 : Int)] := rfl
    rw [hnv, hn]
    clear hn hnv
    have hz : (trimL 46 (s.map lowB)).length ≤ s.length := by have := trimL_le 46 (s.map lowB); omega
    rcases Nat.eq_zero_or_pos (s.map lowB).length with hy | hy
    rotate_left
    have hL : LeN 1 (s.map lowB).length := ⟨hy⟩
    have hlast := last_iff hy 46
    have e46 : (46 : UInt8).toNat = 46 := rfl
    rw [e46] at hlast
    by_cases h46 : ((s.map lowB)[(s.map lowB).length - 1]).toNat = 46
    · have ht : trimL 46 (s.map lowB) = (s.map lowB).take ((s.map lowB).length - 1) := by
        rw [trimL, if_pos (hlast.2 h46), drop_last_take]
      rw [ht] at hz ⊢
      clear ht
      repeat' first | refine st ?_ | (refine nw ?_; intro _) | refine kn ?_ | fail
      refine GC.weak (e' := [(6, S ((s.map lowB).take ((s.map lowB).length - 1))), (37, .bool (decide (((s.map lowB).take ((s.map lowB).length - 1)) = [])))]) ?_ ⟨rfl, rfl, trivial⟩ (fun _ h => h)
      clear hlast h46 hL hps hp
      generalize (s.map lowB).take ((s.map lowB).length - 1) = z at hz ⊢
      by_cases c0 : z = []
      · rw [if_pos c0]
        repeat' first | refine st ?_ | (refine nw ?_; intro _) | refine kn ?_ | (refine sp ?_ ?_ <;> intro _) | fail
        exact GQ.pure2 rfl (.tmp rfl) (.tmp rfl) rfl
      rw [if_neg c0]
      by_cases c1 : 253 < z.length
      · rw [if_pos c1]
        repeat' first | refine st ?_ | (refine nw ?_; intro _) | refine kn ?_ | (refine sp ?_ ?_ <;> intro _) | fail
        exact GQ.pure2 rfl (.tmp rfl) (.tmp rfl) rfl
      rw [if_neg c1]
      have hple : ∀ x ∈ splitB 46 z, x.length ≤ z.length := splitB_le 46 z
      have hne := splitB_ne 46 z
      have hpl : (splitB 46 z).length ≤ z.length + 1 := by rw [splitB_length]; have := List.count_le_length (a := (46 : UInt8)) (l := z); omega
      repeat' first | refine st ?_ | (refine nw ?_; intro _) | refine kn ?_ | (refine sp ?_ ?_ <;> intro _) | fail
      refine G.ef rfl rfl rfl (Eff.callF rfl ((Cut_spec z 46 (by omega)).mono ?_))
      rintro v H' ⟨B, hb, rfl⟩
      generalize Asc.splitB 46 z = ps at hb hple hne hpl ⊢
      rcases Buf.parts hb with ⟨_, h0, _, _⟩ | ⟨bk, cap, extra, rfl, rfl, hcap, hx, hmax⟩
      · exact absurd (List.eq_nil_of_length_eq_zero h0) hne
      have hpos := List.length_pos_iff.2 hne
      have hLp : LeN 1 ps.length := ⟨hpos⟩
      have hlastp : ps.getLast?.getD [] = ps[ps.length - 1] := by rw [List.getLast?_eq_getElem?, List.getElem?_eq_getElem (by omega)]; rfl
      rw [hlastp]
      repeat' first | refine st ?_ | (refine nw ?_; intro _) | refine kn ?_ | (refine sp ?_ ?_ <;> intro _) | fail
      refine GC.loopE (ι := { k : Nat // k ≤ ps.length ∧ (ps.take k).any badL = false }) (fun i => [(8, .int .i64 (i.1 : Int))]) [(6, _), (7, _)] (fun i => (bk, .cells (strs ps ++ extra).toArray 9 (0, 0)) :: (_, .cells (u8s ((parseL s).getD zero16)).toArray 51 (0, 0)) :: F) (fun i => ps.length - i.1) ⟨0, Nat.zero_le _, by simp⟩ ⟨rfl, rfl, rfl, trivial⟩ (fun _ h => h) ?_
      rintro ⟨k, hk, hany⟩
      dsimp only [List.cons_append, List.nil_append] at hk hany ⊢
      by_cases hlt : k < ps.length
      · have hpk := hple ps[k] (by simp)
        cases hbd : badL ps[k] with
        | true =>
          have hall : ps.any badL = true := List.any_eq_true.2 ⟨ps[k], by simp, hbd⟩
          rw [if_pos (.inl hall)]
          repeat' first | refine st ?_ | (refine nw ?_; intro _) | refine kn ?_ | (refine sp ?_ ?_ <;> intro _) | fail
          exact GQ.pure2 rfl (.tmp rfl) (.tmp rfl) rfl
        | false =>
          have hnext : (ps.take (k + 1)).any badL = false := by rw [List.take_succ_eq_append_getElem hlt, List.any_append, hany]; simp [hbd]
          repeat' first | refine st ?_ | (refine nw ?_; intro _) | refine kn ?_ | (refine sp ?_ ?_ <;> intro _) | fail
          exact GQ.back ⟨k + 1, by omega, hnext⟩ (by simp only; omega) ⟨rfl, rfl, rfl, trivial⟩ (fun w hw => hw)
      · obtain rfl : k = ps.length := by omega
        rw [List.take_length] at hany
        have hpk := hple ps[ps.length - 1] (by simp)
        cases hlo : (ps[ps.length - 1]).any (fun b => otherP b.toNat) with
        | false =>
          rw [if_pos (.inr rfl)]
          repeat' first | refine st ?_ | (refine nw ?_; intro _) | refine kn ?_ | (refine sp ?_ ?_ <;> intro _) | fail
          exact GQ.pure2 rfl (.tmp rfl) (.tmp rfl) rfl
        | true =>
          rw [if_neg (by rw [hany]; simp)]
          repeat' first | refine st ?_ | (refine nw ?_; intro _) | refine kn ?_ | (refine sp ?_ ?_ <;> intro _) | fail
          exact GQ.pure2 rfl (.tmp rfl) (.tmp rfl) rfl
    · have ht : trimL 46 (s.map lowB) = s.map lowB := by rw [trimL, if_neg (fun e => h46 (hlast.1 e))]
      rw [ht] at hz ⊢
      clear ht
      repeat' first | refine st ?_ | (refine nw ?_; intro _) | refine kn ?_ | fail
      refine GC.weak (e' := [(6, S (s.map lowB)), (37, .bool (decide ((s.map lowB) = [])))]) ?_ ⟨rfl, rfl, trivial⟩ (fun _ h => h)
      clear hlast h46 hL hps hp hll hy
      generalize s.map lowB = z at hz ⊢
      by_cases c0 : z = []
      · rw [if_pos c0]
        repeat' first | refine st ?_ | (refine nw ?_; intro _) | refine kn ?_ | (refine sp ?_ ?_ <;> intro _) | fail
        exact GQ.pure2 rfl (.tmp rfl) (.tmp rfl) rfl
      rw [if_neg c0]
      by_cases c1 : 253 < z.length
      · rw [if_pos c1]
        repeat' first | refine st ?_ | (refine nw ?_; intro _) | refine kn ?_ | (refine sp ?_ ?_ <;> intro _) | fail
        exact GQ.pure2 rfl (.tmp rfl) (.tmp rfl) rfl
      rw [if_neg c1]
      have hple : ∀ x ∈ splitB 46 z, x.length ≤ z.length := splitB_le 46 z
      have hne := splitB_ne 46 z
      have hpl : (splitB 46 z).length ≤ z.length + 1 := by rw [splitB_length]; have := List.count_le_length (a := (46 : UInt8)) (l := z); omega
      repeat' first | refine st ?_ | (refine nw ?_; intro _) | refine kn ?_ | (refine sp ?_ ?_ <;> intro _) | fail
      refine G.ef rfl rfl rfl (Eff.callF rfl ((Cut_spec z 46 (by omega)).mono ?_))
      rintro v H' ⟨B, hb, rfl⟩
      generalize Asc.splitB 46 z = ps at hb hple hne hpl ⊢
      rcases Buf.parts hb with ⟨_, h0, _, _⟩ | ⟨bk, cap, extra, rfl, rfl, hcap, hx, hmax⟩
      · exact absurd (List.eq_nil_of_length_eq_zero h0) hne
      have hpos := List.length_pos_iff.2 hne
      have hLp : LeN 1 ps.length := ⟨hpos⟩
      have hlastp : ps.getLast?.getD [] = ps[ps.length - 1] := by rw [List.getLast?_eq_getElem?, List.getElem?_eq_getElem (by omega)]; rfl
      rw [hlastp]
      repeat' first | refine st ?_ | (refine nw ?_; intro _) | refine kn ?_ | (refine sp ?_ ?_ <;> intro _) | fail
      refine GC.loopE (ι := { k : Nat // k ≤ ps.length ∧ (ps.take k).any badL = false }) (fun i => [(8, .int .i64 (i.1 : Int))]) [(6, _), (7, _)] (fun i => (bk, .cells (strs ps ++ extra).toArray 9 (0, 0)) :: (_, .cells (u8s ((parseL s).getD zero16)).toArray 51 (0, 0)) :: F) (fun i => ps.length - i.1) ⟨0, Nat.zero_le _, by simp⟩ ⟨rfl, rfl, rfl, trivial⟩ (fun _ h => h) ?_
      rintro ⟨k, hk, hany⟩
      dsimp only [List.cons_append, List.nil_append] at hk hany ⊢
      by_cases hlt : k < ps.length
      · have hpk := hple ps[k] (by simp)
        cases hbd : badL ps[k] with
        | true =>
          have hall : ps.any badL = true := List.any_eq_true.2 ⟨ps[k], by simp, hbd⟩
          rw [if_pos (.inl hall)]
          repeat' first | refine st ?_ | (refine nw ?_; intro _) | refine kn ?_ | (refine sp ?_ ?_ <;> intro _) | fail
          exact GQ.pure2 rfl (.tmp rfl) (.tmp rfl) rfl
        | false =>
          have hnext : (ps.take (k + 1)).any badL = false := by rw [List.take_succ_eq_append_getElem hlt, List.any_append, hany]; simp [hbd]
          repeat' first | refine st ?_ | (refine nw ?_; intro _) | refine kn ?_ | (refine sp ?_ ?_ <;> intro _) | fail
          exact GQ.back ⟨k + 1, by omega, hnext⟩ (by simp only; omega) ⟨rfl, rfl, rfl, trivial⟩ (fun w hw => hw)
      · obtain rfl : k = ps.length := by omega
        rw [List.take_length] at hany
        have hpk := hple ps[ps.length - 1] (by simp)
        cases hlo : (ps[ps.length - 1]).any (fun b => otherP b.toNat) with
        | false =>
          rw [if_pos (.inr rfl)]
          repeat' first | refine st ?_ | (refine nw ?_; intro _) | refine kn ?_ | (refine sp ?_ ?_ <;> intro _) | fail
          exact GQ.pure2 rfl (.tmp rfl) (.tmp rfl) rfl
        | true =>
          rw [if_neg (by rw [hany]; simp)]
          repeat' first | refine st ?_ | (refine nw ?_; intro _) | refine kn ?_ | (refine sp ?_ ?_ <;> intro _) | fail
          exact GQ.pure2 rfl (.tmp rfl) (.tmp rfl) rfl
    · have ht : trimL 46 (s.map lowB) = s.map lowB := by
        have : s.map lowB = [] := List.eq_nil_of_length_eq_zero hy
        rw [this]; rfl
      rw [ht] at hz ⊢
      clear ht
      repeat' first | refine st ?_ | (refine nw ?_; intro _) | refine kn ?_ | fail
      refine GC.weak (e' := [(6, S (s.map lowB)), (37, .bool (decide ((s.map lowB) = [])))]) ?_ ⟨rfl, rfl, trivial⟩ (fun _ h => h)
      clear hps hp hll hy
      generalize s.map lowB = z at hz ⊢
      by_cases c0 : z = []
      · rw [if_pos c0]
        repeat' first | refine st ?_ | (refine nw ?_; intro _) | refine kn ?_ | (refine sp ?_ ?_ <;> intro _) | fail
        exact GQ.pure2 rfl (.tmp rfl) (.tmp rfl) rfl
      rw [if_neg c0]
      by_cases c1 : 253 < z.length
      · rw [if_pos c1]
        repeat' first | refine st ?_ | (refine nw ?_; intro _) | refine kn ?_ | (refine sp ?_ ?_ <;> intro _) | fail
        exact GQ.pure2 rfl (.tmp rfl) (.tmp rfl) rfl
      rw [if_neg c1]
      have hple : ∀ x ∈ splitB 46 z, x.length ≤ z.length := splitB_le 46 z
      have hne := splitB_ne 46 z
      have hpl : (splitB 46 z).length ≤ z.length + 1 := by rw [splitB_length]; have := List.count_le_length (a := (46 : UInt8)) (l := z); omega
      repeat' first | refine st ?_ | (refine nw ?_; intro _) | refine kn ?_ | (refine sp ?_ ?_ <;> intro _) | fail
      refine G.ef rfl rfl rfl (Eff.callF rfl ((Cut_spec z 46 (by omega)).mono ?_))
      rintro v H' ⟨B, hb, rfl⟩
      generalize Asc.splitB 46 z = ps at hb hple hne hpl ⊢
      rcases Buf.parts hb with ⟨_, h0, _, _⟩ | ⟨bk, cap, extra, rfl, rfl, hcap, hx, hmax⟩
      · exact absurd (List.eq_nil_of_length_eq_zero h0) hne
      have hpos := List.length_pos_iff.2 hne
      have hLp : LeN 1 ps.length := ⟨hpos⟩
      have hlastp : ps.getLast?.getD [] = ps[ps.length - 1] := by rw [List.getLast?_eq_getElem?, List.getElem?_eq_getElem (by omega)]; rfl
      rw [hlastp]
      repeat' first | refine st ?_ | (refine nw ?_; intro _) | refine kn ?_ | (refine sp ?_ ?_ <;> intro _) | fail
      refine GC.loopE (ι := { k : Nat // k ≤ ps.length ∧ (ps.take k).any badL = false }) (fun i => [(8, .int .i64 (i.1 : Int))]) [(6, _), (7, _)] (fun i => (bk, .cells (strs ps ++ extra).toArray 9 (0, 0)) :: (_, .cells (u8s ((parseL s).getD zero16)).toArray 51 (0, 0)) :: F) (fun i => ps.length - i.1) ⟨0, Nat.zero_le _, by simp⟩ ⟨rfl, rfl, rfl, trivial⟩ (fun _ h => h) ?_
      rintro ⟨k, hk, hany⟩
      dsimp only [List.cons_append, List.nil_append] at hk hany ⊢
      by_cases hlt : k < ps.length
      · have hpk := hple ps[k] (by simp)
        cases hbd : badL ps[k] with
        | true =>
          have hall : ps.any badL = true := List.any_eq_true.2 ⟨ps[k], by simp, hbd⟩
          rw [if_pos (.inl hall)]
          repeat' first | refine st ?_ | (refine nw ?_; intro _) | refine kn ?_ | (refine sp ?_ ?_ <;> intro _) | fail
          exact GQ.pure2 rfl (.tmp rfl) (.tmp rfl) rfl
        | false =>
          have hnext : (ps.take (k + 1)).any badL = false := by rw [List.take_succ_eq_append_getElem hlt, List.any_append, hany]; simp [hbd]
          repeat' first | refine st ?_ | (refine nw ?_; intro _) | refine kn ?_ | (refine sp ?_ ?_ <;> intro _) | fail
          exact GQ.back ⟨k + 1, by omega, hnext⟩ (by simp only; omega) ⟨rfl, rfl, rfl, trivial⟩ (fun w hw => hw)
      · obtain rfl : k = ps.length := by omega
        rw [List.take_length] at hany
        have hpk := hple ps[ps.length - 1] (by simp)
        cases hlo : (ps[ps.length - 1]).any (fun b => otherP b.toNat) with
        | false =>
          rw [if_pos (.inr rfl)]
          repeat' first | refine st ?_ | (refine nw ?_; intro _) | refine kn ?_ | (refine sp ?_ ?_ <;> intro _) | fail
          exact GQ.pure2 rfl (.tmp rfl) (.tmp rfl) rfl
        | true =>
          rw [if_neg (by rw [hany]; simp)]
          repeat' first | refine st ?_ | (refine nw ?_; intro _) | refine kn ?_ | (refine sp ?_ ?_ <;> intro _) | fail
          exact GQ.pure2 rfl (.tmp rfl) (.tmp rfl) rfl
instance {s : List UInt8} : PureF Tryz.prog W0 12 [S s] (s.length ≤ 8796093022207) (normalV s) := ⟨fun h _ => rNormal_spec s h⟩
end
end Go.Rfn

namespace Go.Rfn
open Go.Own Go.Proofs Go.RowKit Go.Lib Go.Asc Go.Adr Go.Nam
attribute [local irreducible] GC GQ G Rd Eff T
set_option maxRecDepth 20000
set_option maxHeartbeats 4000000
section
variable {W0 : World} {F : Heap}
theorem rLabels_spec (s : List UInt8) (hl : s.length ≤ 8796093022206) : T Tryz.prog W0 15 #[S s] F
    (fun v H' => ∃ B, Buf 9 1 v (labelsL s).length (strs (labelsL s)) B ∧ H' = B ++ F) := by
  refine T.intro (args := [_]) Tryz.func15 rfl Tryz.ntmps15 rfl ?_
  cases hp : parseL s with
  | some a =>
    have hps : (parseL s).isSome = true := by rw [hp]; rfl
    rw [labels_addr hp]
    repeat' first | refine st ?_ | (refine nw ?_; intro _) | refine kn ?_ | (refine sp ?_ ?_ <;> intro _) | fail
    refine G.ef rfl rfl rfl (Eff.buildSlice (cells := (strs [s]).toArray) rfl (by kernel_rfl) (by omega) (fun b2 => ?_))
    repeat' first | refine st ?_ | (refine nw ?_; intro _) | refine kn ?_ | (refine sp ?_ ?_ <;> intro _) | fail
    exact GQ.res1h rfl (.tmp rfl) ((b2, _) :: F) (fun w hw => hw.sub SubH.out) ⟨_, Buf.ofS 9 b2 [s] (by simp), rfl⟩
  | none =>
    have hps : (parseL s).isSome = false := by rw [hp]; rfl
    have hlab : labelsL s = (splitB 46 s).reverse := by simp only [labelsL, hp]
    rw [hlab]
    have hne := splitB_ne 46 s
    have hpl : (splitB 46 s).length ≤ s.length + 1 := by rw [splitB_length]; have := List.count_le_length (a := (46 : UInt8)) (l := s); omega
    have hple : ∀ x ∈ splitB 46 s, x.length ≤ s.length := splitB_le 46 s
    repeat' first | refine st ?_ | (refine nw ?_; intro _) | refine kn ?_ | (refine sp ?_ ?_ <;> intro _) | fail
    refine G.ef rfl rfl rfl (Eff.callF rfl ((Cut_spec s 46 (by omega)).mono ?_))
    rintro v H' ⟨B, hb, rfl⟩
    clear hlab
    generalize Asc.splitB 46 s = ps at hb hne hpl hple ⊢
    rcases Buf.parts hb with ⟨_, h0, _, _⟩ | ⟨bk, cap, extra, rfl, rfl, hcap, hx, hmax⟩
    · exact absurd (List.eq_nil_of_length_eq_zero h0) hne
    repeat' first | refine st ?_ | (refine nw ?_; intro _) | refine kn ?_ | (refine sp ?_ ?_ <;> intro _) | fail
    refine GC.loopE (ι := { q : Nat × Value × Heap // q.1 ≤ ps.length ∧ Buf 9 1 q.2.1 ((ps.drop q.1).reverse).length (strs (ps.drop q.1).reverse) q.2.2 }) (fun i => [(6, i.1.2.1), (7, .int .i64 ((i.1.1 : Int) - 1))]) [(5, _)] (fun i => i.1.2.2 ++ ((bk, .cells (strs ps ++ extra).toArray 9 (0, 0)) :: (_, .cells (u8s ((parseL s).getD zero16)).toArray 51 (0, 0)) :: F)) (fun i => i.1.1) ⟨(ps.length, .slice none 0 0, []), Nat.le_refl _, by simpa [strs] using Buf.nil⟩ ⟨rfl, rfl, rfl, trivial⟩ (fun _ h => h) ?_
    rintro ⟨⟨k, vo, B⟩, hk, hbo⟩
    dsimp only [List.cons_append, List.nil_append] at hk hbo ⊢
    by_cases hlt : 0 < k
    · have hL : LeN 1 k := ⟨hlt⟩
      have hk1 : k - 1 < ps.length := by omega
      have hpk := hple ps[k - 1] (by simp)
      have hm1 : ((k : Int) - 1 - 1) = ((k - 1 : Nat) : Int) - 1 := by omega
      have hrev : (ps.drop (k - 1)).reverse = (ps.drop k).reverse ++ [ps[k - 1]] := by
        rw [List.drop_eq_getElem_cons hk1, List.reverse_cons, show k - 1 + 1 = k by omega]
      have hlenr : ((ps.drop k).reverse).length ≤ ps.length := by rw [List.length_reverse, List.length_drop]; omega
      repeat' first | refine st ?_ | (refine nw ?_; intro _) | refine kn ?_ | (refine sp ?_ ?_ <;> intro _) | fail
      refine G.ef rfl rfl rfl (Eff.buildSlice (cells := (strs [ps[k - 1]]).toArray) rfl (by kernel_rfl) (by omega) (fun b2 => ?_))
      refine G.ef rfl rfl rfl (Eff.appendS (ys := [ps[k - 1]]) (B := B) rfl hbo rfl List.perm_middle.symm at_here (by simp only [List.length_singleton]; omega) (fun v2 B2 hb2 => ?_))
      repeat' first | refine st ?_ | (refine nw ?_; intro _) | refine kn ?_ | (refine sp ?_ ?_ <;> intro _) | fail
      simp only [hm1]
      rw [← hrev] at hb2
      exact GQ.back ⟨(k - 1, v2, B2), by omega, hb2⟩ (by simp only; omega) ⟨rfl, rfl, rfl, trivial⟩ (fun w hw => hw.sub SubH.out)
    · obtain rfl : k = 0 := by omega
      rw [List.drop_zero] at hbo
      repeat' first | refine st ?_ | (refine nw ?_; intro _) | refine kn ?_ | (refine sp ?_ ?_ <;> intro _) | fail
      exact GQ.res1h rfl (.tmp rfl) (B ++ F) (fun w hw => hw.sub SubH.out) ⟨B, hbo, rfl⟩
/-- Where a row of texts that is not empty lies. -/
theorem Buf.at {el n : Nat} {v : Value} {xs : List (List UInt8)} {B : Heap} (h : Buf el 1 v n (strs xs) B) (hn : xs ≠ []) : ∃ b cap, v = .slice (some ⟨b, 0, none⟩) xs.length cap ∧ ∀ (X Y : Heap) w, Own W0 (X ++ (B ++ Y)) w → CellsAt w b 0 (strs xs) := by
  have hl := h.len
  rw [strs_length, Nat.mul_one] at hl
  subst hl
  rcases Buf.parts h with ⟨_, h0, _, _⟩ | ⟨b, cap, extra, rfl, rfl, hcap, hx, hmax⟩
  · exact absurd (List.eq_nil_of_length_eq_zero h0) hn
  · refine ⟨b, cap, rfl, fun X Y w hw => ?_⟩
    have hh : Has (X ++ ([(b, Obj.cells (strs xs ++ extra).toArray el (0, 0))] ++ Y)) b (.cells (strs xs ++ extra).toArray el (0, 0)) := ⟨by simp⟩
    exact cellsH (h := hh) (fun j u hj => by
      have hlt := (List.getElem?_eq_some_iff.1 hj).1
      simp [List.getElem?_append_left hlt, hj]) w hw
theorem rows_spec (xs ys : List (List UInt8)) (b1 b2 c1 c2 : Nat) (h1 : RO W0 F (fun w => CellsAt w b1 0 (strs xs))) (h2 : RO W0 F (fun w => CellsAt w b2 0 (strs ys))) (hx : xs.length ≤ 8796093022207) :
    T Tryz.prog W0 13 #[.slice (some ⟨b1, 0, none⟩) xs.length c1, .slice (some ⟨b2, 0, none⟩) ys.length c2] F (fun v H' => v = .bool (decide (xs = ys)) ∧ H' = F) := by
  refine T.intro (args := [_, _]) Tryz.func13 rfl Tryz.ntmps13 rfl ?_
  by_cases hlen : xs.length = ys.length
  · repeat' first | refine st ?_ | (refine nw ?_; intro _) | refine kn ?_ | (refine sp ?_ ?_ <;> intro _) | fail
    refine GC.loopE (ι := { k : Nat // k ≤ xs.length ∧ xs.take k = ys.take k }) (fun i => [(5, .int .i64 (i.1 : Int))]) [(0, _), (1, _)] (fun i => F) (fun i => xs.length - i.1) ⟨0, Nat.zero_le _, rfl⟩ ⟨rfl, rfl, rfl, trivial⟩ (fun _ h => h) ?_
    rintro ⟨k, hk, heq⟩
    dsimp only [List.cons_append, List.nil_append] at hk heq ⊢
    by_cases hlt : k < xs.length
    · have hlt2 : k < ys.length := by omega
      have e1 : (strs xs)[k]? = some (S xs[k]) := by simp [strs, hlt]
      have e2 : (strs ys)[k]? = some (S ys[k]) := by simp [strs, hlt2]
      have a1 : ∀ w, Own W0 F w → w.cell? ⟨b1, 0 + k * 1, none⟩ = some (S xs[k]) := fun w hw => by rw [Nat.mul_one]; exact h1.here hw k _ e1
      have a2 : ∀ w, Own W0 F w → w.cell? ⟨b2, 0 + k * 1, none⟩ = some (S ys[k]) := fun w hw => by rw [Nat.mul_one]; exact h2.here hw k _ e2
      by_cases hk2 : xs[k] = ys[k]
      · have hnext : xs.take (k + 1) = ys.take (k + 1) := by rw [List.take_succ_eq_append_getElem hlt, List.take_succ_eq_append_getElem hlt2, heq, hk2]
        repeat' first | refine st ?_ | (refine nw ?_; intro _) | refine kn ?_ | (refine sp ?_ ?_ <;> intro _) | fail
        refine GC.drawnH [(0, .read), (1, .read), (2, .read), (3, .read), (4, .read), (5, .read), (6, .read), (7, .read), (8, .read)] (by kernel_rfl) (by kernel_rfl) rfl ?_
        repeat' first | refine st ?_ | (refine nw ?_; intro _) | refine kn ?_ | (refine sp ?_ ?_ <;> intro _) | fail
        refine G.rd (Rd.load rfl a1) rfl rfl ?_
        repeat' first | refine st ?_ | (refine nw ?_; intro _) | refine kn ?_ | (refine sp ?_ ?_ <;> intro _) | fail
        refine G.rd (Rd.load rfl a2) rfl rfl ?_
        repeat' first | refine st ?_ | (refine nw ?_; intro _) | refine kn ?_ | (refine sp ?_ ?_ <;> intro _) | fail
        exact GQ.back ⟨k + 1, by omega, hnext⟩ (by simp only; omega) ⟨rfl, rfl, rfl, trivial⟩ (fun w hw => hw)
      · have hne : ¬ xs = ys := fun e => hk2 (by subst e; rfl)
        repeat' first | refine st ?_ | (refine nw ?_; intro _) | refine kn ?_ | (refine sp ?_ ?_ <;> intro _) | fail
        refine GC.drawnH [(0, .read), (1, .read), (2, .read), (3, .read), (4, .read), (5, .read), (6, .read), (7, .read), (8, .read)] (by kernel_rfl) (by kernel_rfl) rfl ?_
        repeat' first | refine st ?_ | (refine nw ?_; intro _) | refine kn ?_ | (refine sp ?_ ?_ <;> intro _) | fail
        refine G.rd (Rd.load rfl a1) rfl rfl ?_
        repeat' first | refine st ?_ | (refine nw ?_; intro _) | refine kn ?_ | (refine sp ?_ ?_ <;> intro _) | fail
        refine G.rd (Rd.load rfl a2) rfl rfl ?_
        repeat' first | refine st ?_ | (refine nw ?_; intro _) | refine kn ?_ | (refine sp ?_ ?_ <;> intro _) | fail
        exact GQ.pure1 rfl (.tmp rfl) (by rw [decide_eq_false hne])
    · have he : xs = ys := by
        rw [List.take_of_length_le (by omega), List.take_of_length_le (by omega)] at heq
        exact heq
      repeat' first | refine st ?_ | (refine nw ?_; intro _) | refine kn ?_ | (refine sp ?_ ?_ <;> intro _) | fail
      exact GQ.pure1 rfl (.tmp rfl) (by rw [decide_eq_true he])
  · have hne : ¬ xs = ys := fun e => hlen (by rw [e])
    repeat' first | refine st ?_ | (refine nw ?_; intro _) | refine kn ?_ | (refine sp ?_ ?_ <;> intro _) | fail
    exact GQ.pure1 rfl (.tmp rfl) (by rw [decide_eq_false hne])
end
end Go.Rfn
