/-
  PLAIN LAWS: an address that is printed is read as it was: no program in sight.
-/
import Derived.Test.YtlakopiopplfhaaGreatDoorPl1
namespace Go.Adr
open Go.Lib Go.Asc

/-! ### Numbers -/
theorem dec_num (u : Nat) : numOf (decDigits u) = u := by
  induction u using Nat.strongRecOn with
  | _ u ih =>
    rw [decDigits]
    by_cases h : u < 10
    · rw [dif_pos h]
      have : (UInt8.ofNat (48 + u)).toNat = 48 + u := by rw [UInt8.toNat_ofNat']; omega
      simp only [numOf, List.foldl_cons, List.foldl_nil, this]; omega
    · rw [dif_neg h, numOf_snoc, ih (u / 10) (by omega)]
      have : (UInt8.ofNat (48 + u % 10)).toNat = 48 + u % 10 := by rw [UInt8.toNat_ofNat']; omega
      rw [this]; omega
theorem dec_dig (u : Nat) : ∀ b ∈ decDigits u, isDig b.toNat = true := by
  induction u using Nat.strongRecOn with
  | _ u ih =>
    rw [decDigits]
    by_cases h : u < 10
    · rw [dif_pos h]
      intro b hb
      simp only [List.mem_singleton] at hb
      subst hb
      have : (UInt8.ofNat (48 + u)).toNat = 48 + u := by rw [UInt8.toNat_ofNat']; omega
      rw [this, dig_bounds]; omega
    · rw [dif_neg h]
      intro b hb
      rcases List.mem_append.1 hb with hb | hb
      · exact ih (u / 10) (by omega) b hb
      · simp only [List.mem_singleton] at hb
        subst hb
        have : (UInt8.ofNat (48 + u % 10)).toNat = 48 + u % 10 := by rw [UInt8.toNat_ofNat']; omega
        rw [this, dig_bounds]; omega
theorem dec_ne (u : Nat) : decDigits u ≠ [] := by
  rw [decDigits]; split <;> simp
theorem head_app {α : Type} {x : List α} (h : x ≠ []) (y : List α) : (x ++ y).head? = x.head? := by
  cases x with
  | nil => exact absurd rfl h
  | cons a x => rfl
theorem last_app {α : Type} {y : List α} (h : y ≠ []) (x : List α) : (x ++ y).getLast? = y.getLast? := by
  rw [List.getLast?_append]
  cases y with
  | nil => exact absurd rfl h
  | cons a y => rw [List.getLast?_cons]; rfl
theorem dec_head {u : Nat} (h0 : u ≠ 0) : (decDigits u).head? ≠ some 48 := by
  induction u using Nat.strongRecOn with
  | _ u ih =>
    rw [decDigits]
    by_cases h : u < 10
    · rw [dif_pos h]
      simp only [List.head?_cons, ne_eq, Option.some.injEq]
      intro e
      have : (UInt8.ofNat (48 + u)).toNat = 48 + u := by rw [UInt8.toNat_ofNat']; omega
      rw [e] at this
      have : (48 : UInt8).toNat = 48 := rfl
      omega
    · rw [dif_neg h, head_app (dec_ne _)]
      exact ih (u / 10) (by omega) (by omega)
theorem dec_len : ∀ (k u : Nat), 1 ≤ k → u < 10 ^ k → (decDigits u).length ≤ k
  | 0, _, h, _ => by omega
  | k + 1, u, _, h => by
    rw [decDigits]
    by_cases h1 : u < 10
    · rw [dif_pos h1]; simp
    · rw [dif_neg h1, List.length_append]
      have hk : 1 ≤ k := by
        rcases Nat.eq_zero_or_pos k with rfl | h2
        · simp at h; omega
        · exact h2
      have := dec_len k (u / 10) hk (by rw [Nat.pow_succ] at h; omega)
      simp; omega
theorem number_itoa {n : Nat} {m : Int} (h : (n : Int) ≤ m) (h18 : n < 10 ^ 18) : number (itoa (n : Int)) m = some n := by
  have h1 : itoa (n : Int) = decDigits n := by rw [itoa, if_neg (by omega)]; rfl
  rw [h1]
  unfold number
  rw [dec_num, if_pos]
  refine ⟨dec_ne n, List.all_eq_true.2 (dec_dig n), dec_len 18 n (by omega) h18, ?_, h⟩
  rintro ⟨h2, h3⟩
  refine dec_head ?_ h3
  rintro rfl
  rw [decDigits, dif_pos (by omega)] at h2
  simp at h2
theorem itoa_dig (n : Nat) : ∀ b ∈ itoa (n : Int), isDig b.toNat = true := by
  have h1 : itoa (n : Int) = decDigits n := by rw [itoa, if_neg (by omega)]; rfl
  rw [h1]; exact dec_dig n
theorem dig_ne {b c : UInt8} (h : isDig b.toNat = true) (hc : isDig c.toNat = false) : b ≠ c := by
  rintro rfl; rw [h] at hc; cases hc

/-! ### Numbers in hex -/
theorem hexC_hx (d : Nat) (h : d < 16) : hx (hexC d) = (d : Int) ∧ isHex (hexC d) = true ∧ hexC d ≠ 58 ∧ hexC d ≠ 46 := by
  have key : ∀ d < 16, hx (hexC d) = (d : Int) ∧ isHex (hexC d) = true ∧ hexC d ≠ 58 ∧ hexC d ≠ 46 := by decide +kernel
  exact key d h
theorem hexL_all (n : Nat) : hexOf (hexL n) = n ∧ (∀ b ∈ hexL n, isHex b = true ∧ b ≠ 58 ∧ b ≠ 46) ∧ hexL n ≠ [] := by
  induction n using Nat.strongRecOn with
  | _ n ih =>
    rcases Nat.lt_or_ge n 16 with h | h
    · rw [hexL_small h]
      have := hexC_hx n h
      refine ⟨by simp [hexOf, this.1], fun b hb => ?_, by simp⟩
      simp only [List.mem_singleton] at hb; subst hb
      exact this.2
    · rw [hexL_big h]
      have h1 := ih (n / 16) (by omega)
      have h2 := hexC_hx (n % 16) (by omega)
      refine ⟨by rw [hexOf_snoc, h1.1, h2.1]; omega, fun b hb => ?_, by simp⟩
      rcases List.mem_append.1 hb with hb | hb
      · exact h1.2.1 b hb
      · simp only [List.mem_singleton] at hb; subst hb
        exact h2.2
theorem hexR_hexL {n : Nat} (h : n < 65536) : hexR (hexL n) = some n := by
  have h1 := hexL_all n
  unfold hexR
  rw [h1.1, if_pos ⟨h1.2.2, List.all_eq_true.2 fun b hb => (h1.2.1 b hb).1, hexL_len n h⟩]
theorem hexL_nocol (n : Nat) : (58 : UInt8) ∉ hexL n := fun h => ((hexL_all n).2.1 _ h).2.1 rfl
theorem hexL_nodot (n : Nat) : (46 : UInt8) ∉ hexL n := fun h => ((hexL_all n).2.1 _ h).2.2 rfl
theorem grp_hexL (may : Bool) : ∀ {gs : List Nat}, (∀ n ∈ gs, n < 65536) → grp may (gs.map hexL) = some (gs.flatMap two)
  | [], _ => rfl
  | n :: gs, h => by
    rw [List.map_cons, grp_some (hexR_hexL (h n (by simp))), grp_hexL may (fun m hm => h m (by simp [hm]))]
    simp
theorem textL_ne {n : Nat} {gs : List Nat} : textL (n :: gs) ≠ [] := by
  unfold textL
  rw [List.map_cons, join_cons]
  have := (hexL_all n).2.2
  simp [this]
theorem readL_textL (may : Bool) {gs : List Nat} (h : ∀ n ∈ gs, n < 65536) : readL may (textL gs) = some (gs.flatMap two) := by
  cases gs with
  | nil => simp [textL, join_nil, readL]
  | cons n gs =>
    rw [readL, if_neg textL_ne]
    unfold textL
    rw [splitB_join (by simp) (by
      intro x hx
      obtain ⟨m, _, rfl⟩ := List.mem_map.1 hx
      exact hexL_nocol m)]
    exact grp_hexL may h
theorem mem_join {c b : UInt8} : ∀ {xs : List (List UInt8)}, b ∈ join xs [c] → b = c ∨ ∃ x ∈ xs, b ∈ x
  | [], h => by simp [join_nil] at h
  | [x], h => by rw [join_one] at h; exact .inr ⟨x, by simp, h⟩
  | x :: y :: r, h => by
    rw [join_two] at h
    rcases List.mem_append.1 h with h | h
    · exact .inr ⟨x, by simp, h⟩
    · rcases List.mem_cons.1 h with h | h
      · exact .inl h
      · rcases mem_join h with h | ⟨z, hz, hb⟩
        · exact .inl h
        · exact .inr ⟨z, by simp [hz], hb⟩
theorem textL_nodot (gs : List Nat) : (46 : UInt8) ∉ textL gs := by
  intro h
  rcases mem_join h with h | ⟨x, hx, hb⟩
  · cases h
  · obtain ⟨m, _, rfl⟩ := List.mem_map.1 hx
    exact hexL_nodot m hb
theorem dot_nodot {l : List UInt8} (h : 46 ∉ l) : dot l = none := by
  unfold dot
  rw [splitB_nosep h, if_neg (by simp)]
theorem cutDD_sep {x l : List UInt8} (hx : 58 ∉ x) (hl : cutDD l = none) (hh : l.head? ≠ some 58) : cutDD (x ++ 58 :: l) = none := by
  induction x with
  | nil =>
    simp only [List.nil_append, cutDD]
    rw [if_neg (fun e => hh e.2), hl]; rfl
  | cons b x ih =>
    simp only [List.mem_cons, not_or] at hx
    simp only [List.cons_append, cutDD]
    rw [if_neg (fun e => hx.1 e.1.symm), ih hx.2]; rfl
theorem textL_head (gs : List Nat) : (textL gs).head? ≠ some 58 := by
  cases gs with
  | nil => simp [textL, join_nil]
  | cons n gs =>
    unfold textL
    rw [List.map_cons, join_cons, head_app (hexL_all n).2.2]
    intro e
    exact hexL_nocol n (List.mem_of_head? e)
theorem cutDD_textL : ∀ gs : List Nat, cutDD (textL gs) = none
  | [] => rfl
  | [n] => by unfold textL; rw [List.map_cons, List.map_nil, join_one]; exact cutDD_none (hexL_nocol n)
  | n :: m :: gs => by
    have h := cutDD_textL (m :: gs)
    have h2 := textL_head (m :: gs)
    unfold textL at h h2 ⊢
    rw [List.map_cons, List.map_cons, join_two]
    rw [List.map_cons] at h h2
    exact cutDD_sep (hexL_nocol n) h h2
theorem cutDD_here {l : List UInt8} (r : List UInt8) (h : cutDD l = none) (hl : l.getLast? ≠ some 58) : cutDD (l ++ 58 :: 58 :: r) = some (l, r) := by
  induction l with
  | nil => simp [cutDD]
  | cons b l ih =>
    simp only [cutDD] at h
    split at h
    · cases h
    · rename_i hc
      have h' : cutDD l = none := by
        cases hcd : cutDD l with
        | none => rfl
        | some p => rw [hcd] at h; cases h
      simp only [List.cons_append, cutDD]
      cases l with
      | nil =>
        have hb : b ≠ 58 := by rintro rfl; simp at hl
        simp [hb, cutDD]
      | cons a l =>
        rw [if_neg (by simpa using hc), ih h' (by simpa [List.getLast?_cons_cons] using hl)]; rfl
theorem textL_last (gs : List Nat) : (textL gs).getLast? ≠ some 58 := by
  intro e
  cases gs with
  | nil => simp [textL, join_nil] at e
  | cons n gs =>
    -- the last part is the last one's hex
    have key : ∀ (xs : List (List UInt8)), xs ≠ [] → (∀ x ∈ xs, x ≠ [] ∧ 58 ∉ x) → (join xs [58]).getLast? ≠ some 58 := by
      intro xs
      induction xs with
      | nil => intro h; exact absurd rfl h
      | cons x xs ih =>
        intro _ h
        cases xs with
        | nil =>
          rw [join_one]
          intro e
          exact (h x (by simp)).2 (List.mem_of_getLast? e)
        | cons y r =>
          rw [join_two]
          have h3 := ih (by simp) (fun z hz => h z (by simp [hz]))
          have hne : join (y :: r) [58] ≠ [] := by
            rw [join_cons]; have := (h y (by simp)).1; simp [this]
          rw [last_app (by simp)]
          cases hj : join (y :: r) [58] with
          | nil => exact absurd hj hne
          | cons a t => rw [List.getLast?_cons_cons, ← hj]; exact h3
    refine key _ (by simp) ?_ e
    intro x hx
    obtain ⟨m, _, rfl⟩ := List.mem_map.1 hx
    exact ⟨(hexL_all m).2.2, hexL_nocol m⟩

/-! ### The longest row -/
theorem zlead_zero : ∀ (l : List Nat), l.take (zlead l) = List.replicate (zlead l) 0
  | [] => rfl
  | x :: xs => by
    simp only [zlead]
    split
    · rename_i h; subst h
      rw [List.take_succ_cons, List.replicate_succ, zlead_zero xs]
    · rfl
theorem rowL_is (l : List Nat) : rowL l = (8, 1) ∨ (2 ≤ (rowL l).2 ∧ zlead (l.drop (rowL l).1) = (rowL l).2) := by
  unfold rowL
  generalize List.range l.length = ks
  suffices h : ∀ (ks : List Nat) (p : Nat × Nat), (p = (8, 1) ∨ (2 ≤ p.2 ∧ zlead (l.drop p.1) = p.2)) → (ks.foldl (rowStep l) p = (8, 1) ∨ (2 ≤ (ks.foldl (rowStep l) p).2 ∧ zlead (l.drop (ks.foldl (rowStep l) p).1) = (ks.foldl (rowStep l) p).2)) from h ks (8, 1) (.inl rfl)
  intro ks
  induction ks with
  | nil => intro p h; exact h
  | cons k ks ih =>
    intro p h
    rw [List.foldl_cons]
    apply ih
    unfold rowStep
    split
    · rename_i hgt
      right
      refine ⟨?_, rfl⟩
      rcases h with rfl | h
      · simp only at hgt ⊢; omega
      · simp only; omega
    · exact h
theorem two_zero (n : Nat) : (List.replicate n 0).flatMap two = List.replicate (2 * n) 0 := by
  induction n with
  | zero => rfl
  | succ n ih => rw [List.replicate_succ, List.flatMap_cons, ih, show 2 * (n + 1) = 2 * n + 1 + 1 by omega, List.replicate_succ, List.replicate_succ]; rfl
theorem two_len (gs : List Nat) : (gs.flatMap two).length = 2 * gs.length := by
  induction gs with
  | nil => rfl
  | cons n gs ih => rw [List.flatMap_cons, List.length_append, ih]; simp [two]; omega
theorem two_get (x y : UInt8) : two (x.toNat * 256 + y.toNat) = [x, y] := by
  have hx := x.toNat_lt
  have hy := y.toNat_lt
  unfold two
  have h1 : (x.toNat * 256 + y.toNat) / 256 = x.toNat := by omega
  have h2 : (x.toNat * 256 + y.toNat) % 256 = y.toNat := by omega
  rw [h1, h2]; simp
theorem groupsL_len (a : List UInt8) : (groupsL a).length = 8 := by simp [groupsL]
theorem groupsL_lt (a : List UInt8) : ∀ n ∈ groupsL a, n < 65536 := by
  intro n hn
  obtain ⟨k, _, rfl⟩ := List.mem_map.1 hn
  have h1 := (a.getD (2 * k) 0).toNat_lt
  have h2 := (a.getD (2 * k + 1) 0).toNat_lt
  omega
theorem groupsL_two {a : List UInt8} (ha : a.length = 16) : (groupsL a).flatMap two = a := by
  match a, ha with
  | [a0, a1, a2, a3, a4, a5, a6, a7, a8, a9, b0, b1, b2, b3, b4, b5], _ =>
    simp [groupsL, List.range_succ, two_get]
theorem ahead_append {a : List UInt8} (h : a.take 12 = aheadL) : aheadL ++ a.drop 12 = a := by rw [← h]; exact List.take_append_drop 12 a
/-- **WHAT IS PRINTED IS READ AS IT WAS.** -/
theorem parse_print {a : List UInt8} (ha : a.length = 16) : parseL (printL a) = some a := by
  unfold printL
  by_cases h4 : a.take 12 = aheadL
  · rw [if_pos h4, parseL_dd]
    have hd : dot (join ((a.drop 12).map fun b => itoa (b.toNat : Int)) [46]) = some (a.drop 12) := by
      have hs : splitB 46 (join ((a.drop 12).map fun b => itoa (b.toNat : Int)) [46]) = (a.drop 12).map fun b => itoa (b.toNat : Int) := by
        refine splitB_join (by
          intro e
          have : (a.drop 12).length = 0 := by simpa using congrArg List.length e
          rw [List.length_drop] at this; omega) ?_
        intro x hx
        obtain ⟨b, _, rfl⟩ := List.mem_map.1 hx
        intro h
        exact dig_ne (itoa_dig b.toNat _ h) (by decide) rfl
      have hn : ∀ b : UInt8, number (itoa (b.toNat : Int)) 255 = some b.toNat := fun b => number_itoa (by have := b.toNat_lt; omega) (by have := b.toNat_lt; omega)
      unfold dot
      rw [hs, if_pos ⟨by simp [ha], by rw [List.all_map, List.all_eq_true]; intro b _; simp [isNum, hn]⟩]
      congr 1
      rw [List.map_map]
      conv => rhs; rw [← List.map_id (a.drop 12)]
      refine List.map_congr_left fun b _ => ?_
      simp [numB, hn]
    rw [hd]
    simp only [ahead_append h4]
  · rw [if_neg h4]
    have hlt := groupsL_lt a
    have h8 := groupsL_len a
    by_cases hr : (rowL (groupsL a)).1 = 8
    · rw [if_pos hr, parseL_dd, dot_nodot (textL_nodot _), cutDD_textL, readL_textL true hlt, groupsL_two ha]
      simp only [ha, if_true]
    · rw [if_neg hr]
      have hb := rowL_bound (groupsL a) h8
      have hz := rowL_is (groupsL a)
      have hab := groupsL_two ha
      generalize rowL (groupsL a) = r at hr hb hz
      obtain ⟨f, n⟩ := r
      simp only at hr hb hz ⊢
      have hz' : 2 ≤ n ∧ zlead ((groupsL a).drop f) = n := by
        rcases hz with h | h
        · exact absurd (congrArg Prod.fst h) hr
        · exact h
      have hb' : f < 8 ∧ f + n ≤ 8 := by
        rcases hb with h | h
        · exact absurd h hr
        · exact h
      generalize hgs : groupsL a = gs at *
      have hnd : 46 ∉ textL (gs.take f) ++ [58, 58] ++ textL (gs.drop (f + n)) := by
        intro h
        rcases List.mem_append.1 h with h | h
        · rcases List.mem_append.1 h with h | h
          · exact textL_nodot _ h
          · simp at h
        · exact textL_nodot _ h
      rw [parseL_dd, dot_nodot hnd, List.append_assoc]
      show (match cutDD (textL (gs.take f) ++ 58 :: 58 :: textL (gs.drop (f + n))) with | none => _ | some p => _) = _
      rw [cutDD_here _ (cutDD_textL _) (textL_last _)]
      simp only [readL_textL false (fun m hm => hlt m (List.mem_of_mem_take hm)), readL_textL true (fun m hm => hlt m (List.mem_of_mem_drop hm)), two_len, List.length_take, List.length_drop]
      rw [if_pos (by omega)]
      congr 1
      have hmid : gs = gs.take f ++ (List.replicate n 0 ++ gs.drop (f + n)) := by
        have h1 := zlead_zero (gs.drop f)
        rw [hz'.2] at h1
        rw [← h1, ← List.drop_drop, List.take_append_drop, List.take_append_drop]
      conv => rhs; rw [← hab, hmid]
      rw [List.flatMap_append, List.flatMap_append, two_zero, List.append_assoc]
      congr 3
      omega
theorem addr_len (s : List UInt8) : ((parseL s).getD zero16).length = 16 := by
  cases hp : parseL s with
  | none => rfl
  | some a => exact parseL_len hp
theorem print_ne {a : List UInt8} (ha : a.length = 16) : printL a ≠ [] := by
  intro h
  have := parse_print ha
  rw [h] at this
  have h2 : parseL [] = none := by decide +kernel
  rw [h2] at this; cases this
end Go.Adr
