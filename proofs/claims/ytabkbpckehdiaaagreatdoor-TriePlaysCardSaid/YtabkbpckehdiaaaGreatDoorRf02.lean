/-
  THE DOCUMENT'S ANSWERS, letters and digits: they answer as package ascii's functions do.
-/
import Derived.Test.YtabkbpckehdiaaaGreatDoorIns0
namespace Go.Rfn
open Go.Own Go.Proofs Go.RowKit Go.Lib Go.Asc Go.Adr Go.Nam
attribute [local irreducible] GC GQ G Rd Eff T
set_option maxRecDepth 20000
set_option maxHeartbeats 4000000
section
variable {W0 : World} {F : Heap}
theorem lower_spec (c : UInt8) : T Tryz.prog W0 81 #[.int .u8 (c.toNat : Int)] F (fun v H' => v = .int .u8 ((lowB c).toNat : Int) ∧ H' = F) := by
  have hc : c.toNat < 256 := c.toNat_lt
  refine T.intro (args := [_]) Tryz.func81 rfl Tryz.ntmps81 rfl ?_
  repeat' first | refine st ?_ | (refine nw ?_; intro _) | refine kn ?_ | (refine sp ?_ ?_ <;> intro _) | fail
  all_goals first
    | exact GQ.done1 rfl rfl ⟨by rw [lowB_no (by omega)], rfl⟩
    | exact GQ.done1 rfl rfl ⟨by rw [lowB_up (by omega)]; congr 1, rfl⟩
instance {c : UInt8} : PureF Tryz.prog W0 81 [.int .u8 (c.toNat : Int)] True (.int .u8 ((lowB c).toNat : Int)) := ⟨fun _ _ => lower_spec c⟩
theorem Lower_spec (l : List UInt8) (hl : l.length ≤ 140737488351232) : T Tryz.prog W0 41 #[S l] F (fun v H' => v = S (l.map lowB) ∧ H' = F) := by
  refine T.intro (args := [_]) Tryz.func41 rfl Tryz.ntmps41 rfl ?_
  repeat' first | refine st ?_ | (refine nw ?_; intro _) | refine kn ?_ | (refine sp ?_ ?_ <;> intro _) | fail
  refine G.ef rfl rfl rfl (Eff.bytesS rfl (by omega) (fun bk extra hx => ?_))
  repeat' first | refine st ?_ | (refine nw ?_; intro _) | refine kn ?_ | (refine sp ?_ ?_ <;> intro _) | fail
  have hm : (l.map lowB).length = l.length := List.length_map _
  refine GC.loopE (ι := { k : Nat // k ≤ l.length }) (fun i => [(4, .int .i64 (i.1 : Int))]) [(3, _)] (fun i => (bk, .cells (u8s ((l.map lowB).take i.1 ++ l.drop i.1) ++ extra).toArray 5 (l.length + extra.length, l.length + extra.length + 1)) :: F) (fun i => l.length - i.1) ⟨0, Nat.zero_le _⟩ ⟨rfl, rfl, trivial⟩ (fun _ h => h) ?_
  rintro ⟨k, hk⟩
  dsimp only [List.cons_append, List.nil_append] at hk ⊢
  by_cases hlt : k < l.length
  · have hg := half_get l (l.map lowB) hm k hlt
    have hcell : ((u8s ((l.map lowB).take k ++ l.drop k) ++ extra).toArray : Array Value)[0 + k * 1]? = some (.int .u8 ((l[k]).toNat : Int)) := by
      have hlen : ((l.map lowB).take k ++ l.drop k).length = l.length := by simp; omega
      rw [cell_u8s _ extra k (by omega)]
      have e1 : ((l.map lowB).take k ++ l.drop k)[k] = l[k] := Option.some.inj ((List.getElem?_eq_getElem _).symm.trans hg)
      rw [e1]
    repeat' first | refine st ?_ | (refine nw ?_; intro _) | refine kn ?_ | (refine sp ?_ ?_ <;> intro _) | fail
    refine G.rd (Rd.load rfl (cellH hcell)) rfl rfl ?_
    have hlen : ((l.map lowB).take k ++ l.drop k).length = l.length := by simp; omega
    repeat' first | refine st ?_ | (refine nw ?_; intro _) | refine kn ?_ | (refine sp ?_ ?_ <;> intro _) | fail
    refine GQ.back ⟨k + 1, by omega⟩ (by simp only; omega) ⟨rfl, rfl, trivial⟩ (fun w hw => ?_)
    rw [← half_set l (l.map lowB) hm k hlt (lowB l[k]) (by simp [hlt])]
    exact hw
  · obtain rfl : k = l.length := by omega
    repeat' first | refine st ?_ | (refine nw ?_; intro _) | refine kn ?_ | (refine sp ?_ ?_ <;> intro _) | fail
    rw [List.take_of_length_le (by omega), List.drop_length, List.append_nil]
    refine G.rd (Rd.strX rfl hm.symm) rfl rfl ?_
    repeat' first | refine st ?_ | (refine nw ?_; intro _) | refine kn ?_ | (refine sp ?_ ?_ <;> intro _) | fail
    exact GQ.pure1 rfl (.tmp rfl) rfl
theorem number_zero {l : List UInt8} {m : Int} (h : ¬ (l ≠ [] ∧ l.all (fun b => isDig b.toNat) = true ∧ l.length ≤ 18 ∧ ¬ (1 < l.length ∧ l.head? = some 48) ∧ (numOf l : Int) ≤ m)) : number l m = none := by
  unfold number; rw [if_neg h]
theorem head_zero {l : List UInt8} (h : 0 < l.length) : l.head? = some 48 ↔ (l[0]).toNat = 48 := by
  cases l with
  | nil => simp at h
  | cons a l =>
    simp only [List.head?_cons, Option.some.injEq, List.getElem_cons_zero]
    constructor
    · rintro rfl; rfl
    · intro h; exact UInt8.toNat_inj.1 h
theorem Number_spec (l : List UInt8) (most : Int) (hl : l.length ≤ 140737488351232) : T Tryz.prog W0 104 #[S l, .int .i64 most] F (fun v H' => v = okV (number l most) ∧ H' = F) := by
  refine T.intro (args := [_, _]) Tryz.func104 rfl Tryz.ntmps104 rfl ?_
  by_cases h0 : l.length < 1
  · rw [number_zero (fun h => by have := List.length_pos_iff.2 h.1; omega)]
    repeat' first | refine st ?_ | (refine nw ?_; intro _) | refine kn ?_ | (refine sp ?_ ?_ <;> intro _) | fail
    exact GQ.pure2 rfl (.tmp rfl) (.tmp rfl) rfl
  by_cases h18 : 18 < l.length
  · rw [number_zero (fun h => by omega)]
    repeat' first | refine st ?_ | (refine nw ?_; intro _) | refine kn ?_ | (refine sp ?_ ?_ <;> intro _) | fail
    exact GQ.pure2 rfl (.tmp rfl) (.tmp rfl) rfl
  have hz0 := head_zero (l := l) (by omega)
  by_cases hz : 1 < l.length ∧ (l[0]).toNat = 48
  · obtain ⟨hz1, hz2⟩ := hz
    rw [number_zero (fun h => h.2.2.2.1 ⟨hz1, hz0.2 hz2⟩)]
    repeat' first | refine st ?_ | (refine nw ?_; intro _) | refine kn ?_ | (refine sp ?_ ?_ <;> intro _) | fail
    exact GQ.pure2 rfl (.tmp rfl) (.tmp rfl) rfl
  have hz1 : 1 < l.length → (l[0]).toNat ≠ 48 := fun h1 h2 => hz ⟨h1, h2⟩
  have hloop : ∀ e, Sub [(0, S l), (1, .int .i64 most), (6, .int .i64 0), (7, .int .i64 0)] e → True := fun _ _ => trivial
  clear hloop
  repeat' first | refine st ?_ | (refine nw ?_; intro _) | refine kn ?_ | (refine sp ?_ ?_ <;> intro _) | fail
  all_goals
    refine GC.loopE (ι := { k : Nat // k ≤ l.length ∧ ∀ b ∈ l.take k, isDig b.toNat = true }) (fun i => [(6, .int .i64 (numOf (l.take i.1) : Int)), (7, .int .i64 (i.1 : Int))]) [(0, _), (1, _)] (fun i => F) (fun i => l.length - i.1) ⟨0, Nat.zero_le _, by simp⟩ ⟨rfl, rfl, rfl, rfl, trivial⟩ (fun _ h => h) ?_
    rintro ⟨k, hk, hdig⟩
    dsimp only [List.cons_append, List.nil_append] at hk hdig ⊢
    have hnb := numOf_lt (l.take k) hdig
    have hnb2 : numOf (l.take k) < 10 ^ 18 := Nat.lt_of_lt_of_le hnb (Nat.pow_le_pow_right (by omega) (by rw [List.length_take]; omega))
    have hnb3 : numOf (l.take k) < 1000000000000000000 := hnb2
    clear hnb2
    by_cases hlt : k < l.length
    · have hc := (l[k]).toNat_lt
      have hnb4 : numOf (l.take k) < 10 ^ 17 := Nat.lt_of_lt_of_le hnb (Nat.pow_le_pow_right (by omega) (by rw [List.length_take]; omega))
      have hnb5 : numOf (l.take k) < 100000000000000000 := hnb4
      clear hnb hnb4
      by_cases hd : isDig (l[k]).toNat = true
      · have hd2 := dig_bounds.1 hd
        have hts := List.take_succ_eq_append_getElem hlt
        have hs : (10 * (numOf (l.take k) : Int) + (((l[k]).toNat : Int) - 48)) = (numOf (l.take (k + 1)) : Int) := by
          rw [hts, numOf_snoc]; omega
        repeat' first | refine st ?_ | (refine nw ?_; intro _) | refine kn ?_ | (refine sp ?_ ?_ <;> intro _) | fail
        simp only [hs]
        refine GQ.back ⟨k + 1, by omega, ?_⟩ (by simp only; omega) ⟨rfl, rfl, rfl, rfl, trivial⟩ (fun w hw => hw)
        rw [hts]
        intro b hb
        rcases List.mem_append.1 hb with hb | hb
        · exact hdig b hb
        · simp only [List.mem_singleton] at hb; subst hb; exact hd
      · have hd2 : ¬ (48 ≤ (l[k]).toNat ∧ (l[k]).toNat ≤ 57) := fun h => hd (dig_bounds.2 h)
        rw [number_zero (fun h => hd (List.all_eq_true.1 h.2.1 l[k] (by simp)))]
        repeat' first | refine st ?_ | (refine nw ?_; intro _) | refine kn ?_ | (refine sp ?_ ?_ <;> intro _) | fail
        all_goals first | (exfalso; omega) | exact GQ.pure2 rfl (.tmp rfl) (.tmp rfl) rfl
    · obtain rfl : k = l.length := by omega
      clear hnb
      rw [List.take_length] at hdig hnb3 ⊢
      by_cases hm : (numOf l : Int) ≤ most
      · have hn : number l most = some (numOf l) := by
          unfold number
          rw [if_pos ⟨List.length_pos_iff.1 (by omega), List.all_eq_true.2 hdig, by omega, fun h => hz ⟨h.1, hz0.1 h.2⟩, hm⟩]
        rw [hn]
        repeat' first | refine st ?_ | (refine nw ?_; intro _) | refine kn ?_ | (refine sp ?_ ?_ <;> intro _) | fail
        exact GQ.pure2 rfl (.tmp rfl) (.tmp rfl) rfl
      · rw [number_zero (fun h => hm h.2.2.2.2)]
        repeat' first | refine st ?_ | (refine nw ?_; intro _) | refine kn ?_ | (refine sp ?_ ?_ <;> intro _) | fail
        exact GQ.pure2 rfl (.tmp rfl) (.tmp rfl) rfl
theorem hexDig (c : UInt8) : 48 ≤ (lowB c).toNat ∧ (lowB c).toNat ≤ 57 → isHex c = true ∧ (hx c) = ((lowB c).toNat : Int) - 48 :=
  byte_all (p := fun c => 48 ≤ (lowB c).toNat ∧ (lowB c).toNat ≤ 57 → isHex c = true ∧ (hx c) = ((lowB c).toNat : Int) - 48) (by decide +kernel) c
theorem hexLet (c : UInt8) : 97 ≤ (lowB c).toNat ∧ (lowB c).toNat ≤ 102 → isHex c = true ∧ (hx c) = ((lowB c).toNat : Int) - 97 + 10 :=
  byte_all (p := fun c => 97 ≤ (lowB c).toNat ∧ (lowB c).toNat ≤ 102 → isHex c = true ∧ (hx c) = ((lowB c).toNat : Int) - 97 + 10) (by decide +kernel) c
theorem hexNo (c : UInt8) : ¬ (48 ≤ (lowB c).toNat ∧ (lowB c).toNat ≤ 57) ∧ ¬ (97 ≤ (lowB c).toNat ∧ (lowB c).toNat ≤ 102) → isHex c = false :=
  byte_all (p := fun c => ¬ (48 ≤ (lowB c).toNat ∧ (lowB c).toNat ≤ 57) ∧ ¬ (97 ≤ (lowB c).toNat ∧ (lowB c).toNat ≤ 102) → isHex c = false) (by decide +kernel) c
theorem hexR_no {l : List UInt8} (h : ¬ (l ≠ [] ∧ l.all isHex = true ∧ l.length ≤ 4)) : hexR l = none := by unfold hexR; rw [if_neg h]
theorem Hex_spec (l : List UInt8) (hl : l.length ≤ 140737488351232) : T Tryz.prog W0 105 #[S l] F (fun v H' => v = okV (hexR l) ∧ H' = F) := by
  refine T.intro (args := [_]) Tryz.func105 rfl Tryz.ntmps105 rfl ?_
  by_cases h0 : l.length < 1
  · rw [hexR_no (fun h => by have := List.length_pos_iff.2 h.1; omega)]
    repeat' first | refine st ?_ | (refine nw ?_; intro _) | refine kn ?_ | (refine sp ?_ ?_ <;> intro _) | fail
    exact GQ.pure2 rfl (.tmp rfl) (.tmp rfl) rfl
  by_cases h4 : 4 < l.length
  · rw [hexR_no (fun h => by omega)]
    repeat' first | refine st ?_ | (refine nw ?_; intro _) | refine kn ?_ | (refine sp ?_ ?_ <;> intro _) | fail
    exact GQ.pure2 rfl (.tmp rfl) (.tmp rfl) rfl
  repeat' first | refine st ?_ | (refine nw ?_; intro _) | refine kn ?_ | (refine sp ?_ ?_ <;> intro _) | fail
  refine GC.loopE (ι := { k : Nat // k ≤ l.length ∧ ∀ b ∈ l.take k, isHex b = true }) (fun i => [(4, .int .i64 (hexOf (l.take i.1) : Int)), (5, .int .i64 (i.1 : Int))]) [(0, _)] (fun i => F) (fun i => l.length - i.1) ⟨0, Nat.zero_le _, by simp⟩ ⟨rfl, rfl, rfl, trivial⟩ (fun _ h => h) ?_
  rintro ⟨k, hk, hdig⟩
  dsimp only [List.cons_append, List.nil_append] at hk hdig ⊢
  have hnb2 : hexOf (l.take k) < 16 ^ 4 := Nat.lt_of_lt_of_le (hexOf_lt (l.take k)) (Nat.pow_le_pow_right (by omega) (by rw [List.length_take]; omega))
  have hnb3 : hexOf (l.take k) < 65536 := hnb2
  clear hnb2
  by_cases hlt : k < l.length
  · have hts := List.take_succ_eq_append_getElem hlt
    have hmem : isHex l[k] = true → ∀ b ∈ l.take (k + 1), isHex b = true := fun h b hb => by
      rw [hts] at hb
      rcases List.mem_append.1 hb with hb | hb
      · exact hdig b hb
      · simp only [List.mem_singleton] at hb; subst hb; exact h
    have hc := (lowB l[k]).toNat_lt
    by_cases hd : 48 ≤ (lowB l[k]).toNat ∧ (lowB l[k]).toNat ≤ 57
    · have hd2 := hexDig l[k] hd
      have hs : (16 * (hexOf (l.take k) : Int) + (((lowB l[k]).toNat : Int) - 48)) = (hexOf (l.take (k + 1)) : Int) := by
        rw [hts, hexOf_snoc, hd2.2]; omega
      repeat' first | refine st ?_ | (refine nw ?_; intro _) | refine kn ?_ | (refine sp ?_ ?_ <;> intro _) | fail
      simp only [hs]
      exact GQ.back ⟨k + 1, by omega, hmem hd2.1⟩ (by simp only; omega) ⟨rfl, rfl, rfl, trivial⟩ (fun w hw => hw)
    by_cases hd' : 97 ≤ (lowB l[k]).toNat ∧ (lowB l[k]).toNat ≤ 102
    · have hd2 := hexLet l[k] hd'
      have hs : (16 * (hexOf (l.take k) : Int) + (((lowB l[k]).toNat : Int) - 97) + 10) = (hexOf (l.take (k + 1)) : Int) := by
        rw [hts, hexOf_snoc, hd2.2]; omega
      repeat' first | refine st ?_ | (refine nw ?_; intro _) | refine kn ?_ | (refine sp ?_ ?_ <;> intro _) | fail
      all_goals first
        | (exfalso; omega)
        | (simp only [hs]; exact GQ.back ⟨k + 1, by omega, hmem hd2.1⟩ (by simp only; omega) ⟨rfl, rfl, rfl, trivial⟩ (fun w hw => hw))
    · have hno := hexNo l[k] ⟨hd, hd'⟩
      rw [hexR_no (fun h => by have := List.all_eq_true.1 h.2.1 l[k] (by simp); rw [hno] at this; cases this)]
      repeat' first | refine st ?_ | (refine nw ?_; intro _) | refine kn ?_ | (refine sp ?_ ?_ <;> intro _) | fail
      all_goals first | (exfalso; omega) | exact GQ.pure2 rfl (.tmp rfl) (.tmp rfl) rfl
  · obtain rfl : k = l.length := by omega
    rw [List.take_length] at hdig hnb3 ⊢
    have hn : hexR l = some (hexOf l) := by
      unfold hexR
      rw [if_pos ⟨List.length_pos_iff.1 (by omega), List.all_eq_true.2 hdig, by omega⟩]
    rw [hn]
    repeat' first | refine st ?_ | (refine nw ?_; intro _) | refine kn ?_ | (refine sp ?_ ?_ <;> intro _) | fail
    exact GQ.pure2 rfl (.tmp rfl) (.tmp rfl) rfl
theorem decT : ∀ n < 10, ((([48, 49, 50, 51, 52, 53, 54, 55, 56, 57] : List UInt8).drop n).take (n + 1 - n)) = [UInt8.ofNat (48 + n)] := by decide
theorem Text_spec (n : Nat) (hn : n ≤ 9223372036854775807) : T Tryz.prog W0 78 #[.int .i64 (n : Int)] F (fun v H' => v = S (itoa (n : Int)) ∧ H' = F) := by
  induction n using Nat.strongRecOn generalizing F with
  | _ n ih =>
    have e1 : ∀ m : Nat, itoa (m : Int) = decDigits m := fun m => by rw [itoa, if_neg (by omega)]; rfl
    rw [e1]
    refine T.intro (args := [_]) Tryz.func78 rfl Tryz.ntmps78 rfl ?_
    by_cases h : n < 10
    · have hl10 : ([48, 49, 50, 51, 52, 53, 54, 55, 56, 57] : List UInt8).length = 10 := rfl
      rw [decDigits, dif_pos h]
      repeat' first | refine st ?_ | (refine nw ?_; intro _) | refine kn ?_ | (refine sp ?_ ?_ <;> intro _) | fail
      exact GQ.pure1 rfl (.tmp rfl) (congrArg S (decT n h))
    · have hd : decDigits n = decDigits (n / 10) ++ decDigits (n % 10) := by
        conv => lhs; rw [decDigits, dif_neg h]
        congr 1
        rw [decDigits, dif_pos (by omega)]
      have hlen : ∀ u, u ≤ 9223372036854775807 → (decDigits u).length ≤ 19 := fun u hu => dec_len 19 u (by omega) (by omega)
      have hl1 := hlen (n / 10) (by omega)
      have hl2 := hlen (n % 10) (by omega)
      repeat' first | refine st ?_ | (refine nw ?_; intro _) | refine kn ?_ | (refine sp ?_ ?_ <;> intro _) | fail
      refine G.ef rfl rfl rfl (Eff.callF rfl ((ih (n / 10) (by omega) (by omega)).mono ?_))
      rintro v H' ⟨rfl, rfl⟩
      rw [e1]
      repeat' first | refine st ?_ | (refine nw ?_; intro _) | refine kn ?_ | (refine sp ?_ ?_ <;> intro _) | fail
      refine G.ef rfl rfl rfl (Eff.callF rfl ((ih (n % 10) (by omega) (by omega)).mono ?_))
      rintro v H' ⟨rfl, rfl⟩
      rw [e1]
      repeat' first | refine st ?_ | (refine nw ?_; intro _) | refine kn ?_ | (refine sp ?_ ?_ <;> intro _) | fail
      exact GQ.pure1 rfl (.tmp rfl) (by rw [hd])
instance {l : List UInt8} : PureF Tryz.prog W0 41 [S l] (l.length ≤ 140737488351232) (S (l.map lowB)) := ⟨fun h _ => Lower_spec l h⟩
instance {l : List UInt8} {m : Int} : PureF Tryz.prog W0 104 [S l, .int .i64 m] (l.length ≤ 140737488351232) (okV (number l m)) := ⟨fun h _ => Number_spec l m h⟩
instance {l : List UInt8} : PureF Tryz.prog W0 105 [S l] (l.length ≤ 140737488351232) (okV (hexR l)) := ⟨fun h _ => Hex_spec l h⟩
instance {n : Nat} : PureF Tryz.prog W0 78 [.int .i64 (n : Int)] (n ≤ 9223372036854775807) (S (itoa (n : Int))) := ⟨fun h _ => Text_spec n h⟩
end
end Go.Rfn
