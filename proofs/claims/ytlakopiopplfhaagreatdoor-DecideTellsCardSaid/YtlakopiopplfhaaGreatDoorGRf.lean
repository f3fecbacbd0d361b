/-
  THE DOCUMENT'S ANSWERS, letters and digits: they answer as package ascii's functions do.
  THE DOCUMENT'S ANSWERS, addresses read: they answer as package addr's functions do.
  THE DOCUMENT'S ANSWERS, addresses read: groups, and the whole.
-/
import Derived.Test.YtlakopiopplfhaaGreatDoorGNm
namespace Go.Rfn
open Go.Own Go.Proofs Go.RowKit Go.Lib Go.Asc Go.Adr Go.Nam
attribute [local irreducible] GC GQ G Rd Eff T
set_option maxRecDepth 20000
set_option maxHeartbeats 4000000
section
variable {W0 : World} {F : Heap}
theorem lower_spec (c : UInt8) : T Tryz.prog W0 205 #[.int .u8 (c.toNat : Int)] F (fun v H' => v = .int .u8 ((lowB c).toNat : Int) ∧ H' = F) := by
  have hc : c.toNat < 256 := c.toNat_lt
  refine T.intro (args := [_]) Tryz.func205 rfl Tryz.ntmps205 rfl ?_
  repeat' first | refine st ?_ | (refine nw ?_; intro _) | refine kn ?_ | (refine sp ?_ ?_ <;> intro _) | fail
  all_goals first
    | exact GQ.done1 rfl rfl ⟨by rw [lowB_no (by omega)], rfl⟩
    | exact GQ.done1 rfl rfl ⟨by rw [lowB_up (by omega)]; congr 1, rfl⟩
instance {c : UInt8} : PureF Tryz.prog W0 205 [.int .u8 (c.toNat : Int)] True (.int .u8 ((lowB c).toNat : Int)) := ⟨fun _ _ => lower_spec c⟩
theorem Lower_spec (l : List UInt8) (hl : l.length ≤ 140737488351232) : T Tryz.prog W0 165 #[S l] F (fun v H' => v = S (l.map lowB) ∧ H' = F) := by
  refine T.intro (args := [_]) Tryz.func165 rfl Tryz.ntmps165 rfl ?_
  repeat' first | refine st ?_ | (refine nw ?_; intro _) | refine kn ?_ | (refine sp ?_ ?_ <;> intro _) | fail
  refine G.ef rfl rfl rfl (Eff.bytesS rfl (by omega) (fun bk extra hx => ?_))
  repeat' first | refine st ?_ | (refine nw ?_; intro _) | refine kn ?_ | (refine sp ?_ ?_ <;> intro _) | fail
  have hm : (l.map lowB).length = l.length := List.length_map _
  refine GC.loopE (ι := { k : Nat // k ≤ l.length }) (fun i => [(4, .int .i64 (i.1 : Int))]) [(3, _)] (fun i => (bk, .cells (u8s ((l.map lowB).take i.1 ++ l.drop i.1) ++ extra).toArray 5 (l.length + extra.length, l.length + extra.length + 1)) :: F) (fun i => l.length - i.1) ⟨0, Nat.zero_le _⟩ ⟨rfl, rfl, trivial⟩ (fun _ h => h) ?_
  rintro ⟨k, hk⟩
  dsimp only [List.cons_append, List.nil_append] at hk ⊢
  by_cases hlt : k < l.length
  · have hg := half_get l (l.map lowB) hm k hlt
    have hcell : ((u8s ((l.map lowB).take k ++ l.drop k) ++ extra).toArray : Array Value)[0 + k * 1]? = some (.int .u8 ((l[k]).toNat : Int)) := by
      have hlen : ((l.map lowB).take k ++ l.drop k).length = l.length := by simp; omega
      rw [cell_u8s _ extra k (by omega)]
      have e1 : ((l.map lowB).take k ++ l.drop k)[k] = l[k] := Option.some.inj ((List.getElem?_eq_getElem _).symm.trans hg)
      rw [e1]
    repeat' first | refine st ?_ | (refine nw ?_; intro _) | refine kn ?_ | (refine sp ?_ ?_ <;> intro _) | fail
    refine G.rd (Rd.load rfl (cellH hcell)) rfl rfl ?_
    have hlen : ((l.map lowB).take k ++ l.drop k).length = l.length := by simp; omega
    repeat' first | refine st ?_ | (refine nw ?_; intro _) | refine kn ?_ | (refine sp ?_ ?_ <;> intro _) | fail
    refine GQ.back ⟨k + 1, by omega⟩ (by simp only; omega) ⟨rfl, rfl, trivial⟩ (fun w hw => ?_)
    rw [← half_set l (l.map lowB) hm k hlt (lowB l[k]) (by simp [hlt])]
    exact hw
  · obtain rfl : k = l.length := by omega
    repeat' first | refine st ?_ | (refine nw ?_; intro _) | refine kn ?_ | (refine sp ?_ ?_ <;> intro _) | fail
    rw [List.take_of_length_le (by omega), List.drop_length, List.append_nil]
    refine G.rd (Rd.strX rfl hm.symm) rfl rfl ?_
    repeat' first | refine st ?_ | (refine nw ?_; intro _) | refine kn ?_ | (refine sp ?_ ?_ <;> intro _) | fail
    exact GQ.pure1 rfl (.tmp rfl) rfl
theorem number_zero {l : List UInt8} {m : Int} (h : ¬ (l ≠ [] ∧ l.all (fun b => isDig b.toNat) = true ∧ l.length ≤ 18 ∧ ¬ (1 < l.length ∧ l.head? = some 48) ∧ (numOf l : Int) ≤ m)) : number l m = none := by
  unfold number; rw [if_neg h]
theorem head_zero {l : List UInt8} (h : 0 < l.length) : l.head? = some 48 ↔ (l[0]).toNat = 48 := by
  cases l with
  | nil => simp at h
  | cons a l =>
    simp only [List.head?_cons, Option.some.injEq, List.getElem_cons_zero]
    constructor
    · rintro rfl; rfl
    · intro h; exact UInt8.toNat_inj.1 h
theorem Number_spec (l : List UInt8) (most : Int) (hl : l.length ≤ 140737488351232) : T Tryz.prog W0 229 #[S l, .int .i64 most] F (fun v H' => v = okV (number l most) ∧ H' = F) := by
  refine T.intro (args := [_, _]) Tryz.func229 rfl Tryz.ntmps229 rfl ?_
  by_cases h0 : l.length < 1
  · rw [number_zero (fun h => by have := List.length_pos_iff.2 h.1; omega)]
    repeat' first | refine st ?_ | (refine nw ?_; intro _) | refine kn ?_ | (refine sp ?_ ?_ <;> intro _) | fail
    exact GQ.pure2 rfl (.tmp rfl) (.tmp rfl) rfl
  by_cases h18 : 18 < l.length
  · rw [number_zero (fun h => by omega)]
    repeat' first | refine st ?_ | (refine nw ?_; intro _) | refine kn ?_ | (refine sp ?_ ?_ <;> intro _) | fail
    exact GQ.pure2 rfl (.tmp rfl) (.tmp rfl) rfl
  have hz0 := head_zero (l := l) (by omega)
  by_cases hz : 1 < l.length ∧ (l[0]).toNat = 48
  · obtain ⟨hz1, hz2⟩ := hz
    rw [number_zero (fun h => h.2.2.2.1 ⟨hz1, hz0.2 hz2⟩)]
    repeat' first | refine st ?_ | (refine nw ?_; intro _) | refine kn ?_ | (refine sp ?_ ?_ <;> intro _) | fail
    exact GQ.pure2 rfl (.tmp rfl) (.tmp rfl) rfl
  have hz1 : 1 < l.length → (l[0]).toNat ≠ 48 := fun h1 h2 => hz ⟨h1, h2⟩
  have hloop : ∀ e, Sub [(0, S l), (1, .int .i64 most), (6, .int .i64 0), (7, .int .i64 0)] e → True := fun _ _ => trivial
  clear hloop
  repeat' first | refine st ?_ | (refine nw ?_; intro _) | refine kn ?_ | (refine sp ?_ ?_ <;> intro _) | fail
  all_goals
    refine GC.loopE (ι := { k : Nat // k ≤ l.length ∧ ∀ b ∈ l.take k, isDig b.toNat = true }) (fun i => [(6, .int .i64 (numOf (l.take i.1) : Int)), (7, .int .i64 (i.1 : Int))]) [(0, _), (1, _)] (fun i => F) (fun i => l.length - i.1) ⟨0, Nat.zero_le _, by simp⟩ ⟨rfl, rfl, rfl, rfl, trivial⟩ (fun _ h => h) ?_
    rintro ⟨k, hk, hdig⟩
    dsimp only [List.cons_append, List.nil_append] at hk hdig ⊢
    have hnb := numOf_lt (l.take k) hdig
    have hnb2 : numOf (l.take k) < 10 ^ 18 := Nat.lt_of_lt_of_le hnb (Nat.pow_le_pow_right (by omega) (by rw [List.length_take]; omega))
    have hnb3 : numOf (l.take k) < 1000000000000000000 := hnb2
    clear hnb2
    by_cases hlt : k < l.length
    · have hc := (l[k]).toNat_lt
      have hnb4 : numOf (l.take k) < 10 ^ 17 := Nat.lt_of_lt_of_le hnb (Nat.pow_le_pow_right (by omega) (by rw [List.length_take]; omega))
      have hnb5 : numOf (l.take k) < 100000000000000000 := hnb4
      clear hnb hnb4
      by_cases hd : isDig (l[k]).toNat = true
      · have hd2 := dig_bounds.1 hd
        have hts := List.take_succ_eq_append_getElem hlt
        have hs : (10 * (numOf (l.take k) : Int) + (((l[k]).toNat : Int) - 48)) = (numOf (l.take (k + 1)) : Int) := by
          rw [hts, numOf_snoc]; omega
        repeat' first | refine st ?_ | (refine nw ?_; intro _) | refine kn ?_ | (refine sp ?_ ?_ <;> intro _) | fail
        simp only [hs]
        refine GQ.back ⟨k + 1, by omega, ?_⟩ (by simp only; omega) ⟨rfl, rfl, rfl, rfl, trivial⟩ (fun w hw => hw)
        rw [hts]
        intro b hb
        rcases List.mem_append.1 hb with hb | hb
        · exact hdig b hb
        · simp only [List.mem_singleton] at hb; subst hb; exact hd
      · have hd2 : ¬ (48 ≤ (l[k]).toNat ∧ (l[k]).toNat ≤ 57) := fun h => hd (dig_bounds.2 h)
        rw [number_zero (fun h => hd (List.all_eq_true.1 h.2.1 l[k] (by simp)))]
        repeat' first | refine st ?_ | (refine nw ?_; intro _) | refine kn ?_ | (refine sp ?_ ?_ <;> intro _) | fail
        all_goals first | (exfalso; omega) | exact GQ.pure2 rfl (.tmp rfl) (.tmp rfl) rfl
    · obtain rfl : k = l.length := by omega
      clear hnb
      rw [List.take_length] at hdig hnb3 ⊢
      by_cases hm : (numOf l : Int) ≤ most
      · have hn : number l most = some (numOf l) := by
          unfold number
          rw [if_pos ⟨List.length_pos_iff.1 (by omega), List.all_eq_true.2 hdig, by omega, fun h => hz ⟨h.1, hz0.1 h.2⟩, hm⟩]
        rw [hn]
        repeat' first | refine st ?_ | (refine nw ?_; intro _) | refine kn ?_ | (refine sp ?_ ?_ <;> intro _) | fail
        exact GQ.pure2 rfl (.tmp rfl) (.tmp rfl) rfl
      · rw [number_zero (fun h => hm h.2.2.2.2)]
        repeat' first | refine st ?_ | (refine nw ?_; intro _) | refine kn ?_ | (refine sp ?_ ?_ <;> intro _) | fail
        exact GQ.pure2 rfl (.tmp rfl) (.tmp rfl) rfl
theorem hexDig (c : UInt8) : 48 ≤ (lowB c).toNat ∧ (lowB c).toNat ≤ 57 → isHex c = true ∧ (hx c) = ((lowB c).toNat : Int) - 48 :=
  byte_all (p := fun c => 48 ≤ (lowB c).toNat ∧ (lowB c).toNat ≤ 57 → isHex c = true ∧ (hx c) = ((lowB c).toNat : Int) - 48) (by decide +kernel) c
theorem hexLet (c : UInt8) : 97 ≤ (lowB c).toNat ∧ (lowB c).toNat ≤ 102 → isHex c = true ∧ (hx c) = ((lowB c).toNat : Int) - 97 + 10 :=
  byte_all (p := fun c => 97 ≤ (lowB c).toNat ∧ (lowB c).toNat ≤ 102 → isHex c = true ∧ (hx c) = ((lowB c).toNat : Int) - 97 + 10) (by decide +kernel) c
theorem hexNo (c : UInt8) : ¬ (48 ≤ (lowB c).toNat ∧ (lowB c).toNat ≤ 57) ∧ ¬ (97 ≤ (lowB c).toNat ∧ (lowB c).toNat ≤ 102) → isHex c = false :=
  byte_all (p := fun c => ¬ (48 ≤ (lowB c).toNat ∧ (lowB c).toNat ≤ 57) ∧ ¬ (97 ≤ (lowB c).toNat ∧ (lowB c).toNat ≤ 102) → isHex c = false) (by decide +kernel) c
theorem hexR_no {l : List UInt8} (h : ¬ (l ≠ [] ∧ l.all isHex = true ∧ l.length ≤ 4)) : hexR l = none := by unfold hexR; rw [if_neg h]
theorem Hex_spec (l : List UInt8) (hl : l.length ≤ 140737488351232) : T Tryz.prog W0 230 #[S l] F (fun v H' => v = okV (hexR l) ∧ H' = F) := by
  refine T.intro (args := [_]) Tryz.func230 rfl Tryz.ntmps230 rfl ?_
  by_cases h0 : l.length < 1
  · rw [hexR_no (fun h => by have := List.length_pos_iff.2 h.1; omega)]
    repeat' first | refine st ?_ | (refine nw ?_; intro _) | refine kn ?_ | (refine sp ?_ ?_ <;> intro _) | fail
    exact GQ.pure2 rfl (.tmp rfl) (.tmp rfl) rfl
  by_cases h4 : 4 < l.length
  · rw [hexR_no (fun h => by omega)]
    repeat' first | refine st ?_ | (refine nw ?_; intro _) | refine kn ?_ | (refine sp ?_ ?_ <;> intro _) | fail
    exact GQ.pure2 rfl (.tmp rfl) (.tmp rfl) rfl
  repeat' first | refine st ?_ | (refine nw ?_; intro _) | refine kn ?_ | (refine sp ?_ ?_ <;> intro _) | fail
  refine GC.loopE (ι := { k : Nat // k ≤ l.length ∧ ∀ b ∈ l.take k, isHex b = true }) (fun i => [(4, .int .i64 (hexOf (l.take i.1) : Int)), (5, .int .i64 (i.1 : Int))]) [(0, _)] (fun i => F) (fun i => l.length - i.1) ⟨0, Nat.zero_le _, by simp⟩ ⟨rfl, rfl, rfl, trivial⟩ (fun _ h => h) ?_
  rintro ⟨k, hk, hdig⟩
  dsimp only [List.cons_append, List.nil_append] at hk hdig ⊢
  have hnb2 : hexOf (l.take k) < 16 ^ 4 := Nat.lt_of_lt_of_le (hexOf_lt (l.take k)) (Nat.pow_le_pow_right (by omega) (by rw [List.length_take]; omega))
  have hnb3 : hexOf (l.take k) < 65536 := hnb2
  clear hnb2
  by_cases hlt : k < l.length
  · have hts := List.take_succ_eq_append_getElem hlt
    have hmem : isHex l[k] = true → ∀ b ∈ l.take (k + 1), isHex b = true := fun h b hb => by
      rw [hts] at hb
      rcases List.mem_append.1 hb with hb | hb
      · exact hdig b hb
      · simp only [List.mem_singleton] at hb; subst hb; exact h
    have hc := (lowB l[k]).toNat_lt
    by_cases hd : 48 ≤ (lowB l[k]).toNat ∧ (lowB l[k]).toNat ≤ 57
    · have hd2 := hexDig l[k] hd
      have hs : (16 * (hexOf (l.take k) : Int) + (((lowB l[k]).toNat : Int) - 48)) = (hexOf (l.take (k + 1)) : Int) := by
        rw [hts, hexOf_snoc, hd2.2]; omega
      repeat' first | refine st ?_ | (refine nw ?_; intro _) | refine kn ?_ | (refine sp ?_ ?_ <;> intro _) | fail
      simp only [hs]
      exact GQ.back ⟨k + 1, by omega, hmem hd2.1⟩ (by simp only; omega) ⟨rfl, rfl, rfl, trivial⟩ (fun w hw => hw)
    by_cases hd' : 97 ≤ (lowB l[k]).toNat ∧ (lowB l[k]).toNat ≤ 102
    · have hd2 := hexLet l[k] hd'
      have hs : (16 * (hexOf (l.take k) : Int) + (((lowB l[k]).toNat : Int) - 97) + 10) = (hexOf (l.take (k + 1)) : Int) := by
        rw [hts, hexOf_snoc, hd2.2]; omega
      repeat' first | refine st ?_ | (refine nw ?_; intro _) | refine kn ?_ | (refine sp ?_ ?_ <;> intro _) | fail
      all_goals first
        | (exfalso; omega)
        | (simp only [hs]; exact GQ.back ⟨k + 1, by omega, hmem hd2.1⟩ (by simp only; omega) ⟨rfl, rfl, rfl, trivial⟩ (fun w hw => hw))
    · have hno := hexNo l[k] ⟨hd, hd'⟩
      rw [hexR_no (fun h => by have := List.all_eq_true.1 h.2.1 l[k] (by simp); rw [hno] at this; cases this)]
      repeat' first | refine st ?_ | (refine nw ?_; intro _) | refine kn ?_ | (refine sp ?_ ?_ <;> intro _) | fail
      all_goals first | (exfalso; omega) | exact GQ.pure2 rfl (.tmp rfl) (.tmp rfl) rfl
  · obtain rfl : k = l.length := by omega
    rw [List.take_length] at hdig hnb3 ⊢
    have hn : hexR l = some (hexOf l) := by
      unfold hexR
      rw [if_pos ⟨List.length_pos_iff.1 (by omega), List.all_eq_true.2 hdig, by omega⟩]
    rw [hn]
    repeat' first | refine st ?_ | (refine nw ?_; intro _) | refine kn ?_ | (refine sp ?_ ?_ <;> intro _) | fail
    exact GQ.pure2 rfl (.tmp rfl) (.tmp rfl) rfl
theorem decT : ∀ n < 10, ((([48, 49, 50, 51, 52, 53, 54, 55, 56, 57] : List UInt8).drop n).take (n + 1 - n)) = [UInt8.ofNat (48 + n)] := by decide
theorem Text_spec (n : Nat) (hn : n ≤ 9223372036854775807) : T Tryz.prog W0 202 #[.int .i64 (n : Int)] F (fun v H' => v = S (itoa (n : Int)) ∧ H' = F) := by
  induction n using Nat.strongRecOn generalizing F with
  | _ n ih =>
    have e1 : ∀ m : Nat, itoa (m : Int) = decDigits m := fun m => by rw [itoa, if_neg (by omega)]; rfl
    rw [e1]
    refine T.intro (args := [_]) Tryz.func202 rfl Tryz.ntmps202 rfl ?_
    by_cases h : n < 10
    · have hl10 : ([48, 49, 50, 51, 52, 53, 54, 55, 56, 57] : List UInt8).length = 10 := rfl
      rw [decDigits, dif_pos h]
      repeat' first | refine st ?_ | (refine nw ?_; intro _) | refine kn ?_ | (refine sp ?_ ?_ <;> intro _) | fail
      exact GQ.pure1 rfl (.tmp rfl) (congrArg S (decT n h))
    · have hd : decDigits n = decDigits (n / 10) ++ decDigits (n % 10) := by
        conv => lhs; rw [decDigits, dif_neg h]
        congr 1
        rw [decDigits, dif_pos (by omega)]
      have hlen : ∀ u, u ≤ 9223372036854775807 → (decDigits u).length ≤ 19 := fun u hu => dec_len 19 u (by omega) (by omega)
      have hl1 := hlen (n / 10) (by omega)
      have hl2 := hlen (n % 10) (by omega)
      repeat' first | refine st ?_ | (refine nw ?_; intro _) | refine kn ?_ | (refine sp ?_ ?_ <;> intro _) | fail
      refine G.ef rfl rfl rfl (Eff.callF rfl ((ih (n / 10) (by omega) (by omega)).mono ?_))
      rintro v H' ⟨rfl, rfl⟩
      rw [e1]
      repeat' first | refine st ?_ | (refine nw ?_; intro _) | refine kn ?_ | (refine sp ?_ ?_ <;> intro _) | fail
      refine G.ef rfl rfl rfl (Eff.callF rfl ((ih (n % 10) (by omega) (by omega)).mono ?_))
      rintro v H' ⟨rfl, rfl⟩
      rw [e1]
      repeat' first | refine st ?_ | (refine nw ?_; intro _) | refine kn ?_ | (refine sp ?_ ?_ <;> intro _) | fail
      exact GQ.pure1 rfl (.tmp rfl) (by rw [hd])
instance {l : List UInt8} : PureF Tryz.prog W0 165 [S l] (l.length ≤ 140737488351232) (S (l.map lowB)) := ⟨fun h _ => Lower_spec l h⟩
instance {l : List UInt8} {m : Int} : PureF Tryz.prog W0 229 [S l, .int .i64 m] (l.length ≤ 140737488351232) (okV (number l m)) := ⟨fun h _ => Number_spec l m h⟩
instance {l : List UInt8} : PureF Tryz.prog W0 230 [S l] (l.length ≤ 140737488351232) (okV (hexR l)) := ⟨fun h _ => Hex_spec l h⟩
instance {n : Nat} : PureF Tryz.prog W0 202 [.int .i64 (n : Int)] (n ≤ 9223372036854775807) (S (itoa (n : Int))) := ⟨fun h _ => Text_spec n h⟩
end
end Go.Rfn

namespace Go.Rfn
open Go.Own Go.Proofs Go.RowKit Go.Lib Go.Asc Go.Adr Go.Nam
attribute [local irreducible] GC GQ G Rd Eff T
set_option maxRecDepth 20000
set_option maxHeartbeats 4000000
theorem Buf.ofS (el b : Nat) (xs : List (List UInt8)) (h : xs.length ≤ 9223372036854775807) : Buf el 1 (.slice (some ⟨b, 0, none⟩) xs.length xs.length) xs.length (strs xs) [(b, .cells (strs xs).toArray el (0, 0))] := by
  have := Buf.row (el := el) (size := 1) b xs.length xs.length (strs xs) [] (by rw [strs_length, Nat.mul_one]) (by simp [strs_length]) (Nat.le_refl _) h
  simpa using this
theorem set_last {xs : List (List UInt8)} (h : xs ≠ []) (x : List UInt8) : xs.set (xs.length - 1) x = xs.dropLast ++ [x] := by
  obtain ⟨ys, y, rfl⟩ : ∃ ys y, xs = ys ++ [y] := ⟨xs.dropLast, xs.getLast h, (List.dropLast_concat_getLast h).symm⟩
  simp
section
variable {W0 : World} {F : Heap}
theorem Cut_spec (l : List UInt8) (c : UInt8) (hl : l.length ≤ 8796093022207) : T Tryz.prog W0 166 #[S l, .int .u8 (c.toNat : Int)] F
    (fun v H' => ∃ B, Buf 9 1 v (splitB c l).length (strs (splitB c l)) B ∧ H' = B ++ F) := by
  refine T.intro (args := [_, _]) Tryz.func166 rfl Tryz.ntmps166 rfl ?_
  repeat' first | refine st ?_ | (refine nw ?_; intro _) | refine kn ?_ | (refine sp ?_ ?_ <;> intro _) | fail
  refine G.ef rfl rfl rfl (Eff.buildSlice (cells := (strs [[]]).toArray) rfl (by kernel_rfl) (by omega) (fun b2 => ?_))
  refine G.heap (H' := [(b2, .cells (strs [[]]).toArray 9 (0, 0))] ++ F) ?_ (fun _ h => h)
  repeat' first | refine st ?_ | (refine nw ?_; intro _) | refine kn ?_ | (refine sp ?_ ?_ <;> intro _) | fail
  refine GC.loopE (ι := { q : Nat × Value × Heap // q.1 ≤ l.length ∧ Buf 9 1 q.2.1 (splitB c (l.take q.1)).length (strs (splitB c (l.take q.1))) q.2.2 }) (fun i => [(5, i.1.2.1), (6, .int .i64 (i.1.1 : Int))]) [(0, _), (1, _)] (fun i => i.1.2.2 ++ F) (fun i => l.length - i.1.1) ⟨(0, _, _), Nat.zero_le _, Buf.ofS 9 b2 [[]] (by decide)⟩ ⟨rfl, rfl, rfl, rfl, trivial⟩ (fun _ h => h) ?_
  rintro ⟨⟨k, v, B⟩, hk, hb⟩
  dsimp only [List.cons_append, List.nil_append] at hk hb ⊢
  have hsl : (splitB c (l.take k)).length ≤ k + 1 := by
    rw [splitB_length]; have := List.count_le_length (a := c) (l := l.take k); rw [List.length_take] at this; omega
  by_cases hlt : k < l.length
  · have hts := List.take_succ_eq_append_getElem hlt
    have hc := (l[k]).toNat_lt
    have hc2 := c.toNat_lt
    by_cases he : l[k] = c
    · have he2 : (l[k]).toNat = c.toNat := by rw [he]
      have hn : splitB c (l.take (k + 1)) = splitB c (l.take k) ++ [[]] := by
        rw [hts, he, show l.take k ++ [c] = l.take k ++ c :: [] from rfl, splitB_append]; rfl
      repeat' first | refine st ?_ | (refine nw ?_; intro _) | refine kn ?_ | (refine sp ?_ ?_ <;> intro _) | fail
      refine G.ef rfl rfl rfl (Eff.buildSlice (cells := (strs [[]]).toArray) rfl (by kernel_rfl) (by omega) (fun b3 => ?_))
      refine G.heap (H' := (b3, .cells (strs [[]]).toArray 9 (0, 0)) :: (B ++ F)) ?_ (fun _ h => h)
      refine G.ef rfl rfl rfl (Eff.appendS (ys := [[]]) (B := B) rfl hb rfl List.perm_middle.symm at_here (by simp only [List.length_singleton]; omega) (fun v2 B2 hb2 => ?_))
      rw [← hn] at hb2
      repeat' first | refine st ?_ | (refine nw ?_; intro _) | refine kn ?_ | (refine sp ?_ ?_ <;> intro _) | fail
      exact GQ.back ⟨(k + 1, v2, B2), by omega, hb2⟩ (by simp only; omega) ⟨rfl, rfl, rfl, rfl, trivial⟩ (fun w hw => hw.sub SubH.out)
    · have he2 : (l[k]).toNat ≠ c.toNat := fun h => he (UInt8.toNat_inj.1 h)
      have hn : splitB c (l.take (k + 1)) = (splitB c (l.take k)).dropLast ++ [(splitB c (l.take k)).getLast?.getD [] ++ [l[k]]] := by
        rw [hts, splitB_snoc he]
      have hne := splitB_ne c (l.take k)
      have hle : ∀ x ∈ splitB c (l.take k), x.length ≤ l.length := fun x hx => by
        have := splitB_le c (l.take k) x hx; rw [List.length_take] at this; omega
      generalize splitB c (l.take k) = os at hb hn hne hsl hle
      have hpos := List.length_pos_iff.2 hne
      have hlast : os.getLast?.getD [] = os[os.length - 1] := by rw [List.getLast?_eq_getElem?, List.getElem?_eq_getElem (by omega)]; rfl
      have hlm := hle os[os.length - 1] (by simp)
      rcases Buf.parts hb with ⟨_, h0, _, _⟩ | ⟨b, cap, extra, rfl, rfl, hcap, hx, hmax⟩
      · omega
      have hw1 : (l.drop k).take (k + 1 - k) = [l[k]] := by
        rw [show k + 1 - k = 1 by omega, List.drop_eq_getElem_cons hlt]; rfl
      have hlen1 : ((l.drop k).take (k + 1 - k)).length = 1 := by rw [hw1]; rfl
      repeat' first | refine st ?_ | (refine nw ?_; intro _) | refine kn ?_ | (refine sp ?_ ?_ <;> intro _) | fail
      have hi : LeN 1 os.length := ⟨hpos⟩
      refine GC.drawnH [(0, .read), (1, .read), (2, .read), (3, .read), (4, .read), (5, .read), (6, .read), (7, .read), (8, .read), (9, .read), (10, .read), (11, .read), (12, .read), (13, .read), (14, .read), (15, .read), (16, .read), (17, .tail)] (by kernel_rfl) (by kernel_rfl) rfl ?_
      repeat' first | refine st ?_ | (refine nw ?_; intro _) | refine kn ?_ | (refine sp ?_ ?_ <;> intro _) | fail
      refine GQ.back ⟨(k + 1, _, [(b, .cells (strs (os.set (os.length - 1) (os[os.length - 1] ++ (l.drop k).take (k + 1 - k))) ++ extra).toArray 9 (0, 0))]), by omega, ?_⟩ (by simp only; omega) ⟨rfl, rfl, rfl, rfl, trivial⟩ (fun w hw => ?_)
      · have hos : os.set (os.length - 1) (os[os.length - 1] ++ (l.drop k).take (k + 1 - k)) = splitB c (l.take (k + 1)) := by
          rw [hn, hw1, hlast, set_last hne]
        simp only [hos]
        have hlen2 : (splitB c (l.take (k + 1))).length = os.length := by rw [← hos, List.length_set]
        rw [hlen2]
        exact Buf.row b os.length cap _ _ (by rw [strs_length, hlen2, Nat.mul_one]) (by rw [strs_length, hlen2]; rw [strs_length] at hx; exact hx) hcap hmax
      · dsimp only
        rw [← strs_set os extra (os.length - 1) (by omega)]
        exact hw
  · obtain rfl : k = l.length := by omega
    rw [List.take_length] at hb
    repeat' first | refine st ?_ | (refine nw ?_; intro _) | refine kn ?_ | (refine sp ?_ ?_ <;> intro _) | fail
    exact GQ.done1 rfl rfl ⟨B, hb, rfl⟩
theorem atB {el n : Nat} {v : Value} {l : List UInt8} {B : Heap} (h : Buf el 1 v n (u8s l) B) : ∃ p cap, v = .slice p l.length cap ∧ l.length ≤ cap ∧ ∀ (X Y : Heap) w, Own W0 (X ++ (B ++ Y)) w → At w p (u8s l) := by
  obtain ⟨_, p, cap, h1, h2, _, h3⟩ := Buf.bytes h
  exact ⟨p, cap, h1, h2, fun X Y w hw => h3 W0 w (hw.sub ((List.sublist_append_left B Y).trans (List.sublist_append_right X _)))⟩
/-- What dotted answers. -/
inductive DotR (el : TypeId) : Option (List UInt8) → Value → Heap → Prop
  | some (q : List UInt8) (v : Value) (B : Heap) (h4 : q.length = 4) (h : Buf el 1 v q.length (u8s q) B) : DotR el (some q) (.tuple #[v, .bool true]) B
  | none : DotR el none (.tuple #[.slice none 0 0, .bool false]) []
theorem dotted_spec (l : List UInt8) (hl : l.length ≤ 8796093022207) : T Tryz.prog W0 198 #[S l] F (fun v H' => ∃ B, DotR 5 (dot l) v B ∧ H' = B ++ F) := by
  refine T.intro (args := [_]) Tryz.func198 rfl Tryz.ntmps198 rfl ?_
  repeat' first | refine st ?_ | (refine nw ?_; intro _) | refine kn ?_ | (refine sp ?_ ?_ <;> intro _) | fail
  refine G.ef rfl rfl rfl (Eff.callF rfl ((Cut_spec l 46 hl).mono ?_))
  rintro v H' ⟨B, hb, rfl⟩
  have hple : ∀ x ∈ splitB 46 l, x.length ≤ l.length := splitB_le 46 l
  have hdot : dot l = if (splitB 46 l).length = 4 ∧ (splitB 46 l).all isNum = true then some ((splitB 46 l).map numB) else none := rfl
  have hpl : (splitB 46 l).length ≤ l.length + 1 := by rw [splitB_length]; have := List.count_le_length (a := (46 : UInt8)) (l := l); omega
  rw [hdot]
  have hne := splitB_ne 46 l
  generalize Asc.splitB 46 l = ps at hb hple hpl hne ⊢
  rcases Buf.parts hb with ⟨_, h0, _, _⟩ | ⟨b, cap, extra, rfl, rfl, hcap, hx, hmax⟩
  · exact absurd (List.eq_nil_of_length_eq_zero h0) hne
  by_cases h4 : ps.length = 4
  · repeat' first | refine st ?_ | (refine nw ?_; intro _) | refine kn ?_ | (refine sp ?_ ?_ <;> intro _) | fail
    refine GC.loopE (ι := { q : Nat × List UInt8 × Value × Heap // q.1 ≤ 4 ∧ q.2.1.length = q.1 ∧ Buf 5 1 q.2.2.1 q.2.1.length (u8s q.2.1) q.2.2.2 ∧ (ps.take q.1).all isNum = true ∧ (ps.take q.1).map numB = q.2.1 }) (fun i => [(5, i.1.2.2.1), (6, .int .i64 (i.1.1 : Int))]) [(4, _)] (fun i => i.1.2.2.2 ++ ((b, .cells (strs ps ++ extra).toArray 9 (0, 0)) :: F)) (fun i => 4 - i.1.1) ⟨(0, [], .slice none 0 0, []), by omega, rfl, .nil, by simp, by simp⟩ ⟨rfl, rfl, rfl, trivial⟩ (fun _ h => h) ?_
    rintro ⟨⟨k, out, vo, B⟩, hk, hol, hbo, hall, hmap⟩
    dsimp only [List.cons_append, List.nil_append] at hk hol hbo hall hmap ⊢
    by_cases hlt : k < 4
    · have hkp : k < ps.length := by omega
      have hts := List.take_succ_eq_append_getElem hkp
      have hpk := hple ps[k] (by simp)
      cases hn : number ps[k] 255 with
      | none =>
        have hbad : ¬ (ps.length = 4 ∧ ps.all isNum = true) := fun h => by
          have := List.all_eq_true.1 h.2 ps[k] (by simp)
          rw [isNum, hn] at this; cases this
        rw [if_neg hbad]
        repeat' first | refine st ?_ | (refine nw ?_; intro _) | refine kn ?_ | (refine sp ?_ ?_ <;> intro _) | fail
        simp only [hn, okV]
        repeat' first | refine st ?_ | (refine nw ?_; intro _) | refine kn ?_ | (refine sp ?_ ?_ <;> intro _) | fail
        exact GQ.res2h rfl (.tmp rfl) (.tmp rfl) F (fun w hw => hw.sub SubH.out) ⟨[], .none, rfl⟩
      | some n =>
        have hn1 := number_le hn
        repeat' first | refine st ?_ | (refine nw ?_; intro _) | refine kn ?_ | (refine sp ?_ ?_ <;> intro _) | fail
        simp only [hn, okV]
        repeat' first | refine st ?_ | (refine nw ?_; intro _) | refine kn ?_ | (refine sp ?_ ?_ <;> intro _) | fail
        have hc8 : (n : Int) = ((numB ps[k]).toNat : Int) := by rw [hn1.2.2]
        simp only [hc8]
        refine G.ef rfl rfl rfl (Eff.buildSlice (cells := (u8s [numB ps[k]]).toArray) rfl (by kernel_rfl) (by omega) (fun b2 => ?_))
        refine G.ef rfl rfl rfl (Eff.appU (ys := [numB ps[k]]) (B := B) rfl hbo rfl at_here (by simp only [List.length_singleton]; omega) (fun v2 B2 hb2 => ?_))
        repeat' first | refine st ?_ | (refine nw ?_; intro _) | refine kn ?_ | (refine sp ?_ ?_ <;> intro _) | fail
        refine GQ.back ⟨(k + 1, out ++ [numB ps[k]], v2, B2), by omega, by simp [hol], hb2, ?_, ?_⟩ (by simp only; omega) ⟨rfl, rfl, rfl, trivial⟩ (fun w hw => hw.sub SubH.out)
        · rw [hts, List.all_append, hall]; simp [isNum, hn]
        · rw [hts, List.map_append, hmap]; rfl
    · obtain rfl : k = 4 := by omega
      rw [← h4, List.take_length] at hall hmap
      rw [if_pos ⟨h4, hall⟩, hmap]
      repeat' first | refine st ?_ | (refine nw ?_; intro _) | refine kn ?_ | (refine sp ?_ ?_ <;> intro _) | fail
      exact GQ.res2h rfl (.tmp rfl) (.tmp rfl) (B ++ F) (fun w hw => hw.sub SubH.out) ⟨B, .some out _ _ (by omega) hbo, rfl⟩
  · rw [if_neg (fun h => h4 h.1)]
    repeat' first | refine st ?_ | (refine nw ?_; intro _) | refine kn ?_ | (refine sp ?_ ?_ <;> intro _) | fail
    exact GQ.res2h rfl (.tmp rfl) (.tmp rfl) F (fun w hw => hw.sub SubH.out) ⟨[], .none, rfl⟩
end
end Go.Rfn

namespace Go.Rfn
open Go.Own Go.Proofs Go.RowKit Go.Lib Go.Asc Go.Adr Go.Nam
attribute [local irreducible] GC GQ G Rd Eff T
set_option maxRecDepth 20000
set_option maxHeartbeats 4000000
section
variable {W0 : World} {F : Heap}
theorem groups_spec (l : List UInt8) (may : Bool) (hl : l.length ≤ 8796093022207) : T Tryz.prog W0 200 #[S l, .bool may] F
    (fun v H' => ∃ B, ReadR 5 (readL may l) v B ∧ H' = B ++ F) := by
  refine T.intro (args := [_, _]) Tryz.func200 rfl Tryz.ntmps200 rfl ?_
  by_cases hl0 : l = []
  · repeat' first | refine st ?_ | (refine nw ?_; intro _) | refine kn ?_ | (refine sp ?_ ?_ <;> intro _) | fail
    exact GQ.res2h rfl (.tmp rfl) (.tmp rfl) F (fun w hw => hw) ⟨[], by rw [readL, if_pos hl0]; exact .some [] _ _ .nil, rfl⟩
  have hple : ∀ x ∈ splitB 58 l, x.length ≤ l.length := splitB_le 58 l
  have hpl : (splitB 58 l).length ≤ l.length + 1 := by rw [splitB_length]; have := List.count_le_length (a := (58 : UInt8)) (l := l); omega
  have hread : readL may l = grp may (splitB 58 l) := by rw [readL, if_neg hl0]
  rw [hread]
  have hne := splitB_ne 58 l
  repeat' first | refine st ?_ | (refine nw ?_; intro _) | refine kn ?_ | (refine sp ?_ ?_ <;> intro _) | fail
  refine G.ef rfl rfl rfl (Eff.callF rfl ((Cut_spec l 58 hl).mono ?_))
  rintro v H' ⟨B, hb, rfl⟩
  clear hread
  generalize Asc.splitB 58 l = ps at hb hple hpl hne ⊢
  rcases Buf.parts hb with ⟨_, h0, _, _⟩ | ⟨bk, cap, extra, rfl, rfl, hcap, hx, hmax⟩
  · exact absurd (List.eq_nil_of_length_eq_zero h0) hne
  repeat' first | refine st ?_ | (refine nw ?_; intro _) | refine kn ?_ | (refine sp ?_ ?_ <;> intro _) | fail
  refine GC.loopE (ι := { q : Nat × List UInt8 × Value × Heap // q.1 ≤ ps.length ∧ Buf 5 1 q.2.2.1 q.2.1.length (u8s q.2.1) q.2.2.2 ∧ q.2.1.length ≤ 4 * q.1 ∧ grp may ps = (grp may (ps.drop q.1)).map (q.2.1 ++ ·) }) (fun i => [(7, i.1.2.2.1), (8, .int .i64 (i.1.1 : Int))]) [(1, _), (6, _)] (fun i => i.1.2.2.2 ++ ((bk, .cells (strs ps ++ extra).toArray 9 (0, 0)) :: F)) (fun i => ps.length - i.1.1) ⟨(0, [], .slice none 0 0, []), by simp, .nil, by simp, by simp⟩ ⟨rfl, rfl, rfl, rfl, trivial⟩ (fun _ h => h) ?_
  rintro ⟨⟨k, out, vo, B⟩, hk, hbuf, hol, hgrp⟩
  dsimp only [List.cons_append, List.nil_append] at hk hbuf hol hgrp ⊢
  by_cases hlt : k < ps.length
  · have hdrop : ps.drop k = ps[k] :: ps.drop (k + 1) := List.drop_eq_getElem_cons hlt
    have hpk := hple ps[k] (by simp)
    cases hn : hexR ps[k] with
    | some n =>
      have hn1 := hexR_lt hn
      repeat' first | refine st ?_ | (refine nw ?_; intro _) | refine kn ?_ | (refine sp ?_ ?_ <;> intro _) | fail
      simp only [hn, okV]
      repeat' first | refine st ?_ | (refine nw ?_; intro _) | refine kn ?_ | (refine sp ?_ ?_ <;> intro _) | fail
      have e1 : ((n / 256 : Nat) : Int) = ((UInt8.ofNat (n / 256)).toNat : Int) := by rw [UInt8.toNat_ofNat']; omega
      have e2 : ((n % 256 : Nat) : Int) = ((UInt8.ofNat (n % 256)).toNat : Int) := by rw [UInt8.toNat_ofNat']; omega
      simp only [e1, e2]
      refine G.ef rfl rfl rfl (Eff.buildSlice (cells := (u8s (two n)).toArray) rfl (by kernel_rfl) (by omega) (fun b2 => ?_))
      refine G.ef rfl rfl rfl (Eff.appU (ys := two n) (B := B) rfl hbuf rfl at_here (by show out.length + 2 ≤ _; omega) (fun v' B' hb' => ?_))
      repeat' first | refine st ?_ | (refine nw ?_; intro _) | refine kn ?_ | (refine sp ?_ ?_ <;> intro _) | fail
      refine GQ.back ⟨(k + 1, out ++ two n, v', B'), by omega, hb', by simp only [List.length_append]; show out.length + 2 ≤ _; omega, ?_⟩ (by simp only; omega) ⟨rfl, rfl, rfl, rfl, trivial⟩ (fun w hw => hw.sub SubH.out)
      rw [hgrp, hdrop, grp_some hn, Option.map_map]
      congr 1
      funext z
      simp
    | none =>
      repeat' first | refine st ?_ | (refine nw ?_; intro _) | refine kn ?_ | (refine sp ?_ ?_ <;> intro _) | fail
      simp only [hn, okV]
      repeat' first | refine st ?_ | (refine nw ?_; intro _) | refine kn ?_ | (refine sp ?_ ?_ <;> intro _) | fail
      refine G.ef rfl rfl rfl (Eff.callF rfl ((dotted_spec ps[k] (by omega)).mono ?_))
      rintro v H' ⟨B4, hd4, rfl⟩
      by_cases hd : (dot ps[k]).isSome = true ∧ may = true ∧ k + 1 = ps.length
      · obtain ⟨hd1, hd2, hd3⟩ := hd
        subst hd2
        obtain ⟨d, hdd⟩ := Option.isSome_iff_exists.1 hd1
        rw [hdd] at hd4
        cases hd4 with
        | some _ v4 _ h4 hb4 =>
          obtain ⟨p4, cap4, rfl, hc4, hat4⟩ := atB (W0 := W0) hb4
          repeat' first | refine st ?_ | (refine nw ?_; intro _) | refine kn ?_ | (refine sp ?_ ?_ <;> intro _) | fail
          refine G.ef rfl rfl rfl (Eff.appU (ys := d) (B := B) rfl hbuf rfl (fun w hw => hat4 [] _ w hw) (by omega) (fun v' B' hb' => ?_))
          repeat' first | refine st ?_ | (refine nw ?_; intro _) | refine kn ?_ | (refine sp ?_ ?_ <;> intro _) | fail
          refine GQ.back ⟨(k + 1, out ++ d, v', B'), by omega, hb', by simp only [List.length_append]; omega, ?_⟩ (by simp only; omega) ⟨rfl, rfl, rfl, rfl, trivial⟩ (fun w hw => hw.sub SubH.out)
          rw [hgrp, hdrop, grp_dot hn hdd rfl (List.drop_of_length_le (by omega)), List.drop_of_length_le (by omega)]
          simp [grp]
      · have hbad : grp may ps = none := by
          rw [hgrp, hdrop, grp_bad hn (fun h => hd ⟨h.1, h.2.1, by have := List.drop_eq_nil_iff.1 h.2.2; omega⟩)]; rfl
        rw [hbad]
        have fin : ∀ {Q : Prop}, Q → Q := fun h => h
        generalize hdo : dot ps[k] = od at hd4 hd
        cases hd4 with
        | none =>
          repeat' first | refine st ?_ | (refine nw ?_; intro _) | refine kn ?_ | (refine sp ?_ ?_ <;> intro _) | fail
          exact GQ.res2h rfl (.tmp rfl) (.tmp rfl) F (fun w hw => hw.sub SubH.out) ⟨[], .none, rfl⟩
        | some q v4 _ h4 hb4 =>
          cases may with
          | false =>
            repeat' first | refine st ?_ | (refine nw ?_; intro _) | refine kn ?_ | (refine sp ?_ ?_ <;> intro _) | fail
            exact GQ.res2h rfl (.tmp rfl) (.tmp rfl) F (fun w hw => hw.sub SubH.out) ⟨[], .none, rfl⟩
          | true =>
            have hne2 : k + 1 ≠ ps.length := fun h => hd ⟨rfl, rfl, h⟩
            repeat' first | refine st ?_ | (refine nw ?_; intro _) | refine kn ?_ | (refine sp ?_ ?_ <;> intro _) | fail
            exact GQ.res2h rfl (.tmp rfl) (.tmp rfl) F (fun w hw => hw.sub SubH.out) ⟨[], .none, rfl⟩
  · obtain rfl : k = ps.length := by omega
    repeat' first | refine st ?_ | (refine nw ?_; intro _) | refine kn ?_ | (refine sp ?_ ?_ <;> intro _) | fail
    refine GQ.res2h rfl (.tmp rfl) (.tmp rfl) (B ++ F) (fun w hw => hw.sub SubH.out) ⟨B, ?_, rfl⟩
    rw [hgrp, List.drop_length]
    simpa [grp] using ReadR.some out vo B hbuf
end
end Go.Rfn
