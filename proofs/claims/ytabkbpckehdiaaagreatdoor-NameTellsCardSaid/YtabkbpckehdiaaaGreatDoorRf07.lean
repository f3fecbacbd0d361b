/-
  THE DOCUMENT'S ANSWERS, addresses printed.
-/
import Derived.Test.YtabkbpckehdiaaaGreatDoorRf06
namespace Go.Rfn
open Go.Own Go.Proofs Go.RowKit Go.Lib Go.Asc Go.Adr Go.Nam
attribute [local irreducible] GC GQ G Rd Eff T
set_option maxRecDepth 20000
set_option maxHeartbeats 4000000
section
variable {W0 : World} {F : Heap}
theorem hexT : ∀ n < 16, ((([48, 49, 50, 51, 52, 53, 54, 55, 56, 57, 97, 98, 99, 100, 101, 102] : List UInt8).drop n).take (n + 1 - n)) = [hexC n] := by decide
theorem hex_spec (n : Nat) (hn : n < 65536) : T Tryz.prog W0 80 #[.int .i64 (n : Int)] F (fun v H' => v = S (hexL n) ∧ H' = F) := by
  induction n using Nat.strongRecOn generalizing F with
  | _ n ih =>
    refine T.intro (args := [_]) Tryz.func80 rfl Tryz.ntmps80 rfl ?_
    by_cases h : n < 16
    · have hl16 : ([48, 49, 50, 51, 52, 53, 54, 55, 56, 57, 97, 98, 99, 100, 101, 102] : List UInt8).length = 16 := rfl
      rw [hexL_small h]
      repeat' first | refine st ?_ | (refine nw ?_; intro _) | refine kn ?_ | (refine sp ?_ ?_ <;> intro _) | fail
      exact GQ.pure1 rfl (.tmp rfl) (congrArg S (hexT n h))
    · have hl1 := hexL_len (n / 16) (by omega)
      have hl2 := hexL_len (n % 16) (by omega)
      repeat' first | refine st ?_ | (refine nw ?_; intro _) | refine kn ?_ | (refine sp ?_ ?_ <;> intro _) | fail
      refine G.ef rfl rfl rfl (Eff.callF rfl ((ih (n / 16) (by omega) (by omega)).mono ?_))
      rintro v H' ⟨rfl, rfl⟩
      repeat' first | refine st ?_ | (refine nw ?_; intro _) | refine kn ?_ | (refine sp ?_ ?_ <;> intro _) | fail
      refine G.ef rfl rfl rfl (Eff.callF rfl ((ih (n % 16) (by omega) (by omega)).mono ?_))
      rintro v H' ⟨rfl, rfl⟩
      repeat' first | refine st ?_ | (refine nw ?_; intro _) | refine kn ?_ | (refine sp ?_ ?_ <;> intro _) | fail
      exact GQ.pure1 rfl (.tmp rfl) (by rw [hexL_big (n := n) (by omega), hexL_small (n := n % 16) (by omega)])
instance {i : Int} {n : Nat} [hn : NatLit i n] : PureF Tryz.prog W0 80 [.int .i64 i] (n < 65536) (S (hexL n)) := ⟨fun h _ => by rw [hn.eq]; exact hex_spec n h⟩
/-- Two bytes as a number. -/
def grpN (a : List UInt8) (k : Nat) : Nat := (a.getD (2 * k) 0).toNat * 256 + (a.getD (2 * k + 1) 0).toNat
theorem grpN_lt (a : List UInt8) (k : Nat) : grpN a k < 65536 := by
  have h1 := (a.getD (2 * k) 0).toNat_lt
  have h2 := (a.getD (2 * k + 1) 0).toNat_lt
  unfold grpN; omega
theorem group_spec (a : List UInt8) (ha : a.length = 16) (k : Nat) (hk : k < 8) : T Tryz.prog W0 79 #[.agg (u8s a).toArray, .int .i64 (k : Int)] F (fun v H' => v = .int .i64 (grpN a k : Int) ∧ H' = F) := by
  refine T.intro (args := [_, _]) Tryz.func79 rfl Tryz.ntmps79 rfl ?_
  repeat' first | refine st ?_ | (refine nw ?_; intro _) | refine kn ?_ | (refine sp ?_ ?_ <;> intro _) | fail
  refine GC.drawnH [(0, .read), (1, .read), (2, .read), (3, .read), (4, .read), (5, .read), (6, .read), (7, .read), (8, .read), (9, .read), (10, .read), (11, .read), (12, .read), (13, .read)] (by kernel_rfl) (by kernel_rfl) rfl ?_
  have h1 : 2 * k < a.length := by omega
  have h2 : 2 * k + 1 < a.length := by omega
  have e1 : a.getD (2 * k) 0 = a[2 * k] := by rw [List.getD_eq_getElem?_getD, List.getElem?_eq_getElem h1]; rfl
  have e2 : a.getD (2 * k + 1) 0 = a[2 * k + 1] := by rw [List.getD_eq_getElem?_getD, List.getElem?_eq_getElem h2]; rfl
  have b1 := (a[2 * k]).toNat_lt
  have b2 := (a[2 * k + 1]).toNat_lt
  repeat' first | refine st ?_ | (refine nw ?_; intro _) | refine kn ?_ | (refine sp ?_ ?_ <;> intro _) | fail
  exact GQ.pure1 rfl (.tmp rfl) (by rw [grpN, e1, e2]; rfl)
instance {a : List UInt8} {i : Int} {k : Nat} [hn : NatLit i k] : PureF Tryz.prog W0 79 [.agg (u8s a).toArray, .int .i64 i] (a.length = 16 ∧ k < 8) (.int .i64 (grpN a k : Int)) := ⟨fun h _ => by rw [hn.eq]; exact group_spec a h.1 k h.2⟩
theorem Four_spec (a : List UInt8) (ha : a.length = 16) : T Tryz.prog W0 77 #[.agg (u8s a).toArray] F (fun v H' => v = .bool (a.take 12 == aheadL) ∧ H' = F) := by
  match a, ha with
  | [a0, a1, a2, a3, a4, a5, a6, a7, a8, a9, a10, a11, a12, a13, a14, a15], _ =>
    obtain ⟨a, ha⟩ : ∃ a, a = [a0, a1, a2, a3, a4, a5, a6, a7, a8, a9, a10, a11, a12, a13, a14, a15] := ⟨_, rfl⟩
    have hl : a.length = 16 := by rw [ha]; rfl
    have key : (a.take 12 == aheadL) = true ↔ (∀ i (h : i < 10), (a[i]).toNat = 0) ∧ (a[10]).toNat = 255 ∧ (a[11]).toNat = 255 := by
      have hz : ∀ c : UInt8, c = 0 ↔ c.toNat = 0 := fun c => ⟨fun h => by rw [h]; rfl, fun h => UInt8.toNat_inj.1 h⟩
      have hf : ∀ c : UInt8, c = 255 ↔ c.toNat = 255 := fun c => ⟨fun h => by rw [h]; rfl, fun h => UInt8.toNat_inj.1 h⟩
      have hall : (∀ i (h : i < 10), (a[i]).toNat = 0) ↔ (a0.toNat = 0 ∧ a1.toNat = 0 ∧ a2.toNat = 0 ∧ a3.toNat = 0 ∧ a4.toNat = 0 ∧ a5.toNat = 0 ∧ a6.toNat = 0 ∧ a7.toNat = 0 ∧ a8.toNat = 0 ∧ a9.toNat = 0) := by
        subst ha
        constructor
        · intro h; exact ⟨h 0 (by omega), h 1 (by omega), h 2 (by omega), h 3 (by omega), h 4 (by omega), h 5 (by omega), h 6 (by omega), h 7 (by omega), h 8 (by omega), h 9 (by omega)⟩
        · rintro ⟨h0, h1, h2, h3, h4, h5, h6, h7, h8, h9⟩ i hi
          match i, hi with
          | 0, _ => exact h0
          | 1, _ => exact h1
          | 2, _ => exact h2
          | 3, _ => exact h3
          | 4, _ => exact h4
          | 5, _ => exact h5
          | 6, _ => exact h6
          | 7, _ => exact h7
          | 8, _ => exact h8
          | 9, _ => exact h9
      rw [hall]
      subst ha
      simp only [List.take_succ_cons, List.take_zero, aheadL, beq_iff_eq, List.cons.injEq, and_true, hz, hf, List.getElem_cons_succ, List.getElem_cons_zero, and_assoc]
    rw [← ha]
    clear ha
    refine T.intro (args := [_]) Tryz.func77 rfl Tryz.ntmps77 rfl ?_
    repeat' first | refine st ?_ | (refine nw ?_; intro _) | refine kn ?_ | (refine sp ?_ ?_ <;> intro _) | fail
    rename_i b1
    refine GC.loopE (ι := { k : Nat // k ≤ 10 ∧ ∀ i (h : i < a.length), i < k → (a[i]).toNat = 0 }) (fun i => [(3, .int .i64 (i.1 : Int))]) [(1, _)] (fun i => (b1, .cells (u8s a).toArray 51 (0, 0)) :: F) (fun i => 10 - i.1) ⟨0, Nat.zero_le _, fun i _ hi => by omega⟩ ⟨rfl, rfl, trivial⟩ (fun _ h => h) ?_
    rintro ⟨k, hk, hz⟩
    dsimp only [List.cons_append, List.nil_append] at hk hz ⊢
    by_cases hlt : k < 10
    · have hkl : k < a.length := by omega
      by_cases h0 : (a[k]).toNat = 0
      · repeat' first | refine st ?_ | (refine nw ?_; intro _) | refine kn ?_ | (refine sp ?_ ?_ <;> intro _) | fail
        refine GQ.back ⟨k + 1, by omega, fun i h hi => ?_⟩ (by simp only; omega) ⟨rfl, rfl, trivial⟩ (fun w hw => hw)
        by_cases hik : i = k
        · subst hik; exact h0
        · exact hz i h (by omega)
      · have hf : (a.take 12 == aheadL) = false := by
          rw [Bool.eq_false_iff]; intro h; exact h0 ((key.1 h).1 k hlt)
        repeat' first | refine st ?_ | (refine nw ?_; intro _) | refine kn ?_ | (refine sp ?_ ?_ <;> intro _) | fail
        exact GQ.pure1 rfl (.tmp rfl) (by rw [hf])
    · obtain rfl : k = 10 := by omega
      have h10 : 10 < a.length := by omega
      have h11 : 11 < a.length := by omega
      have hz2 : ∀ i (h : i < 10), (a[i]).toNat = 0 := fun i h => hz i (by omega) h
      by_cases c1 : (a[10]).toNat = 255
      · by_cases c2 : (a[11]).toNat = 255
        · have hf : (a.take 12 == aheadL) = true := key.2 ⟨hz2, c1, c2⟩
          repeat' first | refine st ?_ | (refine nw ?_; intro _) | refine kn ?_ | (refine sp ?_ ?_ <;> intro _) | fail
          exact GQ.pure1 rfl (.tmp rfl) (by rw [hf])
        · have hf : (a.take 12 == aheadL) = false := by
            rw [Bool.eq_false_iff]; intro h; exact c2 (key.1 h).2.2
          repeat' first | refine st ?_ | (refine nw ?_; intro _) | refine kn ?_ | (refine sp ?_ ?_ <;> intro _) | fail
          exact GQ.pure1 rfl (.tmp rfl) (by rw [hf])
      · have hf : (a.take 12 == aheadL) = false := by
          rw [Bool.eq_false_iff]; intro h; exact c1 (key.1 h).2.1
        repeat' first | refine st ?_ | (refine nw ?_; intro _) | refine kn ?_ | (refine sp ?_ ?_ <;> intro _) | fail
        exact GQ.pure1 rfl (.tmp rfl) (by rw [hf])
instance {a : List UInt8} : PureF Tryz.prog W0 77 [.agg (u8s a).toArray] (a.length = 16) (.bool (a.take 12 == aheadL)) := ⟨fun h _ => Four_spec a h⟩
end
end Go.Rfn
