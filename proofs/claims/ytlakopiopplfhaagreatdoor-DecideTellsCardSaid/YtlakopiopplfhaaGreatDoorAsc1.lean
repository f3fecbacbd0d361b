/-
  NUMBERS IN BASE 10: strconv.Atoi at digits, ascii.Number.
-/
import Derived.Test.YtlakopiopplfhaaGreatDoorAsc0
namespace Go.Asc
open Go.Own Go.Proofs Go.RowKit
attribute [local irreducible] GC GQ G Rd Eff T
set_option maxRecDepth 20000
set_option maxHeartbeats 4000000

section
variable {W0 : World} {F : Heap}
theorem iatoi_spec (l : List UInt8) (h0 : 0 < l.length) (h18 : l.length ≤ 18) (hd : ∀ b ∈ l, isDig b.toNat = true) :
    T Tryz.prog W0 242 #[S l] F (fun v H' => v = .tuple #[.int .i64 (numOf l : Int), .nilIface] ∧ H' = F) := by
  have hb0 := dig_bounds.1 (hd l[0] (by simp))
  refine T.intro (args := [_]) Tryz.func242 rfl Tryz.ntmps242 rfl ?_
  refine au ?_
  refine G.rd (Rd.idxS rfl rfl (by omega) (by omega)) rfl rfl ?_
  have hg0 : l.getD (0 : Int).toNat 0 = l[0] := by simp [List.getD, h0]
  rw [hg0]
  refine au ?_
  refine G.rd (Rd.idxS rfl rfl (by omega) (by omega)) rfl rfl ?_
  rw [hg0]
  refine au ?_
  refine G.ef rfl rfl rfl (Eff.bytesS rfl (by omega) (fun bk extra hx => ?_))
  refine au ?_
  refine GC.loop (ι := { k : Nat // k ≤ l.length }) (fun i => [(5, S l), (6, .int .i64 (numOf (l.take i.1) : Int)), (47, .slice (some ⟨bk, 0, none⟩) l.length (l.length + extra.length)), (48, .int .i64 (l.length : Int)), (49, .int .i64 (i.1 : Int))]) (fun i => (bk, .cells (u8s l ++ extra).toArray 5 (l.length + extra.length, l.length + extra.length + 1)) :: F) (fun i => l.length - i.1) ⟨0, Nat.zero_le _⟩ ⟨rfl, rfl, rfl, rfl, rfl, trivial⟩ (fun _ h => h) ?_
  rintro ⟨k, hk⟩
  dsimp only at hk ⊢
  have hlt18 := numOf_lt (l.take k) (fun b hb => hd b (List.mem_of_mem_take hb))
  rw [List.length_take, Nat.min_eq_left hk] at hlt18
  by_cases hlt : k < l.length
  · have hbk := dig_bounds.1 (hd l[k] (by simp))
    have hpow : 10 ^ k ≤ 10 ^ 17 := Nat.pow_le_pow_right (by omega) (by omega)
    have hsn : numOf (l.take (k + 1)) = 10 * numOf (l.take k) + (l[k].toNat - 48) := by rw [List.take_succ_eq_append_getElem hlt, numOf_snoc]
    refine au ?_
    refine G.rd (Rd.load rfl (cellH (cell_u8s _ extra k (by omega)))) rfl rfl ?_
    refine au ?_
    refine G.rd (Rd.sub rfl rfl (IntWalk.u8_in _ (by omega))) rfl rfl ?_
    refine au ?_
    refine G.rd (Rd.conv rfl (IntWalk.i64_in _ (by omega))) rfl rfl ?_
    refine au ?_
    refine GQ.back ⟨k + 1, by omega⟩ (by simp only; omega) ⟨rfl, ?_, rfl, rfl, rfl, trivial⟩ (fun w hw => hw)
    show some _ = some (Value.int .i64 (numOf (l.take (k + 1)) : Int))
    rw [hsn]
    congr 2
    omega
  · obtain rfl : k = l.length := by omega
    rw [List.take_length] at *
    refine au ?_
    refine G.rd (Rd.idxS rfl rfl (by omega) (by omega)) rfl rfl ?_
    rw [hg0]
    refine au ?_
    refine GQ.heap (H' := F) ?_ (fun w hw => hw.sub SubH.out)
    exact GQ.done2 rfl rfl rfl ⟨rfl, rfl⟩

theorem atoi_spec (l : List UInt8) (h0 : 0 < l.length) (h18 : l.length ≤ 18) (hd : ∀ b ∈ l, isDig b.toNat = true) :
    T Tryz.prog W0 223 #[S l] F (fun v H' => v = .tuple #[.int .i64 (numOf l : Int), .nilIface] ∧ H' = F) := by
  refine T.intro (args := [_]) Tryz.func223 rfl Tryz.ntmps223 rfl ?_
  refine au ?_
  refine G.ef rfl rfl rfl (Eff.callF rfl ((iatoi_spec l h0 h18 hd).mono ?_))
  rintro v H' ⟨rfl, rfl⟩
  refine au ?_
  refine G.rd (Rd.neNil rfl rfl) rfl rfl ?_
  refine au ?_
  exact GQ.done2 rfl rfl rfl ⟨rfl, rfl⟩

/-- A number and whether there is one. -/
def okV : Option Nat → Value
  | some n => .tuple #[.int .i64 (n : Int), .bool true]
  | none => .tuple #[.int .i64 0, .bool false]
theorem number_spec (l : List UInt8) (most : Int) (hlen : l.length ≤ 140737488351232) : T Tryz.prog W0 192 #[S l, .int .i64 most] F (fun v H' => v = okV (number l most) ∧ H' = F) := by
  refine T.intro (args := [_, _]) Tryz.func192 rfl Tryz.ntmps192 rfl ?_
  refine au ?_
  refine G.ef rfl rfl rfl (Eff.callF rfl ((all_spec digit_pred (fun c h => by have := dig_bounds.1 h; omega) l).mono ?_))
  rintro v H' ⟨rfl, rfl⟩
  by_cases hfine : l ≠ [] ∧ l.all (fun b => isDig b.toNat) = true
  · obtain ⟨hne, hall⟩ := hfine
    have h0 : 0 < l.length := List.length_pos_iff.2 hne
    have hd : ∀ b ∈ l, isDig b.toNat = true := List.all_eq_true.1 hall
    have hg0 : l.getD (0 : Int).toNat 0 = l[0] := by simp [List.getD, h0]
    have hh : l.head? = some l[0] := by rw [List.head?_eq_getElem?, List.getElem?_eq_getElem h0]
    rw [show (decide (l ≠ []) && l.all (fun b => isDig b.toNat)) = true by simp [hne, hall]]
    by_cases h18 : l.length ≤ 18
    · by_cases hz : 1 < l.length ∧ l[0] = 48
      · obtain ⟨hz1, hz2⟩ := hz
        have hz3 : (l[0]).toNat = 48 := by rw [hz2]; rfl
        refine au ?_
        refine G.rd (Rd.idxS rfl rfl (by omega) (by omega)) rfl rfl ?_
        rw [hg0]
        refine au ?_
        exact GQ.done2 rfl rfl rfl ⟨by rw [number, if_neg (fun h => h.2.2.2.1 ⟨hz1, by rw [hh, hz2]⟩)]; rfl, rfl⟩
      · have hz4 : ¬ (1 < l.length ∧ l.head? = some 48) := fun h => hz ⟨h.1, by rw [hh] at h; exact Option.some.inj h.2⟩
        have hz5 : 1 < l.length → (l[0]).toNat ≠ 48 := fun h1 h2 => hz ⟨h1, UInt8.toNat_inj.1 h2⟩
        rcases Nat.lt_or_ge 1 l.length with h1 | h1
        · have hz6 := hz5 h1
          refine au ?_
          refine G.rd (Rd.idxS rfl rfl (by omega) (by omega)) rfl rfl ?_
          rw [hg0]
          refine au ?_
          refine G.ef rfl rfl rfl (Eff.callF rfl ((atoi_spec l h0 h18 hd).mono ?_))
          rintro v H' ⟨rfl, rfl⟩
          by_cases hm : (numOf l : Int) ≤ most
          · refine au ?_
            exact GQ.done2 rfl rfl rfl ⟨by rw [number, if_pos ⟨hne, hall, h18, hz4, hm⟩]; rfl, rfl⟩
          · refine au ?_
            exact GQ.done2 rfl rfl rfl ⟨by rw [number, if_neg (fun h => hm h.2.2.2.2)]; rfl, rfl⟩
        · refine au ?_
          refine G.ef rfl rfl rfl (Eff.callF rfl ((atoi_spec l h0 h18 hd).mono ?_))
          rintro v H' ⟨rfl, rfl⟩
          by_cases hm : (numOf l : Int) ≤ most
          · refine au ?_
            exact GQ.done2 rfl rfl rfl ⟨by rw [number, if_pos ⟨hne, hall, h18, hz4, hm⟩]; rfl, rfl⟩
          · refine au ?_
            exact GQ.done2 rfl rfl rfl ⟨by rw [number, if_neg (fun h => hm h.2.2.2.2)]; rfl, rfl⟩
    · refine au ?_
      exact GQ.done2 rfl rfl rfl ⟨by rw [number, if_neg (by omega)]; rfl, rfl⟩
  · rw [show (decide (l ≠ []) && l.all (fun b => isDig b.toNat)) = false by by_cases h : l = [] <;> simp_all]
    refine au ?_
    exact GQ.done2 rfl rfl rfl ⟨by rw [number, if_neg (fun h => hfine ⟨h.1, h.2.1⟩)]; rfl, rfl⟩
end
end Go.Asc
