/-
  NUMBERS IN BASE 16: ascii.Hex; strings.Split as it is called.
-/
import Derived.Test.YtlakopiopplfhaaGreatDoorLib1
namespace Go.Asc
open Go.Own Go.Proofs Go.RowKit Go.Lib
attribute [local irreducible] GC GQ G Rd Eff T
set_option maxRecDepth 20000
set_option maxHeartbeats 4000000

theorem i32_in (n : Int) (h : 0 ≤ n ∧ n ≤ 255) : IntKind.i32.wrap n = n := by rw [IntKind.wrap_i32]; omega
theorem or_low (n k : Nat) (hk : k < 16) : (n * 16) ||| k = n * 16 + k := by
  have := Nat.two_pow_add_eq_or_of_lt (i := 4) (b := k) (by omega) n
  rw [show 2 ^ 4 * n = n * 16 by omega] at this
  exact this.symm

section
variable {W0 : World} {F : Heap}
theorem split_spec (l : List UInt8) (c : UInt8) (hl : l.length ≤ 17592186044415) : T Tryz.prog W0 126 #[S l, S [c]] F
    (fun v H' => ∃ bk, v = .slice (some ⟨bk, 0, none⟩) (splitB c l).length (splitB c l).length ∧ H' = (bk, .cells (strs (splitB c l)).toArray 9 (0, 0)) :: F) := by
  refine T.intro (args := [_, _]) Tryz.func126 rfl Tryz.ntmps126 rfl ?_
  refine au ?_
  refine G.ef rfl rfl rfl (Eff.callF rfl ((genSplit_spec l c hl).mono ?_))
  rintro v H' ⟨bk, rfl, rfl⟩
  refine au ?_
  exact GQ.done1 rfl rfl ⟨bk, rfl, rfl⟩

theorem hex_spec (l : List UInt8) (hlen : l.length ≤ 140737488351232) : T Tryz.prog W0 194 #[S l] F (fun v H' => v = okV (hexR l) ∧ H' = F) := by
  refine T.intro (args := [_]) Tryz.func194 rfl Tryz.ntmps194 rfl ?_
  refine au ?_
  refine G.ef rfl rfl rfl (Eff.rangeS rfl (fun r => ?_))
  refine au ?_
  refine GC.loop (ι := { q : Nat × Nat // q.1 ≤ l.length ∧ q.2 ≤ 1048575 ∧ (l.take q.1).all isHex = true ∧ (q.1 ≤ 4 → q.2 = hexOf (l.take q.1)) }) (fun i => [(0, S l), (4, .int .i64 (i.1.2 : Int)), (9, .pointer (some ⟨r, 0, none⟩))]) (fun i => (r, It l i.1.1) :: F) (fun i => l.length - i.1.1) ⟨(0, 0), by simp [hexOf]⟩ ⟨rfl, rfl, rfl, trivial⟩ (fun _ h => h) ?_
  rintro ⟨⟨k, n⟩, hk, hn, hall, hval⟩
  dsimp only at hk hn hall hval ⊢
  by_cases hlt : k < l.length
  · by_cases ha : (l[k]).toNat < 128
    · refine au ?_
      refine G.ef rfl rfl rfl (Eff.nextA rfl hlt ha ?_)
      refine au ?_
      refine G.rd (Rd.conv (c := ((l[k]).toNat : Int)) rfl (by rw [IntWalk.u8_in _ (by omega)]; omega)) rfl rfl ?_
      refine G.ef rfl rfl rfl (Eff.callF rfl ((small_spec l[k]).mono ?_))
      rintro v H' ⟨rfl, rfl⟩
      have hlow := lowB_small l[k] ha
      refine G.rd (Rd.conv rfl (i32_in _ (by omega))) rfl rfl ?_
      refine G.ef rfl rfl rfl (Eff.callF rfl ((indexRune_spec hexs (lowB l[k]) hlow).mono ?_))
      rintro v H' ⟨rfl, rfl⟩
      have hb := hx_lt l[k]
      rw [show indexByte hexs (lowB l[k]) = hx l[k] from rfl]
      by_cases hneg : hx l[k] < 0
      · refine au ?_
        refine GQ.heap (H' := F) ?_ (fun w hw => hw.sub SubH.out)
        refine GQ.done2 rfl rfl rfl ⟨?_, rfl⟩
        rw [hexR, if_neg (fun h => by have := List.all_eq_true.1 h.2.1 l[k] (by simp); simp [isHex] at this; omega)]; rfl
      · obtain ⟨m, hm⟩ : ∃ m : Nat, hx l[k] = (m : Int) := ⟨(hx l[k]).toNat, by omega⟩
        rw [hm] at hb hneg ⊢
        refine au ?_
        refine G.rd (Rd.shl (n := 4) (c := ((n * 16 : Nat) : Int)) rfl rfl rfl (by decide) (by rw [IntWalk.i64_in _ (by omega)]; omega)) rfl rfl ?_
        refine au ?_
        refine G.rd (Rd.or (m := n * 16) (n := m) (r := n * 16 + m) rfl rfl rfl rfl (by show _ < 2 ^ 64; omega) (by show _ < 2 ^ 64; omega) (or_low n m (by omega)) (IntWalk.i64_in _ (by omega))) rfl rfl ?_
        refine au ?_
        refine G.rd (Rd.and (m := n * 16 + m) (n := 1048575) (r := (n * 16 + m) % 1048576) rfl rfl rfl rfl (by show _ < 2 ^ 64; omega) (by decide) (Nat.and_two_pow_sub_one_eq_mod _ 20) (IntWalk.i64_in _ (by omega))) rfl rfl ?_
        refine au ?_
        refine GQ.back ⟨(k + 1, (n * 16 + m) % 1048576), by omega, by omega, ?_, fun h4 => ?_⟩ (by simp only; omega) ⟨rfl, rfl, rfl, trivial⟩ (fun _ h => h)
        · rw [List.take_add_one, List.getElem?_eq_getElem hlt]
          simp only [List.all_append, hall]
          simp [isHex, hm]
        · have h5 := hval (by omega)
          have h6 := hexOf_lt (l.take k)
          rw [List.length_take, Nat.min_eq_left hk] at h6
          have h7 : 16 ^ k ≤ 16 ^ 3 := Nat.pow_le_pow_right (by omega) (by omega)
          rw [List.take_succ_eq_append_getElem hlt, hexOf_snoc, hm]
          dsimp only
          omega
    · refine au ?_
      refine G.ef rfl rfl rfl (Eff.nextH rfl hlt (by omega) (fun c pos' h1 h2 h3 => ?_))
      refine au ?_
      refine G.rd (Rd.conv (c := ((127 : UInt8).toNat : Int)) rfl (by rw [IntWalk.u8_in _ (by omega)]; show min (c : Int) 127 = 127; omega)) rfl rfl ?_
      refine G.ef rfl rfl rfl (Eff.callF rfl ((small_spec 127).mono ?_))
      rintro v H' ⟨rfl, rfl⟩
      refine G.rd (Rd.conv rfl (i32_in _ (by decide))) rfl rfl ?_
      refine G.ef rfl rfl rfl (Eff.callF rfl ((indexRune_spec hexs (lowB 127) (by decide)).mono ?_))
      rintro v H' ⟨rfl, rfl⟩
      rw [show indexByte hexs (lowB 127) = -1 by decide]
      refine au ?_
      refine GQ.heap (H' := F) ?_ (fun w hw => hw.sub SubH.out)
      refine GQ.done2 rfl rfl rfl ⟨?_, rfl⟩
      have hneg := hx_high l[k] (by omega)
      rw [hexR, if_neg (fun h => by have := List.all_eq_true.1 h.2.1 l[k] (by simp); simp [isHex] at this; omega)]; rfl
  · obtain rfl : k = l.length := by omega
    rw [List.take_length] at hall hval
    by_cases hfin : l ≠ [] ∧ l.length ≤ 4
    · have hne := hfin.1
      have h0 : 0 < l.length := List.length_pos_iff.2 hne
      have h5 := hval hfin.2
      refine au ?_
      refine G.ef rfl rfl rfl (Eff.nextE rfl (by omega) ?_)
      refine au ?_
      refine GQ.heap (H' := F) ?_ (fun w hw => hw.sub SubH.out)
      exact GQ.done2 rfl rfl rfl ⟨by rw [hexR, if_pos ⟨hne, hall, hfin.2⟩, h5]; rfl, rfl⟩
    · have hnone : hexR l = none := if_neg (fun h => hfin ⟨h.1, h.2.2⟩)
      by_cases hne : l = []
      · refine au ?_
        refine G.ef rfl rfl rfl (Eff.nextE rfl (by omega) ?_)
        refine au ?_
        refine GQ.heap (H' := F) ?_ (fun w hw => hw.sub SubH.out)
        exact GQ.done2 rfl rfl rfl ⟨by rw [hnone]; rfl, rfl⟩
      · have h4 : ¬ l.length ≤ 4 := fun h => hfin ⟨hne, h⟩
        refine au ?_
        refine G.ef rfl rfl rfl (Eff.nextE rfl (by omega) ?_)
        refine au ?_
        refine GQ.heap (H' := F) ?_ (fun w hw => hw.sub SubH.out)
        exact GQ.done2 rfl rfl rfl ⟨by rw [hnone]; rfl, rfl⟩
end
end Go.Asc
