/-
  ADDRESSES: four numbers with dots between, as package addr reads them.
-/
import Derived.Test.YtlakopiopplfhaaGreatDoorAsc2
namespace Go.Adr
open Go.Own Go.Proofs Go.RowKit Go.Lib Go.Asc
attribute [local irreducible] GC GQ G Rd Eff T
set_option maxRecDepth 20000
set_option maxHeartbeats 4000000

theorem set_u8s0 (l : List UInt8) (k : Nat) (hk : k < l.length) (c : UInt8) : (u8s l).toArray.setIfInBounds (0 + k * 1) (.int .u8 (c.toNat : Int)) = (u8s (l.set k c)).toArray := by
  have := set_u8s l [] k hk c
  rwa [List.append_nil, List.append_nil] at this
theorem cell_strs (l : List (List UInt8)) (k : Nat) (hk : k < l.length) : ((strs l).toArray : Array Value)[0 + k * 1]? = some (S l[k]) := by
  rw [Nat.zero_add, Nat.mul_one, List.getElem?_toArray]
  simp [strs, hk]

theorem strs_set (xs : List (List UInt8)) (extra : List Value) (k : Nat) (hk : k < xs.length) (x : List UInt8) : (strs xs ++ extra).toArray.setIfInBounds (0 + k * 1) (S x) = (strs (xs.set k x) ++ extra).toArray := by
  rw [Nat.zero_add, Nat.mul_one, List.setIfInBounds_toArray]
  congr 1
  rw [List.set_append_left _ _ (by rw [strs_length]; exact hk)]
  simp [strs, List.map_set]
theorem strs_cell (xs : List (List UInt8)) (extra : List Value) (k : Nat) (hk : k < xs.length) : ((strs xs ++ extra).toArray : Array Value)[0 + k * 1]? = some (S xs[k]) := by
  rw [Nat.zero_add, Nat.mul_one, List.getElem?_toArray, List.getElem?_append_left (by rw [strs_length]; exact hk)]
  simp [strs, hk]
section
variable {W0 : World} {F : Heap}
theorem dotted_spec (l : List UInt8) (hl : l.length ≤ 17592186044415) : T Tryz.prog W0 159 #[S l] F
    (fun v H' => ∃ q : List UInt8, q.length = 4 ∧ v = .tuple #[.agg (u8s q).toArray, .bool (dot l).isSome] ∧ (∀ d, dot l = some d → q = d) ∧ H' = F) := by
  obtain ⟨ps, hps⟩ : ∃ ps, ps = splitB 46 l := ⟨_, rfl⟩
  have hple : ∀ x ∈ ps, x.length ≤ l.length := by rw [hps]; exact splitB_le 46 l
  refine T.intro (args := [_]) Tryz.func159 rfl Tryz.ntmps159 rfl ?_
  refine au ?_
  refine G.ef rfl rfl rfl (Eff.alloc (fun b1 => ?_))
  refine G.heap (H' := (b1, .cells (u8s [0, 0, 0, 0]).toArray 92 (0, 0)) :: F) ?_ (fun _ h => h)
  refine au ?_
  refine G.ef rfl rfl rfl (Eff.alloc (fun b2 => ?_))
  refine G.heap (H' := (b2, .cells (u8s [0, 0, 0, 0]).toArray 92 (0, 0)) :: (b1, .cells (u8s [0, 0, 0, 0]).toArray 92 (0, 0)) :: F) ?_ (fun _ h => h)
  refine au ?_
  refine G.ef rfl rfl rfl (Eff.callF rfl ((split_spec l 46 hl).mono ?_))
  rintro v H' ⟨bk, rfl, rfl⟩
  rw [← hps]
  by_cases h4 : ps.length = 4
  · refine au ?_
    refine GC.loop (ι := { q : Nat × List UInt8 // q.1 ≤ 4 ∧ q.2 = (ps.map numB).take q.1 ++ (List.replicate 4 0).drop q.1 ∧ (ps.take q.1).all isNum = true }) (fun i => [(2, .pointer (some ⟨b1, 0, none⟩)), (4, .pointer (some ⟨b2, 0, none⟩)), (16, .slice (some ⟨bk, 0, none⟩) ps.length ps.length), (17, .int .i64 (ps.length : Int)), (18, .int .i64 (i.1.1 : Int))])
      (fun i => (bk, .cells (strs ps).toArray 9 (0, 0)) :: (b2, .cells (u8s i.1.2).toArray 92 (0, 0)) :: (b1, .cells (u8s [0, 0, 0, 0]).toArray 92 (0, 0)) :: F) (fun i => 4 - i.1.1) ⟨(0, [0, 0, 0, 0]), by simp⟩ ⟨rfl, rfl, rfl, rfl, rfl, trivial⟩ (fun _ h => h) ?_
    rintro ⟨⟨k, q⟩, hk, hq, hall⟩
    dsimp only at hk hq hall ⊢
    have hql : q.length = 4 := by rw [hq]; simp; omega
    by_cases hlt : k < 4
    · have hklt : k < ps.length := by omega
      refine au ?_
      refine G.rd (Rd.load rfl (cellH (cell_strs ps k hklt))) rfl rfl ?_
      refine au ?_
      have hpk := hple ps[k] (by simp)
      refine G.ef rfl rfl rfl (Eff.callF rfl ((number_spec ps[k] 255 (by omega)).mono ?_))
      rintro v H' ⟨rfl, rfl⟩
      cases hn : number ps[k] 255 with
      | none =>
        have hnone : dot l = none := by
          rw [dot, ← hps, if_neg (fun h => by have := List.all_eq_true.1 h.2 ps[k] (by simp); simp [isNum, hn] at this)]
        simp only [okV]
        refine au ?_
        refine G.rd (Rd.loadBlk rfl (by rw [u8s_length]; exact hql)) rfl rfl ?_
        refine G.ef rfl rfl rfl (Eff.storeAll rfl rfl (u8s_one _) (by rw [u8s_length]; exact hql) (by rw [u8s_length]; exact hql) ?_)
        refine au ?_
        exact GQ.res2h rfl (.agg rfl (by rw [u8s_length]; exact hql)) (.tmp rfl) F (fun w hw => hw.sub SubH.out) ⟨q, hql, by rw [hnone]; rfl, (fun d hd => by rw [hnone] at hd; cases hd), rfl⟩
      | some n =>
        obtain ⟨hn1, hn2, hn3⟩ := number_le hn
        simp only [okV]
        refine au ?_
        refine G.rd (Rd.conv (c := ((numB ps[k]).toNat : Int)) rfl (by rw [IntWalk.u8_in _ (by omega)]; omega)) rfl rfl ?_
        refine G.rd (Rd.indexArr rfl rfl (by omega) (by omega)) rfl rfl ?_
        refine G.ef rfl rfl rfl (Eff.store rfl rfl rfl (by simp [u8s_length]; omega) (by simp [Fz]) ?_)
        refine au ?_
        refine GQ.back ⟨(k + 1, q.set k (numB ps[k])), by omega, ?_, ?_⟩ (by simp only; omega) ⟨rfl, rfl, rfl, rfl, rfl, trivial⟩ (fun w hw => ?_)
        · rw [hq, half_set (List.replicate 4 0) (ps.map numB) (by simp [h4]) k (by simpa using hlt) _ (by simp [hklt])]
        · rw [List.take_succ_eq_append_getElem hklt, List.all_append, hall]
          simp [isNum, hn]
        · rw [← set_u8s0 q k (by omega)]
          exact hw
    · obtain rfl : k = 4 := by omega
      have hqe : q = ps.map numB := by rw [hq, List.take_of_length_le (by simp [h4]), List.drop_of_length_le (by simp), List.append_nil]
      have hsome : dot l = some q := by
        rw [dot, ← hps, if_pos ⟨h4, by rwa [List.take_of_length_le (by omega)] at hall⟩, hqe]
      refine au ?_
      refine G.rd (Rd.loadBlk rfl (by rw [u8s_length]; exact hql)) rfl rfl ?_
      refine G.ef rfl rfl rfl (Eff.storeAll rfl rfl (u8s_one _) (by rw [u8s_length]; exact hql) (by rw [u8s_length]; exact hql) ?_)
      refine au ?_
      exact GQ.res2h rfl (.agg rfl (by rw [u8s_length]; exact hql)) (.tmp rfl) F (fun w hw => hw.sub SubH.out) ⟨q, hql, by rw [hsome]; rfl, (fun d hd => by rw [hsome] at hd; exact Option.some.inj hd), rfl⟩
  · have hnone : dot l = none := by rw [dot, ← hps, if_neg (fun h => h4 h.1)]
    refine au ?_
    refine G.rd (Rd.loadBlk rfl (by rfl)) rfl rfl ?_
    refine G.ef rfl rfl rfl (Eff.storeAll rfl rfl (u8s_one _) (by rfl) (by rfl) ?_)
    refine au ?_
    refine GQ.res2h rfl (.agg rfl (by rfl)) (.tmp rfl) F (fun w hw => hw.sub SubH.out) ⟨[0, 0, 0, 0], rfl, by rw [hnone]; rfl, (fun d hd => by rw [hnone] at hd; cases hd), rfl⟩
end
end Go.Adr
