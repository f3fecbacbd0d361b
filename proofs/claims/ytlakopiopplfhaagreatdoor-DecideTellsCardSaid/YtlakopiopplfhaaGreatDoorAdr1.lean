/-
  ADDRESSES: groups with colons between, as package addr reads them; strings.Cut.
-/
import Derived.Test.YtlakopiopplfhaaGreatDoorAdr0
namespace Go.Adr
open Go.Own Go.Proofs Go.RowKit Go.Lib Go.Asc
attribute [local irreducible] GC GQ G Rd Eff T
set_option maxRecDepth 20000
set_option maxHeartbeats 4000000

/-- What read answers. -/
inductive ReadR (el : TypeId) : Option (List UInt8) → Value → Heap → Prop
  | some (q : List UInt8) (v : Value) (B : Heap) (h : Buf el 1 v q.length (u8s q) B) : ReadR el (some q) (.tuple #[v, .bool true]) B
  | none : ReadR el none (.tuple #[.slice none 0 0, .bool false]) []

theorem atBlk {W0 : World} {H : Heap} {b : Nat} {l : List UInt8} {el : TypeId} {fr : Nat × Nat} [h : Has H b (.cells (u8s l).toArray el fr)] : ∀ w, Own W0 H w → At w (some ⟨b, 0, none⟩) (u8s l) :=
  fun w hw => .inr ⟨b, 0, rfl, cellsH (h := h) (fun j u hj => by simpa using hj) w hw⟩
theorem shr8 (n : Nat) : (n : Int).fdiv (2 ^ 8) = ((n / 256 : Nat) : Int) := by
  rw [Int.fdiv_eq_ediv_of_nonneg _ (by decide)]; rfl
section
variable {W0 : World} {F : Heap}
theorem read_spec (l : List UInt8) (may : Bool) (hl : l.length ≤ 17592186044415) : T Tryz.prog W0 161 #[S l, .bool may] F
    (fun v H' => ∃ B, ReadR 5 (readL may l) v B ∧ H' = B ++ F) := by
  obtain ⟨ps, hps⟩ : ∃ ps, ps = splitB 58 l := ⟨_, rfl⟩
  have hple : ∀ x ∈ ps, x.length ≤ l.length := by rw [hps]; exact splitB_le 58 l
  have hpl : ps.length ≤ l.length + 1 := by rw [hps, splitB_length]; have := List.count_le_length (a := (58 : UInt8)) (l := l); omega
  refine T.intro (args := [_, _]) Tryz.func161 rfl Tryz.ntmps161 rfl ?_
  by_cases hl0 : l = []
  · refine au ?_
    exact GQ.done2 rfl rfl rfl ⟨[], by rw [readL, if_pos hl0]; exact .some [] _ _ .nil, rfl⟩
  · have hread : readL may l = grp may ps := by rw [readL, if_neg hl0, hps]
    rw [hread]
    refine au ?_
    refine G.ef rfl rfl rfl (Eff.callF rfl ((split_spec l 58 hl).mono ?_))
    rintro v H' ⟨bk, rfl, rfl⟩
    rw [← hps]
    refine au ?_
    refine GC.loop (ι := { q : Nat × List UInt8 × Value × Heap // q.1 ≤ ps.length ∧ Buf 5 1 q.2.2.1 q.2.1.length (u8s q.2.1) q.2.2.2 ∧ q.2.1.length ≤ 4 * q.1 ∧ grp may ps = (grp may (ps.drop q.1)).map (q.2.1 ++ ·) }) (fun i => [(1, .bool may), (6, i.1.2.2.1), (7, .slice (some ⟨bk, 0, none⟩) ps.length ps.length), (18, .slice (some ⟨bk, 0, none⟩) ps.length ps.length), (19, .int .i64 (ps.length : Int)), (20, .int .i64 (i.1.1 : Int))])
      (fun i => (bk, .cells (strs ps).toArray 9 (0, 0)) :: (i.1.2.2.2 ++ F)) (fun i => ps.length - i.1.1) ⟨(0, [], .slice none 0 0, []), by simp, .nil, by simp, by simp⟩ ⟨rfl, rfl, rfl, rfl, rfl, rfl, trivial⟩ (fun _ h => h) ?_
    rintro ⟨⟨k, out, vo, B⟩, hk, hbuf, hol, hgrp⟩
    dsimp only at hk hbuf hol hgrp ⊢
    by_cases hlt : k < ps.length
    · have hdrop : ps.drop k = ps[k] :: ps.drop (k + 1) := List.drop_eq_getElem_cons hlt
      have hpk := hple ps[k] (by simp)
      refine au ?_
      refine G.rd (Rd.load rfl (cellH (cell_strs ps k hlt))) rfl rfl ?_
      refine au ?_
      refine G.ef rfl rfl rfl (Eff.callF rfl ((hex_spec ps[k] (by omega)).mono ?_))
      rintro v H' ⟨rfl, rfl⟩
      cases hn : hexR ps[k] with
      | some n =>
        have hn1 := hexR_lt hn
        simp only [okV]
        refine au ?_
        refine G.ef rfl rfl rfl (Eff.callF rfl ((dotted_spec ps[k] (by omega)).mono ?_))
        rintro v H' ⟨q4, hq4, rfl, hdot, rfl⟩
        refine au ?_
        refine G.ef rfl rfl rfl (Eff.alloc (fun b12 => ?_))
        refine G.heap (H' := (b12, .cells (u8s [0, 0, 0, 0]).toArray 92 (0, 0)) :: (bk, .cells (strs ps).toArray 9 (0, 0)) :: (B ++ F)) ?_ (fun _ h => h)
        refine G.ef rfl rfl rfl (Eff.storeAll rfl rfl (u8s_one q4) (by rw [u8s_length]; exact hq4) (by rw [u8s_length]; exact hq4) ?_)
        refine au ?_
        refine G.rd (Rd.shr (n := 8) rfl rfl rfl (by decide) (shr8 n)) rfl rfl ?_
        refine G.rd (Rd.conv (c := ((UInt8.ofNat (n / 256)).toNat : Int)) rfl (by rw [IntWalk.u8_in _ (by omega), UInt8.toNat_ofNat']; omega)) rfl rfl ?_
        refine au ?_
        refine G.rd (Rd.conv (c := ((UInt8.ofNat (n % 256)).toNat : Int)) rfl (by rw [IntKind.wrap_u8, UInt8.toNat_ofNat']; omega)) rfl rfl ?_
        refine G.ef rfl rfl rfl (Eff.buildSlice (cells := (u8s (two n)).toArray) rfl (by kernel_rfl) (by omega) (fun b2 => ?_))
        refine G.ef rfl rfl rfl (Eff.appendU8 (xs := out) (ys := two n) (B := B) rfl hbuf rfl (List.perm_append_comm_assoc [_, _, _] B F) atBlk (by show out.length + 2 ≤ _; omega) (fun v' B' hb' => ?_))
        refine au ?_
        refine GQ.heap (H' := (bk, .cells (strs ps).toArray 9 (0, 0)) :: (B' ++ F)) ?_ (fun w hw => (hw.sub ((((List.Sublist.refl (_ :: F)).cons _).cons _).append_left B')).perm List.perm_middle)
        refine GQ.back ⟨(k + 1, out ++ two n, v', B'), by omega, hb', by simp only [List.length_append]; show out.length + 2 ≤ _; omega, ?_⟩ (by simp only; omega) ⟨rfl, rfl, rfl, rfl, rfl, rfl, trivial⟩ (fun _ h => h)
        rw [hgrp, hdrop, grp_some hn, Option.map_map]
        congr 1
        funext z
        simp
      | none =>
        simp only [okV]
        refine au ?_
        refine G.ef rfl rfl rfl (Eff.callF rfl ((dotted_spec ps[k] (by omega)).mono ?_))
        rintro v H' ⟨q4, hq4, rfl, hdot, rfl⟩
        refine au ?_
        refine G.ef rfl rfl rfl (Eff.alloc (fun b12 => ?_))
        refine G.heap (H' := (b12, .cells (u8s [0, 0, 0, 0]).toArray 92 (0, 0)) :: (bk, .cells (strs ps).toArray 9 (0, 0)) :: (B ++ F)) ?_ (fun _ h => h)
        refine G.ef rfl rfl rfl (Eff.storeAll rfl rfl (u8s_one q4) (by rw [u8s_length]; exact hq4) (by rw [u8s_length]; exact hq4) ?_)
        by_cases hd : (dot ps[k]).isSome = true ∧ may = true ∧ k + 1 = ps.length
        · obtain ⟨hd1, hd2, hd3⟩ := hd
          rw [hd1]
          subst hd2
          refine au ?_
          refine G.rd (Rd.slArr rfl (by omega)) rfl rfl ?_
          obtain ⟨d, hdd⟩ := Option.isSome_iff_exists.1 hd1
          obtain rfl := hdot d hdd
          refine G.ef rfl rfl rfl (Eff.appendU8 (xs := out) (ys := q4) (B := B) rfl hbuf (by rw [hq4]; rfl) (List.perm_append_comm_assoc [_, _] B F) atBlk (by omega) (fun v' B' hb' => ?_))
          refine au ?_
          refine GQ.heap (H' := (bk, .cells (strs ps).toArray 9 (0, 0)) :: (B' ++ F)) ?_ (fun w hw => (hw.sub (((List.Sublist.refl (_ :: F)).cons _).append_left B')).perm List.perm_middle)
          refine GQ.back ⟨(k + 1, out ++ q4, v', B'), by omega, hb', by simp only [List.length_append]; omega, ?_⟩ (by simp only; omega) ⟨rfl, rfl, rfl, rfl, rfl, rfl, trivial⟩ (fun _ h => h)
          rw [hgrp, hdrop, grp_dot hn hdd rfl (List.drop_of_length_le (by omega)), List.drop_of_length_le (by omega)]
          simp [grp]
        · have hbad : grp may ps = none := by
            rw [hgrp, hdrop, grp_bad hn (fun h => hd ⟨h.1, h.2.1, by have := List.drop_eq_nil_iff.1 h.2.2; omega⟩)]; rfl
          cases hds : (dot ps[k]).isSome with
          | false =>
            refine au ?_
            refine GQ.heap (H' := [] ++ F) ?_ (fun w hw => hw.sub ((((List.sublist_append_right B F).cons _).cons _)))
            exact GQ.done2 rfl rfl rfl ⟨[], by rw [hbad]; exact .none, rfl⟩
          | true =>
            cases may with
            | false =>
              refine au ?_
              refine GQ.heap (H' := [] ++ F) ?_ (fun w hw => hw.sub ((((List.sublist_append_right B F).cons _).cons _)))
              exact GQ.done2 rfl rfl rfl ⟨[], by rw [hbad]; exact .none, rfl⟩
            | true =>
              have hne : k + 1 ≠ ps.length := fun h => hd ⟨hds, rfl, h⟩
              refine au ?_
              refine GQ.heap (H' := [] ++ F) ?_ (fun w hw => hw.sub ((((List.sublist_append_right B F).cons _).cons _)))
              exact GQ.done2 rfl rfl rfl ⟨[], by rw [hbad]; exact .none, rfl⟩
    · obtain rfl : k = ps.length := by omega
      refine au ?_
      refine GQ.heap (H' := B ++ F) ?_ (fun w hw => hw.sub SubH.out)
      refine GQ.done2 rfl rfl rfl ⟨B, ?_, rfl⟩
      rw [hgrp, List.drop_length]
      simpa [grp] using ReadR.some out vo B hbuf
end
end Go.Adr
