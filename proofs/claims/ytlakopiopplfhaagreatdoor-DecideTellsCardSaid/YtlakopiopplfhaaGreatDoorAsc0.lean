/-
  LETTERS, DIGITS: what package ascii's functions, and the document's, answer, in plain words.
-/
import Derived.Test.YtlakopiopplfhaaGreatDoorPl3
import Derived.Test.YtlakopiopplfhaaGreatDoorOwnZ
import Derived.Test.YtlakopiopplfhaaGreatDoorTab
namespace Go.Asc
open Go.Own Go.Proofs Go.RowKit
attribute [local irreducible] GC GQ G Rd Eff T
set_option maxRecDepth 20000
set_option maxHeartbeats 4000000

section
variable {W0 : World} {F : Heap}
theorem small_spec (c : UInt8) : T Tryz.prog W0 186 #[.int .u8 (c.toNat : Int)] F (fun v H' => v = .int .u8 ((lowB c).toNat : Int) ∧ H' = F) := by
  have hc : c.toNat < 256 := c.toNat_lt
  refine T.intro (args := [_]) Tryz.func186 rfl Tryz.ntmps186 rfl ?_
  by_cases h : 65 ≤ c.toNat
  · by_cases h2 : c.toNat ≤ 90
    · refine au ?_
      refine G.rd (Rd.sub rfl rfl (IntWalk.u8_in _ (by omega))) rfl rfl ?_
      refine G.rd (Rd.add rfl rfl (IntWalk.u8_in _ (by omega))) rfl rfl ?_
      refine au ?_
      exact GQ.done1 rfl rfl ⟨by rw [lowB_up ⟨h, h2⟩]; congr 1; omega, rfl⟩
    · refine au ?_
      exact GQ.done1 rfl rfl ⟨by rw [lowB_no (by omega)], rfl⟩
  · refine au ?_
    exact GQ.done1 rfl rfl ⟨by rw [lowB_no (by omega)], rfl⟩

theorem lower_spec (l : List UInt8) (hl : l.length ≤ 140737488351232) : T Tryz.prog W0 149 #[S l] F (fun v H' => v = S (l.map lowB) ∧ H' = F) := by
  refine T.intro (args := [_]) Tryz.func149 rfl Tryz.ntmps149 rfl ?_
  refine au ?_
  refine G.ef rfl rfl rfl (Eff.bytesS rfl (by omega) (fun bk extra hx => ?_))
  refine au ?_
  refine GC.loop (ι := { k : Nat // k ≤ l.length }) (fun i => [(3, .slice (some ⟨bk, 0, none⟩) l.length (l.length + extra.length)), (8, .slice (some ⟨bk, 0, none⟩) l.length (l.length + extra.length)), (9, .int .i64 (l.length : Int)), (10, .int .i64 (i.1 : Int))]) (fun i => (bk, .cells (u8s ((l.map lowB).take i.1 ++ l.drop i.1) ++ extra).toArray 5 (l.length + extra.length, l.length + extra.length + 1)) :: F) (fun i => l.length - i.1) ⟨0, Nat.zero_le _⟩ ⟨rfl, rfl, rfl, rfl, trivial⟩ (fun _ h => h) ?_
  rintro ⟨k, hk⟩
  dsimp only at hk ⊢
  by_cases hlt : k < l.length
  · have hmid : ((l.map lowB).take k ++ l.drop k).length = l.length := by simp; omega
    have hget : ((l.map lowB).take k ++ l.drop k)[k]'(by omega) = l[k] := Option.some.inj ((List.getElem?_eq_getElem (by omega)).symm.trans (half_get l (l.map lowB) (by simp) k hlt))
    refine au ?_
    refine G.rd (Rd.load rfl (cellH (cell_u8s _ extra k (by omega)))) rfl rfl ?_
    rw [hget]
    refine au ?_
    refine G.ef rfl rfl rfl (Eff.callF rfl ((small_spec l[k]).mono ?_))
    rintro v H' ⟨rfl, rfl⟩
    refine au ?_
    refine G.ef rfl rfl rfl (Eff.store rfl rfl rfl (by simp [u8s_length]; omega) (by simp [Fz]; omega) ?_)
    refine au ?_
    refine GQ.back ⟨k + 1, by omega⟩ (by simp only; omega) ⟨rfl, rfl, rfl, rfl, trivial⟩ (fun w hw => ?_)
    rw [← half_set l (l.map lowB) (by simp) k hlt (lowB l[k]) (by simp [hlt]), ← set_u8s _ extra k (by omega)]
    exact hw
  · obtain rfl : k = l.length := by omega
    refine au ?_
    rw [List.take_of_length_le (by simp), List.drop_length, List.append_nil]
    refine G.rd (Rd.strX rfl (by simp)) rfl rfl ?_
    refine au ?_
    refine GQ.heap (H' := F) ?_ (fun w hw => hw.sub SubH.out)
    exact GQ.done1 rfl rfl ⟨rfl, rfl⟩

/-- What a function of characters answers. -/
def RunePred (f : FuncId) (p : Nat → Bool) : Prop := ∀ (W0 : World) (F : Heap) (c : Nat), c ≤ 2147483647 → T Tryz.prog W0 f #[.int .i32 (c : Int)] F (fun v H' => v = .bool (p c) ∧ H' = F)
theorem digit_pred : RunePred 222 isDig := fun W0 F c hc => by
  refine T.intro (args := [_]) Tryz.func222 rfl Tryz.ntmps222 rfl ?_
  by_cases h : 48 ≤ c
  · refine au ?_
    exact GQ.done1 rfl rfl ⟨by simp [isDig, h]; omega, rfl⟩
  · refine au ?_
    exact GQ.done1 rfl rfl ⟨by simp [isDig, h], rfl⟩

theorem all_spec {f : FuncId} {p : Nat → Bool} [hcf : CallF Tryz.prog f] (hf : RunePred f p) (hp : ∀ c, p c = true → c < 128) (l : List UInt8) :
    T Tryz.prog W0 156 #[S l, .func (.func f) #[] #[]] F (fun v H' => v = .bool (decide (l ≠ []) && l.all (fun b => p b.toNat)) ∧ H' = F) := by
  refine T.intro (args := [_, _]) Tryz.func156 rfl Tryz.ntmps156 rfl ?_
  refine au ?_
  refine G.ef rfl rfl rfl (Eff.rangeS rfl (fun r => ?_))
  refine au ?_
  refine GC.loop (ι := { k : Nat // k ≤ l.length ∧ (l.take k).all (fun b => p b.toNat) = true }) (fun i => [(0, S l), (1, .func (.func f) #[] #[]), (8, .pointer (some ⟨r, 0, none⟩))]) (fun i => (r, It l i.1) :: F) (fun i => l.length - i.1) ⟨0, Nat.zero_le _, rfl⟩ ⟨rfl, rfl, rfl, trivial⟩ (fun _ h => h) ?_
  rintro ⟨k, hk, hall⟩
  dsimp only at hk hall ⊢
  by_cases hlt : k < l.length
  · by_cases ha : (l[k]).toNat < 128
    · refine au ?_
      refine G.ef rfl rfl rfl (Eff.nextA rfl hlt ha ?_)
      refine au ?_
      refine G.ef rfl rfl rfl (Eff.callV rfl rfl ((hf W0 _ _ (by omega)).mono ?_))
      rintro v H' ⟨rfl, rfl⟩
      cases hpk : p (l[k]).toNat with
      | true =>
        refine au ?_
        exact GQ.back ⟨k + 1, by omega, by rw [List.take_add_one, List.getElem?_eq_getElem hlt]; simp only [List.all_append, hall]; simp [hpk]⟩ (by simp only; omega) ⟨rfl, rfl, rfl, trivial⟩ (fun _ h => h)
      | false =>
        refine au ?_
        refine GQ.heap (H' := F) ?_ (fun w hw => hw.sub SubH.out)
        refine GQ.done1 rfl rfl ⟨?_, rfl⟩
        rw [show l.all (fun b => p b.toNat) = false from List.all_eq_false.2 ⟨l[k], by simp, by simp [hpk]⟩, Bool.and_false]
    · refine au ?_
      refine G.ef rfl rfl rfl (Eff.nextH rfl hlt (by omega) (fun c pos' h1 h2 h3 => ?_))
      refine au ?_
      refine G.ef rfl rfl rfl (Eff.callV rfl rfl ((hf W0 _ _ h2).mono ?_))
      rintro v H' ⟨rfl, rfl⟩
      have hpc : p c = false := by
        cases h : p c with
        | true => have := hp c h; omega
        | false => rfl
      rw [hpc]
      refine au ?_
      refine GQ.heap (H' := F) ?_ (fun w hw => hw.sub SubH.out)
      refine GQ.done1 rfl rfl ⟨?_, rfl⟩
      have hpk : p (l[k]).toNat = false := by
        cases h : p (l[k]).toNat with
        | true => exact absurd (hp _ h) ha
        | false => rfl
      rw [show l.all (fun b => p b.toNat) = false from List.all_eq_false.2 ⟨l[k], by simp, by simp [hpk]⟩, Bool.and_false]
  · obtain rfl : k = l.length := by omega
    rw [List.take_length] at hall
    refine au ?_
    refine G.ef rfl rfl rfl (Eff.nextE rfl (by omega) ?_)
    refine au ?_
    refine GQ.heap (H' := F) ?_ (fun w hw => hw.sub SubH.out)
    refine GQ.done1 rfl rfl ⟨?_, rfl⟩
    rw [hall, Bool.and_true]
    simp
end
end Go.Asc
