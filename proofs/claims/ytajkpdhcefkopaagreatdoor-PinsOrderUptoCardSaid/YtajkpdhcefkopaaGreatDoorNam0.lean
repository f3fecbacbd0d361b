/-
  NAMES: which characters may stand in a label; a text in which one is found.
-/
import Derived.Test.YtajkpdhcefkopaaGreatDoorPrt2
namespace Go.Nam
open Go.Own Go.Proofs Go.RowKit Go.Lib Go.Asc Go.Adr
attribute [local irreducible] GC GQ G Rd Eff T
set_option maxRecDepth 20000
set_option maxHeartbeats 4000000


theorem other_pred : RunePred 110 otherP := fun W0 F c hc => by
  refine T.intro (args := [_]) Tryz.func110 rfl Tryz.ntmps110 rfl ?_
  by_cases h : c < 48
  · refine au ?_
    exact GQ.done1 rfl rfl ⟨by simp [otherP, h], rfl⟩
  · by_cases h2 : 57 < c
    · refine au ?_
      exact GQ.done1 rfl rfl ⟨by simp [otherP, h2], rfl⟩
    · refine au ?_
      exact GQ.done1 rfl rfl ⟨by simp [otherP, h, h2], rfl⟩

theorem strange_pred : RunePred 146 strangeP := fun W0 F c hc => by
  refine T.intro (args := [_]) Tryz.func146 rfl Tryz.ntmps146 rfl ?_
  by_cases hfine : fineC c = true
  · rcases (show c = 45 ∨ (65 ≤ c ∧ c ≤ 90) ∨ c = 95 ∨ (97 ≤ c ∧ c ≤ 122) by simp [fineC] at hfine; omega) with h | h | h | h
    all_goals
      refine au ?_
      exact GQ.done1 rfl rfl ⟨by rw [strangeP, hfine]; rfl, rfl⟩
  · have hf2 : fineC c = false := by simpa using hfine
    rcases (show c < 45 ∨ (45 < c ∧ c < 65) ∨ (90 < c ∧ c < 95) ∨ c = 96 ∨ 122 < c by simp [fineC] at hf2; omega) with h | h | h | h | h
    all_goals
      refine au ?_
      refine G.ef rfl rfl rfl (Eff.callF rfl ((other_pred W0 _ c hc).mono ?_))
      rintro v H' ⟨rfl, rfl⟩
      refine au ?_
      exact GQ.done1 rfl rfl ⟨by rw [strangeP, hf2]; rfl, rfl⟩

section
variable {W0 : World} {F : Heap}
theorem iindexFunc_spec {f : FuncId} {p : Nat → Bool} [hcf : CallF Tryz.prog f] (hf : RunePred f p) (hp : ∀ c, 128 ≤ c → p c = true) (l : List UInt8) :
    T Tryz.prog W0 173 #[S l, .func (.func f) #[] #[], .bool true] F (fun v H' => ∃ n : Int, v = .int .i64 n ∧ (0 ≤ n ↔ l.any (fun b => p b.toNat) = true) ∧ H' = F) := by
  refine T.intro (args := [_, _, _]) Tryz.func173 rfl Tryz.ntmps173 rfl ?_
  refine au ?_
  refine G.ef rfl rfl rfl (Eff.rangeS rfl (fun r => ?_))
  refine au ?_
  refine GC.loop (ι := { k : Nat // k ≤ l.length ∧ (l.take k).any (fun b => p b.toNat) = false }) (fun i => [(1, .func (.func f) #[] #[]), (2, .bool true), (10, .pointer (some ⟨r, 0, none⟩))]) (fun i => (r, It l i.1) :: F) (fun i => l.length - i.1) ⟨0, Nat.zero_le _, rfl⟩ ⟨rfl, rfl, rfl, trivial⟩ (fun _ h => h) ?_
  rintro ⟨k, hk, hall⟩
  dsimp only at hk hall ⊢
  by_cases hlt : k < l.length
  · by_cases ha : (l[k]).toNat < 128
    · refine au ?_
      refine G.ef rfl rfl rfl (Eff.nextA rfl hlt ha ?_)
      refine au ?_
      refine G.ef rfl rfl rfl (Eff.callV rfl rfl ((hf W0 _ _ (by omega)).mono ?_))
      rintro v H' ⟨rfl, rfl⟩
      cases hpk : p (l[k]).toNat with
      | false =>
        refine au ?_
        refine G.rd (Rd.eqlB rfl rfl) rfl rfl ?_
        refine au ?_
        exact GQ.back ⟨k + 1, by omega, by rw [List.take_add_one, List.getElem?_eq_getElem hlt, List.any_append, hall]; simp [hpk]⟩ (by simp only; omega) ⟨rfl, rfl, rfl, trivial⟩ (fun _ h => h)
      | true =>
        refine au ?_
        refine G.rd (Rd.eqlB rfl rfl) rfl rfl ?_
        refine au ?_
        refine GQ.heap (H' := F) ?_ (fun w hw => hw.sub SubH.out)
        refine GQ.done1 rfl rfl ⟨(k : Int), rfl, ⟨fun _ => List.any_eq_true.2 ⟨l[k], by simp, hpk⟩, fun _ => by omega⟩, rfl⟩
    · have hpk : p (l[k]).toNat = true := hp _ (by omega)
      refine au ?_
      refine G.ef rfl rfl rfl (Eff.nextH rfl hlt (by omega) (fun c pos' h1 h2 h3 => ?_))
      refine au ?_
      refine G.ef rfl rfl rfl (Eff.callV rfl rfl ((hf W0 _ _ h2).mono ?_))
      rintro v H' ⟨rfl, rfl⟩
      rw [hp c h1]
      refine au ?_
      refine G.rd (Rd.eqlB rfl rfl) rfl rfl ?_
      refine au ?_
      refine GQ.heap (H' := F) ?_ (fun w hw => hw.sub SubH.out)
      refine GQ.done1 rfl rfl ⟨(k : Int), rfl, ⟨fun _ => List.any_eq_true.2 ⟨l[k], by simp, hpk⟩, fun _ => by omega⟩, rfl⟩
  · obtain rfl : k = l.length := by omega
    rw [List.take_length] at hall
    refine au ?_
    refine G.ef rfl rfl rfl (Eff.nextE rfl (by omega) ?_)
    refine au ?_
    refine GQ.heap (H' := F) ?_ (fun w hw => hw.sub SubH.out)
    refine GQ.done1 rfl rfl ⟨-1, rfl, ⟨fun h => by omega, fun h => by rw [hall] at h; cases h⟩, rfl⟩
theorem containsFunc_spec {f : FuncId} {p : Nat → Bool} [hcf : CallF Tryz.prog f] (hf : RunePred f p) (hp : ∀ c, 128 ≤ c → p c = true) (l : List UInt8) :
    T Tryz.prog W0 109 #[S l, .func (.func f) #[] #[]] F (fun v H' => v = .bool (l.any (fun b => p b.toNat)) ∧ H' = F) := by
  have hi : ∀ F, T Tryz.prog W0 148 #[S l, .func (.func f) #[] #[]] F (fun v H' => ∃ n : Int, v = .int .i64 n ∧ (0 ≤ n ↔ l.any (fun b => p b.toNat) = true) ∧ H' = F) := fun F => by
    refine T.intro (args := [_, _]) Tryz.func148 rfl Tryz.ntmps148 rfl ?_
    refine au ?_
    refine G.ef rfl rfl rfl (Eff.callF rfl ((iindexFunc_spec hf hp l).mono ?_))
    rintro v H' ⟨n, rfl, hn, rfl⟩
    refine au ?_
    exact GQ.done1 rfl rfl ⟨n, rfl, hn, rfl⟩
  refine T.intro (args := [_, _]) Tryz.func109 rfl Tryz.ntmps109 rfl ?_
  refine au ?_
  refine G.ef rfl rfl rfl (Eff.callF rfl ((hi F).mono ?_))
  rintro v H' ⟨n, rfl, hn, rfl⟩
  refine au ?_
  refine GQ.done1 rfl rfl ⟨?_, rfl⟩
  congr 1
  cases hany : l.any (fun b => p b.toNat) with
  | true => have := hn.2 hany; simp; omega
  | false =>
    have : ¬ 0 ≤ n := fun h => by have := hn.1 h; rw [hany] at this; cases this
    simp; omega
theorem drop_last_iff (l : List UInt8) (c : UInt8) (h : 1 ≤ l.length) : (l.drop (l.length - 1) = [c]) ↔ l.getLast? = some c := by
  rw [List.drop_eq_getElem_cons (by omega), List.drop_of_length_le (by omega), List.getLast?_eq_getElem?, List.getElem?_eq_getElem (by omega)]
  simp
theorem take_one_iff (l : List UInt8) (c : UInt8) (h : 1 ≤ l.length) : (l.take 1 = [c]) ↔ l.head? = some c := by
  cases l with
  | nil => simp at h
  | cons x l => simp
/-- Does a text end so? -/
theorem ihasSuffix_spec (l : List UInt8) (c : UInt8) (hl : l.length ≤ 140737488351232) : T Tryz.prog W0 87 #[S l, S [c]] F (fun v H' => v = .bool (decide (l.getLast? = some c)) ∧ H' = F) := by
  have h1 : [c].length = 1 := rfl
  refine T.intro (args := [_, _]) Tryz.func87 rfl Tryz.ntmps87 rfl ?_
  by_cases hlt : 1 ≤ l.length
  · refine au ?_
    refine G.rd (Rd.slSL (l := l.length - 1) rfl rfl (by omega) (by omega)) rfl rfl ?_
    refine au ?_
    refine GQ.done1 rfl rfl ⟨?_, rfl⟩
    congr 1
    exact decide_eq_decide.2 (drop_last_iff l c hlt)
  · have h0 : l = [] := List.eq_nil_of_length_eq_zero (by omega)
    refine au ?_
    exact GQ.done1 rfl rfl ⟨by rw [h0]; rfl, rfl⟩
theorem ihasPrefix_spec (l : List UInt8) (c : UInt8) (hl : l.length ≤ 140737488351232) : T Tryz.prog W0 103 #[S l, S [c]] F (fun v H' => v = .bool (decide (l.head? = some c)) ∧ H' = F) := by
  have h1 : [c].length = 1 := rfl
  refine T.intro (args := [_, _]) Tryz.func103 rfl Tryz.ntmps103 rfl ?_
  by_cases hlt : 1 ≤ l.length
  · refine au ?_
    refine G.rd (Rd.slSH (h := 1) rfl rfl (by omega) (by omega)) rfl rfl ?_
    refine au ?_
    refine GQ.done1 rfl rfl ⟨?_, rfl⟩
    congr 1
    exact decide_eq_decide.2 (take_one_iff l c hlt)
  · have h0 : l = [] := List.eq_nil_of_length_eq_zero (by omega)
    refine au ?_
    exact GQ.done1 rfl rfl ⟨by rw [h0]; rfl, rfl⟩
theorem hasSuffix_spec (l : List UInt8) (c : UInt8) (hl : l.length ≤ 140737488351232) : T Tryz.prog W0 61 #[S l, S [c]] F (fun v H' => v = .bool (decide (l.getLast? = some c)) ∧ H' = F) := by
  refine T.intro (args := [_, _]) Tryz.func61 rfl Tryz.ntmps61 rfl ?_
  refine au ?_
  refine G.ef rfl rfl rfl (Eff.callF rfl ((ihasSuffix_spec l c hl).mono ?_))
  rintro v H' ⟨rfl, rfl⟩
  refine au ?_
  exact GQ.done1 rfl rfl ⟨rfl, rfl⟩
theorem hasPrefix_spec (l : List UInt8) (c : UInt8) (hl : l.length ≤ 140737488351232) : T Tryz.prog W0 147 #[S l, S [c]] F (fun v H' => v = .bool (decide (l.head? = some c)) ∧ H' = F) := by
  refine T.intro (args := [_, _]) Tryz.func147 rfl Tryz.ntmps147 rfl ?_
  refine au ?_
  refine G.ef rfl rfl rfl (Eff.callF rfl ((ihasPrefix_spec l c hl).mono ?_))
  rintro v H' ⟨rfl, rfl⟩
  refine au ?_
  exact GQ.done1 rfl rfl ⟨rfl, rfl⟩
theorem trimSuffix_spec (l : List UInt8) (c : UInt8) (hl : l.length ≤ 140737488351232) : T Tryz.prog W0 105 #[S l, S [c]] F (fun v H' => v = S (trimL c l) ∧ H' = F) := by
  have h1 : [c].length = 1 := rfl
  have hi : ∀ F, T Tryz.prog W0 143 #[S l, S [c]] F (fun v H' => v = S (trimL c l) ∧ H' = F) := fun F => by
    refine T.intro (args := [_, _]) Tryz.func143 rfl Tryz.ntmps143 rfl ?_
    refine au ?_
    refine G.ef rfl rfl rfl (Eff.callF rfl ((ihasSuffix_spec l c hl).mono ?_))
    rintro v H' ⟨rfl, rfl⟩
    by_cases h : l.getLast? = some c
    · have hne : 1 ≤ l.length := by
        cases l with
        | nil => simp at h
        | cons x l => simp
      rw [show decide (l.getLast? = some c) = true by simp [h]]
      refine au ?_
      refine G.rd (Rd.slSH (h := l.length - 1) rfl rfl (by omega) (by omega)) rfl rfl ?_
      refine au ?_
      exact GQ.done1 rfl rfl ⟨by rw [trimL, if_pos h, List.dropLast_eq_take], rfl⟩
    · rw [show decide (l.getLast? = some c) = false by simp [h]]
      refine au ?_
      exact GQ.done1 rfl rfl ⟨by rw [trimL, if_neg h], rfl⟩
  refine T.intro (args := [_, _]) Tryz.func105 rfl Tryz.ntmps105 rfl ?_
  refine au ?_
  refine G.ef rfl rfl rfl (Eff.callF rfl ((hi F).mono ?_))
  rintro v H' ⟨rfl, rfl⟩
  refine au ?_
  exact GQ.done1 rfl rfl ⟨rfl, rfl⟩
end
end Go.Nam
