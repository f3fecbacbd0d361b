/-
  NAMES: which characters may stand in a label; a text in which one is found.
  NAMES: is a label bad; is any label of a list?
  NAMES: the one form of a name; its labels.
  NAMES: the labels of a name, the last one first.
  NAMES: the small case of the laws: what the plain functions answer there.
  NAMES: what the rows' lists give: what the package variables hold.
  WHAT IS PROVED OF THE FUNCTIONS THAT ANSWER BY A VALUE, as a walk finds it: letters, numbers, addresses, names.
  A WORLD IN WHICH THE LISTED PACKAGE VARIABLES LIE AS THE ROWS TELL: the heap that the door's own run leaves, and the pinned table.
-/
import Derived.Test.YtlakopiopplfhaaGreatDoorGPt
import Derived.Test.YtlakopiopplfhaaGreatDoorOwnH
import Derived.Test.YtlakopiopplfhaaGreatDoorRows
import Derived.HandedShaped
import Derived.LaidByTextLater
import Derived.Shelf.Vars
import Derived.LaidMore
import Derived.Deep.DeepLaidRun
import Derived.Deep.DeepWitnessRowRef
import Derived.KernelRfl
namespace Go.Nam
open Go.Own Go.Proofs Go.RowKit Go.Lib Go.Asc Go.Adr
attribute [local irreducible] GC GQ G Rd Eff T
set_option maxRecDepth 20000
set_option maxHeartbeats 4000000

theorem other_pred : RunePred 153 otherP := fun W0 F c hc => by
  refine T.intro (args := [_]) Tryz.func153 rfl Tryz.ntmps153 rfl ?_
  by_cases h : c < 48
  · refine au ?_
    exact GQ.done1 rfl rfl ⟨by simp [otherP, h], rfl⟩
  · by_cases h2 : 57 < c
    · refine au ?_
      exact GQ.done1 rfl rfl ⟨by simp [otherP, h2], rfl⟩
    · refine au ?_
      exact GQ.done1 rfl rfl ⟨by simp [otherP, h, h2], rfl⟩

theorem strange_pred : RunePred 188 strangeP := fun W0 F c hc => by
  refine T.intro (args := [_]) Tryz.func188 rfl Tryz.ntmps188 rfl ?_
  by_cases hfine : fineC c = true
  · rcases (show c = 45 ∨ (65 ≤ c ∧ c ≤ 90) ∨ c = 95 ∨ (97 ≤ c ∧ c ≤ 122) by simp [fineC] at hfine; omega) with h | h | h | h
    all_goals
      refine au ?_
      exact GQ.done1 rfl rfl ⟨by rw [strangeP, hfine]; rfl, rfl⟩
  · have hf2 : fineC c = false := by simpa using hfine
    rcases (show c < 45 ∨ (45 < c ∧ c < 65) ∨ (90 < c ∧ c < 95) ∨ c = 96 ∨ 122 < c by simp [fineC] at hf2; omega) with h | h | h | h | h
    all_goals
      refine au ?_
      refine G.ef rfl rfl rfl (Eff.callF rfl ((other_pred W0 _ c hc).mono ?_))
      rintro v H' ⟨rfl, rfl⟩
      refine au ?_
      exact GQ.done1 rfl rfl ⟨by rw [strangeP, hf2]; rfl, rfl⟩

section
variable {W0 : World} {F : Heap}
theorem iindexFunc_spec {f : FuncId} {p : Nat → Bool} [hcf : CallF Tryz.prog f] (hf : RunePred f p) (hp : ∀ c, 128 ≤ c → p c = true) (l : List UInt8) :
    T Tryz.prog W0 221 #[S l, .func (.func f) #[] #[], .bool true] F (fun v H' => ∃ n : Int, v = .int .i64 n ∧ (0 ≤ n ↔ l.any (fun b => p b.toNat) = true) ∧ H' = F) := by
  refine T.intro (args := [_, _, _]) Tryz.func221 rfl Tryz.ntmps221 rfl ?_
  refine au ?_
  refine G.ef rfl rfl rfl (Eff.rangeS rfl (fun r => ?_))
  refine au ?_
  refine GC.loop (ι := { k : Nat // k ≤ l.length ∧ (l.take k).any (fun b => p b.toNat) = false }) (fun i => [(1, .func (.func f) #[] #[]), (2, .bool true), (10, .pointer (some ⟨r, 0, none⟩))]) (fun i => (r, It l i.1) :: F) (fun i => l.length - i.1) ⟨0, Nat.zero_le _, rfl⟩ ⟨rfl, rfl, rfl, trivial⟩ (fun _ h => h) ?_
  rintro ⟨k, hk, hall⟩
  dsimp only at hk hall ⊢
  by_cases hlt : k < l.length
  · by_cases ha : (l[k]).toNat < 128
    · refine au ?_
      refine G.ef rfl rfl rfl (Eff.nextA rfl hlt ha ?_)
      refine au ?_
      refine G.ef rfl rfl rfl (Eff.callV rfl rfl ((hf W0 _ _ (by omega)).mono ?_))
      rintro v H' ⟨rfl, rfl⟩
      cases hpk : p (l[k]).toNat with
      | false =>
        refine au ?_
        refine G.rd (Rd.eqlB rfl rfl) rfl rfl ?_
        refine au ?_
        exact GQ.back ⟨k + 1, by omega, by rw [List.take_add_one, List.getElem?_eq_getElem hlt, List.any_append, hall]; simp [hpk]⟩ (by simp only; omega) ⟨rfl, rfl, rfl, trivial⟩ (fun _ h => h)
      | true =>
        refine au ?_
        refine G.rd (Rd.eqlB rfl rfl) rfl rfl ?_
        refine au ?_
        refine GQ.heap (H' := F) ?_ (fun w hw => hw.sub SubH.out)
        refine GQ.done1 rfl rfl ⟨(k : Int), rfl, ⟨fun _ => List.any_eq_true.2 ⟨l[k], by simp, hpk⟩, fun _ => by omega⟩, rfl⟩
    · have hpk : p (l[k]).toNat = true := hp _ (by omega)
      refine au ?_
      refine G.ef rfl rfl rfl (Eff.nextH rfl hlt (by omega) (fun c pos' h1 h2 h3 => ?_))
      refine au ?_
      refine G.ef rfl rfl rfl (Eff.callV rfl rfl ((hf W0 _ _ h2).mono ?_))
      rintro v H' ⟨rfl, rfl⟩
      rw [hp c h1]
      refine au ?_
      refine G.rd (Rd.eqlB rfl rfl) rfl rfl ?_
      refine au ?_
      refine GQ.heap (H' := F) ?_ (fun w hw => hw.sub SubH.out)
      refine GQ.done1 rfl rfl ⟨(k : Int), rfl, ⟨fun _ => List.any_eq_true.2 ⟨l[k], by simp, hpk⟩, fun _ => by omega⟩, rfl⟩
  · obtain rfl : k = l.length := by omega
    rw [List.take_length] at hall
    refine au ?_
    refine G.ef rfl rfl rfl (Eff.nextE rfl (by omega) ?_)
    refine au ?_
    refine GQ.heap (H' := F) ?_ (fun w hw => hw.sub SubH.out)
    refine GQ.done1 rfl rfl ⟨-1, rfl, ⟨fun h => by omega, fun h => by rw [hall] at h; cases h⟩, rfl⟩
theorem containsFunc_spec {f : FuncId} {p : Nat → Bool} [hcf : CallF Tryz.prog f] (hf : RunePred f p) (hp : ∀ c, 128 ≤ c → p c = true) (l : List UInt8) :
    T Tryz.prog W0 152 #[S l, .func (.func f) #[] #[]] F (fun v H' => v = .bool (l.any (fun b => p b.toNat)) ∧ H' = F) := by
  have hi : ∀ F, T Tryz.prog W0 191 #[S l, .func (.func f) #[] #[]] F (fun v H' => ∃ n : Int, v = .int .i64 n ∧ (0 ≤ n ↔ l.any (fun b => p b.toNat) = true) ∧ H' = F) := fun F => by
    refine T.intro (args := [_, _]) Tryz.func191 rfl Tryz.ntmps191 rfl ?_
    refine au ?_
    refine G.ef rfl rfl rfl (Eff.callF rfl ((iindexFunc_spec hf hp l).mono ?_))
    rintro v H' ⟨n, rfl, hn, rfl⟩
    refine au ?_
    exact GQ.done1 rfl rfl ⟨n, rfl, hn, rfl⟩
  refine T.intro (args := [_, _]) Tryz.func152 rfl Tryz.ntmps152 rfl ?_
  refine au ?_
  refine G.ef rfl rfl rfl (Eff.callF rfl ((hi F).mono ?_))
  rintro v H' ⟨n, rfl, hn, rfl⟩
  refine au ?_
  refine GQ.done1 rfl rfl ⟨?_, rfl⟩
  congr 1
  cases hany : l.any (fun b => p b.toNat) with
  | true => have := hn.2 hany; simp; omega
  | false =>
    have : ¬ 0 ≤ n := fun h => by have := hn.1 h; rw [hany] at this; cases this
    simp; omega
theorem drop_last_iff (l : List UInt8) (c : UInt8) (h : 1 ≤ l.length) : (l.drop (l.length - 1) = [c]) ↔ l.getLast? = some c := by
  rw [List.drop_eq_getElem_cons (by omega), List.drop_of_length_le (by omega), List.getLast?_eq_getElem?, List.getElem?_eq_getElem (by omega)]
  simp
theorem take_one_iff (l : List UInt8) (c : UInt8) (h : 1 ≤ l.length) : (l.take 1 = [c]) ↔ l.head? = some c := by
  cases l with
  | nil => simp at h
  | cons x l => simp
/-- Does a text end so? -/
theorem ihasSuffix_spec (l : List UInt8) (c : UInt8) (hl : l.length ≤ 140737488351232) : T Tryz.prog W0 220 #[S l, S [c]] F (fun v H' => v = .bool (decide (l.getLast? = some c)) ∧ H' = F) := by
  have h1 : [c].length = 1 := rfl
  refine T.intro (args := [_, _]) Tryz.func220 rfl Tryz.ntmps220 rfl ?_
  by_cases hlt : 1 ≤ l.length
  · refine au ?_
    refine G.rd (Rd.slSL (l := l.length - 1) rfl rfl (by omega) (by omega)) rfl rfl ?_
    refine au ?_
    refine GQ.done1 rfl rfl ⟨?_, rfl⟩
    congr 1
    exact decide_eq_decide.2 (drop_last_iff l c hlt)
  · have h0 : l = [] := List.eq_nil_of_length_eq_zero (by omega)
    refine au ?_
    exact GQ.done1 rfl rfl ⟨by rw [h0]; rfl, rfl⟩
theorem ihasPrefix_spec (l : List UInt8) (c : UInt8) (hl : l.length ≤ 140737488351232) : T Tryz.prog W0 158 #[S l, S [c]] F (fun v H' => v = .bool (decide (l.head? = some c)) ∧ H' = F) := by
  have h1 : [c].length = 1 := rfl
  refine T.intro (args := [_, _]) Tryz.func158 rfl Tryz.ntmps158 rfl ?_
  by_cases hlt : 1 ≤ l.length
  · refine au ?_
    refine G.rd (Rd.slSH (h := 1) rfl rfl (by omega) (by omega)) rfl rfl ?_
    refine au ?_
    refine GQ.done1 rfl rfl ⟨?_, rfl⟩
    congr 1
    exact decide_eq_decide.2 (take_one_iff l c hlt)
  · have h0 : l = [] := List.eq_nil_of_length_eq_zero (by omega)
    refine au ?_
    exact GQ.done1 rfl rfl ⟨by rw [h0]; rfl, rfl⟩
theorem hasSuffix_spec (l : List UInt8) (c : UInt8) (hl : l.length ≤ 140737488351232) : T Tryz.prog W0 190 #[S l, S [c]] F (fun v H' => v = .bool (decide (l.getLast? = some c)) ∧ H' = F) := by
  refine T.intro (args := [_, _]) Tryz.func190 rfl Tryz.ntmps190 rfl ?_
  refine au ?_
  refine G.ef rfl rfl rfl (Eff.callF rfl ((ihasSuffix_spec l c hl).mono ?_))
  rintro v H' ⟨rfl, rfl⟩
  refine au ?_
  exact GQ.done1 rfl rfl ⟨rfl, rfl⟩
theorem hasPrefix_spec (l : List UInt8) (c : UInt8) (hl : l.length ≤ 140737488351232) : T Tryz.prog W0 189 #[S l, S [c]] F (fun v H' => v = .bool (decide (l.head? = some c)) ∧ H' = F) := by
  refine T.intro (args := [_, _]) Tryz.func189 rfl Tryz.ntmps189 rfl ?_
  refine au ?_
  refine G.ef rfl rfl rfl (Eff.callF rfl ((ihasPrefix_spec l c hl).mono ?_))
  rintro v H' ⟨rfl, rfl⟩
  refine au ?_
  exact GQ.done1 rfl rfl ⟨rfl, rfl⟩
theorem trimSuffix_spec (l : List UInt8) (c : UInt8) (hl : l.length ≤ 140737488351232) : T Tryz.prog W0 148 #[S l, S [c]] F (fun v H' => v = S (trimL c l) ∧ H' = F) := by
  have h1 : [c].length = 1 := rfl
  have hi : ∀ F, T Tryz.prog W0 185 #[S l, S [c]] F (fun v H' => v = S (trimL c l) ∧ H' = F) := fun F => by
    refine T.intro (args := [_, _]) Tryz.func185 rfl Tryz.ntmps185 rfl ?_
    refine au ?_
    refine G.ef rfl rfl rfl (Eff.callF rfl ((ihasSuffix_spec l c hl).mono ?_))
    rintro v H' ⟨rfl, rfl⟩
    by_cases h : l.getLast? = some c
    · have hne : 1 ≤ l.length := by
        cases l with
        | nil => simp at h
        | cons x l => simp
      rw [show decide (l.getLast? = some c) = true by simp [h]]
      refine au ?_
      refine G.rd (Rd.slSH (h := l.length - 1) rfl rfl (by omega) (by omega)) rfl rfl ?_
      refine au ?_
      exact GQ.done1 rfl rfl ⟨by rw [trimL, if_pos h, List.dropLast_eq_take], rfl⟩
    · rw [show decide (l.getLast? = some c) = false by simp [h]]
      refine au ?_
      exact GQ.done1 rfl rfl ⟨by rw [trimL, if_neg h], rfl⟩
  refine T.intro (args := [_, _]) Tryz.func148 rfl Tryz.ntmps148 rfl ?_
  refine au ?_
  refine G.ef rfl rfl rfl (Eff.callF rfl ((hi F).mono ?_))
  rintro v H' ⟨rfl, rfl⟩
  refine au ?_
  exact GQ.done1 rfl rfl ⟨rfl, rfl⟩
end
end Go.Nam

namespace Go.Nam
open Go.Own Go.Proofs Go.RowKit Go.Lib Go.Asc Go.Adr
attribute [local irreducible] GC GQ G Rd Eff T
set_option maxRecDepth 20000
set_option maxHeartbeats 4000000

section
variable {W0 : World} {F : Heap}
theorem bad_spec (x : List UInt8) (hl : x.length ≤ 140737488351232) : T Tryz.prog W0 151 #[S x] F (fun v H' => v = .bool (badL x) ∧ H' = F) := by
  refine T.intro (args := [_]) Tryz.func151 rfl Tryz.ntmps151 rfl ?_
  by_cases h0 : x = []
  · refine au ?_
    exact GQ.done1 rfl rfl ⟨by simp [badL, h0], rfl⟩
  · by_cases h1 : 63 < x.length
    · refine au ?_
      exact GQ.done1 rfl rfl ⟨by simp [badL, h1], rfl⟩
    · refine au ?_
      refine G.ef rfl rfl rfl (Eff.callF rfl ((containsFunc_spec strange_pred strangeP_high x).mono ?_))
      rintro v H' ⟨rfl, rfl⟩
      cases h2 : x.any (fun b => strangeP b.toNat) with
      | true =>
        refine au ?_
        exact GQ.done1 rfl rfl ⟨by simp only [badL, h2]; simp, rfl⟩
      | false =>
        refine au ?_
        refine G.ef rfl rfl rfl (Eff.callF rfl ((hasPrefix_spec x 45 hl).mono ?_))
        rintro v H' ⟨rfl, rfl⟩
        by_cases h3 : x.head? = some 45
        · rw [show decide (x.head? = some 45) = true by simp [h3]]
          refine au ?_
          exact GQ.done1 rfl rfl ⟨by simp only [badL, h2, h3]; simp, rfl⟩
        · rw [show decide (x.head? = some 45) = false by simp [h3]]
          refine au ?_
          refine G.ef rfl rfl rfl (Eff.callF rfl ((hasSuffix_spec x 45 hl).mono ?_))
          rintro v H' ⟨rfl, rfl⟩
          refine au ?_
          exact GQ.done1 rfl rfl ⟨by simp [badL, h0, h1, h2, h3], rfl⟩

/-- Is any one of a list bad? -/
theorem anyBad_spec (ls : List (List UInt8)) (b c : Nat) (_ : ls.length ≤ c) (hN : ls.length ≤ 140737488351232) (hl : ∀ x ∈ ls, x.length ≤ 140737488351232) (hat : RO W0 F (fun w => CellsAt w b 0 (strs ls))) :
    T Tryz.prog W0 150 #[.slice (some ⟨b, 0, none⟩) ls.length c, .func (.func 151) #[] #[]] F (fun v H' => v = .bool (ls.any badL) ∧ H' = F) := by
  have hi : T Tryz.prog W0 187 #[.slice (some ⟨b, 0, none⟩) ls.length c, .func (.func 151) #[] #[]] F (fun v H' => ∃ n : Int, v = .int .i64 n ∧ (0 ≤ n ↔ ls.any badL = true) ∧ H' = F) := by
    refine T.intro (args := [_, _]) Tryz.func187 rfl Tryz.ntmps187 rfl ?_
    refine au ?_
    refine GC.loop (ι := { k : Nat // k ≤ ls.length ∧ (ls.take k).any badL = false }) (fun i => [(0, .slice (some ⟨b, 0, none⟩) ls.length c), (1, .func (.func 151) #[] #[]), (7, .int .i64 (ls.length : Int)), (8, .int .i64 (i.1 : Int))]) (fun _ => F) (fun i => ls.length - i.1) ⟨0, Nat.zero_le _, rfl⟩ ⟨rfl, rfl, rfl, rfl, trivial⟩ (fun _ h => h) ?_
    rintro ⟨k, hk, hall⟩
    dsimp only at hk hall ⊢
    by_cases hlt : k < ls.length
    · have hcell : ∀ w, Own W0 F w → w.cell? ⟨b, 0 + k * 1, none⟩ = some (S ls[k]) := fun w hw => by
        rw [Nat.mul_one]
        exact hat.here hw k _ (by simp [strs, hlt])
      refine au ?_
      refine G.rd (Rd.load rfl hcell) rfl rfl ?_
      refine G.ef rfl rfl rfl (Eff.callV rfl rfl ((bad_spec ls[k] (hl _ (by simp))).mono ?_))
      rintro v H' ⟨rfl, hH⟩
      subst hH
      cases hbk : badL ls[k] with
      | true =>
        refine au ?_
        exact GQ.done1 rfl rfl ⟨(k : Int), rfl, ⟨fun _ => List.any_eq_true.2 ⟨ls[k], by simp, hbk⟩, fun _ => by omega⟩, rfl⟩
      | false =>
        refine au ?_
        exact GQ.back ⟨k + 1, by omega, by rw [List.take_succ_eq_append_getElem hlt, List.any_append, hall]; simp [hbk]⟩ (by simp only; omega) ⟨rfl, rfl, rfl, rfl, trivial⟩ (fun _ h => h)
    · obtain rfl : k = ls.length := by omega
      rw [List.take_length] at hall
      refine au ?_
      exact GQ.done1 rfl rfl ⟨-1, rfl, ⟨fun h => by omega, fun h => by rw [hall] at h; cases h⟩, rfl⟩
  refine T.intro (args := [_, _]) Tryz.func150 rfl Tryz.ntmps150 rfl ?_
  refine au ?_
  refine G.ef rfl rfl rfl (Eff.callF rfl (hi.mono ?_))
  rintro v H' ⟨n, rfl, hn, rfl⟩
  refine au ?_
  refine GQ.done1 rfl rfl ⟨?_, rfl⟩
  congr 1
  cases hany : ls.any badL with
  | true => have := hn.2 hany; simp; omega
  | false =>
    have : ¬ 0 ≤ n := fun h => by have := hn.1 h; rw [hany] at this; cases this
    simp; omega
end
end Go.Nam

namespace Go.Nam
open Go.Own Go.Proofs Go.RowKit Go.Lib Go.Asc Go.Adr
attribute [local irreducible] GC GQ G Rd Eff T
set_option maxRecDepth 20000
set_option maxHeartbeats 4000000

def normalV (s : List UInt8) : Value := .tuple #[S (normalL s).1, .int .i64 ((normalL s).2 : Int)]

section
variable {W0 : World} {F : Heap}
theorem normal_spec (hv : Vars W0) (s : List UInt8) (hl : s.length < 4294967281) : T Tryz.prog W0 120 #[S s] F (fun v H' => v = normalV s ∧ H' = F) := by
  refine T.intro (args := [_]) Tryz.func120 rfl Tryz.ntmps120 rfl ?_
  refine au ?_
  refine G.ef rfl rfl rfl (Eff.callF rfl ((parse_spec hv s hl).mono ?_))
  rintro v H' ⟨rfl, rfl⟩
  unfold parseV
  have hz16 : (u8s ((parseL s).getD zero16)).length = 16 := by
    rw [u8s_length]
    cases hp : parseL s with
    | none => rfl
    | some a => exact parseL_len hp
  refine au ?_
  refine G.ef rfl rfl rfl (Eff.alloc (fun b4 => ?_))
  refine G.heap (H' := (b4, .cells (u8s zero16).toArray 34 (0, 0)) :: H') ?_ (fun _ h => h)
  refine G.ef rfl rfl rfl (Eff.storeAll rfl rfl (u8s_one _) (by rw [hz16]; rfl) hz16 ?_)
  cases hp : parseL s with
  | some a =>
    simp only [Option.isSome_some, Option.getD_some]
    have ha := parseL_len hp
    refine au ?_
    refine G.rd (Rd.loadBlk rfl (by rw [u8s_length]; exact ha)) rfl rfl ?_
    refine G.ef rfl rfl rfl (Eff.callF rfl ((print_spec hv a ha).mono ?_))
    rintro v H2 ⟨rfl, rfl⟩
    refine au ?_
    refine GQ.heap (H' := H') ?_ (fun w hw => hw.sub SubH.out)
    exact GQ.done2 rfl rfl rfl ⟨by simp only [normalV, normalL, hp]; rfl, rfl⟩
  | none =>
    simp only [Option.isSome_none, Option.getD_none]
    refine au ?_
    refine G.heap (H' := H') ?_ (fun w hw => hw.sub SubH.out)
    refine G.ef rfl rfl rfl (Eff.callF rfl ((lower_spec s (by omega)).mono ?_))
    rintro v H2 ⟨rfl, rfl⟩
    have hll : (s.map lowB).length = s.length := List.length_map _
    refine G.ef rfl rfl rfl (Eff.callF rfl ((trimSuffix_spec (s.map lowB) 46 (by omega)).mono ?_))
    rintro v H3 ⟨rfl, rfl⟩
    have htl := trimL_le 46 (s.map lowB)
    have hnl : normalL s = if trimL 46 (s.map lowB) = [] then ([], 8)
      else if 253 < (trimL 46 (s.map lowB)).length then ([], 6)
      else if (splitB 46 (trimL 46 (s.map lowB))).any badL = true ∨ ((splitB 46 (trimL 46 (s.map lowB))).getLast?.getD []).any (fun b => otherP b.toNat) = false then ([], 9)
      else (trimL 46 (s.map lowB), 0) := by simp only [normalL, hp]
    unfold normalV
    rw [hnl]
    clear hnl
    generalize trimL 46 (s.map lowB) = x at htl ⊢
    refine au ?_
    refine G.ef rfl rfl rfl (Eff.callF rfl ((split_spec x 46 (by omega)).mono ?_))
    rintro v H4 ⟨bk, rfl, rfl⟩
    have hne := splitB_ne 46 x
    have hple := splitB_le 46 x
    have hlen := splitB_length 46 x
    have hcnt := List.count_le_length (a := (46 : UInt8)) (l := x)
    by_cases h0 : x = []
    · rw [if_pos h0]
      refine au ?_
      refine GQ.heap (H' := H3) ?_ (fun w hw => hw.sub SubH.out)
      exact GQ.done2 rfl rfl rfl ⟨rfl, rfl⟩
    · rw [if_neg h0]
      by_cases h1 : 253 < x.length
      · rw [if_pos h1]
        refine au ?_
        refine GQ.heap (H' := H3) ?_ (fun w hw => hw.sub SubH.out)
        exact GQ.done2 rfl rfl rfl ⟨rfl, rfl⟩
      · rw [if_neg h1]
        generalize Asc.splitB 46 x = ps at hne hple hlen ⊢
        have hpos : 0 < ps.length := List.length_pos_iff.2 hne
        refine au ?_
        refine G.ef rfl rfl rfl (Eff.callF rfl ((anyBad_spec ps bk ps.length (Nat.le_refl _) (by omega) (fun y hy => by have := hple y hy; omega) (RO.cells (cs := strs ps) (fun j u h => by simpa using h))).mono ?_))
        rintro v H5 ⟨rfl, rfl⟩
        cases hany : ps.any badL with
        | true =>
          rw [if_pos (Or.inl rfl)]
          refine au ?_
          refine GQ.heap (H' := H3) ?_ (fun w hw => hw.sub SubH.out)
          exact GQ.done2 rfl rfl rfl ⟨rfl, rfl⟩
        | false =>
          have hgl : ps.getLast?.getD [] = ps[ps.length - 1] := by rw [List.getLast?_eq_getElem?, List.getElem?_eq_getElem (by omega)]; rfl
          rw [hgl]
          refine au ?_
          rw [show ((ps.length : Int) - 1) = ((ps.length - 1 : Nat) : Int) by omega]
          refine G.rd (Rd.load rfl (cellH (cell_strs ps (ps.length - 1) (by omega)))) rfl rfl ?_
          refine G.ef rfl rfl rfl (Eff.callF rfl ((containsFunc_spec other_pred otherP_high ps[ps.length - 1]).mono ?_))
          rintro v H6 ⟨rfl, rfl⟩
          cases hlast : (ps[ps.length - 1]).any (fun b => otherP b.toNat) with
          | false =>
            rw [if_pos (Or.inr rfl)]
            refine au ?_
            refine GQ.heap (H' := H3) ?_ (fun w hw => hw.sub SubH.out)
            exact GQ.done2 rfl rfl rfl ⟨rfl, rfl⟩
          | true =>
            rw [if_neg (by simp)]
            refine au ?_
            refine GQ.heap (H' := H3) ?_ (fun w hw => hw.sub SubH.out)
            exact GQ.done2 rfl rfl rfl ⟨rfl, rfl⟩
end
end Go.Nam

namespace Go.Nam
open Go.Own Go.Proofs Go.RowKit Go.Lib Go.Asc Go.Adr
attribute [local irreducible] GC GQ G Rd Eff T
set_option maxRecDepth 20000
set_option maxHeartbeats 4000000

theorem set_strs0 (l : List (List UInt8)) (k : Nat) (x : List UInt8) : (strs l).toArray.setIfInBounds (0 + k * 1) (S x) = (strs (l.set k x)).toArray := by
  simp only [Nat.zero_add, Nat.mul_one, List.setIfInBounds_toArray]
  simp [strs, List.map_set]
section
variable {W0 : World} {F : Heap}
theorem labels_spec (hv : Vars W0) (s : List UInt8) (hl : s.length < 4294967281) : T Tryz.prog W0 95 #[S s] F
    (fun v H' => ∃ bk, v = .slice (some ⟨bk, 0, none⟩) (labelsL s).length (labelsL s).length ∧ H' = (bk, .cells (strs (labelsL s)).toArray 9 (0, 0)) :: F) := by
  refine T.intro (args := [_]) Tryz.func95 rfl Tryz.ntmps95 rfl ?_
  refine au ?_
  refine G.ef rfl rfl rfl (Eff.callF rfl ((parse_spec hv s hl).mono ?_))
  rintro v H' ⟨rfl, rfl⟩
  unfold parseV
  have hz16 : (u8s ((parseL s).getD zero16)).length = 16 := by
    rw [u8s_length]
    cases hp : parseL s with
    | none => rfl
    | some a => exact parseL_len hp
  refine au ?_
  refine G.ef rfl rfl rfl (Eff.alloc (fun b4 => ?_))
  refine G.heap (H' := (b4, .cells (u8s zero16).toArray 34 (0, 0)) :: H') ?_ (fun _ h => h)
  refine G.ef rfl rfl rfl (Eff.storeAll rfl rfl (u8s_one _) (by rw [hz16]; rfl) hz16 ?_)
  refine G.heap (H' := H') ?_ (fun w hw => hw.sub SubH.out)
  cases hp : parseL s with
  | some a =>
    have hlab : labelsL s = [s] := by simp only [labelsL, hp]
    rw [hlab]
    simp only [Option.isSome_some]
    refine au ?_
    refine G.ef rfl rfl rfl (Eff.buildSlice (cells := (strs [s]).toArray) rfl (by kernel_rfl) (by omega) (fun b2 => ?_))
    refine au ?_
    exact GQ.done1 rfl rfl ⟨b2, rfl, rfl⟩
  | none =>
    have hlab : labelsL s = (splitB 46 s).reverse := by simp only [labelsL, hp]
    rw [hlab]
    simp only [Option.isSome_none]
    refine au ?_
    refine G.ef rfl rfl rfl (Eff.callF rfl ((split_spec s 46 (by omega)).mono ?_))
    rintro v H4 ⟨bk, rfl, rfl⟩
    have hlen := splitB_length 46 s
    have hcnt := List.count_le_length (a := (46 : UInt8)) (l := s)
    generalize Asc.splitB 46 s = ps at hlen ⊢
    refine au ?_
    refine G.ef rfl rfl rfl (Eff.make (n := ps.length) rfl rfl rfl rfl (by omega) (by omega) rfl (fun b6 => ?_))
    refine au ?_
    refine GC.loop (ι := { k : Nat // k ≤ ps.length }) (fun i => [(5, .slice (some ⟨bk, 0, none⟩) ps.length ps.length), (6, .slice (some ⟨b6, 0, none⟩) ps.length ps.length), (22, .int .i64 (ps.length : Int)), (23, .int .i64 (i.1 : Int))]) (fun i => (b6, .cells (strs (List.replicate (ps.length - i.1) [] ++ (ps.take i.1).reverse)).toArray 9 (0, 0)) :: (bk, .cells (strs ps).toArray 9 (0, 0)) :: H') (fun i => ps.length - i.1) ⟨0, Nat.zero_le _⟩ ⟨rfl, rfl, rfl, rfl, trivial⟩ (fun w hw => by simpa [strs] using hw) ?_
    rintro ⟨k, hk⟩
    dsimp only at hk ⊢
    by_cases hlt : k < ps.length
    · refine au ?_
      refine G.rd (Rd.load rfl (cellH (cell_strs ps k hlt))) rfl rfl ?_
      rw [show (ps.length : Int) - 1 - (k : Int) = ((ps.length - 1 - k : Nat) : Int) by omega]
      refine au ?_
      refine G.ef rfl rfl rfl (Eff.store rfl rfl rfl (by simp [strs_length]; omega) (by simp [Fz]) ?_)
      refine au ?_
      refine GQ.back ⟨k + 1, by omega⟩ (by simp only; omega) ⟨rfl, rfl, rfl, rfl, trivial⟩ (fun w hw => ?_)
      rw [← turn_set ps k hlt, ← set_strs0]
      exact hw
    · obtain rfl : k = ps.length := by omega
      rw [Nat.sub_self, List.take_length, List.replicate_zero, List.nil_append]
      refine au ?_
      refine GQ.heap (H' := (b6, .cells (strs ps.reverse).toArray 9 (0, 0)) :: H') ?_ (fun w hw => hw.sub SubH.out)
      exact GQ.done1 rfl rfl ⟨b6, by rw [List.length_reverse], rfl⟩
end
end Go.Nam

namespace Go.Nam
open Go.Own Go.Proofs Go.RowKit Go.Lib Go.Asc Go.Adr
attribute [local irreducible] GC GQ G Rd Eff T
set_option maxRecDepth 20000
set_option maxHeartbeats 4000000
end Go.Nam

namespace Go.Nam
open Go.Own Go.Proofs Go.RowKit Go.Lib Go.Asc Go.Adr
theorem vars_of {W : World} (hsh : W.ShapedOpen Tryz.prog) (hL : laidMetH Tryz.prog YtlakopiopplfhaaGreatDoor.Rows.decideTellsRow.laid W) : Vars (zd W) := by
  rw [MakeChecks.laidMetH_plain _ _ _ (by kernel_rfl)] at hL
  have hA : TabIs Tryz.prog W "hagioscope/addr.ahead" .u8 [0, 0, 0, 0, 0, 0, 0, 0, 0, 0, 255, 255] := tabIs_of_mem (g := 0) (by kernel_rfl) (by kernel_rfl) Tryz.underlying142 Tryz.underlying5 (by kernel_rfl) (by kernel_rfl) hL (List.mem_of_getElem? (i := 6) (by kernel_rfl))
  have hP : TabIs Tryz.prog W "internal/strconv.uint64pow10" .u64 pow10Tab := tabIs_of_mem (g := 1) (t := 308) (e := 218) (by kernel_rfl) (by kernel_rfl) Tryz.underlying308 Tryz.underlying218 (by kernel_rfl) (by kernel_rfl) hL (List.mem_of_getElem? (i := 2) (by kernel_rfl))
  have hT : TabIs Tryz.prog W "math/bits.deBruijn64tab" .u8 [0, 1, 56, 2, 57, 49, 28, 3, 61, 58, 42, 50, 38, 29, 17, 4, 62, 47, 59, 36, 45, 43, 51, 22, 53, 39, 33, 30, 24, 18, 12, 5, 63, 55, 48, 27, 60, 41, 37, 16, 46, 35, 44, 21, 52, 32, 23, 11, 54, 26, 40, 15, 34, 20, 31, 10, 25, 14, 19, 9, 13, 8, 7, 6] := tabIs_of_mem (g := 6) (t := 345) (e := 5) (by kernel_rfl) (by kernel_rfl) Tryz.underlying345 Tryz.underlying5 (by kernel_rfl) (by kernel_rfl) hL (List.mem_of_getElem? (i := 1) (by kernel_rfl))
  have key : (∃ m : Int, W.cell? ⟨2, 0, none⟩ = some (.int .i64 m)) ∧ CellsAt W 0 0 (u8s aheadL) ∧ W.cell? ⟨6, 15, none⟩ = some (.int .u8 4) ∧ TabIs Tryz.prog W "internal/strconv.uint64pow10" .u64 pow10Tab := by
   refine ⟨?_, fun j u hj => ?_, hT.cell (by kernel_rfl) 15 (by decide), hP⟩
   · exact cell_of_shapedOpen_int (t := 3) (zero := #[.int .i64 0]) hsh (Nat.le_of_ble_eq_true (by kernel_rfl)) (by kernel_rfl) rfl (by kernel_rfl) (by kernel_rfl) Tryz.underlying3
   · have hlt : j < 12 := (List.getElem?_eq_some_iff.1 hj).1
     have h1 := hA.cell (g := 0) (by kernel_rfl) j hlt
     rw [Nat.zero_add, h1, ← hj]
     have key : ∀ i : Fin 12, some (Value.int IntKind.u8 (([0, 0, 0, 0, 0, 0, 0, 0, 0, 0, 255, 255] : List Int).getD i.1 0)) = (u8s aheadL)[i.1]? := by
       intro i
       match i with
       | 0 | 1 | 2 | 3 | 4 | 5 | 6 | 7 | 8 | 9 | 10 | 11 => rfl
     exact key ⟨j, hlt⟩
  obtain ⟨k1, k2, k3, k4⟩ := key
  exact ⟨k1, fun j u hj => k2 j u hj, k3, k4, rfl⟩
end Go.Nam

namespace Go.Nam
open Go.Own Go.Proofs Go.RowKit Go.Lib Go.Asc Go.Adr
instance (priority := high) : ZeroT Tryz.prog 34 (.agg (u8s zero16).toArray) := ⟨Tryz.zeroValue34⟩
section
variable {W0 : World}
instance [hv : Vars W0] {s : List UInt8} : PureF Tryz.prog W0 125 [S s] (s.length < 4294967281) (parseV s) := ⟨fun h _ => parse_spec hv s h⟩
instance [hv : Vars W0] {s : List UInt8} : PureF Tryz.prog W0 120 [S s] (s.length < 4294967281) (normalV s) := ⟨fun h _ => normal_spec hv s h⟩
end
end Go.Nam

namespace Go.Own
open Go.Proofs

noncomputable def laidWorld (os : Os) : World :=
  { World.doorLaid Tryz.prog 77 os with heap := (World.doorLaid Tryz.prog 77 os).heap.modify 3 fun
      | .cells _ t frozen => .cells (Go.Pinned.utf8FirstZ.map fun (n : Nat) => Value.int .u8 (n : Int)).toArray t frozen
      | o => o }
theorem laid_shaped1 (os : Os) (args : Array Value) : ((laidWorld os).forCall (fun _ _ => 0) ⟨#[], args, []⟩).variablesRefB Tryz.prog = true := by kernel_rfl
theorem laid_shaped2 (os : Os) (args : Array Value) : (((laidWorld os).forCall (fun _ _ => 0) ⟨#[], args, []⟩).heap.toList.drop Tryz.prog.globals.size).take ((begin Tryz.prog (fun _ _ => 0) default).world.heap.size - Tryz.prog.globals.size) =
      (begin Tryz.prog (fun _ _ => 0) default).world.heap.toList.drop Tryz.prog.globals.size := by kernel_rfl
theorem laid_met (os : Os) (args : Array Value) : laidMet Tryz.prog YtlakopiopplfhaaGreatDoor.Rows.decideTellsRow.laid ((laidWorld os).forCall (fun _ _ => 0) ⟨#[], args, []⟩).memory :=
  laidMet_of_run3 8 (by kernel_rfl) (by kernel_rfl) (by kernel_rfl)
end Go.Own
