/-
  NameParts: two names are one, with a dot between, if it is not too long, and the second one is no address: any two: no condition.
-/
import Derived.Test.YtabkbpckehdiaaaDoorRows
import Derived.Test.YtabkbpckehdiaaaDoorTie
import Derived.Test.YtabkbpckehdiaaaDoorCards
import Derived.Test.YtabkbpckehdiaaaDoorNam5
import Derived.Test.YtabkbpckehdiaaaDoorIns0
import Derived.Test.YtabkbpckehdiaaaDoorWit
import Derived.Test.YtabkbpckehdiaaaDoorTabF
import Derived.SevenTiedPlain
namespace Go.Nam
open Go.Own Go.Proofs Go.RowKit Go.Lib Go.Asc Go.Adr
attribute [local irreducible] GC GQ G Rd Eff T
set_option maxRecDepth 20000
set_option maxHeartbeats 4000000
theorem parts_plain (a b : List UInt8) : (normalL a).2 ≠ 0 ∨ (normalL b).2 ≠ 0 ∨ (parseL (normalL a).1).isSome = true ∨ (parseL (normalL b).1).isSome = true ∨
    ((normalL a).2 = 0 ∧ (normalL b).2 = 0 ∧ (parseL (normalL a).1).isSome = false ∧ (parseL (normalL b).1).isSome = false ∧ (normalL a).1.length ≤ 253 ∧ (normalL b).1.length ≤ 253 ∧
      ((252 < (normalL a).1.length + (normalL b).1.length ∧ (normalL ((normalL a).1 ++ [46] ++ (normalL b).1)).2 = 6 ∧ (normalL ((normalL a).1 ++ [46] ++ (normalL b).1)).1 = []) ∨
       ((normalL a).1.length + (normalL b).1.length ≤ 252 ∧ (normalL ((normalL a).1 ++ [46] ++ (normalL b).1)).2 = 0 ∧ (normalL ((normalL a).1 ++ [46] ++ (normalL b).1)).1 = (normalL a).1 ++ [46] ++ (normalL b).1))) := by
  cases came a with
  | bad e h0 hp hn => left; rw [hn]; simp only; omega
  | addr x ha hp hn => right; right; left; rw [hn]; simp [parse_print ha]
  | name n hm hl hp hn =>
    cases came b with
    | bad e h0 hp hn => right; left; rw [hn]; simp only; omega
    | addr x ha hp hn => right; right; right; left; rw [hn]; simp [parse_print ha]
    | name m hm2 hl2 hp2 hn2 =>
      right; right; right; right
      rw [hn, hn2]
      simp only [hm.parse, hm2.parse, Option.isSome_none]
      have h2 := nm_two hm hm2
      have e1 : n ++ [46] ++ m = n ++ 46 :: m := by simp
      rw [e1]
      refine ⟨trivial, trivial, trivial, trivial, hl, hl2, ?_⟩
      by_cases hc : 252 < n.length + m.length
      · left
        rw [normal_long h2 (by simp; omega)]
        exact ⟨hc, rfl, rfl⟩
      · right
        rw [normal_nm h2 (by simp; omega)]
        exact ⟨by omega, rfl, rfl⟩
theorem NameParts_core (W : World) (hv : Vars W) (a b : List UInt8) (hl : a.length ≤ 140737488351232) (hl2 : b.length ≤ 140737488351232) : T Tryd.prog W 5 #[S a, S b] [] (fun v _ => v = .bool true) := by
  refine T.intro (args := [_, _]) Tryd.func5 rfl Tryd.ntmps5 rfl ?_
  by_cases h6 : 300 < a.length ∨ 300 < b.length
  · by_cases h7 : 300 < a.length
    · repeat' first | refine st ?_ | (refine nw ?_; intro _) | refine kn ?_ | (refine sp ?_ ?_ <;> intro _) | fail
      exact GQ.done1 rfl rfl rfl
    · have h8 : 300 < b.length := by omega
      repeat' first | refine st ?_ | (refine nw ?_; intro _) | refine kn ?_ | (refine sp ?_ ?_ <;> intro _) | fail
      exact GQ.done1 rfl rfl rfl
  · have hb1 : (normalL a).1.length ≤ 253 := normal_len a
    have hb2 : (normalL b).1.length ≤ 253 := normal_len b
    rcases parts_plain a b with h1 | h1 | h1 | h1 | ⟨h1, h2, h3, h4, h5, h6', ⟨h7, h8, h9⟩ | ⟨h7, h8, h9⟩⟩
    all_goals
      repeat' first | refine st ?_ | (refine nw ?_; intro _) | refine kn ?_ | (refine sp ?_ ?_ <;> intro _) | fail
    all_goals exact GQ.done1 rfl rfl rfl
theorem NameParts_walk (W : World) (vts : List VT) (hv : Vars W) (h : VT.LiesEach Tryd.prog W [9, 9] vts) : T Tryd.prog W 5 (vts.map VT.val).toArray [] (fun v _ => v = .bool true) := by
  obtain ⟨v0, r0, rfl, h0, h⟩ := lies_one h
  obtain ⟨v1, r1, rfl, h1, h⟩ := lies_one h
  obtain rfl := lies_nil h
  obtain ⟨s, rfl, hl⟩ := Lies.str h0
  obtain ⟨t, rfl, hl2⟩ := Lies.str h1
  exact NameParts_core W hv s t hl hl2
end Go.Nam
namespace Go.Proofs.YtabkbpckehdiaaaDoor.LNameParts
open Go.Own
theorem own : ownKnob Tryd.prog.godebug = none := by kernel_rfl
theorem reads (os : Os) {H : Type} (enc : TypeId × Value → H) : ∃ x, DataW.whole enc Tryd.prog ((laidWorld os).forCall (fun _ _ => 0) ⟨#[], #[.string ⟨#[]⟩, .string ⟨#[]⟩], []⟩).memory Tryd.f5.params.toList Rows.namePartsSpec.vars false #[.string ⟨#[]⟩, .string ⟨#[]⟩].toList 8 = some x :=
  Option.isSome_iff_exists.1 (by kernel_rfl)
set_option maxRecDepth 100000 in
theorem lifted (os : Os) (started : os.Started) (H : Type) (enc : TypeId × Value → H) (F : Stop.Interp) :
    ReturnsInHanded {} Tryd.checked os 5 .any ((OpenSpec.ofChange Rows.namePartsSpec).preRow enc Tryd.prog Tryd.f5 Rows.namePartsRow.domain false Rows.namePartsRow.laid) (((OpenSpec.ofChange Rows.namePartsSpec).at F).post enc Tryd.prog Tryd.f5 false true false false) := by
  obtain ⟨x, hx⟩ := reads os enc
  exact law_laid (C := Tryd.checked) (D := 20) (tb := 4) own started (by kernel_rfl) Tryd.func5 rfl rfl Tryd.underlying4 (by kernel_rfl) (by kernel_rfl) (by kernel_rfl)
    (fun K ds h => by match ds, h with | [_, _], _ => rfl)
    (witness_row_atRef (enc := enc) (C := Tryd.checked) false (laidWorld os) #[.string ⟨#[]⟩, .string ⟨#[]⟩] rfl (laid_shaped1 os _) (laid_shaped2 os _) (by kernel_rfl)
      (OpenSpec.preRow_of_cond 8 hx (by kernel_rfl) (fun k hk => by cases hk) (by kernel_rfl) (laid_met os _)))
    (fun W vts hsh hL h => Go.Nam.NameParts_walk W vts (Go.Nam.vars_of hsh hL) (by rw [Tryd.params5] at h; exact h))
theorem said : Rows.NamePartsSaid :=
  OpenClaim.holds_of_cond 5 Tryd.f5 rfl rfl rfl rfl rfl rfl rfl ⟨rfl, rfl, rfl, rfl, rfl⟩ rfl rfl rfl rfl rfl (by kernel_rfl) Tryd.func5 (by kernel_rfl)
    (of_decide_eq_true (by kernel_rfl)) (by unfold Func.isWrapper; first | (rw [if_pos (by decide +kernel)]; kernel_rfl) | (rw [if_neg (by decide +kernel)]; exact ⟨rfl, rfl⟩))
    (fun os started H enc _ F => by rw [OpenClaim.pre_eq_preRow]; exact lifted os started H enc F)
theorem plain (f : FuncId) (fn : Func) (hf : Tryd.pinned.checked.prog.funcNamed "hagioscope/hagioscopelaw14.NameParts" = some f) (hfn : Tryd.pinned.checked.prog.funcs[f]? = some fn) :
    true = Tryd.pinned.checked.prog.looks [] ∧ ∀ (j : Nat) t, fn.params[j]? = some t → Tryd.pinned.checked.prog.wantsStandIn t = false := by
  obtain rfl : f = 5 := Option.some.inj ((show Tryd.prog.funcNamed "hagioscope/hagioscopelaw14.NameParts" = some 5 by kernel_rfl).symm.trans hf) |>.symm
  obtain rfl : fn = Tryd.f5 := (Option.some.inj (Tryd.func5.symm.trans hfn)).symm
  refine ⟨by kernel_rfl, fun j t ht => ?_⟩
  have hall : Tryd.f5.params.toList.all (fun t => !Tryd.prog.wantsStandIn t) = true := by kernel_rfl
  have := List.all_eq_true.1 hall t (Array.mem_toList_iff.2 (Array.mem_of_getElem? ht))
  have h2 : Tryd.prog.wantsStandIn t = false := by simpa using this
  exact h2
end Go.Proofs.YtabkbpckehdiaaaDoor.LNameParts
namespace Go.Proofs.YtabkbpckehdiaaaDoor
/-- The law NameParts holds: its card. -/
theorem nameParts_holds : Rows.NamePartsCardSaid :=
  Claim7.holds_tied_plain_at .later [] _ _ _ _ LNameParts.said (fun _ h => by cases h) (by kernel_rfl) (fun _ h => by cases h) nameParts_row_tie rfl ⟨rfl, rfl⟩ (by kernel_rfl) rfl LNameParts.plain (by kernel_rfl)
#print axioms nameParts_holds
end Go.Proofs.YtabkbpckehdiaaaDoor
