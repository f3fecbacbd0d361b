/-
  NameAgain: what is normal is so, done again; letters may be great; a dot may stand behind, of what is no address: of any string: no condition.
-/
import Derived.Test.YtabkbpckehdiaaaDoorRows
import Derived.Test.YtabkbpckehdiaaaDoorTie
import Derived.Test.YtabkbpckehdiaaaDoorCards
import Derived.Test.YtabkbpckehdiaaaDoorNam5
import Derived.Test.YtabkbpckehdiaaaDoorIns0
import Derived.Test.YtabkbpckehdiaaaDoorWit
import Derived.Test.YtabkbpckehdiaaaDoorTabF
import Derived.SevenTiedPlain
namespace Go.Nam
open Go.Own Go.Proofs Go.RowKit Go.Lib Go.Asc Go.Adr
attribute [local irreducible] GC GQ G Rd Eff T
set_option maxRecDepth 20000
set_option maxHeartbeats 4000000
theorem again_plain (s : List UInt8) : ((normalL s).2 ≠ 0 ∧ (normalL s).1 = []) ∨ ((normalL s).2 = 0 ∧ (normalL s).1 ≠ [] ∧ (normalL s).1.length ≤ 253 ∧ (normalL (normalL s).1).1 = (normalL s).1 ∧ (normalL (normalL s).1).2 = 0 ∧
    (normalL (s.map lowB)).1 = (normalL s).1 ∧ (normalL (s.map lowB)).2 = 0 ∧
    (((parseL (normalL s).1).isSome = false ∧ (normalL ((normalL s).1 ++ [46])).1 = (normalL s).1 ∧ (normalL ((normalL s).1 ++ [46])).2 = 0) ∨ ((parseL (normalL s).1).isSome = true ∧ (normalL ((normalL s).1 ++ [46])).2 ≠ 0))) := by
  rw [normal_low]
  cases came s with
  | bad e h0 hp hn => left; rw [hn]; exact ⟨by simp only; omega, rfl⟩
  | addr a ha hp hn =>
    right
    obtain ⟨e, he, hd⟩ := normal_dot_addr (parse_print ha)
    rw [hn]
    simp only [normal_print ha, parse_print ha, hd]
    have := print_len ha
    exact ⟨trivial, print_ne ha, by omega, trivial, trivial, trivial, trivial, .inr ⟨rfl, by omega⟩⟩
  | name n hm hl hp hn =>
    right
    rw [hn]
    simp only [normal_nm hm hl, hm.parse, normal_dot_name hm hl]
    exact ⟨trivial, hm.ne, hl, trivial, trivial, trivial, trivial, .inl ⟨rfl, trivial, trivial⟩⟩
theorem NameAgain_core (W : World) (hv : Vars W) (s : List UInt8) (hl : s.length ≤ 140737488351232) : T Tryd.prog W 3 #[S s] [] (fun v _ => v = .bool true) := by
  refine T.intro (args := [_]) Tryd.func3 rfl Tryd.ntmps3 rfl ?_
  have hlow : (s.map lowB).length = s.length := List.length_map _
  by_cases h6 : 600 < s.length
  · repeat' first | refine st ?_ | (refine nw ?_; intro _) | refine kn ?_ | (refine sp ?_ ?_ <;> intro _) | fail
    exact GQ.done1 rfl rfl rfl
  · rcases again_plain s with ⟨h1, h2⟩ | ⟨h1, h2, h3, h4, h5, h7, h8, h9⟩
    · repeat' first | refine st ?_ | (refine nw ?_; intro _) | refine kn ?_ | (refine sp ?_ ?_ <;> intro _) | fail
      exact GQ.done1 rfl rfl rfl
    · rcases h9 with ⟨h9, h10, h11⟩ | ⟨h9, h10⟩
      · repeat' first | refine st ?_ | (refine nw ?_; intro _) | refine kn ?_ | (refine sp ?_ ?_ <;> intro _) | fail
        exact GQ.done1 rfl rfl rfl
      · repeat' first | refine st ?_ | (refine nw ?_; intro _) | refine kn ?_ | (refine sp ?_ ?_ <;> intro _) | fail
        exact GQ.done1 rfl rfl rfl
theorem NameAgain_walk (W : World) (vts : List VT) (hv : Vars W) (h : VT.LiesEach Tryd.prog W [9] vts) : T Tryd.prog W 3 (vts.map VT.val).toArray [] (fun v _ => v = .bool true) := by
  obtain ⟨v0, r0, rfl, h0, h⟩ := lies_one h
  obtain rfl := lies_nil h
  obtain ⟨s, rfl, hl⟩ := Lies.str h0
  exact NameAgain_core W hv s hl
end Go.Nam
namespace Go.Proofs.YtabkbpckehdiaaaDoor.LNameAgain
open Go.Own
theorem own : ownKnob Tryd.prog.godebug = none := by kernel_rfl
theorem reads (os : Os) {H : Type} (enc : TypeId × Value → H) : ∃ x, DataW.whole enc Tryd.prog ((laidWorld os).forCall (fun _ _ => 0) ⟨#[], #[.string ⟨#[]⟩], []⟩).memory Tryd.f3.params.toList Rows.nameAgainSpec.vars false #[.string ⟨#[]⟩].toList 8 = some x :=
  Option.isSome_iff_exists.1 (by kernel_rfl)
set_option maxRecDepth 100000 in
theorem lifted (os : Os) (started : os.Started) (H : Type) (enc : TypeId × Value → H) (F : Stop.Interp) :
    ReturnsInHanded {} Tryd.checked os 3 .any ((OpenSpec.ofChange Rows.nameAgainSpec).preRow enc Tryd.prog Tryd.f3 Rows.nameAgainRow.domain false Rows.nameAgainRow.laid) (((OpenSpec.ofChange Rows.nameAgainSpec).at F).post enc Tryd.prog Tryd.f3 false true false false) := by
  obtain ⟨x, hx⟩ := reads os enc
  exact law_laid (C := Tryd.checked) (D := 20) (tb := 4) own started (by kernel_rfl) Tryd.func3 rfl rfl Tryd.underlying4 (by kernel_rfl) (by kernel_rfl) (by kernel_rfl)
    (fun K ds h => by match ds, h with | [_], _ => rfl)
    (witness_row_atRef (enc := enc) (C := Tryd.checked) false (laidWorld os) #[.string ⟨#[]⟩] rfl (laid_shaped1 os _) (laid_shaped2 os _) (by kernel_rfl)
      (OpenSpec.preRow_of_cond 8 hx (by kernel_rfl) (fun k hk => by cases hk) (by kernel_rfl) (laid_met os _)))
    (fun W vts hsh hL h => Go.Nam.NameAgain_walk W vts (Go.Nam.vars_of hsh hL) (by rw [Tryd.params3] at h; exact h))
theorem said : Rows.NameAgainSaid :=
  OpenClaim.holds_of_cond 3 Tryd.f3 rfl rfl rfl rfl rfl rfl rfl ⟨rfl, rfl, rfl, rfl, rfl⟩ rfl rfl rfl rfl rfl (by kernel_rfl) Tryd.func3 (by kernel_rfl)
    (of_decide_eq_true (by kernel_rfl)) (by unfold Func.isWrapper; first | (rw [if_pos (by decide +kernel)]; kernel_rfl) | (rw [if_neg (by decide +kernel)]; exact ⟨rfl, rfl⟩))
    (fun os started H enc _ F => by rw [OpenClaim.pre_eq_preRow]; exact lifted os started H enc F)
theorem plain (f : FuncId) (fn : Func) (hf : Tryd.pinned.checked.prog.funcNamed "hagioscope/hagioscopelaw14.NameAgain" = some f) (hfn : Tryd.pinned.checked.prog.funcs[f]? = some fn) :
    true = Tryd.pinned.checked.prog.looks [] ∧ ∀ (j : Nat) t, fn.params[j]? = some t → Tryd.pinned.checked.prog.wantsStandIn t = false := by
  obtain rfl : f = 3 := Option.some.inj ((show Tryd.prog.funcNamed "hagioscope/hagioscopelaw14.NameAgain" = some 3 by kernel_rfl).symm.trans hf) |>.symm
  obtain rfl : fn = Tryd.f3 := (Option.some.inj (Tryd.func3.symm.trans hfn)).symm
  refine ⟨by kernel_rfl, fun j t ht => ?_⟩
  have hall : Tryd.f3.params.toList.all (fun t => !Tryd.prog.wantsStandIn t) = true := by kernel_rfl
  have := List.all_eq_true.1 hall t (Array.mem_toList_iff.2 (Array.mem_of_getElem? ht))
  have h2 : Tryd.prog.wantsStandIn t = false := by simpa using this
  exact h2
end Go.Proofs.YtabkbpckehdiaaaDoor.LNameAgain
namespace Go.Proofs.YtabkbpckehdiaaaDoor
/-- The law NameAgain holds: its card. -/
theorem nameAgain_holds : Rows.NameAgainCardSaid :=
  Claim7.holds_tied_plain_at .later [] _ _ _ _ LNameAgain.said (fun _ h => by cases h) (by kernel_rfl) (fun _ h => by cases h) nameAgain_row_tie rfl ⟨rfl, rfl⟩ (by kernel_rfl) rfl LNameAgain.plain (by kernel_rfl)
#print axioms nameAgain_holds
end Go.Proofs.YtabkbpckehdiaaaDoor
