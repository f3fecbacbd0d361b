/-
  NameLabels: labels, turned again, with dots between, are the name, and each is short: of a name that is normal: no condition.
-/
import Derived.Test.YtabkbpckehdiaaaDoorRows
import Derived.Test.YtabkbpckehdiaaaDoorTie
import Derived.Test.YtabkbpckehdiaaaDoorCards
import Derived.Test.YtabkbpckehdiaaaDoorNam5
import Derived.Test.YtabkbpckehdiaaaDoorIns0
import Derived.Test.YtabkbpckehdiaaaDoorWit
import Derived.Test.YtabkbpckehdiaaaDoorTabF
import Derived.SevenTiedPlain
namespace Go.Nam
open Go.Own Go.Proofs Go.RowKit Go.Lib Go.Asc Go.Adr
attribute [local irreducible] GC GQ G Rd Eff T
set_option maxRecDepth 20000
set_option maxHeartbeats 4000000
theorem labels_plain (s : List UInt8) : (normalL s).2 ≠ 0 ∨ ((normalL s).2 = 0 ∧ (normalL s).1.length ≤ 253 ∧ join (labelsL (normalL s).1).reverse [46] = (normalL s).1 ∧ ∀ x ∈ labelsL (normalL s).1, 1 ≤ x.length ∧ x.length ≤ 253 ∧ (x.length ≤ 63 ∨ (parseL (normalL s).1).isSome = true)) := by
  cases came s with
  | bad e h0 hp hn => left; rw [hn]; simp only; omega
  | addr a ha hp hn =>
    right
    rw [hn]
    simp only [labels_addr (parse_print ha), parse_print ha]
    have h1 := print_len ha
    have h2 := List.length_pos_iff.2 (print_ne ha)
    refine ⟨trivial, by omega, by simp [join_one], fun x hx => ?_⟩
    simp only [List.mem_singleton] at hx
    subst hx
    exact ⟨h2, by omega, .inr rfl⟩
  | name n hm hl hp hn =>
    right
    rw [hn]
    simp only [labels_name hm, List.reverse_reverse]
    refine ⟨trivial, hl, join_splitB 46 n, fun x hx => ?_⟩
    have h1 := badL_ne (any_bad hm.fine x (List.mem_reverse.1 hx))
    have h2 := List.length_pos_iff.2 h1.1
    exact ⟨h2, by omega, .inl h1.2.1⟩
theorem join_snoc (x : List UInt8) (l : List (List UInt8)) : join (x :: l) [46] = if l = [] then x else x ++ 46 :: join l [46] := by
  cases l with
  | nil => simp [join_one]
  | cons y r => rw [join_two]; simp
theorem NameLabels_core (W : World) (hv : Vars W) (s : List UInt8) (hl : s.length ≤ 140737488351232) : T Tryd.prog W 4 #[S s] [] (fun v _ => v = .bool true) := by
  refine T.intro (args := [_]) Tryd.func4 rfl Tryd.ntmps4 rfl ?_
  by_cases h6 : 600 < s.length
  · repeat' first | refine st ?_ | (refine nw ?_; intro _) | refine kn ?_ | (refine sp ?_ ?_ <;> intro _) | fail
    exact GQ.done1 rfl rfl rfl
  · rcases labels_plain s with h1 | ⟨h1, h2, h3, h4⟩
    · repeat' first | refine st ?_ | (refine nw ?_; intro _) | refine kn ?_ | (refine sp ?_ ?_ <;> intro _) | fail
      exact GQ.done1 rfl rfl rfl
    · repeat' first | refine st ?_ | (refine nw ?_; intro _) | refine kn ?_ | (refine sp ?_ ?_ <;> intro _) | fail
      refine G.ef rfl rfl rfl (Eff.callF rfl ((labels_spec hv (normalL s).1 (by omega)).mono ?_))
      rintro v H2 ⟨bk, rfl, rfl⟩
      have hL : (labelsL (normalL s).1).length ≤ 254 := by
        have e1 : ∀ l : List (List UInt8), l.length ≤ (join l [46]).length + 1 := by
          intro l
          induction l with
          | nil => simp
          | cons x l ih => rw [join_snoc]; split <;> simp_all; omega
        have := e1 (labelsL (normalL s).1).reverse
        rw [h3, List.length_reverse] at this; omega
      generalize labelsL (normalL s).1 = L at h3 h4 hL
      generalize (normalL s).1 = nm at h2 h3 h4
      repeat' first | refine st ?_ | (refine nw ?_; intro _) | refine kn ?_ | (refine sp ?_ ?_ <;> intro _) | fail
      refine GC.loopE (ι := { k : Nat // k ≤ L.length }) (fun i => [(3, .bool true), (7, S (join (L.take i.1).reverse [46])), (8, .int .i64 (i.1 : Int))]) [(4, _), (6, _)] (fun _ => [(bk, .cells (strs L).toArray 9 (0, 0))]) (fun i => L.length - i.1) ⟨0, Nat.zero_le _⟩ ⟨rfl, rfl, rfl, rfl, rfl, trivial⟩ (fun _ h => h) ?_
      rintro ⟨k, hk⟩
      dsimp only [List.cons_append, List.nil_append] at hk ⊢
      by_cases hlt : k < L.length
      · obtain ⟨g1, g2, g3⟩ := h4 L[k] (by simp)
        have hj : join (L.take (k + 1)).reverse [46] = L[k] ++ (if 0 < k then 46 :: join (L.take k).reverse [46] else join (L.take k).reverse [46]) := by
          rw [List.take_succ_eq_append_getElem hlt, List.reverse_append, List.reverse_singleton, List.singleton_append, join_snoc]
          by_cases h0 : k = 0
          · subst h0; simp [join_nil]
          · have : (L.take k).reverse ≠ [] := by
              intro e
              have := congrArg List.length e
              simp only [List.length_reverse, List.length_take, List.length_nil] at this; omega
            rw [if_neg this, if_pos (by omega)]
        have hjl : (join (L.take k).reverse [46]).length ≤ 100000 := by
          have e2 := join_len [46] 253 (L.take k).reverse (fun x hx => (h4 x (List.mem_of_mem_take (List.mem_reverse.1 hx))).2.1)
          simp only [List.length_reverse, List.length_take, List.length_singleton] at e2
          have : min k L.length ≤ 254 := by omega
          have := Nat.mul_le_mul_right (253 + 1) this
          omega
        rcases g3 with g3 | g3 <;> by_cases h0 : 0 < k
        all_goals first | rw [if_pos h0] at hj | rw [if_neg h0] at hj
        all_goals
          repeat' first | refine st ?_ | (refine nw ?_; intro _) | refine kn ?_ | (refine sp ?_ ?_ <;> intro _) | fail
        all_goals exact GQ.back ⟨k + 1, by omega⟩ (by simp only; omega) ⟨(by first | rfl | (simp only [hj]; rfl)), (by first | rfl | (simp only [hj]; rfl)), (by first | rfl | (simp only [hj]; rfl)), (by first | rfl | (simp only [hj]; rfl)), (by first | rfl | (simp only [hj]; rfl)), trivial⟩ (fun w hw => hw.sub SubH.out)
      · obtain rfl : k = L.length := by omega
        simp only [List.take_length]
        repeat' first | refine st ?_ | (refine nw ?_; intro _) | refine kn ?_ | (refine sp ?_ ?_ <;> intro _) | fail
        exact GQ.done1 rfl rfl rfl
theorem NameLabels_walk (W : World) (vts : List VT) (hv : Vars W) (h : VT.LiesEach Tryd.prog W [9] vts) : T Tryd.prog W 4 (vts.map VT.val).toArray [] (fun v _ => v = .bool true) := by
  obtain ⟨v0, r0, rfl, h0, h⟩ := lies_one h
  obtain rfl := lies_nil h
  obtain ⟨s, rfl, hl⟩ := Lies.str h0
  exact NameLabels_core W hv s hl
end Go.Nam
namespace Go.Proofs.YtabkbpckehdiaaaDoor.LNameLabels
open Go.Own
theorem own : ownKnob Tryd.prog.godebug = none := by kernel_rfl
theorem reads (os : Os) {H : Type} (enc : TypeId × Value → H) : ∃ x, DataW.whole enc Tryd.prog ((laidWorld os).forCall (fun _ _ => 0) ⟨#[], #[.string ⟨#[]⟩], []⟩).memory Tryd.f4.params.toList Rows.nameLabelsSpec.vars false #[.string ⟨#[]⟩].toList 8 = some x :=
  Option.isSome_iff_exists.1 (by kernel_rfl)
set_option maxRecDepth 100000 in
theorem lifted (os : Os) (started : os.Started) (H : Type) (enc : TypeId × Value → H) (F : Stop.Interp) :
    ReturnsInHanded {} Tryd.checked os 4 .any ((OpenSpec.ofChange Rows.nameLabelsSpec).preRow enc Tryd.prog Tryd.f4 Rows.nameLabelsRow.domain false Rows.nameLabelsRow.laid) (((OpenSpec.ofChange Rows.nameLabelsSpec).at F).post enc Tryd.prog Tryd.f4 false true false false) := by
  obtain ⟨x, hx⟩ := reads os enc
  exact law_laid (C := Tryd.checked) (D := 20) (tb := 4) own started (by kernel_rfl) Tryd.func4 rfl rfl Tryd.underlying4 (by kernel_rfl) (by kernel_rfl) (by kernel_rfl)
    (fun K ds h => by match ds, h with | [_], _ => rfl)
    (witness_row_atRef (enc := enc) (C := Tryd.checked) false (laidWorld os) #[.string ⟨#[]⟩] rfl (laid_shaped1 os _) (laid_shaped2 os _) (by kernel_rfl)
      (OpenSpec.preRow_of_cond 8 hx (by kernel_rfl) (fun k hk => by cases hk) (by kernel_rfl) (laid_met os _)))
    (fun W vts hsh hL h => Go.Nam.NameLabels_walk W vts (Go.Nam.vars_of hsh hL) (by rw [Tryd.params4] at h; exact h))
theorem said : Rows.NameLabelsSaid :=
  OpenClaim.holds_of_cond 4 Tryd.f4 rfl rfl rfl rfl rfl rfl rfl ⟨rfl, rfl, rfl, rfl, rfl⟩ rfl rfl rfl rfl rfl (by kernel_rfl) Tryd.func4 (by kernel_rfl)
    (of_decide_eq_true (by kernel_rfl)) (by unfold Func.isWrapper; first | (rw [if_pos (by decide +kernel)]; kernel_rfl) | (rw [if_neg (by decide +kernel)]; exact ⟨rfl, rfl⟩))
    (fun os started H enc _ F => by rw [OpenClaim.pre_eq_preRow]; exact lifted os started H enc F)
theorem plain (f : FuncId) (fn : Func) (hf : Tryd.pinned.checked.prog.funcNamed "hagioscope/hagioscopelaw14.NameLabels" = some f) (hfn : Tryd.pinned.checked.prog.funcs[f]? = some fn) :
    true = Tryd.pinned.checked.prog.looks [] ∧ ∀ (j : Nat) t, fn.params[j]? = some t → Tryd.pinned.checked.prog.wantsStandIn t = false := by
  obtain rfl : f = 4 := Option.some.inj ((show Tryd.prog.funcNamed "hagioscope/hagioscopelaw14.NameLabels" = some 4 by kernel_rfl).symm.trans hf) |>.symm
  obtain rfl : fn = Tryd.f4 := (Option.some.inj (Tryd.func4.symm.trans hfn)).symm
  refine ⟨by kernel_rfl, fun j t ht => ?_⟩
  have hall : Tryd.f4.params.toList.all (fun t => !Tryd.prog.wantsStandIn t) = true := by kernel_rfl
  have := List.all_eq_true.1 hall t (Array.mem_toList_iff.2 (Array.mem_of_getElem? ht))
  have h2 : Tryd.prog.wantsStandIn t = false := by simpa using this
  exact h2
end Go.Proofs.YtabkbpckehdiaaaDoor.LNameLabels
namespace Go.Proofs.YtabkbpckehdiaaaDoor
/-- The law NameLabels holds: its card. -/
theorem nameLabels_holds : Rows.NameLabelsCardSaid :=
  Claim7.holds_tied_plain_at .later [] _ _ _ _ LNameLabels.said (fun _ h => by cases h) (by kernel_rfl) (fun _ h => by cases h) nameLabels_row_tie rfl ⟨rfl, rfl⟩ (by kernel_rfl) rfl LNameLabels.plain (by kernel_rfl)
#print axioms nameLabels_holds
end Go.Proofs.YtabkbpckehdiaaaDoor
