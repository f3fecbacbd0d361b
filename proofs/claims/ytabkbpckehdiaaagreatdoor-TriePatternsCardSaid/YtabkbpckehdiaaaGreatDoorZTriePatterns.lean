/-
  TriePatterns: a name matches itself alone, the sign of all that is below and it match what has labels ahead, the sign of all matches all: of names in their one form: no condition.
-/
import Derived.Test.YtabkbpckehdiaaaGreatDoorRows
import Derived.Test.YtabkbpckehdiaaaGreatDoorTie
import Derived.Test.YtabkbpckehdiaaaGreatDoorCards
import Derived.Test.YtabkbpckehdiaaaGreatDoorNam5
import Derived.Test.YtabkbpckehdiaaaGreatDoorGTc
import Derived.Test.YtabkbpckehdiaaaGreatDoorWit
import Derived.SevenTiedPlain
namespace Go.Tri
open Go.Own Go.Proofs Go.RowKit Go.Lib Go.Asc Go.Adr Go.Nam Go.Rfn
attribute [local irreducible] GC GQ G Rd Eff T
set_option maxRecDepth 20000
set_option maxHeartbeats 4000000
attribute [local irreducible] named patL matchL visL fitsL rightL countsL lessL
theorem right_plain {p : Lab} (h : patL p = true) : rightL ⟨false, 0, p, 0, []⟩ = 0 := by
  rw [rightL, if_neg (by simp), if_neg (by simp [h]), if_neg (by simp), if_neg (by simp)]
def plainR (p : Lab) : Ru := ⟨false, 0, p, 0, []⟩
theorem TriePatterns_core (W : World) (hv : Vars W) (a b : Lab) (hl : a.length ≤ 140737488351232) (hl2 : b.length ≤ 140737488351232) : T Tryz.prog W 9 #[S a, S b] [] (fun v _ => v = .bool true) := by
  refine T.intro (args := [_, _]) Tryz.func9 rfl Tryz.ntmps9 rfl ?_
  by_cases hbig : 100 < a.length ∨ 100 < b.length
  · repeat' first | refine Y.st ?_ | (refine nw ?_; intro _) | refine Y.kn ?_ | (refine sp ?_ ?_ <;> intro _) | fail
    all_goals first | (exfalso; omega) | exact GQ.done1 rfl rfl rfl
  · have n1 := normal_len a
    have n2 := normal_len b
    have z1 : (u8s ((parseL (normalL a).1).getD zero16)).length = 16 := by rw [u8s_length]; exact addr_len _
    have z2 : (u8s ((parseL (normalL b).1).getD zero16)).length = 16 := by rw [u8s_length]; exact addr_len _
    by_cases hgood : (normalL a).2 = 0 ∧ (normalL b).2 = 0 ∧ (parseL (normalL a).1).isSome = false ∧ (parseL (normalL b).1).isSome = false
    · obtain ⟨g1, g2, g3, g4⟩ := hgood
      have nm : ∀ s : Lab, s.length ≤ 100 → (normalL s).2 = 0 → (parseL (normalL s).1).isSome = false → Nm (normalL s).1 ∧ (normalL s).1.length ≤ 101 := fun s hs h1 h2 => by
        cases came s with
        | addr x hx hp hn => rw [hn] at h2; simp only at h2; rw [parse_print hx] at h2; cases h2
        | bad e h0 hp hn => rw [hn] at h1; simp only at h1; omega
        | name n hm hln hp hn =>
          rw [hn]
          refine ⟨hm, ?_⟩
          have h9 := normal_eq hp
          rw [hn] at h9
          have ht := trimL_le 46 (s.map lowB)
          split at h9
          · have := congrArg Prod.snd h9; simp at this
          · split at h9
            · have := congrArg Prod.snd h9; simp at this
            · split at h9
              · have := congrArg Prod.snd h9; simp at this
              · have h10 : n = trimL 46 (s.map lowB) := congrArg Prod.fst h9
                simp only; rw [h10]; simp at ht; omega
      obtain ⟨m1, q1⟩ := nm a (by omega) g1 g3
      obtain ⟨m2, q2⟩ := nm b (by omega) g2 g4
      have hz : Nm ((normalL a).1 ++ [46] ++ (normalL b).1) := by have := nm_two m1 m2; simpa using this
      have hzl : ((normalL a).1 ++ [46] ++ (normalL b).1).length ≤ 203 := by simp; omega
      have f1 : matchL (normalL a).1 (normalL b).1 = decide ((normalL a).1 = (normalL b).1) := match_name m1 (by omega)
      have f2 : matchL (normalL b).1 ((normalL a).1 ++ [46] ++ (normalL b).1) = false := by
        rw [match_name m2 (by omega)]
        refine decide_eq_false (fun h => ?_)
        have := congrArg List.length h; simp at this; omega
      have f3 : matchL ([42, 46] ++ (normalL b).1) ((normalL a).1 ++ [46] ++ (normalL b).1) = true := by
        have := match_wildn (y := (normalL a).1 ++ [46] ++ (normalL b).1) m2 (Nat.le_trans q2 (by decide))
        refine Eq.trans this (decide_eq_true ⟨(normalL a).1, by simp⟩)
      have f4 : matchL ([42, 46] ++ (normalL b).1) (normalL b).1 = false := Eq.trans (match_wildn (y := (normalL b).1) m2 (Nat.le_trans q2 (by decide))) (decide_eq_false (not_suffix_self (normalL b).1))
      have f5 : matchL [42] ((normalL a).1 ++ [46] ++ (normalL b).1) = true := match_star _
      have f6 : matchL ((normalL a).1 ++ [46] ++ (normalL b).1) ((normalL a).1 ++ [46] ++ (normalL b).1) = true := by rw [match_name hz (Nat.le_trans hzl (by decide))]; simp
      have f7 : rightL (plainR ((normalL a).1 ++ [46] ++ (normalL b).1)) = 0 := right_plain (pat_name hz (Nat.le_trans hzl (by decide)))
      have f8 : rightL (plainR ([42, 46] ++ ((normalL a).1 ++ [46] ++ (normalL b).1))) = 0 := right_plain (pat_wild hz (Nat.le_trans hzl (by decide)))
      have l7 : (plainR ((normalL a).1 ++ [46] ++ (normalL b).1)).pat.length ≤ 300 := by show ((normalL a).1 ++ [46] ++ (normalL b).1).length ≤ 300; omega
      have l8 : (plainR ([42, 46] ++ ((normalL a).1 ++ [46] ++ (normalL b).1))).pat.length ≤ 300 := by show ([42, 46] ++ ((normalL a).1 ++ [46] ++ (normalL b).1)).length ≤ 300; rw [List.length_append]; simp only [List.length_cons, List.length_nil]; omega
      have l9 : ([42, 46] ++ (normalL b).1).length ≤ 300 := by rw [List.length_append]; simp only [List.length_cons, List.length_nil]; omega
      repeat' first | refine Y.st ?_ | (refine nw ?_; intro _) | refine Y.kn ?_ | fail
      refine G.rd (Rd.eqlB rfl rfl) rfl rfl ?_
      rw [f1, beq_self_eq_true]
      repeat' first | refine Y.st ?_ | (refine nw ?_; intro _) | refine Y.kn ?_ | fail
      refine G.rd (Rd.eqlB rfl rfl) rfl rfl ?_
      rw [f2, show (false == false) = true from rfl]
      repeat' first | refine Y.st ?_ | (refine nw ?_; intro _) | refine Y.kn ?_ | fail
      refine G.rd (Rd.build (cells := ruA (plainR ((normalL a).1 ++ [46] ++ (normalL b).1))) rfl (by rfl)) rfl rfl ?_
      repeat' first | refine Y.st ?_ | (refine nw ?_; intro _) | refine Y.kn ?_ | fail
      refine G.rd (Rd.build (cells := ruA (plainR ([42, 46] ++ ((normalL a).1 ++ [46] ++ (normalL b).1)))) rfl (by rfl)) rfl rfl ?_
      repeat' first | refine Y.st ?_ | (refine nw ?_; intro _) | refine Y.kn ?_ | fail
      exact GQ.done1 rfl rfl rfl
    · repeat' first | refine Y.st ?_ | (refine nw ?_; intro _) | refine Y.kn ?_ | (refine sp ?_ ?_ <;> intro _) | fail
      all_goals first | (exfalso; omega) | (exfalso; simp_all; done) | exact GQ.done1 rfl rfl rfl
theorem TriePatterns_walk (W : World) (vts : List VT) (hv : Vars W) (h : VT.LiesEach Tryz.prog W [9, 9] vts) : T Tryz.prog W 9 (vts.map VT.val).toArray [] (fun v _ => v = .bool true) := by
  obtain ⟨v0, r, rfl, h0, h⟩ := lies_one h
  obtain ⟨v1, r, rfl, h1, h⟩ := lies_one h
  obtain rfl := lies_nil h
  obtain ⟨a, rfl, hl⟩ := Go.Own.Lies.str h0
  obtain ⟨b, rfl, hl2⟩ := Go.Own.Lies.str h1
  exact TriePatterns_core W hv a b hl hl2
end Go.Tri
namespace Go.Proofs.YtabkbpckehdiaaaGreatDoor.LTriePatterns
open Go.Own
theorem own : ownKnob Tryz.prog.godebug = none := by kernel_rfl
theorem reads (os : Os) {H : Type} (enc : TypeId × Value → H) : ∃ x, DataW.whole enc Tryz.prog ((laidWorld os).forCall (fun _ _ => 0) ⟨#[], #[.string ⟨#[]⟩, .string ⟨#[]⟩], []⟩).memory Tryz.f9.params.toList Rows.triePatternsSpec.vars false #[.string ⟨#[]⟩, .string ⟨#[]⟩].toList 8 = some x :=
  Option.isSome_iff_exists.1 (by kernel_rfl)
set_option maxRecDepth 100000 in
theorem lifted (os : Os) (started : os.Started) (H : Type) (enc : TypeId × Value → H) (F : Stop.Interp) :
    ReturnsInHanded {} Tryz.checked os 9 .any ((OpenSpec.ofChange Rows.triePatternsSpec).preRow enc Tryz.prog Tryz.f9 Rows.triePatternsRow.domain false Rows.triePatternsRow.laid) (((OpenSpec.ofChange Rows.triePatternsSpec).at F).post enc Tryz.prog Tryz.f9 false true false false) := by
  obtain ⟨x, hx⟩ := reads os enc
  exact law_laid (C := Tryz.checked) (D := 20) (tb := 4) own started (by kernel_rfl) Tryz.func9 rfl rfl Tryz.underlying4 (by kernel_rfl) (by kernel_rfl) (by kernel_rfl)
    (fun K ds h => by match ds, h with | [_, _], _ => rfl)
    (witness_row_atRef (enc := enc) (C := Tryz.checked) false (laidWorld os) #[.string ⟨#[]⟩, .string ⟨#[]⟩] rfl (laid_shaped1 os _) (laid_shaped2 os _) (by kernel_rfl)
      (OpenSpec.preRow_of_cond 8 hx (by kernel_rfl) (fun k hk => by cases hk) (by kernel_rfl) (laid_met os _)))
    (fun W vts hsh hL h => Go.Tri.TriePatterns_walk W vts (Go.Nam.vars_of hsh hL) (by rw [Tryz.params9] at h; exact h))
theorem said : Rows.TriePatternsSaid :=
  OpenClaim.holds_of_cond 9 Tryz.f9 rfl rfl rfl rfl rfl rfl rfl ⟨rfl, rfl, rfl, rfl, rfl⟩ rfl rfl rfl rfl rfl (by kernel_rfl) Tryz.func9 (by kernel_rfl)
    (of_decide_eq_true (by kernel_rfl)) (by unfold Func.isWrapper; first | (rw [if_pos (by decide +kernel)]; kernel_rfl) | (rw [if_neg (by decide +kernel)]; exact ⟨rfl, rfl⟩))
    (fun os started H enc _ F => by rw [OpenClaim.pre_eq_preRow]; exact lifted os started H enc F)
theorem plain (f : FuncId) (fn : Func) (hf : Tryz.pinned.checked.prog.funcNamed "hagioscope/hagioscopelaw18.TriePatterns" = some f) (hfn : Tryz.pinned.checked.prog.funcs[f]? = some fn) :
    true = Tryz.pinned.checked.prog.looks [] ∧ ∀ (j : Nat) t, fn.params[j]? = some t → Tryz.pinned.checked.prog.wantsStandIn t = false := by
  obtain rfl : f = 9 := Option.some.inj ((show Tryz.prog.funcNamed "hagioscope/hagioscopelaw18.TriePatterns" = some 9 by kernel_rfl).symm.trans hf) |>.symm
  obtain rfl : fn = Tryz.f9 := (Option.some.inj (Tryz.func9.symm.trans hfn)).symm
  refine ⟨by kernel_rfl, fun j t ht => ?_⟩
  have hall : Tryz.f9.params.toList.all (fun t => !Tryz.prog.wantsStandIn t) = true := by kernel_rfl
  have := List.all_eq_true.1 hall t (Array.mem_toList_iff.2 (Array.mem_of_getElem? ht))
  have h2 : Tryz.prog.wantsStandIn t = false := by simpa using this
  exact h2
end Go.Proofs.YtabkbpckehdiaaaGreatDoor.LTriePatterns
namespace Go.Proofs.YtabkbpckehdiaaaGreatDoor
/-- The law TriePatterns holds: its card. -/
theorem triePatterns_holds : Rows.TriePatternsCardSaid :=
  Claim7.holds_tied_plain_at .later [] _ _ _ _ LTriePatterns.said (fun _ h => by cases h) (by kernel_rfl) (fun _ h => by cases h) triePatterns_row_tie rfl ⟨rfl, rfl⟩ (by kernel_rfl) rfl LTriePatterns.plain (by kernel_rfl)
#print axioms triePatterns_holds
end Go.Proofs.YtabkbpckehdiaaaGreatDoor
