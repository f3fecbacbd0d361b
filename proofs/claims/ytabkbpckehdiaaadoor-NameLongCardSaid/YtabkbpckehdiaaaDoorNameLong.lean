/-
  NameLong: labels and names may be as long as they may, and no longer: of n labels of m letters: no condition.
-/
import Derived.Test.YtabkbpckehdiaaaDoorRows
import Derived.Test.YtabkbpckehdiaaaDoorTie
import Derived.Test.YtabkbpckehdiaaaDoorCards
import Derived.Test.YtabkbpckehdiaaaDoorNam5
import Derived.Test.YtabkbpckehdiaaaDoorIns0
import Derived.Test.YtabkbpckehdiaaaDoorWit
import Derived.Test.YtabkbpckehdiaaaDoorTabF
import Derived.SevenTiedPlain
namespace Go.Nam
open Go.Own Go.Proofs Go.RowKit Go.Lib Go.Asc Go.Adr
attribute [local irreducible] GC GQ G Rd Eff T
set_option maxRecDepth 20000
set_option maxHeartbeats 4000000
def aS (m : Nat) : List UInt8 := List.replicate m 97
/-- n labels of m letters, with dots between. -/
def longL (n m : Nat) : List UInt8 := match n with
  | 0 => []
  | 1 => aS m
  | n + 1 => longL n m ++ 46 :: aS m
theorem longL_succ (n m : Nat) (h : 1 ≤ n) : longL (n + 1) m = longL n m ++ 46 :: aS m := by
  cases n with
  | zero => omega
  | succ n => rfl
theorem longL_len (n m : Nat) (h : 1 ≤ n) : (longL n m).length + 1 = n * (m + 1) := by
  induction n with
  | zero => omega
  | succ n ih =>
    by_cases h0 : n = 0
    · subst h0; simp [longL, aS]
    · rw [longL_succ n m (by omega)]
      have := ih (by omega)
      simp only [List.length_append, List.length_cons, aS, List.length_replicate, Nat.add_mul] at this ⊢
      omega
theorem aS_nodot (m : Nat) : (46 : UInt8) ∉ aS m := by
  intro h; have := List.eq_of_mem_replicate h; revert this; decide
theorem longL_split (n m : Nat) (h : 1 ≤ n) : splitB 46 (longL n m) = List.replicate n (aS m) := by
  induction n with
  | zero => omega
  | succ n ih =>
    by_cases h0 : n = 0
    · subst h0; rw [show longL (0 + 1) m = aS m from rfl, splitB_nosep (aS_nodot m)]; rfl
    · rw [longL_succ n m (by omega), splitB_append, ih (by omega), splitB_nosep (aS_nodot m), List.replicate_succ']
theorem longL_mem {n m : Nat} {b : UInt8} (h : b ∈ longL n m) : b = 46 ∨ b = 97 := by
  induction n with
  | zero => simp [longL] at h
  | succ n ih =>
    by_cases h0 : n = 0
    · subst h0; right; exact List.eq_of_mem_replicate h
    · rw [longL_succ n m (by omega)] at h
      rcases List.mem_append.1 h with h | h
      · exact ih h
      · rcases List.mem_cons.1 h with h | h
        · exact .inl h
        · right; exact List.eq_of_mem_replicate h
theorem longL_plain (n m : Nat) (hn : 1 ≤ n) (hm : 1 ≤ m) : normalL (longL n m) = if 253 < (longL n m).length then ([], 6) else if 63 < m then ([], 9) else (longL n m, 0) := by
  have hsp := longL_split n m hn
  have hlast : (splitB 46 (longL n m)).getLast?.getD [] = aS m := by
    obtain ⟨k, rfl⟩ : ∃ k, n = k + 1 := ⟨n - 1, by omega⟩
    rw [hsp, List.replicate_succ']; simp
  have hany : (aS m).any (fun b => otherP b.toNat) = true := List.any_eq_true.2 ⟨97, List.mem_replicate.2 ⟨by omega, rfl⟩, by decide⟩
  have hlow : (longL n m).map lowB = longL n m := by
    conv => rhs; rw [← List.map_id (longL n m)]
    refine List.map_congr_left fun b hb => ?_
    rcases longL_mem hb with rfl | rfl <;> decide
  have hcol : (58 : UInt8) ∉ longL n m := fun h => by rcases longL_mem h with h | h <;> revert h <;> decide
  have hpa : parseL (longL n m) = none := parseL_none hcol (last_mem (splitB_ne 46 _)) (other_isNum (by rw [hlast]; exact hany))
  have hne : longL n m ≠ [] := by
    intro e
    have := longL_len n m hn
    rw [e] at this
    obtain ⟨k, rfl⟩ : ∃ k, n = k + 1 := ⟨n - 1, by omega⟩
    rw [Nat.add_mul] at this; simp at this; omega
  have hnd : (longL n m).getLast? ≠ some 46 := by
    have h1 : (aS m).getLast? = some 97 := by
      obtain ⟨k, rfl⟩ : ∃ k, m = k + 1 := ⟨m - 1, by omega⟩
      rw [aS, List.replicate_succ']; simp
    obtain ⟨k, rfl⟩ : ∃ k, n = k + 1 := ⟨n - 1, by omega⟩
    by_cases h0 : k = 0
    · subst h0
      rw [show longL (0 + 1) m = aS m from rfl, h1]; decide
    · rw [longL_succ k m (by omega), last_app (by simp)]
      have : aS m ≠ [] := by intro e; rw [e] at h1; cases h1
      cases hq : aS m with
      | nil => exact absurd hq this
      | cons a t => rw [List.getLast?_cons_cons, ← hq, h1]; decide
  rw [normal_eq hpa, hlow, trimL_no hnd, if_neg hne, hlast, hany, hsp]
  by_cases h1 : 253 < (longL n m).length
  · rw [if_pos h1, if_pos h1]
  · rw [if_neg h1, if_neg h1]
    have hb : badL (aS m) = decide (63 < m) := by
      unfold badL
      have e1 : decide (aS m = []) = false := by
        rw [decide_eq_false_iff_not]; intro e; have := congrArg List.length e; simp [aS] at this; omega
      have e2 : (aS m).any (fun b => strangeP b.toNat) = false := by
        rw [List.any_eq_false]; intro b hb; rw [List.eq_of_mem_replicate hb]; decide
      have e3 : decide ((aS m).head? = some 45) = false := by
        rw [decide_eq_false_iff_not]; intro e; have := List.eq_of_mem_replicate (List.mem_of_head? e); revert this; decide
      have e4 : decide ((aS m).getLast? = some 45) = false := by
        rw [decide_eq_false_iff_not]; intro e; have := List.eq_of_mem_replicate (List.mem_of_getLast? e); revert this; decide
      rw [e1, e2, e3, e4]; simp [aS]
    have h2 : (List.replicate n (aS m)).any badL = decide (63 < m) := by
      obtain ⟨k, rfl⟩ : ∃ k, n = k + 1 := ⟨n - 1, by omega⟩
      rw [Bool.eq_iff_iff, List.any_eq_true]
      constructor
      · rintro ⟨x, hx, hbx⟩; rw [List.eq_of_mem_replicate hx, hb] at hbx; exact hbx
      · intro h; exact ⟨aS m, List.mem_replicate.2 ⟨by omega, rfl⟩, by rw [hb]; exact h⟩
    rw [h2]
    by_cases h3 : 63 < m
    · rw [if_pos (.inl (by simpa using h3)), if_pos h3]
    · rw [if_neg (by simp; omega), if_neg h3]
theorem NameLong_core (W : World) (hv : Vars W) (n m : Int) : T Tryd.prog W 6 #[.int .i64 n, .int .i64 m] [] (fun v _ => v = .bool true) := by
  refine T.intro (args := [_, _]) Tryd.func6 rfl Tryd.ntmps6 rfl ?_
  by_cases h6 : n < 1 ∨ 60 < n ∨ m < 1 ∨ 70 < m
  · by_cases h7 : n < 1
    · repeat' first | refine st ?_ | (refine nw ?_; intro _) | refine kn ?_ | (refine sp ?_ ?_ <;> intro _) | fail
      exact GQ.done1 rfl rfl rfl
    by_cases h8 : 60 < n
    · repeat' first | refine st ?_ | (refine nw ?_; intro _) | refine kn ?_ | (refine sp ?_ ?_ <;> intro _) | fail
      exact GQ.done1 rfl rfl rfl
    by_cases h9 : m < 1
    · repeat' first | refine st ?_ | (refine nw ?_; intro _) | refine kn ?_ | (refine sp ?_ ?_ <;> intro _) | fail
      exact GQ.done1 rfl rfl rfl
    have h10 : 70 < m := by omega
    repeat' first | refine st ?_ | (refine nw ?_; intro _) | refine kn ?_ | (refine sp ?_ ?_ <;> intro _) | fail
    exact GQ.done1 rfl rfl rfl
  obtain ⟨N, rfl⟩ : ∃ N : Nat, n = (N : Int) := ⟨n.toNat, by omega⟩
  obtain ⟨M, rfl⟩ : ∃ M : Nat, m = (M : Int) := ⟨m.toNat, by omega⟩
  have hn1 : 1 ≤ N := by omega
  have hn2 : N ≤ 60 := by omega
  have hm1 : 1 ≤ M := by omega
  have hm2 : M ≤ 70 := by omega
  clear h6
  repeat' first | refine st ?_ | (refine nw ?_; intro _) | refine kn ?_ | (refine sp ?_ ?_ <;> intro _) | fail
  refine GC.loopE (ι := { k : Nat // k ≤ M }) (fun i => [(5, .bool true), (6, S (aS i.1)), (7, .int .i64 (i.1 : Int))]) [(0, _), (1, _)] (fun _ => []) (fun i => M - i.1) ⟨0, Nat.zero_le _⟩ ⟨rfl, rfl, rfl, rfl, rfl, trivial⟩ (fun _ h => h) ?_
  rintro ⟨k, hk⟩
  dsimp only [List.cons_append, List.nil_append] at hk ⊢
  have hla : ∀ k, (aS k).length = k := fun k => by simp [aS]
  have hlk := hla k
  by_cases hlt : k < M
  · repeat' first | refine st ?_ | (refine nw ?_; intro _) | refine kn ?_ | (refine sp ?_ ?_ <;> intro _) | fail
    have hs : aS k ++ [97] = aS (k + 1) := by rw [aS, aS, List.replicate_succ']
    exact GQ.back ⟨k + 1, by omega⟩ (by simp only; omega) ⟨(by first | rfl | (simp only [← hs]; rfl)), (by first | rfl | (simp only [← hs]; rfl)), (by first | rfl | (simp only [← hs]; rfl)), (by first | rfl | (simp only [← hs]; rfl)), (by first | rfl | (simp only [← hs]; rfl)), trivial⟩ (fun w hw => hw)
  obtain rfl : k = M := by omega
  repeat' first | refine st ?_ | (refine nw ?_; intro _) | refine kn ?_ | (refine sp ?_ ?_ <;> intro _) | fail
  refine GC.loopE (ι := { k : Nat // 1 ≤ k ∧ k ≤ N }) (fun i => [(5, .bool true), (8, S (longL i.1 k)), (9, .int .i64 (i.1 : Int))]) [(0, _), (1, _), (6, _)] (fun _ => []) (fun i => N - i.1) ⟨1, by omega, by omega⟩ ⟨rfl, rfl, rfl, rfl, rfl, rfl, trivial⟩ (fun _ h => h) ?_
  rintro ⟨j, hj1, hj⟩
  dsimp only [List.cons_append, List.nil_append] at hj1 hj ⊢
  have hll := longL_len j k hj1
  have hjb : (longL j k).length ≤ 10000 := by
    have : j * (k + 1) ≤ 60 * 71 := Nat.mul_le_mul (by omega) (by omega)
    omega
  by_cases hlt2 : j < N
  · repeat' first | refine st ?_ | (refine nw ?_; intro _) | refine kn ?_ | (refine sp ?_ ?_ <;> intro _) | fail
    have hs : longL j k ++ [46] ++ aS k = longL (j + 1) k := by rw [longL_succ j k hj1]; simp
    exact GQ.back ⟨j + 1, by omega, by omega⟩ (by simp only; omega) ⟨(by first | rfl | (simp only [← hs]; rfl)), (by first | rfl | (simp only [← hs]; rfl)), (by first | rfl | (simp only [← hs]; rfl)), (by first | rfl | (simp only [← hs]; rfl)), (by first | rfl | (simp only [← hs]; rfl)), (by first | rfl | (simp only [← hs]; rfl)), trivial⟩ (fun w hw => hw)
  obtain rfl : j = N := by omega
  have hp := longL_plain j k hn1 hm1
  by_cases h1 : 253 < (longL j k).length
  · rw [if_pos h1] at hp
    have e1 : (normalL (longL j k)).1 = [] := by rw [hp]
    have e2 : (normalL (longL j k)).2 = 6 := by rw [hp]
    repeat' first | refine st ?_ | (refine nw ?_; intro _) | refine kn ?_ | (refine sp ?_ ?_ <;> intro _) | fail
    exact GQ.done1 rfl rfl rfl
  rw [if_neg h1] at hp
  by_cases h2 : 63 < k
  · rw [if_pos h2] at hp
    have e1 : (normalL (longL j k)).1 = [] := by rw [hp]
    have e2 : (normalL (longL j k)).2 = 9 := by rw [hp]
    repeat' first | refine st ?_ | (refine nw ?_; intro _) | refine kn ?_ | (refine sp ?_ ?_ <;> intro _) | fail
    exact GQ.done1 rfl rfl rfl
  rw [if_neg h2] at hp
  have e1 : (normalL (longL j k)).1 = longL j k := by rw [hp]
  have e2 : (normalL (longL j k)).2 = 0 := by rw [hp]
  repeat' first | refine st ?_ | (refine nw ?_; intro _) | refine kn ?_ | (refine sp ?_ ?_ <;> intro _) | fail
  exact GQ.done1 rfl rfl rfl
theorem NameLong_walk (W : World) (vts : List VT) (hv : Vars W) (h : VT.LiesEach Tryd.prog W [3, 3] vts) : T Tryd.prog W 6 (vts.map VT.val).toArray [] (fun v _ => v = .bool true) := by
  obtain ⟨v0, r0, rfl, h0, h⟩ := lies_one h
  obtain ⟨v1, r1, rfl, h1, h⟩ := lies_one h
  obtain rfl := lies_nil h
  obtain ⟨n, rfl, _⟩ := Lies.int h0
  obtain ⟨m, rfl, _⟩ := Lies.int h1
  exact NameLong_core W hv n m
end Go.Nam
namespace Go.Proofs.YtabkbpckehdiaaaDoor.LNameLong
open Go.Own
theorem own : ownKnob Tryd.prog.godebug = none := by kernel_rfl
theorem reads (os : Os) {H : Type} (enc : TypeId × Value → H) : ∃ x, DataW.whole enc Tryd.prog ((laidWorld os).forCall (fun _ _ => 0) ⟨#[], #[.int .i64 0, .int .i64 0], []⟩).memory Tryd.f6.params.toList Rows.nameLongSpec.vars false #[.int .i64 0, .int .i64 0].toList 8 = some x :=
  Option.isSome_iff_exists.1 (by kernel_rfl)
set_option maxRecDepth 100000 in
theorem lifted (os : Os) (started : os.Started) (H : Type) (enc : TypeId × Value → H) (F : Stop.Interp) :
    ReturnsInHanded {} Tryd.checked os 6 .any ((OpenSpec.ofChange Rows.nameLongSpec).preRow enc Tryd.prog Tryd.f6 Rows.nameLongRow.domain false Rows.nameLongRow.laid) (((OpenSpec.ofChange Rows.nameLongSpec).at F).post enc Tryd.prog Tryd.f6 false true false false) := by
  obtain ⟨x, hx⟩ := reads os enc
  exact law_laid (C := Tryd.checked) (D := 20) (tb := 4) own started (by kernel_rfl) Tryd.func6 rfl rfl Tryd.underlying4 (by kernel_rfl) (by kernel_rfl) (by kernel_rfl)
    (fun K ds h => by match ds, h with | [_, _], _ => rfl)
    (witness_row_atRef (enc := enc) (C := Tryd.checked) false (laidWorld os) #[.int .i64 0, .int .i64 0] rfl (laid_shaped1 os _) (laid_shaped2 os _) (by kernel_rfl)
      (OpenSpec.preRow_of_cond 8 hx (by kernel_rfl) (fun k hk => by cases hk) (by kernel_rfl) (laid_met os _)))
    (fun W vts hsh hL h => Go.Nam.NameLong_walk W vts (Go.Nam.vars_of hsh hL) (by rw [Tryd.params6] at h; exact h))
theorem said : Rows.NameLongSaid :=
  OpenClaim.holds_of_cond 6 Tryd.f6 rfl rfl rfl rfl rfl rfl rfl ⟨rfl, rfl, rfl, rfl, rfl⟩ rfl rfl rfl rfl rfl (by kernel_rfl) Tryd.func6 (by kernel_rfl)
    (of_decide_eq_true (by kernel_rfl)) (by unfold Func.isWrapper; first | (rw [if_pos (by decide +kernel)]; kernel_rfl) | (rw [if_neg (by decide +kernel)]; exact ⟨rfl, rfl⟩))
    (fun os started H enc _ F => by rw [OpenClaim.pre_eq_preRow]; exact lifted os started H enc F)
theorem plain (f : FuncId) (fn : Func) (hf : Tryd.pinned.checked.prog.funcNamed "hagioscope/hagioscopelaw14.NameLong" = some f) (hfn : Tryd.pinned.checked.prog.funcs[f]? = some fn) :
    true = Tryd.pinned.checked.prog.looks [] ∧ ∀ (j : Nat) t, fn.params[j]? = some t → Tryd.pinned.checked.prog.wantsStandIn t = false := by
  obtain rfl : f = 6 := Option.some.inj ((show Tryd.prog.funcNamed "hagioscope/hagioscopelaw14.NameLong" = some 6 by kernel_rfl).symm.trans hf) |>.symm
  obtain rfl : fn = Tryd.f6 := (Option.some.inj (Tryd.func6.symm.trans hfn)).symm
  refine ⟨by kernel_rfl, fun j t ht => ?_⟩
  have hall : Tryd.f6.params.toList.all (fun t => !Tryd.prog.wantsStandIn t) = true := by kernel_rfl
  have := List.all_eq_true.1 hall t (Array.mem_toList_iff.2 (Array.mem_of_getElem? ht))
  have h2 : Tryd.prog.wantsStandIn t = false := by simpa using this
  exact h2
end Go.Proofs.YtabkbpckehdiaaaDoor.LNameLong
namespace Go.Proofs.YtabkbpckehdiaaaDoor
/-- The law NameLong holds: its card. -/
theorem nameLong_holds : Rows.NameLongCardSaid :=
  Claim7.holds_tied_plain_at .later [] _ _ _ _ LNameLong.said (fun _ h => by cases h) (by kernel_rfl) (fun _ h => by cases h) nameLong_row_tie rfl ⟨rfl, rfl⟩ (by kernel_rfl) rfl LNameLong.plain (by kernel_rfl)
#print axioms nameLong_holds
end Go.Proofs.YtabkbpckehdiaaaDoor
