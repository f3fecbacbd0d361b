/-
  PLAIN LAWS: names in their one form: no program in sight.
-/
import Derived.Test.YtlakopiopplfhaaGreatDoorPl2
namespace Go.Nam
open Go.Lib Go.Asc Go.Adr

/-- A name in its one form that is no address. -/
structure Nm (n : List UInt8) : Prop where
  ne : n ≠ []
  low : n.map lowB = n
  fine : (splitB 46 n).any badL = false
  last : ((splitB 46 n).getLast?.getD []).any (fun b => otherP b.toNat) = true

theorem badL_ne {x : List UInt8} (h : badL x = false) : x ≠ [] ∧ x.length ≤ 63 ∧ ∀ b ∈ x, strangeP b.toNat = false := by
  unfold badL at h
  simp only [Bool.or_eq_false_iff, decide_eq_false_iff_not] at h
  refine ⟨h.1.1.1.1, by omega, fun b hb => ?_⟩
  have := List.any_eq_false.1 h.1.1.2 b hb
  simpa using this
theorem any_bad {ps : List (List UInt8)} (h : ps.any badL = false) : ∀ x ∈ ps, badL x = false := fun x hx => by
  have := List.any_eq_false.1 h x hx; simpa using this
theorem col_bad {x : List UInt8} (h : 58 ∈ x) : badL x = true := by
  cases hb : badL x with
  | true => rfl
  | false => have := (badL_ne hb).2.2 58 h; revert this; decide
theorem Nm.nocol {n : List UInt8} (h : Nm n) : 58 ∉ n := by
  intro hm
  rcases mem_splitB (c := 46) hm with h1 | ⟨x, hx, hb⟩
  · cases h1
  · have := any_bad h.fine x hx
    rw [col_bad hb] at this; cases this
theorem last_mem {ps : List (List UInt8)} (h : ps ≠ []) : ps.getLast?.getD [] ∈ ps := by
  cases hl : ps.getLast? with
  | none => exact absurd (List.getLast?_eq_none_iff.1 hl) h
  | some x => exact List.mem_of_getLast? hl
theorem other_isNum {x : List UInt8} (h : x.any (fun b => otherP b.toNat) = true) : isNum x = false := by
  cases hn : isNum x with
  | false => rfl
  | true =>
    obtain ⟨b, hb, ho⟩ := List.any_eq_true.1 h
    have := (isNum_dig hn).2 b hb
    rw [dig_bounds] at this
    simp only [otherP, Bool.or_eq_true, decide_eq_true_eq] at ho
    omega
theorem Nm.parse {n : List UInt8} (h : Nm n) : parseL n = none :=
  parseL_none h.nocol (last_mem (splitB_ne 46 n)) (other_isNum h.last)
theorem Nm.nodot {n : List UInt8} (h : Nm n) : n.getLast? ≠ some 46 := by
  intro e
  obtain ⟨m, rfl⟩ : ∃ m, n = m ++ [46] := ⟨n.dropLast, by
    have h1 := List.dropLast_concat_getLast h.ne
    rw [List.getLast?_eq_some_getLast h.ne] at e
    simp only [Option.some.injEq] at e
    rw [e] at h1; exact h1.symm⟩
  have h2 := any_bad h.fine [] (by
    rw [show m ++ [46] = m ++ 46 :: [] from rfl, splitB_append]; simp [splitB])
  revert h2; decide
/-- What the one form is, where it is no address. -/
theorem normal_eq {s : List UInt8} (hp : parseL s = none) : normalL s = if trimL 46 (s.map lowB) = [] then ([], 8)
    else if 253 < (trimL 46 (s.map lowB)).length then ([], 6)
    else if (splitB 46 (trimL 46 (s.map lowB))).any badL = true ∨ ((splitB 46 (trimL 46 (s.map lowB))).getLast?.getD []).any (fun b => otherP b.toNat) = false then ([], 9)
    else (trimL 46 (s.map lowB), 0) := by simp only [normalL, hp]
/-- What became of a text. -/
inductive Came (s : List UInt8) : Prop
  | addr (a : List UInt8) (ha : a.length = 16) (hp : parseL s = some a) (hn : normalL s = (printL a, 0))
  | name (n : List UInt8) (hm : Nm n) (hl : n.length ≤ 253) (hp : parseL s = none) (hn : normalL s = (n, 0))
  | bad (e : Nat) (h0 : e = 8 ∨ e = 6 ∨ e = 9) (hp : parseL s = none) (hn : normalL s = ([], e))
theorem trim_map (l : List UInt8) : (trimL 46 (l.map lowB)).map lowB = trimL 46 (l.map lowB) := by
  unfold trimL
  split
  · rw [List.map_dropLast, map_lowB_idem]
  · rw [map_lowB_idem]
theorem came (s : List UInt8) : Came s := by
  cases hp : parseL s with
  | some a => exact .addr a (parseL_len hp) hp (by simp only [normalL, hp])
  | none =>
    have hn := normal_eq hp
    have hlow := trim_map s
    generalize trimL 46 (s.map lowB) = x at hn hlow
    by_cases h0 : x = []
    · rw [if_pos h0] at hn; exact .bad 8 (by simp) hp hn
    · rw [if_neg h0] at hn
      by_cases h1 : 253 < x.length
      · rw [if_pos h1] at hn; exact .bad 6 (by simp) hp hn
      · rw [if_neg h1] at hn
        by_cases h2 : (splitB 46 x).any badL = true ∨ ((splitB 46 x).getLast?.getD []).any (fun b => otherP b.toNat) = false
        · rw [if_pos h2] at hn; exact .bad 9 (by simp) hp hn
        · rw [if_neg h2] at hn
          simp only [not_or, Bool.not_eq_true, Bool.not_eq_false] at h2
          exact .name x ⟨h0, hlow, h2.1, h2.2⟩ (by omega) hp hn
/-- The labels of a name, as they are told. -/
theorem labels_name {n : List UInt8} (h : Nm n) : labelsL n = (splitB 46 n).reverse := by simp only [labelsL, h.parse]
theorem labels_addr {n a : List UInt8} (h : parseL n = some a) : labelsL n = [n] := by simp only [labelsL, h]
end Go.Nam
