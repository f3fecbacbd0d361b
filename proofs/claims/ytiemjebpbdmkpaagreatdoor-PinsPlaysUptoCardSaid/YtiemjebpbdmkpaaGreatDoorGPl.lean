/-
  PLAIN LAWS: patterns of names, and what they match: no program in sight.
  PLAIN LAWS: rows of rules, and the one that counts: no program in sight.
  PLAIN LAWS: what the trie's statements say of rows of rules: no program in sight.
  PLAIN LAWS: addresses that begin alike: no program in sight.
  PLAIN LAWS: comparing, and rows in order: no program in sight.
  PLAIN LAWS: a tenant's file: lines, words, what they say: no program in sight.
  PLAIN LAWS: a tenant's file, printed, and parsed as it was: no program in sight.
-/
import Derived.Test.YtiemjebpbdmkpaaGreatDoorPl3
import Derived.Test.YtiemjebpbdmkpaaGreatDoorPl2
import Derived.Sort.Statements
namespace Go.Asc
open Go.Lib
theorem splitB_tail {c : UInt8} : ∀ (y l : List UInt8), c ∉ y → splitB c (l ++ y) = (splitB c l).dropLast ++ [(splitB c l).getLast?.getD [] ++ y]
  | [], l, _ => by
    have h := splitB_ne c l
    rw [List.append_nil, List.append_nil, List.getLast?_eq_some_getLast h, Option.getD_some, List.dropLast_concat_getLast]
  | b :: y, l, h => by
    simp only [List.mem_cons, not_or] at h
    have h1 := splitB_tail y (l ++ [b]) h.2
    rw [show l ++ b :: y = l ++ [b] ++ y by simp, h1, splitB_snoc (Ne.symm h.1)]
    simp
end Go.Asc
namespace Go.Adr
open Go.Lib Go.Asc
theorem cutDD_tail {z : List UInt8} (hz : 58 ∉ z) : ∀ m : List UInt8, cutDD (m ++ 46 :: z) = (cutDD m).map fun p => (p.1, p.2 ++ 46 :: z)
  | [] => by
    rw [List.nil_append, cutDD_none (by simpa using hz)]
    rfl
  | b :: l => by
    have h : (b = 58 ∧ (l ++ 46 :: z).head? = some 58) ↔ (b = 58 ∧ l.head? = some 58) := by
      cases l with
      | nil => simp
      | cons a l => simp
    simp only [List.cons_append, cutDD, h, cutDD_tail hz l]
    split
    · rename_i hc
      cases l with
      | nil => simp at hc
      | cons a l => simp
    · cases cutDD l <;> simp
/-- What ends in a label that is no number is no address. -/
theorem parseL_tail {z : List UInt8} (hz : 58 ∉ z) (hn : isNum ((splitB 46 z).getLast?.getD []) = false) (m : List UInt8) : parseL (m ++ 46 :: z) = none := by
  have hmem : (splitB 46 z).getLast?.getD [] ∈ splitB 46 z := by
    rw [List.getLast?_eq_some_getLast (splitB_ne 46 z), Option.getD_some]; exact List.getLast_mem _
  have hd : ∀ m : List UInt8, dot (m ++ 46 :: z) = none := fun m => by
    refine dot_none (x := (splitB 46 z).getLast?.getD []) ?_ hn
    rw [splitB_append]
    exact List.mem_append_right _ hmem
  have hr : ∀ (may : Bool) (m : List UInt8), readL may (m ++ 46 :: z) = none := fun may m => by
    rw [readL, if_neg (by simp), splitB_tail (46 :: z) m (by simpa using hz)]
    refine grp_last_none (hexR_none (b := 46) (by simp) (by decide)) (hd _) _
  rw [parseL_dd, hd, cutDD_tail hz, hr]
  cases cutDD m with
  | none => rfl
  | some p =>
    simp only [Option.map_some, hr]
    cases readL false p.1 <;> rfl
end Go.Adr
namespace Go.Tri
open Go.Lib Go.Asc Go.Adr Go.Nam

def named (s : List UInt8) : Bool := decide (normalL s = (s, 0))
def cutP (p : List UInt8) : Option (List UInt8) := if p.take 2 = [42, 46] then some (p.drop 2) else none
def patL (p : List UInt8) : Bool := match cutP p with | some r => named r && (parseL r).isNone | none => decide (p = [42]) || named p
def matchL (p host : List UInt8) : Bool := patL p && (match cutP p with | some r => decide ((46 :: r) <:+ host) | none => decide (p = [42]) || decide (p = host))
theorem named_cases {s : List UInt8} (h : named s = true) : (∃ a, parseL s = some a ∧ a.length = 16 ∧ s = printL a) ∨ (Nm s ∧ s.length ≤ 253) := by
  have h' : normalL s = (s, 0) := by simpa [named] using h
  cases came s with
  | addr a ha hp hn => rw [hn] at h'; exact .inl ⟨a, hp, ha, (congrArg Prod.fst h').symm⟩
  | name n hm hl hp hn => rw [hn] at h'; have : n = s := congrArg Prod.fst h'; subst this; exact .inr ⟨hm, hl⟩
  | bad e h0 hp hn => rw [hn] at h'; have : e = 0 := congrArg Prod.snd h'; omega
theorem named_nm {s : List UInt8} (h : Nm s) (hl : s.length ≤ 253) : named s = true := by simp [named, normal_nm h hl]
theorem named_ne {s : List UInt8} (h : named s = true) : s ≠ [] := by
  rcases named_cases h with ⟨a, hp, ha, rfl⟩ | ⟨hm, _⟩
  · exact print_ne ha
  · exact hm.ne
theorem cutP_some {p r : List UInt8} (h : cutP p = some r) : p = 42 :: 46 :: r := by
  unfold cutP at h
  split at h
  · rename_i hp
    cases h
    have := List.take_append_drop 2 p
    rw [hp] at this; exact this.symm
  · cases h
theorem cutP_mk (r : List UInt8) : cutP (42 :: 46 :: r) = some r := by simp [cutP]
/-- What stands behind the sign of a pattern, or all of it. -/
def restL (p : List UInt8) : List UInt8 := (cutP p).getD p
def wildL (p : List UInt8) : Bool := (cutP p).isSome
theorem wild_nm {p : List UInt8} (h : patL p = true) (hw : wildL p = true) : Nm (restL p) ∧ (restL p).length ≤ 253 ∧ p = 42 :: 46 :: restL p ∧ p ≠ [42] := by
  unfold wildL at hw
  cases hc : cutP p with
  | none => rw [hc] at hw; cases hw
  | some r =>
    have hp := cutP_some hc
    simp only [patL, hc, Bool.and_eq_true, Option.isNone_iff_eq_none] at h
    simp only [restL, hc, Option.getD_some]
    refine ⟨?_, ?_, hp, by rw [hp]; simp⟩
    · rcases named_cases h.1 with ⟨a, h1, _⟩ | ⟨h1, _⟩
      · rw [h1] at h; cases h.2
      · exact h1
    · rcases named_cases h.1 with ⟨a, h1, _⟩ | ⟨_, h1⟩
      · rw [h1] at h; cases h.2
      · exact h1
theorem flat_named {p : List UInt8} (h : patL p = true) (hw : wildL p = false) (hs : p ≠ [42]) : named p = true ∧ restL p = p := by
  unfold wildL at hw
  cases hc : cutP p with
  | some r => rw [hc] at hw; cases hw
  | none =>
    simp only [patL, hc, hs, decide_false, Bool.false_or] at h
    exact ⟨h, by simp [restL, hc]⟩
/-! ### Labels -/
theorem join_labels (l : List UInt8) : join (labelsL l).reverse [46] = l := by
  unfold labelsL
  split
  · simp [join]
  · rw [List.reverse_reverse]; exact join_splitB 46 l
theorem labels_inj {l m : List UInt8} (h : labelsL l = labelsL m) : l = m := by
  rw [← join_labels l, h, join_labels]
theorem labels_ne (l : List UInt8) : labelsL l ≠ [] := by
  unfold labelsL
  split
  · simp
  · simpa using splitB_ne 46 l
theorem join_app (c : UInt8) : ∀ {xs ys : List (List UInt8)}, xs ≠ [] → ys ≠ [] → join (xs ++ ys) [c] = join xs [c] ++ c :: join ys [c]
  | [], _, h, _ => absurd rfl h
  | [x], y :: ys, _, _ => by rw [List.singleton_append, join_two]; simp [join]
  | x :: x' :: xs, ys, _, hy => by
    rw [List.cons_append, List.cons_append, join_two, join_two, List.append_assoc, ← List.cons_append, join_app c (xs := x' :: xs) (by simp) hy]
    simp
theorem suffix_labels {r host : List UInt8} (hr : Nm r) : (46 :: r) <:+ host ↔ ∃ ps, ps ≠ [] ∧ labelsL host = labelsL r ++ ps := by
  constructor
  · rintro ⟨m, rfl⟩
    have hn : parseL (m ++ 46 :: r) = none := parseL_tail hr.nocol (other_isNum hr.last) m
    refine ⟨(splitB 46 m).reverse, by simpa using splitB_ne 46 m, ?_⟩
    rw [labels_name hr]
    simp only [labelsL, hn, splitB_append, List.reverse_append]
  · rintro ⟨ps, hne, h⟩
    refine ⟨join ps.reverse [46], ?_⟩
    have h1 := join_labels host
    rw [h, List.reverse_append, join_app 46 (by simpa using hne) (by simpa using labels_ne r), join_labels] at h1
    exact h1
theorem match_wild {p host : List UInt8} (h : patL p = true) (hw : wildL p = true) : matchL p host = true ↔ ∃ ps, ps ≠ [] ∧ labelsL host = labelsL (restL p) ++ ps := by
  rw [← suffix_labels (wild_nm h hw).1]
  unfold wildL at hw
  cases hc : cutP p with
  | none => rw [hc] at hw; cases hw
  | some r => simp [matchL, h, hc, restL]
theorem match_flat {p host : List UInt8} (h : patL p = true) (hw : wildL p = false) (hs : p ≠ [42]) : matchL p host = true ↔ labelsL host = labelsL (restL p) := by
  obtain ⟨_, hr⟩ := flat_named h hw hs
  unfold wildL at hw
  cases hc : cutP p with
  | some r => rw [hc] at hw; cases hw
  | none =>
    rw [hr]
    simp only [matchL, h, hc, hs, decide_false, Bool.false_or, Bool.true_and, decide_eq_true_eq]
    exact ⟨fun h => by rw [h], fun h => (labels_inj h).symm⟩
theorem pat_star : patL [42] = true := by simp [patL, cutP]
theorem match_star (host : List UInt8) : matchL [42] host = true := by simp [matchL, patL, cutP]
/-- The document's own reading of a pattern: 0: all, 1: wild, 2: a name, 3: none; and its name. -/
def cutL (p : List UInt8) : Nat × List UInt8 :=
  if p = [42] then (0, []) else if 2 < p.length ∧ p.take 2 = [42, 46] then (if (parseL (p.drop 2)).isSome = true ∨ named (p.drop 2) = false then (3, []) else (1, p.drop 2))
  else if named p = false then (3, []) else (2, p)
theorem named_two : named [42, 46] = false := by
  cases h : named [42, 46] with
  | false => rfl
  | true =>
    rcases named_cases h with ⟨a, h1, _⟩ | ⟨h1, _⟩
    · have : parseL [42, 46] = none := parseL_snoc [42]
      rw [this] at h1; cases h1
    · exact absurd rfl h1.nodot
theorem named_nil : named [] = false := by
  cases h : named [] with
  | false => rfl
  | true => exact absurd rfl (named_ne h)
theorem cut_cases (p : List UInt8) : (p = [42] ∧ cutL p = (0, [])) ∨ (p ≠ [42] ∧ patL p = false ∧ cutL p = (3, [])) ∨ (patL p = true ∧ wildL p = true ∧ cutL p = (1, restL p)) ∨ (p ≠ [42] ∧ patL p = true ∧ wildL p = false ∧ cutL p = (2, restL p)) := by
  by_cases h0 : p = [42]
  · subst h0; exact .inl ⟨rfl, rfl⟩
  · right
    by_cases h2 : p.take 2 = [42, 46]
    · have hc : cutP p = some (p.drop 2) := by simp [cutP, h2]
      by_cases h3 : 2 < p.length
      · by_cases h4 : (parseL (p.drop 2)).isSome = true ∨ named (p.drop 2) = false
        · left
          refine ⟨h0, ?_, by rw [cutL, if_neg h0, if_pos ⟨h3, h2⟩, if_pos h4]⟩
          simp only [patL, hc]
          rcases h4 with h4 | h4
          · cases hq : parseL (p.drop 2) <;> simp [hq] at h4 ⊢
          · simp [h4]
        · right; left
          simp only [not_or, Bool.not_eq_true, Option.isSome_eq_false_iff, Bool.not_eq_false] at h4
          refine ⟨by simp [patL, hc, h4.1, h4.2], by simp [wildL, hc], ?_⟩
          rw [cutL, if_neg h0, if_pos ⟨h3, h2⟩, if_neg]
          · simp [restL, hc]
          · rw [h4.2]; cases hq : parseL (p.drop 2) <;> simp [hq] at h4 ⊢
      · left
        have hp : p = [42, 46] := by
          have h5 := List.take_append_drop 2 p
          have h6 : p.drop 2 = [] := List.drop_eq_nil_of_le (by omega)
          rw [h2, h6] at h5; exact h5.symm
        subst hp
        refine ⟨h0, ?_, ?_⟩
        · simp [patL, hc, named_nil]
        · rw [cutL, if_neg h0, if_neg (by simp), if_pos named_two]
    · have hc : cutP p = none := by simp [cutP, h2]
      cases hn : named p with
      | false =>
        left
        refine ⟨h0, by simp [patL, hc, h0, hn], by rw [cutL, if_neg h0, if_neg (fun h => h2 h.2), if_pos hn]⟩
      | true =>
        right; right
        refine ⟨h0, by simp [patL, hc, hn], by simp [wildL, hc], by rw [cutL, if_neg h0, if_neg (fun h => h2 h.2), hn]; simp [restL, hc]⟩
/-- The document's matching. -/
def refMatch (p host : List UInt8) : Bool := match (cutL p).1 with
  | 0 => true
  | 1 => decide ((cutL p).2.length < host.length ∧ host.drop (host.length - (cutL p).2.length) = (cutL p).2 ∧ host.getD (host.length - (cutL p).2.length - 1) 0 = 46)
  | 2 => decide (host = (cutL p).2)
  | _ => false
theorem suffix_drop {r host : List UInt8} : (46 :: r) <:+ host ↔ (r.length < host.length ∧ host.drop (host.length - r.length) = r ∧ host.getD (host.length - r.length - 1) 0 = 46) := by
  constructor
  · rintro ⟨m, rfl⟩
    have e1 : (m ++ 46 :: r).length - r.length = m.length + 1 := by simp; omega
    refine ⟨by simp; omega, ?_, ?_⟩
    · rw [e1, show m ++ 46 :: r = (m ++ [46]) ++ r by simp]
      exact List.drop_left' (by simp)
    · rw [e1, Nat.add_sub_cancel, List.getD_eq_getElem?_getD, List.getElem?_append_right (Nat.le_refl _)]
      simp
  · rintro ⟨h1, h2, h3⟩
    refine ⟨host.take (host.length - r.length - 1), ?_⟩
    have h4 : host.length - r.length - 1 < host.length := by omega
    have h5 : host.drop (host.length - r.length - 1) = 46 :: r := by
      rw [List.drop_eq_getElem_cons h4, show host.length - r.length - 1 + 1 = host.length - r.length by omega, h2]
      congr 1
      rw [List.getD_eq_getElem?_getD, List.getElem?_eq_getElem h4] at h3
      exact h3
    rw [← h5]; exact List.take_append_drop _ _
theorem ref_match (p host : List UInt8) : refMatch p host = matchL p host := by
  rcases cut_cases p with ⟨rfl, h⟩ | ⟨_, h1, h⟩ | ⟨h1, h2, h⟩ | ⟨h0, h1, h2, h⟩
  · simp [refMatch, h, match_star]
  · simp [refMatch, h, matchL, h1]
  · have h3 : cutP p = some (restL p) := by
      unfold wildL at h2
      cases hc : cutP p with
      | none => rw [hc] at h2; cases h2
      | some r => simp [restL, hc]
    simp only [refMatch, h, matchL, h1, h3, Bool.true_and]
    rw [Bool.eq_iff_iff, decide_eq_true_eq, decide_eq_true_eq]
    exact suffix_drop.symm
  · have h3 : cutP p = none := by
      unfold wildL at h2
      cases hc : cutP p with
      | none => rfl
      | some r => rw [hc] at h2; cases h2
    have h4 : restL p = p := by simp [restL, h3]
    simp only [refMatch, h, matchL, h1, h3, Bool.true_and, h0, decide_false, Bool.false_or, h4]
    rw [Bool.eq_iff_iff, decide_eq_true_eq, decide_eq_true_eq]
    exact eq_comm
end Go.Tri

namespace Go.Tri
open Go.Lib Go.Asc Go.Adr Go.Nam

/-- A rule. -/
structure Ru where
  allow : Bool
  prio : Int
  pat : List UInt8
  port : Int
  alpn : List UInt8
instance : DecidableEq Ru := fun a b =>
  if h : a.allow = b.allow ∧ a.prio = b.prio ∧ a.pat = b.pat ∧ a.port = b.port ∧ a.alpn = b.alpn then isTrue (by
    obtain ⟨_, _, _, _, _⟩ := a; obtain ⟨_, _, _, _, _⟩ := b
    simp only at h
    obtain ⟨rfl, rfl, rfl, rfl, rfl⟩ := h; rfl)
  else isFalse (fun e => h (by rw [e]; exact ⟨rfl, rfl, rfl, rfl, rfl⟩))
def zeroR : Ru := ⟨false, 0, [], 0, []⟩
def visL (s : List UInt8) : Bool := s.all (fun b => decide (33 ≤ b.toNat) && decide (b.toNat ≤ 126)) && decide (s ≠ [])
def rightL (r : Ru) : Int :=
  if r.prio < -1000 ∨ 1000 < r.prio then 1 else if patL r.pat = false then 9 else if r.port < 0 ∨ 65535 < r.port then 10
  else if (r.alpn ≠ [] ∧ visL r.alpn = false) ∨ 255 < r.alpn.length then 1 else 0
def fitsL (r : Ru) (port : Int) (alpn : List (List UInt8)) : Bool := (decide (r.port = 0) || decide (r.port = port)) && (decide (r.alpn = []) || alpn.contains r.alpn)
def countsL (r : Ru) (host : List UInt8) (port : Int) (alpn : List (List UInt8)) : Bool := matchL r.pat host && fitsL r port alpn
def dull (r : Ru) : Ru := { r with allow := false }
def addL (rs : List Ru) (r : Ru) : List Ru × Int :=
  if rightL r ≠ 0 then (rs, rightL r) else if rs.length = 200 then (rs, 2) else if dull r ∈ rs.map dull then (rs, 7) else (rs ++ [r], 0)
theorem right_pat {r : Ru} (h : rightL r = 0) : patL r.pat = true := by
  unfold rightL at h
  split at h
  · cases h
  · split at h
    · cases h
    · rename_i hp; simpa using hp

/-! ### Which rules stand where -/
def idxF (rs : List Ru) (q : Ru → Bool) : List Nat := (List.range rs.length).filter fun i => q (rs.getD i zeroR)
theorem getD_snoc (rs : List Ru) (r : Ru) {i : Nat} (h : i < rs.length) : (rs ++ [r]).getD i zeroR = rs.getD i zeroR := by
  simp [List.getD_eq_getElem?_getD, List.getElem?_append_left h]
theorem getD_last (rs : List Ru) (r : Ru) : (rs ++ [r]).getD rs.length zeroR = r := by simp [List.getD_eq_getElem?_getD]
theorem idxF_snoc (rs : List Ru) (r : Ru) (q : Ru → Bool) : idxF (rs ++ [r]) q = idxF rs q ++ if q r then [rs.length] else [] := by
  simp only [idxF, List.length_append, List.length_cons, List.length_nil, Nat.zero_add, List.range_succ, List.filter_append]
  congr 1
  · refine List.filter_congr fun i hi => ?_
    rw [getD_snoc rs r (List.mem_range.1 hi)]
  · simp only [List.filter_cons, List.filter_nil, getD_last]
theorem mem_idxF {rs : List Ru} {q : Ru → Bool} {i : Nat} : i ∈ idxF rs q ↔ i < rs.length ∧ q (rs.getD i zeroR) = true := by simp [idxF]
theorem idxF_sorted (rs : List Ru) (q : Ru → Bool) : (idxF rs q).Pairwise (· < ·) := List.pairwise_lt_range.filter _
theorem idxF_len (rs : List Ru) (q : Ru → Bool) : (idxF rs q).length ≤ rs.length := by
  have := List.length_filter_le (fun i => q (rs.getD i zeroR)) (List.range rs.length)
  simpa [idxF] using this
def isAny (r : Ru) : Bool := decide (r.pat = [42])
def isEx (path : List (List UInt8)) (r : Ru) : Bool := !isAny r && !wildL r.pat && decide (labelsL (restL r.pat) = path)
def isLo (path : List (List UInt8)) (r : Ru) : Bool := !isAny r && wildL r.pat && decide (labelsL (restL r.pat) = path)
abbrev Fam := List (List UInt8) → List Nat × List Nat
def famOf (rs : List Ru) : Fam := fun path => (idxF rs (isEx path), idxF rs (isLo path))
def sub (f : Fam) (l : List UInt8) : Fam := fun p => f (l :: p)
def rowsG (f : Fam) : List (List UInt8) → List (List Nat)
  | [] => [(f []).1]
  | l :: r => (f []).2 :: rowsG (sub f l) r
/-- A rule's index laid down at a place. -/
def putF (f : Fam) (path : List (List UInt8)) (longer : Bool) (k : Nat) : Fam := fun p => if p = path then (if longer then ((f p).1, (f p).2 ++ [k]) else ((f p).1 ++ [k], (f p).2)) else f p
theorem sub_putF (f : Fam) (l : List UInt8) (r : List (List UInt8)) (longer : Bool) (k : Nat) : sub (putF f (l :: r) longer k) l = putF (sub f l) r longer k := by
  funext p; simp [sub, putF]
theorem sub_putF_ne (f : Fam) {l m : List UInt8} (h : m ≠ l) (r : List (List UInt8)) (longer : Bool) (k : Nat) : sub (putF f (l :: r) longer k) m = sub f m := by
  funext p; simp [sub, putF, h]
theorem famOf_snoc (rs : List Ru) (r : Ru) (h : r.pat ≠ [42]) : famOf (rs ++ [r]) = putF (famOf rs) (labelsL (restL r.pat)) (wildL r.pat) rs.length := by
  funext p
  simp only [famOf, idxF_snoc, putF]
  have h1 : isAny r = false := by simp [isAny, h]
  cases hw : wildL r.pat <;> by_cases hp : p = labelsL (restL r.pat)
  · simp [isEx, isLo, h1, hw, hp]
  · simp [isEx, isLo, h1, hw, hp]; exact fun h => hp h.symm
  · simp [isEx, isLo, h1, hw, hp]
  · simp [isEx, isLo, h1, hw, hp]; exact fun h => hp h.symm
theorem famOf_snoc_any (rs : List Ru) (r : Ru) (h : r.pat = [42]) : famOf (rs ++ [r]) = famOf rs := by
  funext p
  simp only [famOf, idxF_snoc]
  have h1 : isAny r = true := by simp [isAny, h]
  simp [isEx, isLo, h1]
def anyOf (rs : List Ru) : List Nat := idxF rs isAny
theorem anyOf_snoc (rs : List Ru) (r : Ru) (h : r.pat ≠ [42]) : anyOf (rs ++ [r]) = anyOf rs := by simp [anyOf, idxF_snoc, isAny, h]
theorem anyOf_snoc_any (rs : List Ru) (r : Ru) (h : r.pat = [42]) : anyOf (rs ++ [r]) = anyOf rs ++ [rs.length] := by simp [anyOf, idxF_snoc, isAny, h]

/-! ### The best one -/
section
variable (fits : Nat → Bool) (prio wt : Nat → Int)
def rowStep (at_ : Option Nat) (k : Nat) : Option Nat := if fits k && (match at_ with | none => true | some a => decide (prio a < prio k)) then some k else at_
def rowBest (row : List Nat) : Option Nat := row.foldl (rowStep fits prio) none
def bestStep (b : Option Nat) (row : List Nat) : Option Nat := match rowBest fits prio row with
  | none => b
  | some a => match b with
    | none => some a
    | some c => if prio c ≤ prio a then some a else some c
def bestOf (rows : List (List Nat)) : Option Nat := rows.foldl (bestStep fits prio) none
theorem bestOf_empty (rows : List (List Nat)) (b : Option Nat) : (rows.filter (· ≠ [])).foldl (bestStep fits prio) b = rows.foldl (bestStep fits prio) b := by
  induction rows generalizing b with
  | nil => rfl
  | cons r rows ih =>
    by_cases h : r = []
    · subst h; simp only [List.filter_cons, ne_eq, not_true, decide_false, List.foldl_cons]; rw [if_neg (by simp), ih]; rfl
    · simp [h]; rw [← ih]; simp
theorem bestOf_same {rows rows' : List (List Nat)} (h : rows.filter (· ≠ []) = rows'.filter (· ≠ [])) : bestOf fits prio rows = bestOf fits prio rows' := by
  unfold bestOf; rw [← bestOf_empty, h, bestOf_empty]
/-- The one that counts most among those of S. -/
def IsBest (S : Nat → Prop) : Option Nat → Prop
  | none => ∀ k, ¬ S k
  | some i => S i ∧ ∀ k, S k → prio k < prio i ∨ (prio k = prio i ∧ (wt k < wt i ∨ (wt k = wt i ∧ i ≤ k)))
variable {fits prio wt}
theorem IsBest.unique {S : Nat → Prop} {b c : Option Nat} (hb : IsBest prio wt S b) (hc : IsBest prio wt S c) : b = c := by
  cases b with
  | none => cases c with
    | none => rfl
    | some j => exact absurd hc.1 (hb j)
  | some i => cases c with
    | none => exact absurd hb.1 (hc i)
    | some j =>
      have h1 := hb.2 j hc.1
      have h2 := hc.2 i hb.1
      congr 1; omega
theorem IsBest.congr {S S' : Nat → Prop} {b : Option Nat} (h : ∀ k, S k ↔ S' k) (hb : IsBest prio wt S b) : IsBest prio wt S' b := by
  have : S = S' := funext fun k => propext (h k)
  rw [← this]; exact hb
theorem rowBest_is (row : List Nat) (hs : row.Pairwise (· < ·)) (hw : ∀ k ∈ row, ∀ m ∈ row, wt k = wt m) : IsBest prio wt (fun k => k ∈ row ∧ fits k = true) (rowBest fits prio row) := by
  have key : ∀ (pre rest : List Nat) (b : Option Nat), row = pre ++ rest → IsBest prio wt (fun k => k ∈ pre ∧ fits k = true) b → IsBest prio wt (fun k => k ∈ row ∧ fits k = true) (rest.foldl (rowStep fits prio) b) := by
    intro pre rest
    induction rest generalizing pre with
    | nil => intro b hr hb; simp at hr; subst hr; exact hb
    | cons x rest ih =>
      intro b hr hb
      rw [List.foldl_cons]
      refine ih (pre ++ [x]) _ (by simp [hr]) ?_
      have hlt : ∀ k ∈ pre, k < x := by
        intro k hk
        rw [hr] at hs
        exact (List.pairwise_append.1 hs).2.2 k hk x (by simp)
      have hww : ∀ k ∈ pre, wt k = wt x := fun k hk => hw k (by rw [hr]; simp [hk]) x (by rw [hr]; simp)
      unfold rowStep
      cases hf : fits x with
      | false =>
        simp only [Bool.false_and]
        refine hb.congr fun k => ?_
        constructor
        · rintro ⟨h1, h2⟩; exact ⟨by simp [h1], h2⟩
        · rintro ⟨h1, h2⟩
          rcases List.mem_append.1 h1 with h1 | h1
          · exact ⟨h1, h2⟩
          · simp at h1; subst h1; rw [hf] at h2; cases h2
      | true =>
        cases b with
        | none =>
          simp only [Bool.true_and, if_true]
          refine ⟨⟨by simp, hf⟩, fun k hk => ?_⟩
          rcases List.mem_append.1 hk.1 with h1 | h1
          · exact absurd ⟨h1, hk.2⟩ (hb k)
          · simp at h1; subst h1; omega
        | some a =>
          simp only [Bool.true_and, decide_eq_true_eq]
          obtain ⟨⟨ha, hfa⟩, hb2⟩ := hb
          have hax := hlt a ha
          have haw := hww a ha
          by_cases hp : prio a < prio x
          · rw [if_pos hp]
            refine ⟨⟨by simp, hf⟩, fun k hk => ?_⟩
            rcases List.mem_append.1 hk.1 with h1 | h1
            · have := hb2 k ⟨h1, hk.2⟩; omega
            · simp at h1; subst h1; omega
          · rw [if_neg hp]
            refine ⟨⟨by simp [ha], hfa⟩, fun k hk => ?_⟩
            rcases List.mem_append.1 hk.1 with h1 | h1
            · exact hb2 k ⟨h1, hk.2⟩
            · simp at h1; subst h1; omega
  exact key [] row none rfl (fun k hk => by simp at hk)
theorem bestStep_is {S : Nat → Prop} {b : Option Nat} {row : List Nat} (hb : IsBest prio wt S b) (hs : row.Pairwise (· < ·)) (hw : ∀ k ∈ row, ∀ m ∈ row, wt k = wt m) (hlt : ∀ k, S k → ∀ m ∈ row, wt k < wt m) :
    IsBest prio wt (fun k => S k ∨ (k ∈ row ∧ fits k = true)) (bestStep fits prio b row) := by
  have hr := rowBest_is (fits := fits) (prio := prio) (wt := wt) row hs hw
  unfold bestStep
  cases ha : rowBest fits prio row with
  | none =>
    rw [ha] at hr
    refine hb.congr fun k => ?_
    exact ⟨.inl, fun h => h.elim id (fun h => absurd h (hr k))⟩
  | some a =>
    rw [ha] at hr
    obtain ⟨⟨ha1, ha2⟩, ha3⟩ := hr
    cases b with
    | none =>
      refine ⟨.inr ⟨ha1, ha2⟩, fun k hk => ?_⟩
      rcases hk with hk | hk
      · exact absurd hk (hb k)
      · exact ha3 k hk
    | some c =>
      obtain ⟨hc1, hc2⟩ := hb
      have hca := hlt c hc1 a ha1
      simp only
      by_cases hp : prio c ≤ prio a
      · rw [if_pos hp]
        refine ⟨.inr ⟨ha1, ha2⟩, fun k hk => ?_⟩
        rcases hk with hk | hk
        · have h1 := hc2 k hk
          have h2 := hlt k hk a ha1
          omega
        · exact ha3 k hk
      · rw [if_neg hp]
        refine ⟨.inl hc1, fun k hk => ?_⟩
        rcases hk with hk | hk
        · exact hc2 k hk
        · have := ha3 k hk; omega
theorem bestOf_is : ∀ (rows : List (List Nat)) (S : Nat → Prop) (b : Option Nat), IsBest prio wt S b → (∀ row ∈ rows, row.Pairwise (· < ·)) → (∀ row ∈ rows, ∀ k ∈ row, ∀ m ∈ row, wt k = wt m) →
    rows.Pairwise (fun r r' => ∀ k ∈ r, ∀ m ∈ r', wt k < wt m) → (∀ k, S k → ∀ row ∈ rows, ∀ m ∈ row, wt k < wt m) →
    IsBest prio wt (fun k => S k ∨ ((∃ row ∈ rows, k ∈ row) ∧ fits k = true)) (rows.foldl (bestStep fits prio) b)
  | [], S, b, hb, _, _, _, _ => hb.congr fun k => by simp
  | row :: rows, S, b, hb, hs, hw, hp, hlt => by
    rw [List.foldl_cons]
    obtain ⟨hp1, hp2⟩ := List.pairwise_cons.1 hp
    have h1 := bestStep_is (fits := fits) hb (hs row (by simp)) (hw row (by simp)) (fun k hk m hm => hlt k hk row (by simp) m hm)
    have h2 := bestOf_is rows _ _ h1 (fun r hr => hs r (by simp [hr])) (fun r hr => hw r (by simp [hr])) hp2 (fun k hk r hr m hm => by
      rcases hk with hk | hk
      · exact hlt k hk r (by simp [hr]) m hm
      · exact hp1 r hr k hk.1 m hm)
    refine h2.congr fun k => ?_
    simp only [List.mem_cons, exists_eq_or_imp]
    constructor
    · rintro ((h | h) | h)
      · exact .inl h
      · exact .inr ⟨.inl h.1, h.2⟩
      · exact .inr ⟨.inr h.1, h.2⟩
    · rintro (h | ⟨h | h, h'⟩)
      · exact .inl (.inl h)
      · exact .inl (.inr ⟨h, h'⟩)
      · exact .inr ⟨h, h'⟩
/-- One behind the other, as the document looks. -/
def refStep (prio wt : Nat → Int) (counts : Nat → Bool) (b : Option Nat) (k : Nat) : Option Nat :=
  if counts k && (match b with | none => true | some a => decide (prio a < prio k) || (decide (prio a = prio k) && decide (wt a < wt k))) then some k else b
theorem refBest_is {counts : Nat → Bool} : ∀ n, IsBest prio wt (fun k => k < n ∧ counts k = true) ((List.range n).foldl (refStep prio wt counts) none)
  | 0 => fun k hk => by omega
  | n + 1 => by
    have ih := refBest_is (counts := counts) n
    rw [List.range_succ, List.foldl_append, List.foldl_cons, List.foldl_nil]
    generalize (List.range n).foldl (refStep prio wt counts) none = b at ih
    unfold refStep
    cases hc : counts n with
    | false =>
      simp only [Bool.false_and]
      refine ih.congr fun k => ?_
      constructor
      · rintro ⟨h1, h2⟩; exact ⟨by omega, h2⟩
      · rintro ⟨h1, h2⟩
        refine ⟨?_, h2⟩
        rcases Nat.lt_or_ge k n with h | h
        · exact h
        · obtain rfl : k = n := by omega
          rw [hc] at h2; cases h2
    | true =>
      cases b with
      | none =>
        refine ⟨⟨by omega, hc⟩, fun k hk => ?_⟩
        rcases Nat.lt_or_ge k n with h | h
        · exact absurd ⟨h, hk.2⟩ (ih k)
        · obtain rfl : k = n := by omega
          omega
      | some a =>
        obtain ⟨⟨h1, h2⟩, h3⟩ := ih
        simp only [Bool.true_and, Bool.or_eq_true, decide_eq_true_eq, Bool.and_eq_true]
        by_cases hp : prio a < prio n ∨ prio a = prio n ∧ wt a < wt n
        · rw [if_pos hp]
          refine ⟨⟨by omega, hc⟩, fun k hk => ?_⟩
          rcases Nat.lt_or_ge k n with h | h
          · have := h3 k ⟨h, hk.2⟩; omega
          · obtain rfl : k = n := by omega
            omega
        · rw [if_neg hp]
          refine ⟨⟨by omega, h2⟩, fun k hk => ?_⟩
          rcases Nat.lt_or_ge k n with h | h
          · exact h3 k ⟨h, hk.2⟩
          · obtain rfl : k = n := by omega
            omega
end

/-! ### The rows of a host -/
def wtOf (r : Ru) : Int := if r.pat = [42] then 0 else 2 * ((labelsL (restL r.pat)).length : Int) + (if wildL r.pat then 0 else 1)
theorem rowsG_mem (f : Fam) : ∀ (ls : List (List UInt8)) (k : Nat), (∃ row ∈ rowsG f ls, k ∈ row) ↔ k ∈ (f ls).1 ∨ ∃ d, d < ls.length ∧ k ∈ (f (ls.take d)).2
  | [], k => by simp [rowsG]
  | l :: r, k => by
    simp only [rowsG, List.mem_cons, exists_eq_or_imp, rowsG_mem (sub f l) r k, List.length_cons]
    constructor
    · rintro (h | h | ⟨d, h1, h2⟩)
      · exact .inr ⟨0, by omega, by simpa using h⟩
      · exact .inl h
      · exact .inr ⟨d + 1, by omega, h2⟩
    · rintro (h | ⟨d, h1, h2⟩)
      · exact .inr (.inl h)
      · cases d with
        | zero => exact .inl (by simpa using h2)
        | succ d => exact .inr (.inr ⟨d, by omega, h2⟩)
def famAt (f : Fam) (pre : List (List UInt8)) : Fam := fun p => f (pre ++ p)
theorem rowsG_rows (f : Fam) : ∀ (ls pre : List (List UInt8)) (row : List Nat), row ∈ rowsG (famAt f pre) ls → row = (f (pre ++ ls)).1 ∨ ∃ d, d < ls.length ∧ row = (f (pre ++ ls.take d)).2
  | [], pre, row, h => by simp [rowsG, famAt] at h; exact .inl (by simpa using h)
  | l :: r, pre, row, h => by
    simp only [rowsG, List.mem_cons] at h
    rcases h with h | h
    · exact .inr ⟨0, by simp, by simpa [famAt] using h⟩
    · have hs : sub (famAt f pre) l = famAt f (pre ++ [l]) := by funext p; simp [sub, famAt]
      rw [hs] at h
      rcases rowsG_rows f r (pre ++ [l]) row h with h | ⟨d, h1, h2⟩
      · exact .inl (by simpa using h)
      · exact .inr ⟨d + 1, by simp; omega, by simpa using h2⟩
theorem rowsG_pairs (f : Fam) (wt : Nat → Int) (h1 : ∀ p k, k ∈ (f p).1 → wt k = 2 * (p.length : Int) + 1) (h2 : ∀ p k, k ∈ (f p).2 → wt k = 2 * (p.length : Int)) :
    ∀ (ls pre : List (List UInt8)), (rowsG (famAt f pre) ls).Pairwise (fun r r' => ∀ k ∈ r, ∀ m ∈ r', wt k < wt m)
  | [], pre => by simp [rowsG]
  | l :: r, pre => by
    have hs : sub (famAt f pre) l = famAt f (pre ++ [l]) := by funext p; simp [sub, famAt]
    simp only [rowsG, hs]
    refine List.pairwise_cons.2 ⟨fun row hrow k hk m hm => ?_, rowsG_pairs f wt h1 h2 r (pre ++ [l])⟩
    have hk' := h2 _ k hk
    rcases rowsG_rows f r (pre ++ [l]) row hrow with h | ⟨d, _, h⟩
    · rw [h] at hm; have := h1 _ m hm; simp at this hk'; omega
    · rw [h] at hm; have := h2 _ m hm; simp at this hk'; omega
def rowsOf (rs : List Ru) (host : List UInt8) : List (List Nat) := anyOf rs :: (if host = [] then [] else rowsG (famOf rs) (labelsL host))
def pickL (rs : List Ru) (b : Option Nat) : Ru × Nat × Bool := match b with | none => (zeroR, 0, false) | some i => (rs.getD i zeroR, i, true)
def findB (rs : List Ru) (host : List UInt8) (port : Int) (alpn : List (List UInt8)) : Option Nat :=
  bestOf (fun i => fitsL (rs.getD i zeroR) port alpn) (fun i => (rs.getD i zeroR).prio) (rowsOf rs host)
def refB (rs : List Ru) (host : List UInt8) (port : Int) (alpn : List (List UInt8)) : Option Nat :=
  (List.range rs.length).foldl (refStep (fun i => (rs.getD i zeroR).prio) (fun i => wtOf (rs.getD i zeroR)) (fun i => countsL (rs.getD i zeroR) host port alpn)) none
def Fine (rs : List Ru) : Prop := ∀ r ∈ rs, patL r.pat = true
theorem fine_getD {rs : List Ru} (h : Fine rs) {i : Nat} (hi : i < rs.length) : patL (rs.getD i zeroR).pat = true := by
  rw [List.getD_eq_getElem?_getD, List.getElem?_eq_getElem hi]; exact h _ (List.getElem_mem hi)
theorem find_is {rs : List Ru} (hf : Fine rs) (host : List UInt8) (port : Int) (alpn : List (List UInt8)) :
    IsBest (fun i => (rs.getD i zeroR).prio) (fun i => wtOf (rs.getD i zeroR)) (fun k => k < rs.length ∧ countsL (rs.getD k zeroR) host port alpn = true) (findB rs host port alpn) := by
  have w0 : ∀ k, k ∈ anyOf rs → wtOf (rs.getD k zeroR) = 0 := fun k hk => by
    have := (mem_idxF.1 hk).2; simp only [isAny, decide_eq_true_eq] at this; rw [wtOf, if_pos this]
  have w1 : ∀ p k, k ∈ (famOf rs p).1 → wtOf (rs.getD k zeroR) = 2 * (p.length : Int) + 1 := fun p k hk => by
    have := (mem_idxF.1 hk).2
    simp only [isEx, isAny, Bool.and_eq_true, Bool.not_eq_true', decide_eq_false_iff_not, decide_eq_true_eq] at this
    rw [wtOf, if_neg this.1.1, this.1.2, this.2]; simp
  have w2 : ∀ p k, k ∈ (famOf rs p).2 → wtOf (rs.getD k zeroR) = 2 * (p.length : Int) := fun p k hk => by
    have := (mem_idxF.1 hk).2
    simp only [isLo, isAny, Bool.and_eq_true, Bool.not_eq_true', decide_eq_false_iff_not, decide_eq_true_eq] at this
    rw [wtOf, if_neg this.1.1, this.1.2, this.2]; simp
  have pos : ∀ p k, (k ∈ (famOf rs p).1 ∨ k ∈ (famOf rs p).2) → 0 < p.length := fun p k hk => by
    have : labelsL (restL (rs.getD k zeroR).pat) = p := by
      rcases hk with hk | hk
      · have := (mem_idxF.1 hk).2; simp only [isEx, Bool.and_eq_true, decide_eq_true_eq] at this; exact this.2
      · have := (mem_idxF.1 hk).2; simp only [isLo, Bool.and_eq_true, decide_eq_true_eq] at this; exact this.2
    rw [← this]; exact List.length_pos_iff.2 (labels_ne _)
  have e0 : famOf rs = famAt (famOf rs) [] := rfl
  have shape : ∀ row ∈ rowsOf rs host, row = anyOf rs ∨ ∃ p, row = (famOf rs p).1 ∨ row = (famOf rs p).2 := by
    intro row hrow
    simp only [rowsOf, List.mem_cons] at hrow
    rcases hrow with h | h
    · exact .inl h
    · split at h
      · cases h
      · rw [e0] at h
        rcases rowsG_rows _ _ _ _ h with h | ⟨d, _, h⟩
        · exact .inr ⟨_, .inl h⟩
        · exact .inr ⟨_, .inr h⟩
  have h := bestOf_is (fits := fun i => fitsL (rs.getD i zeroR) port alpn) (prio := fun i => (rs.getD i zeroR).prio) (wt := fun i => wtOf (rs.getD i zeroR)) (rowsOf rs host) (fun _ => False) none (fun k hk => hk)
    (fun row hrow => by
      rcases shape row hrow with h | ⟨p, h | h⟩
      · rw [h]; exact idxF_sorted _ _
      · rw [h]; exact idxF_sorted _ _
      · rw [h]; exact idxF_sorted _ _)
    (fun row hrow k hk m hm => by
      rcases shape row hrow with h | ⟨p, h | h⟩
      · rw [h] at hk hm; rw [w0 k hk, w0 m hm]
      · rw [h] at hk hm; rw [w1 p k hk, w1 p m hm]
      · rw [h] at hk hm; rw [w2 p k hk, w2 p m hm])
    (by
      simp only [rowsOf]
      refine List.pairwise_cons.2 ⟨fun row hrow k hk m hm => ?_, ?_⟩
      · rw [w0 k hk]
        split at hrow
        · cases hrow
        · rw [e0] at hrow
          rcases rowsG_rows _ _ _ _ hrow with h | ⟨d, _, h⟩
          · rw [h] at hm; have h3 := pos _ m (.inl hm); rw [w1 _ m hm]; omega
          · rw [h] at hm; have h3 := pos _ m (.inr hm); rw [w2 _ m hm]; omega
      · split
        · simp
        · rw [e0]; exact rowsG_pairs _ _ w1 w2 _ _)
    (fun k hk => hk.elim)
  refine h.congr fun k => ?_
  simp only [false_or, countsL, Bool.and_eq_true]
  have hm : (∃ row ∈ rowsOf rs host, k ∈ row) ↔ k < rs.length ∧ matchL (rs.getD k zeroR).pat host = true := by
    simp only [rowsOf, List.mem_cons, exists_eq_or_imp]
    constructor
    · rintro (h | ⟨row, hr, hk⟩)
      · obtain ⟨h1, h2⟩ := mem_idxF.1 h
        simp only [isAny, decide_eq_true_eq] at h2
        exact ⟨h1, by rw [h2]; exact match_star host⟩
      · split at hr
        · cases hr
        · rcases (rowsG_mem _ _ k).1 ⟨row, hr, hk⟩ with h | ⟨d, hd, h⟩
          · obtain ⟨h1, h2⟩ := mem_idxF.1 h
            simp only [isEx, isAny, Bool.and_eq_true, Bool.not_eq_true', decide_eq_false_iff_not, decide_eq_true_eq] at h2
            exact ⟨h1, (match_flat (fine_getD hf h1) h2.1.2 h2.1.1).2 h2.2.symm⟩
          · obtain ⟨h1, h2⟩ := mem_idxF.1 h
            simp only [isLo, isAny, Bool.and_eq_true, Bool.not_eq_true', decide_eq_false_iff_not, decide_eq_true_eq] at h2
            refine ⟨h1, (match_wild (fine_getD hf h1) h2.1.2).2 ⟨(labelsL host).drop d, fun h0 => ?_, ?_⟩⟩
            · have := List.drop_eq_nil_iff.1 h0; omega
            · rw [h2.2]; exact (List.take_append_drop _ _).symm
    · rintro ⟨h1, h2⟩
      have hp := fine_getD hf h1
      by_cases hs : (rs.getD k zeroR).pat = [42]
      · exact .inl (mem_idxF.2 ⟨h1, decide_eq_true hs⟩)
      · right
        cases hw : wildL (rs.getD k zeroR).pat with
        | true =>
          obtain ⟨ps, hne, hl⟩ := (match_wild hp hw).1 h2
          have hh : host ≠ [] := by
            rintro rfl
            have h3 : (labelsL []).length = 1 := by decide
            have h4 := congrArg List.length hl
            have h5 := List.length_pos_iff.2 (labels_ne (restL (rs.getD k zeroR).pat))
            have h6 := List.length_pos_iff.2 hne
            rw [h3, List.length_append] at h4; omega
          rw [if_neg hh]
          refine (rowsG_mem _ _ k).2 (.inr ⟨(labelsL (restL (rs.getD k zeroR).pat)).length, ?_, ?_⟩)
          · rw [hl, List.length_append]; have := List.length_pos_iff.2 hne; omega
          · rw [hl, List.take_left]; exact mem_idxF.2 ⟨h1, by rw [isLo, isAny, decide_eq_false hs, hw, decide_eq_true rfl]; rfl⟩
        | false =>
          have hl := (match_flat hp hw hs).1 h2
          have hh : host ≠ [] := by
            rintro rfl
            have := labels_inj hl
            obtain ⟨hn, hr⟩ := flat_named hp hw hs
            rw [hr] at this; exact named_ne hn this.symm
          rw [if_neg hh]
          exact (rowsG_mem _ _ k).2 (.inl (mem_idxF.2 ⟨h1, by rw [isEx, isAny, decide_eq_false hs, hw, decide_eq_true hl.symm]; rfl⟩))
  constructor
  · rintro ⟨h, hfit⟩
    obtain ⟨h1, h2⟩ := hm.1 h
    exact ⟨h1, h2, hfit⟩
  · rintro ⟨h1, h2, hfit⟩
    exact ⟨hm.2 ⟨h1, h2⟩, hfit⟩
/-- **What the labels find is what the document's look finds.** -/
theorem find_ref {rs : List Ru} (hf : Fine rs) (host : List UInt8) (port : Int) (alpn : List (List UInt8)) : findB rs host port alpn = refB rs host port alpn :=
  (find_is hf host port alpn).unique (refBest_is rs.length)
end Go.Tri

namespace Go.Tri
open Go.Lib Go.Asc Go.Adr Go.Nam

theorem wt_any {r : Ru} (h : r.pat = [42]) : wtOf r = 0 := by rw [wtOf, if_pos h]
theorem wt_wild {r : Ru} (h : r.pat ≠ [42]) (hw : wildL r.pat = true) : wtOf r = 2 * ((labelsL (restL r.pat)).length : Int) := by rw [wtOf, if_neg h, hw]; simp
theorem wt_flat {r : Ru} (h : r.pat ≠ [42]) (hw : wildL r.pat = false) : wtOf r = 2 * ((labelsL (restL r.pat)).length : Int) + 1 := by rw [wtOf, if_neg h, hw]; simp
theorem lab_pos (l : List UInt8) : 0 < (labelsL l).length := List.length_pos_iff.2 (labels_ne l)
theorem three (r : Ru) (_ : patL r.pat = true) : r.pat = [42] ∨ (r.pat ≠ [42] ∧ wildL r.pat = true) ∨ (r.pat ≠ [42] ∧ wildL r.pat = false) := by
  by_cases h : r.pat = [42]
  · exact .inl h
  · cases hw : wildL r.pat
    · exact .inr (.inr ⟨h, rfl⟩)
    · exact .inr (.inl ⟨h, rfl⟩)
theorem flat_host {r : Ru} {host : List UInt8} (hp : patL r.pat = true) (h : r.pat ≠ [42]) (hw : wildL r.pat = false) (hm : matchL r.pat host = true) : r.pat = host := by
  have h1 := (match_flat hp hw h).1 hm
  have h2 := (flat_named hp hw h).2
  rw [h2] at h1
  exact (labels_inj h1).symm
theorem same_pat {a b : Ru} {host : List UInt8} (ha : patL a.pat = true) (hb : patL b.pat = true) (ma : matchL a.pat host = true) (mb : matchL b.pat host = true) (hw : wtOf a = wtOf b) : a.pat = b.pat := by
  rcases three a ha with h1 | ⟨h1, w1⟩ | ⟨h1, w1⟩ <;> rcases three b hb with h2 | ⟨h2, w2⟩ | ⟨h2, w2⟩
  · rw [h1, h2]
  · rw [wt_any h1, wt_wild h2 w2] at hw; have := lab_pos (restL b.pat); omega
  · rw [wt_any h1, wt_flat h2 w2] at hw; omega
  · rw [wt_wild h1 w1, wt_any h2] at hw; have := lab_pos (restL a.pat); omega
  · rw [wt_wild h1 w1, wt_wild h2 w2] at hw
    obtain ⟨ps, _, e1⟩ := (match_wild ha w1).1 ma
    obtain ⟨qs, _, e2⟩ := (match_wild hb w2).1 mb
    rw [e1] at e2
    have h3 := (List.append_inj e2 (by omega)).1
    have h4 := labels_inj h3
    rw [(wild_nm ha w1).2.2.1, (wild_nm hb w2).2.2.1, h4]
  · rw [wt_wild h1 w1, wt_flat h2 w2] at hw; omega
  · rw [wt_flat h1 w1, wt_any h2] at hw; omega
  · rw [wt_flat h1 w1, wt_wild h2 w2] at hw; omega
  · rw [flat_host ha h1 w1 ma, flat_host hb h2 w2 mb]
theorem wild_len {r : Ru} {host : List UInt8} (hp : patL r.pat = true) (hw : wildL r.pat = true) (hm : matchL r.pat host = true) : r.pat.length ≤ host.length + 1 := by
  have h1 := (suffix_labels (wild_nm hp hw).1).2 ((match_wild hp hw).1 hm)
  have h2 := h1.length_le
  rw [(wild_nm hp hw).2.2.1]
  simp only [List.length_cons] at h2 ⊢
  omega
theorem len_pat {a b : Ru} {host : List UInt8} (ha : patL a.pat = true) (hb : patL b.pat = true) (ma : matchL a.pat host = true) (mb : matchL b.pat host = true) (hw : wtOf a ≤ wtOf b) : a.pat.length ≤ b.pat.length + 1 := by
  rcases three a ha with h1 | ⟨h1, w1⟩ | ⟨h1, w1⟩
  · rw [h1]; simp
  · rcases three b hb with h2 | ⟨h2, w2⟩ | ⟨h2, w2⟩
    · rw [wt_any h2, wt_wild h1 w1] at hw; have := lab_pos (restL a.pat); omega
    · rw [wt_wild h1 w1, wt_wild h2 w2] at hw
      obtain ⟨ps, _, e1⟩ := (match_wild ha w1).1 ma
      obtain ⟨qs, _, e2⟩ := (match_wild hb w2).1 mb
      have h3 : labelsL (restL a.pat) <+: labelsL (restL b.pat) := List.prefix_of_prefix_length_le ⟨ps, e1.symm⟩ ⟨qs, e2.symm⟩ (by omega)
      obtain ⟨t, ht⟩ := h3
      have h4 : (restL a.pat).length ≤ (restL b.pat).length := by
        have h5 := join_labels (restL b.pat)
        by_cases h0 : t = []
        · subst h0; rw [List.append_nil] at ht; rw [labels_inj ht]; exact Nat.le_refl _
        · rw [← ht, List.reverse_append, join_app 46 (by simpa using h0) (by simpa using labels_ne _), join_labels] at h5
          rw [← h5]; simp; omega
      rw [(wild_nm ha w1).2.2.1, (wild_nm hb w2).2.2.1]; simp; omega
    · rw [flat_host hb h2 w2 mb]; exact wild_len ha w1 ma
  · rw [flat_host ha h1 w1 ma]
    rcases three b hb with h2 | ⟨h2, w2⟩ | ⟨h2, w2⟩
    · rw [wt_any h2, wt_flat h1 w1] at hw; omega
    · rw [wt_flat h1 w1, wt_wild h2 w2] at hw
      obtain ⟨qs, hq, e2⟩ := (match_wild hb w2).1 mb
      have h3 := (match_flat ha w1 h1).1 ma
      rw [h3] at e2
      have h4 := congrArg List.length e2
      rw [List.length_append] at h4
      have := List.length_pos_iff.2 hq
      omega
    · rw [flat_host hb h2 w2 mb]; omega

/-! ### Rules added -/
theorem add_fine {rs : List Ru} (h : Fine rs) (r : Ru) : Fine (addL rs r).1 := by
  unfold addL
  split
  · exact h
  · rename_i h0
    split
    · exact h
    · split
      · exact h
      · intro x hx
        rcases List.mem_append.1 hx with hx | hx
        · exact h x hx
        · simp at hx; subst hx; exact right_pat (by simpa using h0)
theorem add_len {rs : List Ru} (h : rs.length ≤ 200) (r : Ru) : (addL rs r).1.length ≤ 200 := by
  unfold addL
  split
  · exact h
  · split
    · exact h
    · split
      · exact h
      · simp; omega
def addAll (rs : List Ru) (l : List Ru) : List Ru := l.foldl (fun rs r => (addL rs r).1) rs
theorem addAll_snoc (rs l : List Ru) (r : Ru) : addAll rs (l ++ [r]) = (addL (addAll rs l) r).1 := by simp [addAll]
theorem addAll_fine {rs : List Ru} (h : Fine rs) : ∀ l, Fine (addAll rs l) := by
  intro l
  induction l generalizing rs with
  | nil => exact h
  | cons r l ih => exact ih (add_fine h r)
theorem addAll_len {rs : List Ru} (h : rs.length ≤ 200) : ∀ l, (addAll rs l).length ≤ 200 := by
  intro l
  induction l generalizing rs with
  | nil => exact h
  | cons r l ih => exact ih (add_len h r)
theorem fine_nil : Fine [] := by intro r hr; cases hr
theorem find_lt {rs : List Ru} (hf : Fine rs) {host : List UInt8} {port : Int} {alpn : List (List UInt8)} {i : Nat} (h : findB rs host port alpn = some i) : i < rs.length ∧ countsL (rs.getD i zeroR) host port alpn = true := by
  have := find_is hf host port alpn
  rw [h] at this; exact this.1
theorem counts_match {r : Ru} {host : List UInt8} {port : Int} {alpn : List (List UInt8)} (h : countsL r host port alpn = true) : matchL r.pat host = true := by
  unfold countsL at h; rw [Bool.and_eq_true] at h; exact h.1
/-- **TrieFinds.** -/
theorem finds {rs : List Ru} (hf : Fine rs) (host : List UInt8) (port : Int) (alpn : List (List UInt8)) {k : Nat} (hk : k < rs.length) (hc : countsL (rs.getD k zeroR) host port alpn = true) :
    ∃ i, findB rs host port alpn = some i ∧ (rs.getD k zeroR).prio ≤ (rs.getD i zeroR).prio ∧ ((rs.getD k zeroR).prio = (rs.getD i zeroR).prio → (rs.getD k zeroR).pat.length ≤ (rs.getD i zeroR).pat.length + 1 ∧
      ((rs.getD k zeroR).pat = (rs.getD i zeroR).pat → i ≤ k)) := by
  have h := find_is hf host port alpn
  cases hb : findB rs host port alpn with
  | none => rw [hb] at h; exact absurd ⟨hk, hc⟩ (h k)
  | some i =>
    rw [hb] at h
    obtain ⟨⟨hi, hci⟩, h2⟩ := h
    have h3 := h2 k ⟨hk, hc⟩
    simp only at h3
    refine ⟨i, rfl, by omega, fun hp => ?_⟩
    have hw : wtOf (rs.getD k zeroR) ≤ wtOf (rs.getD i zeroR) := by omega
    refine ⟨len_pat (fine_getD hf hk) (fine_getD hf hi) (counts_match hc) (counts_match hci) hw, fun hpat => ?_⟩
    have hw2 : wtOf (rs.getD k zeroR) = wtOf (rs.getD i zeroR) := by unfold wtOf; rw [hpat]
    omega

/-! ### In which order -/
theorem addAll_filter : ∀ (l rs : List Ru), ((rs ++ l).map (·.pat)).Nodup → rs.length + l.length ≤ 200 → addAll rs l = rs ++ l.filter (fun r => decide (rightL r = 0))
  | [], rs, _, _ => by simp [addAll]
  | r :: l, rs, hn, hl => by
    simp only [List.length_cons] at hl
    have hnot : dull r ∉ rs.map dull := by
      intro hm
      obtain ⟨x, hx, he⟩ := List.mem_map.1 hm
      have hp : x.pat = r.pat := (congrArg Ru.pat he : (dull x).pat = (dull r).pat)
      simp only [List.map_append, List.map_cons] at hn
      exact (List.nodup_append.1 hn).2.2 x.pat (List.mem_map.2 ⟨x, hx, rfl⟩) r.pat (by simp) hp
    have h1 : addAll rs (r :: l) = addAll (addL rs r).1 l := rfl
    rw [h1]
    by_cases h0 : rightL r = 0
    · have h2 : (addL rs r).1 = rs ++ [r] := by rw [addL, if_neg (by simp [h0]), if_neg (by omega), if_neg hnot]
      rw [h2, addAll_filter l (rs ++ [r]) (by simpa using hn) (by simp; omega)]
      simp [h0]
    · have h2 : (addL rs r).1 = rs := by rw [addL, if_pos h0]
      rw [h2, addAll_filter l rs (hn.sublist (by simp)) (by omega)]
      simp [h0]
theorem getD_mem {rs : List Ru} {i : Nat} (h : i < rs.length) : rs.getD i zeroR ∈ rs := by
  rw [List.getD_eq_getElem?_getD, List.getElem?_eq_getElem h]; exact List.getElem_mem h
theorem mem_getD {rs : List Ru} {r : Ru} (h : r ∈ rs) : ∃ i, i < rs.length ∧ rs.getD i zeroR = r := by
  obtain ⟨i, hi, he⟩ := List.getElem_of_mem h
  exact ⟨i, hi, by rw [List.getD_eq_getElem?_getD, List.getElem?_eq_getElem hi]; exact he⟩
/-- The same rules, each pattern once, in whatever order: the same is found. -/
theorem order {rs rs' : List Ru} (hf : Fine rs) (hm : ∀ r, r ∈ rs ↔ r ∈ rs') (hn : (rs.map (·.pat)).Nodup) (host : List UInt8) (port : Int) (alpn : List (List UInt8)) :
    (pickL rs (findB rs host port alpn)).1 = (pickL rs' (findB rs' host port alpn)).1 ∧ (pickL rs (findB rs host port alpn)).2.2 = (pickL rs' (findB rs' host port alpn)).2.2 := by
  have hf' : Fine rs' := fun r hr => hf r ((hm r).2 hr)
  have h := find_is hf host port alpn
  have h' := find_is hf' host port alpn
  cases hb : findB rs host port alpn with
  | none =>
    cases hb' : findB rs' host port alpn with
    | none => exact ⟨rfl, rfl⟩
    | some j =>
      rw [hb] at h; rw [hb'] at h'
      obtain ⟨i, hi, he⟩ := mem_getD ((hm _).2 (getD_mem h'.1.1))
      exact absurd ⟨hi, by rw [he]; exact h'.1.2⟩ (h i)
  | some i =>
    rw [hb] at h
    cases hb' : findB rs' host port alpn with
    | none =>
      rw [hb'] at h'
      obtain ⟨j, hj, he⟩ := mem_getD ((hm _).1 (getD_mem h.1.1))
      exact absurd ⟨hj, by rw [he]; exact h.1.2⟩ (h' j)
    | some j =>
      rw [hb'] at h'
      refine ⟨?_, rfl⟩
      obtain ⟨i', hi', he'⟩ := mem_getD ((hm _).2 (getD_mem h'.1.1))
      obtain ⟨j', hj', hej⟩ := mem_getD ((hm _).1 (getD_mem h.1.1))
      have h1 := h.2 i' ⟨hi', by rw [he']; exact h'.1.2⟩
      have h2 := h'.2 j' ⟨hj', by rw [hej]; exact h.1.2⟩
      simp only [he'] at h1
      simp only [hej] at h2
      have hw : wtOf (rs.getD i zeroR) = wtOf (rs'.getD j zeroR) := by omega
      have hp := same_pat (fine_getD hf h.1.1) (fine_getD hf' h'.1.1) (counts_match h.1.2) (counts_match h'.1.2) hw
      show rs.getD i zeroR = rs'.getD j zeroR
      rw [← he'] at hp ⊢
      have hii : i = i' := by
        have e1 : (rs.map (·.pat))[i]? = (rs.map (·.pat))[i']? := by
          rw [List.getD_eq_getElem?_getD, List.getD_eq_getElem?_getD, List.getElem?_eq_getElem h.1.1, List.getElem?_eq_getElem hi'] at hp
          rw [List.getElem?_map, List.getElem?_map, List.getElem?_eq_getElem h.1.1, List.getElem?_eq_getElem hi']
          exact congrArg some hp
        exact (List.getElem?_inj (by simpa using h.1.1) hn).1 e1
      rw [hii]

/-! ### A rule for all -/
theorem addAll_all : ∀ (l rs : List Ru) (r : Ru), (∀ x ∈ l, x.pat ≠ [42]) → r.pat = [42] → rs.length + l.length ≤ 150 → addAll (r :: rs) l = r :: addAll rs l
  | [], rs, r, _, _, _ => rfl
  | x :: l, rs, r, hx, hr, hl => by
    simp only [List.length_cons] at hl
    have hne : dull x ≠ dull r := fun h => hx x (by simp) (by have h9 : (dull x).pat = (dull r).pat := congrArg Ru.pat h; exact Eq.trans h9 hr)
    have h1 : (addL (r :: rs) x).1 = r :: (addL rs x).1 ∧ (addL rs x).1.length ≤ rs.length + 1 := by
      unfold addL
      by_cases h0 : rightL x = 0
      · rw [if_neg (show ¬ rightL x ≠ 0 by simp [h0]), if_neg (show ¬ (r :: rs).length = 200 by simp; omega), if_neg (show ¬ rightL x ≠ 0 by simp [h0]), if_neg (show ¬ rs.length = 200 by omega)]
        by_cases h2 : dull x ∈ rs.map dull
        · rw [if_pos (by rw [List.map_cons]; exact List.mem_cons_of_mem _ h2), if_pos h2]; exact ⟨rfl, by simp⟩
        · rw [if_neg (by rw [List.map_cons, List.mem_cons]; exact fun h => h.elim hne h2), if_neg h2]; exact ⟨rfl, by simp⟩
      · rw [if_pos h0, if_pos h0]; exact ⟨rfl, by simp⟩
    show addAll (addL (r :: rs) x).1 l = r :: addAll (addL rs x).1 l
    rw [h1.1]
    exact addAll_all l (addL rs x).1 r (fun y hy => hx y (by simp [hy])) hr (by have := h1.2; omega)
theorem addL_star {r : Ru} (hp : r.pat = [42]) (h1 : -1000 ≤ r.prio) (h2 : r.prio ≤ 1000) (h3 : r.port = 0) (h4 : r.alpn = []) : addL [] r = ([r], 0) := by
  have : rightL r = 0 := by
    unfold rightL
    rw [if_neg (by omega), hp, pat_star, if_neg (by simp), h3, if_neg (by omega), h4, if_neg (by simp)]
  rw [addL, if_neg (by simp [this]), if_neg (by simp), if_neg (by simp)]; rfl
theorem addAll_nostar : ∀ (l rs : List Ru), (∀ x ∈ l, x.pat ≠ [42]) → (∀ x ∈ rs, x.pat ≠ [42]) → ∀ x ∈ addAll rs l, x.pat ≠ [42]
  | [], _, _, h => h
  | y :: l, rs, hl, h => by
    refine addAll_nostar l (addL rs y).1 (fun x hx => hl x (by simp [hx])) ?_
    unfold addL
    split
    · exact h
    · split
      · exact h
      · split
        · exact h
        · intro x hx
          rcases List.mem_append.1 hx with hx | hx
          · exact h x hx
          · simp at hx; subst hx; exact hl _ (by simp)
theorem all_find {rs : List Ru} (hf : Fine rs) (hs : ∀ x ∈ rs, x.pat ≠ [42]) {r : Ru} (hp : r.pat = [42]) (h3 : r.port = 0) (h4 : r.alpn = []) (host : List UInt8) (port : Int) (alpn : List (List UInt8)) :
    findB (r :: rs) host port alpn = match findB rs host port alpn with | some i => if r.prio ≤ (rs.getD i zeroR).prio then some (i + 1) else some 0 | none => some 0 := by
  have hfu : Fine (r :: rs) := fun x hx => by
    rcases List.mem_cons.1 hx with rfl | hx
    · rw [hp]; exact pat_star
    · exact hf x hx
  have hc0 : countsL r host port alpn = true := by
    unfold countsL fitsL; rw [hp, match_star, h3, h4]; simp
  have h0 : ∀ k, (r :: rs).getD (k + 1) zeroR = rs.getD k zeroR := fun k => by simp [List.getD_eq_getElem?_getD]
  have hz : (r :: rs).getD 0 zeroR = r := by simp
  have hw0 : wtOf r = 0 := wt_any hp
  have hwp : ∀ k, k < rs.length → 0 < wtOf (rs.getD k zeroR) := fun k hk => by
    have h5 := hs _ (getD_mem hk)
    have := lab_pos (restL (rs.getD k zeroR).pat)
    unfold wtOf
    rw [if_neg h5]; split <;> omega
  refine (find_is hfu host port alpn).unique ?_
  have h := find_is hf host port alpn
  cases hb : findB rs host port alpn with
  | none =>
    rw [hb] at h
    refine ⟨⟨by simp, by rw [hz]; exact hc0⟩, fun k hk => ?_⟩
    cases k with
    | zero => omega
    | succ k => exact absurd ⟨by simpa using hk.1, by rw [← h0]; exact hk.2⟩ (h k)
  | some i =>
    rw [hb] at h
    obtain ⟨⟨hi, hci⟩, h2⟩ := h
    simp only
    by_cases hpr : r.prio ≤ (rs.getD i zeroR).prio
    · rw [if_pos hpr]
      refine ⟨⟨by simpa using hi, by rw [h0]; exact hci⟩, fun k hk => ?_⟩
      cases k with
      | zero => simp only [hz, h0]; have := hwp i hi; omega
      | succ k =>
        simp only [h0]
        have h9 := h2 k ⟨by simpa using hk.1, by rw [← h0]; exact hk.2⟩
        simp only at h9
        omega
    · rw [if_neg hpr]
      refine ⟨⟨by simp, by rw [hz]; exact hc0⟩, fun k hk => ?_⟩
      cases k with
      | zero => omega
      | succ k =>
        simp only [h0, hz]
        have h9 := h2 k ⟨by simpa using hk.1, by rw [← h0]; exact hk.2⟩
        simp only at h9
        omega

/-! ### Patterns of names -/
theorem match_name {x y : List UInt8} (hx : Nm x) (hl : x.length ≤ 253) : matchL x y = decide (x = y) := by
  have hn := named_nm hx hl
  have hc : cutP x = none := by
    cases hc : cutP x with
    | none => rfl
    | some r =>
      have hxx := cutP_some hc
      have hb : (42 : UInt8) ∈ x := by rw [hxx]; simp
      exfalso
      rcases mem_splitB (c := 46) hb with h1 | ⟨z, hz, h1⟩
      · cases h1
      · have h2 := (badL_ne (any_bad hx.fine z hz)).2.2 42 h1
        revert h2; decide
  have hs : x ≠ [42] := by
    rintro rfl
    have h2 := (badL_ne (any_bad hx.fine [42] (by decide))).2.2 42 (by simp)
    revert h2; decide
  simp [matchL, patL, hc, hn, hs]
theorem pat_name {x : List UInt8} (hx : Nm x) (hl : x.length ≤ 253) : patL x = true := by
  have h := match_name (y := x) hx hl
  unfold matchL at h
  simp only [decide_true] at h
  rw [Bool.and_eq_true] at h; exact h.1
theorem pat_wild {x : List UInt8} (hx : Nm x) (hl : x.length ≤ 253) : patL (42 :: 46 :: x) = true := by
  simp [patL, cutP_mk, named_nm hx hl, hx.parse]
theorem match_wildn {x y : List UInt8} (hx : Nm x) (hl : x.length ≤ 253) : matchL (42 :: 46 :: x) y = decide ((46 :: x) <:+ y) := by
  simp only [matchL, pat_wild hx hl, cutP_mk, Bool.true_and]
theorem not_suffix_self (x : List UInt8) : ¬ (46 :: x) <:+ x := fun h => by have := h.length_le; simp at this; omega
end Go.Tri

namespace Go.Cid
open Go.Lib Go.Asc Go.Adr

/-- The first n bits of a byte, n at most 8. -/
def keepB (n : Nat) : UInt8 := ([0, 128, 192, 224, 240, 248, 252, 254, 255] : List UInt8).getD n 255
theorem and255 (b : UInt8) : b &&& 255 = b := byte_all (p := fun b => b &&& 255 = b) (by decide +kernel) b
theorem keepB_and : ∀ i j : Nat, keepB i &&& keepB j = keepB (min i j) := by
  have h : ∀ i < 9, ∀ j < 9, keepB i &&& keepB j = keepB (min i j) := by decide +kernel
  have hb : ∀ i, 9 ≤ i → keepB i = 255 := fun i hi => by
    simp only [keepB]; rw [List.getD_eq_getElem?_getD, List.getElem?_eq_none (by simpa using hi)]; rfl
  intro i j
  rcases Nat.lt_or_ge i 9 with h1 | h1 <;> rcases Nat.lt_or_ge j 9 with h2 | h2
  · exact h i h1 j h2
  · rw [hb j h2, Nat.min_eq_left (by omega)]; exact and255 _
  · rw [hb i h1, Nat.min_eq_right (by omega), UInt8.and_comm]; exact and255 _
  · rw [hb i h1, hb j h2, hb (min i j) (by omega)]; rfl
def maskL : List UInt8 → Nat → List UInt8
  | [], _ => []
  | b :: l, n => (b &&& keepB (min n 8)) :: maskL l (n - 8)
theorem maskL_len : ∀ (a : List UInt8) (n : Nat), (maskL a n).length = a.length
  | [], _ => rfl
  | b :: l, n => by simp [maskL, maskL_len l]
theorem maskL_maskL : ∀ (a : List UInt8) (n m : Nat), maskL (maskL a n) m = maskL a (min n m)
  | [], _, _ => rfl
  | b :: l, n, m => by
    simp only [maskL]
    rw [maskL_maskL l, UInt8.and_assoc, keepB_and]
    congr 2 <;> (try congr 1) <;> omega
theorem maskL_zero : ∀ (a : List UInt8), maskL a 0 = List.replicate a.length 0
  | [] => rfl
  | b :: l => by
    have h0 : keepB 0 = 0 := rfl
    simp [maskL, maskL_zero l, List.replicate_succ, h0]
theorem maskL_all : ∀ (a : List UInt8) (n : Nat), 8 * a.length ≤ n → maskL a n = a
  | [], _, _ => rfl
  | b :: l, n, h => by
    simp only [List.length_cons] at h
    simp only [maskL]
    rw [maskL_all l _ (by omega), Nat.min_eq_right (by omega), show keepB 8 = 255 from rfl, and255]
theorem maskL_get : ∀ (a : List UInt8) (n k : Nat), k < a.length → (maskL a n)[k]? = some (a.getD k 0 &&& keepB (min (n - 8 * k) 8))
  | [], _, _, h => by simp at h
  | b :: l, n, 0, _ => by simp [maskL]
  | b :: l, n, k + 1, h => by
    simp only [maskL, List.getElem?_cons_succ]
    rw [maskL_get l _ k (by simpa using h)]
    simp only [List.getD_cons_succ]
    rw [show n - 8 - 8 * k = n - 8 * (k + 1) by omega]
/-- Addresses that begin as one does. -/
structure Cd where
  addr : List UInt8
  bits : Int
instance : DecidableEq Cd := fun a b => if h : a.addr = b.addr ∧ a.bits = b.bits then isTrue (by cases a; cases b; simp only at h; obtain ⟨rfl, rfl⟩ := h; rfl) else isFalse (fun e => h (by rw [e]; exact ⟨rfl, rfl⟩))
def cl (n : Int) : Nat := (max 0 (min n 128)).toNat
theorem cl_le (n : Int) : cl n ≤ 128 := by unfold cl; omega
theorem cl_cast (n : Int) : (cl n : Int) = max 0 (min n 128) := by unfold cl; omega
theorem cl_nat {n : Nat} (h : n ≤ 128) : cl (n : Int) = n := by unfold cl; omega
def ofL (a : List UInt8) (n : Int) : Cd := ⟨maskL a (cl n), (cl n : Int)⟩
def rightC (c : Cd) : Bool := decide (c = ofL c.addr c.bits)
def hasC (c : Cd) (a : List UInt8) : Bool := rightC c && decide (ofL a c.bits = c)
def zeroC : Cd := ⟨zero16, 0⟩
theorem right_iff {c : Cd} : rightC c = true ↔ 0 ≤ c.bits ∧ c.bits ≤ 128 ∧ maskL c.addr c.bits.toNat = c.addr := by
  obtain ⟨a, n⟩ := c
  simp only [rightC, ofL, decide_eq_true_eq, Cd.mk.injEq]
  constructor
  · rintro ⟨h1, h2⟩
    have h3 := cl_cast n
    have h4 : cl n = n.toNat := by omega
    exact ⟨by omega, by omega, by rw [← h4]; exact h1.symm⟩
  · rintro ⟨h1, h2, h3⟩
    have h4 : cl n = n.toNat := by unfold cl; omega
    exact ⟨by rw [h4]; exact h3.symm, by omega⟩
theorem right_of (a : List UInt8) (n : Int) : rightC (ofL a n) = true := by
  rw [right_iff]
  have := cl_le n
  refine ⟨by simp [ofL], by simp [ofL]; omega, ?_⟩
  simp only [ofL, Int.toNat_natCast]
  rw [maskL_maskL, Nat.min_self]
theorem has_iff {c : Cd} {a : List UInt8} : hasC c a = true ↔ 0 ≤ c.bits ∧ c.bits ≤ 128 ∧ maskL c.addr c.bits.toNat = c.addr ∧ maskL a c.bits.toNat = c.addr := by
  simp only [hasC, Bool.and_eq_true, right_iff, decide_eq_true_eq]
  constructor
  · rintro ⟨⟨h1, h2, h3⟩, h4⟩
    refine ⟨h1, h2, h3, ?_⟩
    have := congrArg Cd.addr h4
    have h5 : cl c.bits = c.bits.toNat := by unfold cl; omega
    simpa [ofL, h5] using this
  · rintro ⟨h1, h2, h3, h4⟩
    refine ⟨⟨h1, h2, h3⟩, ?_⟩
    have h5 : cl c.bits = c.bits.toNat := by unfold cl; omega
    obtain ⟨ca, cb⟩ := c
    simp only [ofL, Cd.mk.injEq] at *
    exact ⟨by rw [h5]; exact h4, by omega⟩
theorem of_bits (a : List UInt8) {n : Int} (h0 : 0 ≤ n) (h1 : n ≤ 128) : ofL a n = ⟨maskL a n.toNat, n⟩ := by
  have h5 : cl n = n.toNat := by unfold cl; omega
  rw [ofL, h5, Int.toNat_of_nonneg h0]
theorem has_of {a : List UInt8} (c : Cd) : hasC c a = true ↔ rightC c = true ∧ ofL a c.bits = c := by simp [hasC]
/-- Who begins alike in more bits does in fewer. -/
theorem nests {a b : List UInt8} {n m : Int} (h : m ≤ n) (hh : hasC (ofL a n) b = true) : hasC (ofL a m) b = true := by
  have hn := cl_cast n
  have hm := cl_cast m
  rw [has_iff] at hh ⊢
  simp only [ofL, Int.toNat_natCast, maskL_maskL, Nat.min_self] at hh ⊢
  refine ⟨by omega, by have := cl_le m; omega, trivial, ?_⟩
  have h1 := congrArg (fun x => maskL x (cl m)) hh.2.2.2
  simp only [maskL_maskL] at h1
  rwa [Nat.min_eq_right (by omega)] at h1
theorem has_self (a : List UInt8) (n : Int) : hasC (ofL a n) a = true := by
  rw [has_iff]
  have := cl_le n
  simp only [ofL, Int.toNat_natCast, maskL_maskL, Nat.min_self]
  exact ⟨by omega, by omega, trivial, trivial⟩
theorem has_zero {a b : List UInt8} (h : a.length = b.length) : hasC (ofL a 0) b = true := by
  rw [has_iff]
  simp only [ofL, show cl 0 = 0 from rfl, Int.toNat_natCast, maskL_maskL, Nat.min_self]
  exact ⟨by omega, by omega, trivial, by rw [maskL_zero, maskL_zero, h]⟩
theorem has_all {a b : List UInt8} (ha : a.length = 16) (hb : b.length = 16) : hasC (ofL a 128) b = decide (a = b) := by
  rw [Bool.eq_iff_iff, has_iff, decide_eq_true_eq]
  simp only [ofL, show cl 128 = 128 from rfl, Int.toNat_natCast, maskL_maskL, Nat.min_self]
  rw [maskL_all a 128 (by omega), maskL_all b 128 (by omega)]
  constructor
  · rintro ⟨_, _, _, h⟩; exact h.symm
  · rintro rfl; exact ⟨by omega, by omega, trivial, rfl⟩

/-! ### Texts -/
theorem index_one (c : UInt8) : ∀ l : List UInt8, index l [c] = if c ∈ l then ((l.takeWhile (fun b => decide (b ≠ c))).length : Int) else -1
  | [] => rfl
  | b :: l => by
    unfold index
    have ih := index_one c l
    by_cases h : b = c
    · subst h
      simp [List.isPrefixOf]
    · have hp : ([c] : List UInt8).isPrefixOf (b :: l) = false := by simp [List.isPrefixOf, Ne.symm h]
      rw [hp]
      by_cases hm : c ∈ l
      · rw [if_pos hm] at ih
        rw [ih, if_pos (List.mem_cons_of_mem _ hm)]
        have h1 : (((List.takeWhile (fun b => decide (b ≠ c)) l).length : Int) == -1) = false := by rw [beq_eq_false_iff_ne]; omega
        simp [h]
      · rw [if_neg hm] at ih
        simp [ih, hm, Ne.symm h]
theorem cut_none {c : UInt8} {l : List UInt8} (h : c ∉ l) : cut l [c] = (l, [], false) := by
  unfold cut
  rw [index_one, if_neg h]; rfl
theorem cut_here {c : UInt8} {x : List UInt8} (y : List UInt8) (h : c ∉ x) : cut (x ++ c :: y) [c] = (x, y, true) := by
  have ht : List.takeWhile (fun b => decide (b ≠ c)) (x ++ c :: y) = x := by
    rw [List.takeWhile_append_of_pos (fun b hb => by simp; rintro rfl; exact h hb)]
    simp
  have hi : index (x ++ c :: y) [c] = (x.length : Int) := by rw [index_one, if_pos (by simp), ht]
  unfold cut
  rw [hi, if_pos (by omega)]
  simp only [Int.toNat_natCast, List.length_cons, List.length_nil]
  rw [List.take_left, ← List.drop_drop, List.drop_left]
  simp
theorem cut_len (c : UInt8) (l : List UInt8) : (cut l [c]).1.length ≤ l.length ∧ (cut l [c]).2.1.length ≤ l.length := by
  unfold cut
  split
  · exact ⟨by rw [List.length_take]; omega, by rw [List.length_drop]; omega⟩
  · exact ⟨Nat.le_refl _, Nat.zero_le _⟩
def moreL (t : List UInt8) : Nat := if 58 ∈ t then 0 else 96
theorem moreL_le (t : List UInt8) : moreL t ≤ 96 := by unfold moreL; split <;> omega
def parseC (s : List UInt8) : Option Cd := match parseL (cut s [47]).1 with
  | none => none
  | some a => match number (cut s [47]).2.1 (128 - (moreL (cut s [47]).1 : Int)) with
    | none => none
    | some n => some (ofL a ((n : Int) + moreL (cut s [47]).1))
def fourL (a : List UInt8) : Bool := decide (a.take 12 = aheadL)
def bitsP (c : Cd) : Int := if fourL c.addr = true ∧ 96 ≤ c.bits then c.bits - 96 else c.bits
def printC (c : Cd) : List UInt8 := printL c.addr ++ [47] ++ itoa (bitsP c)
theorem parse_right {s : List UInt8} {c : Cd} (h : parseC s = some c) : rightC c = true ∧ c.addr.length = 16 := by
  unfold parseC at h
  split at h
  · cases h
  · rename_i a ha
    split at h
    · cases h
    · cases h
      exact ⟨right_of _ _, by simp only [ofL]; rw [maskL_len]; exact parseL_len ha⟩
theorem hex_ne (b : UInt8) : isHex b = true → b ≠ 47 := byte_all (p := fun b => isHex b = true → b ≠ 47) (by decide +kernel) b
theorem textL_noslash (gs : List Nat) : (47 : UInt8) ∉ textL gs := by
  intro h
  rcases mem_join h with h | ⟨x, hx, hb⟩
  · revert h; decide
  · obtain ⟨n, _, rfl⟩ := List.mem_map.1 hx
    exact hex_ne _ ((hexL_all n).2.1 _ hb).1 rfl
theorem print_noslash (a : List UInt8) : (47 : UInt8) ∉ printL a := by
  unfold printL
  split
  · intro h
    rcases mem_join h with h | ⟨x, hx, hb⟩
    · revert h; decide
    · obtain ⟨n, _, rfl⟩ := List.mem_map.1 hx
      exact dig_ne (itoa_dig _ _ hb) (c := 47) (by decide) rfl
  · split
    · exact textL_noslash _
    · simp only [List.mem_append, not_or]
      exact ⟨⟨textL_noslash _, by decide⟩, textL_noslash _⟩
theorem print_col (a : List UInt8) (_ : a.length = 16) : (58 : UInt8) ∈ printL a ↔ fourL a = false := by
  unfold printL fourL
  by_cases h4 : a.take 12 = aheadL
  · rw [if_pos h4]
    simp only [h4, decide_true, Bool.true_eq_false, iff_false]
    intro h
    rcases mem_join h with h | ⟨x, hx, hb⟩
    · revert h; decide
    · obtain ⟨n, _, rfl⟩ := List.mem_map.1 hx
      exact dig_ne (itoa_dig _ _ hb) (c := 58) (by decide) rfl
  · rw [if_neg h4]
    simp only [h4, decide_false, iff_true]
    split
    · have h8 := groupsL_len a
      obtain ⟨x, gs, hg⟩ : ∃ x gs, groupsL a = x :: gs := by
        cases hq : groupsL a with
        | nil => rw [hq] at h8; cases h8
        | cons x gs => exact ⟨x, gs, rfl⟩
      obtain ⟨y, gs', rfl⟩ : ∃ y gs', gs = y :: gs' := by
        cases gs with
        | nil => rw [hg] at h8; simp at h8
        | cons y gs' => exact ⟨y, gs', rfl⟩
      rw [hg]
      simp only [textL, List.map_cons]
      rw [join_two]; simp
    · simp
theorem keepB_all {i : Nat} (h : (255 : UInt8) &&& keepB (min i 8) = 255) : 8 ≤ i := by
  have key : ∀ j < 8, (255 : UInt8) &&& keepB j ≠ 255 := by decide +kernel
  rcases Nat.lt_or_ge i 8 with h1 | h1
  · exact absurd h (by rw [Nat.min_eq_left (by omega)]; exact key i h1)
  · exact h1
theorem four_bits {c : Cd} (hr : rightC c = true) (ha : c.addr.length = 16) (h4 : fourL c.addr = true) : 96 ≤ c.bits := by
  rw [right_iff] at hr
  obtain ⟨h0, h1, h2⟩ := hr
  have h3 := maskL_get c.addr c.bits.toNat 11 (by omega)
  rw [h2] at h3
  have h5 : c.addr[11]? = some 255 := by
    have h6 : c.addr.take 12 = aheadL := by simpa [fourL] using h4
    have h7 : (c.addr.take 12)[11]? = some 255 := by rw [h6]; rfl
    rwa [List.getElem?_take_of_lt (by omega)] at h7
  have h8 : c.addr.getD 11 0 = 255 := by rw [List.getD_eq_getElem?_getD, h5]; rfl
  rw [h5, h8] at h3
  have h9 := keepB_all (Option.some.inj h3).symm
  omega
/-- What is right is printed, and parsed as it was. -/
theorem back {c : Cd} (hr : rightC c = true) (ha : c.addr.length = 16) : parseC (printC c) = some c := by
  have hr' := hr
  rw [right_iff] at hr'
  obtain ⟨h0, h1, h2⟩ := hr'
  have hcut : cut (printC c) [47] = (printL c.addr, itoa (bitsP c), true) := by
    rw [printC, List.append_assoc]; exact cut_here _ (print_noslash _)
  unfold parseC
  rw [hcut]
  simp only
  rw [parse_print ha]
  simp only
  obtain ⟨m, hm⟩ : ∃ m : Nat, bitsP c = (m : Int) := ⟨(bitsP c).toNat, by unfold bitsP; split <;> omega⟩
  have hmore : moreL (printL c.addr) = if fourL c.addr = true then 96 else 0 := by
    unfold moreL
    by_cases h4 : fourL c.addr = true
    · rw [if_neg (fun h => by rw [(print_col _ ha).1 h] at h4; cases h4), if_pos h4]
    · rw [if_pos ((print_col _ ha).2 (by simpa using h4)), if_neg h4]
  have hsum : (m : Int) + (moreL (printL c.addr) : Int) = c.bits := by
    rw [← hm, hmore]
    unfold bitsP
    by_cases h4 : fourL c.addr = true
    · have := four_bits hr ha h4
      rw [if_pos ⟨h4, this⟩, if_pos h4]; omega
    · rw [if_neg (fun h => h4 h.1), if_neg h4]; omega
  rw [hm, number_itoa (by omega) (by omega)]
  simp only
  rw [hsum, of_bits _ h0 h1, h2]
theorem printC_len {c : Cd} (ha : c.addr.length = 16) : (printC c).length ≤ 66 + 0 * c.addr.length ∨ 128 < c.bits ∨ c.bits < 0 := by
  rcases Int.lt_or_le c.bits 0 with h0 | h0
  · exact .inr (.inr h0)
  rcases Int.lt_or_le 128 c.bits with h1 | h1
  · exact .inr (.inl h1)
  left
  have h2 := print_len ha
  obtain ⟨m, hm⟩ : ∃ m : Nat, bitsP c = (m : Int) := ⟨(bitsP c).toNat, by unfold bitsP; split <;> omega⟩
  have hlt : m < 256 := by have : bitsP c ≤ c.bits := by (unfold bitsP; split <;> omega)
                           omega
  have h3 := itoa_len m hlt
  rw [printC, hm]
  simp only [List.length_append, List.length_cons, List.length_nil]
  omega
end Go.Cid

namespace Go.Cid
open Go.Lib Go.Asc Go.Adr

/-- What compares whatever two, in one order. -/
structure Tot {α : Type} (f : α → α → Int) : Prop where
  neg : ∀ a b, f b a = - f a b
  same : ∀ a b, f a b = 0 → a = b
  trans : ∀ a b c, f a b < 0 → f b c < 0 → f a c < 0
section
variable {α : Type} {f : α → α → Int}
theorem Tot.refl (h : Tot f) (a : α) : f a a = 0 := by have := h.neg a a; omega
theorem Tot.le_trans (h : Tot f) {a b c : α} (h1 : f a b ≤ 0) (h2 : f b c ≤ 0) : f a c ≤ 0 := by
  rcases Int.lt_or_eq_of_le h1 with h3 | h3
  · rcases Int.lt_or_eq_of_le h2 with h4 | h4
    · exact Int.le_of_lt (h.trans _ _ _ h3 h4)
    · rw [← h.same _ _ h4]; exact h1
  · rw [h.same _ _ h3]; exact h2
theorem Tot.swo (h : Tot f) : Go.Sort.SWO (fun x y => decide (f x y < 0)) where
  irrefl x := by simp [h.refl]
  trans x y z h1 h2 := by simp only [decide_eq_true_eq] at *; exact h.trans _ _ _ h1 h2
  ntrans x y z h1 h2 := by
    simp only [decide_eq_false_iff_not] at *
    have h3 := h.neg x y
    have h4 := h.neg y z
    have h5 := h.neg x z
    have := h.le_trans (a := z) (b := y) (c := x) (by omega) (by omega)
    omega
/-- In order. -/
def sortF (f : α → α → Int) (l : List α) : List α := l.mergeSort fun x y => !decide (f y x < 0)
theorem sortF_perm (f : α → α → Int) (l : List α) : (sortF f l).Perm l := List.mergeSort_perm _ _
theorem sortF_len (f : α → α → Int) (l : List α) : (sortF f l).length = l.length := (sortF_perm f l).length_eq
theorem sortF_pair (h : Tot f) (l : List α) : (sortF f l).Pairwise fun x y => f x y ≤ 0 := by
  have := List.pairwise_mergeSort (le := fun x y => !decide (f y x < 0)) (fun a b c h1 h2 => by
    simp only [Bool.not_eq_true', decide_eq_false_iff_not] at *
    have e1 := h.neg a b
    have e2 := h.neg b c
    have e3 := h.neg a c
    have := h.le_trans (a := a) (b := b) (c := c) (by omega) (by omega)
    omega) (fun a b => by
    have e1 := h.neg a b
    simp only [Bool.or_eq_true, Bool.not_eq_true', decide_eq_false_iff_not]; omega) l
  refine this.imp ?_
  intro x y hxy
  simp only [Bool.not_eq_true', decide_eq_false_iff_not] at hxy
  have := h.neg x y
  omega
theorem sorted_one (h : Tot f) {l m : List α} (hl : l.Pairwise fun x y => f x y ≤ 0) (hm : m.Pairwise fun x y => f x y ≤ 0) (hp : l.Perm m) : l = m :=
  List.Perm.eq_of_pairwise (le := fun x y => f x y ≤ 0) (fun a b _ _ h1 h2 => h.same _ _ (by have := h.neg a b; omega)) hl hm hp
theorem sortF_eq (h : Tot f) {l m : List α} (hp : l.Perm m) : sortF f l = sortF f m :=
  sorted_one h (sortF_pair h l) (sortF_pair h m) ((sortF_perm f l).trans (hp.trans (sortF_perm f m).symm))
theorem sortF_of (h : Tot f) {l m : List α} (hm : m.Pairwise fun x y => f x y ≤ 0) (hp : m.Perm l) : sortF f l = m :=
  sorted_one h (sortF_pair h l) hm ((sortF_perm f l).trans hp.symm)
theorem sortF_strict (h : Tot f) {l : List α} (hn : l.Nodup) : (sortF f l).Pairwise fun x y => f x y < 0 := by
  have h1 := sortF_pair h l
  have h2 : (sortF f l).Pairwise fun x y => x ≠ y := ((sortF_perm f l).nodup_iff.2 hn)
  refine (h1.and h2).imp ?_
  rintro x y ⟨h3, h4⟩
  rcases Int.lt_or_eq_of_le h3 with h5 | h5
  · exact h5
  · exact absurd (h.same _ _ h5) h4
theorem sortF_mem {l : List α} {x : α} : x ∈ sortF f l ↔ x ∈ l := (sortF_perm f l).mem_iff
theorem sortF_map {β : Type} {g : β → β → Int} (hf : Tot f) (hg : Tot g) (m : β → α) (hm : ∀ x y, f (m x) (m y) = g x y) (l : List β) : (sortF g l).map m = sortF f (l.map m) := by
  refine (sortF_of hf ?_ ((sortF_perm g l).map m)).symm
  rw [List.pairwise_map]
  exact (sortF_pair hg l).imp (fun {x y} h => by rw [hm]; exact h)
/-- One more, laid where it stands. -/
theorem sortF_ins (h : Tot f) {l A B : List α} {x : α} (hA : sortF f l = A ++ B) (h1 : ∀ y ∈ A, f y x ≤ 0) (h2 : ∀ y ∈ B, f x y ≤ 0) : sortF f (x :: l) = A ++ x :: B := by
  have hs := sortF_pair h l
  rw [hA, List.pairwise_append] at hs
  refine sortF_of h ?_ ?_
  · rw [List.pairwise_append]
    refine ⟨hs.1, List.pairwise_cons.2 ⟨h2, hs.2.1⟩, ?_⟩
    intro a ha b hb
    rcases List.mem_cons.1 hb with rfl | hb
    · exact h1 a ha
    · exact hs.2.2 a ha b hb
  · refine List.perm_middle.trans (List.Perm.cons x ?_)
    rw [← hA]; exact sortF_perm f l
end

/-- Numbers. -/
def cmpN (a b : Int) : Int := if a < b then -1 else if b < a then 1 else 0
theorem tot_cmpN : Tot cmpN where
  neg a b := by unfold cmpN; repeat' split <;> omega
  same a b h := by unfold cmpN at h; repeat' split at h <;> omega
  trans a b c h1 h2 := by unfold cmpN at *; repeat' split at * <;> omega
/-- Bytes, one by one. -/
def cmpL : List UInt8 → List UInt8 → Int
  | [], [] => 0
  | [], _ :: _ => -1
  | _ :: _, [] => 1
  | x :: a, y :: b => if x.toNat < y.toNat then -1 else if y.toNat < x.toNat then 1 else cmpL a b
theorem cmpL_neg : ∀ a b, cmpL b a = - cmpL a b
  | [], [] => rfl
  | [], _ :: _ => rfl
  | _ :: _, [] => rfl
  | x :: a, y :: b => by
    have := cmpL_neg a b
    simp only [cmpL]
    repeat' split <;> omega
theorem cmpL_same : ∀ a b, cmpL a b = 0 → a = b
  | [], [], _ => rfl
  | [], _ :: _, h => by simp [cmpL] at h
  | _ :: _, [], h => by simp [cmpL] at h
  | x :: a, y :: b, h => by
    simp only [cmpL] at h
    by_cases h1 : x.toNat < y.toNat
    · rw [if_pos h1] at h; omega
    · rw [if_neg h1] at h
      by_cases h2 : y.toNat < x.toNat
      · rw [if_pos h2] at h; omega
      · rw [if_neg h2] at h
        rw [cmpL_same a b h, UInt8.toNat_inj.1 (show x.toNat = y.toNat by omega)]
theorem cmpL_trans : ∀ a b c, cmpL a b < 0 → cmpL b c < 0 → cmpL a c < 0
  | [], [], _, h, _ => by simp [cmpL] at h
  | [], _ :: _, [], _, h => by simp [cmpL] at h
  | [], _ :: _, _ :: _, _, _ => by simp [cmpL]
  | _ :: _, [], _, h, _ => by simp [cmpL] at h
  | _ :: _, _ :: _, [], _, h => by simp [cmpL] at h
  | x :: a, y :: b, z :: c, h1, h2 => by
    have ih := cmpL_trans a b c
    simp only [cmpL] at *
    by_cases e1 : x.toNat < y.toNat
    · by_cases e2 : y.toNat < z.toNat
      · rw [if_pos (by omega)]; omega
      · rw [if_neg e2] at h2
        by_cases e3 : z.toNat < y.toNat
        · rw [if_pos e3] at h2; omega
        · rw [if_pos (by omega)]; omega
    · rw [if_neg e1] at h1
      by_cases e2 : y.toNat < x.toNat
      · rw [if_pos e2] at h1; omega
      · rw [if_neg e2] at h1
        by_cases e3 : y.toNat < z.toNat
        · rw [if_pos (by omega)]; omega
        · rw [if_neg e3] at h2
          by_cases e4 : z.toNat < y.toNat
          · rw [if_pos e4] at h2; omega
          · rw [if_neg e4] at h2
            rw [if_neg (by omega), if_neg (by omega)]
            exact ih h1 h2
theorem tot_cmpL : Tot cmpL := ⟨cmpL_neg, cmpL_same, cmpL_trans⟩
/-- One, then the other. -/
def thenF (a b : Int) : Int := if a = 0 then b else a
theorem tot_then {α β γ : Type} {f : α → α → Int} {g : β → β → Int} (hf : Tot f) (hg : Tot g) (p : γ → α) (q : γ → β) (hpq : ∀ x y, p x = p y → q x = q y → x = y) : Tot fun x y => thenF (f (p x) (p y)) (g (q x) (q y)) where
  neg a b := by
    have h1 := hf.neg (p a) (p b)
    have h2 := hg.neg (q a) (q b)
    unfold thenF
    repeat' split <;> omega
  same a b h := by
    unfold thenF at h
    by_cases h1 : f (p a) (p b) = 0
    · rw [if_pos h1] at h; exact hpq _ _ (hf.same _ _ h1) (hg.same _ _ h)
    · rw [if_neg h1] at h; exact absurd h h1
  trans a b c h1 h2 := by
    unfold thenF at *
    by_cases e1 : f (p a) (p b) = 0
    · rw [if_pos e1] at h1
      rw [hf.same _ _ e1]
      by_cases e2 : f (p b) (p c) = 0
      · rw [if_pos e2] at h2 ⊢; exact hg.trans _ _ _ h1 h2
      · rw [if_neg e2] at h2 ⊢; exact h2
    · rw [if_neg e1] at h1
      by_cases e2 : f (p b) (p c) = 0
      · rw [← hf.same _ _ e2, if_neg e1]; exact h1
      · rw [if_neg e2] at h2
        have := hf.trans _ _ _ h1 h2
        rw [if_neg (by omega)]; exact this
/-- Ranges. -/
def cmpC (a b : Cd) : Int := thenF (cmpL a.addr b.addr) (cmpN a.bits b.bits)
theorem tot_cmpC : Tot cmpC := tot_then tot_cmpL tot_cmpN Cd.addr Cd.bits (fun x y h1 h2 => by cases x; cases y; simp only at h1 h2; rw [h1, h2])
def sortC (l : List Cd) : List Cd := sortF cmpC l
end Go.Cid

namespace Go.Pol
abbrev Lb := List UInt8
open Go.Lib Go.Asc Go.Adr Go.Nam Go.Tri Go.Cid

/-- A pin: a name, where it lies, until when. -/
structure Pn where
  name : Lb
  cidr : Cd
  till : Int
instance : DecidableEq Pn := fun a b => if h : a.name = b.name ∧ a.cidr = b.cidr ∧ a.till = b.till then isTrue (by cases a; cases b; simp only at h; obtain ⟨rfl, rfl, rfl⟩ := h; rfl) else isFalse (fun e => h (by rw [e]; exact ⟨rfl, rfl, rfl⟩))
structure Pol where
  allow : Bool
  rules : List Ru
  pins : List Pn
def polZ : Pol := ⟨false, [], []⟩
/-- The words of a line. -/
def isSep (b : UInt8) : Bool := decide (b = 32) || decide (b = 9)
def wordsG : List UInt8 → Lb → List Lb
  | [], w => if w = [] then [] else [w]
  | b :: l, w => if isSep b then (if w = [] then wordsG l [] else w :: wordsG l []) else wordsG l (w ++ [b])
def wordsL (l : Lb) : List Lb := wordsG l []
theorem wordsG_word : ∀ (l : Lb) (w : Lb) (r : Lb), (∀ b ∈ l, isSep b = false) → wordsG (l ++ r) w = wordsG r (w ++ l)
  | [], w, r, _ => by simp
  | b :: l, w, r, h => by
    rw [List.cons_append, wordsG, h b (by simp), if_neg (by simp), wordsG_word l (w ++ [b]) r (fun c hc => h c (by simp [hc]))]
    simp
theorem wordsG_sep (l : Lb) {w : Lb} {b : UInt8} (hb : isSep b = true) : wordsG (b :: l) w = if w = [] then wordsL l else w :: wordsL l := by
  rw [wordsG, hb]; rfl
/-- Words with blanks between are these words. -/
theorem words_join : ∀ (ws : List Lb), (∀ w ∈ ws, w ≠ [] ∧ ∀ b ∈ w, isSep b = false) → wordsL (join ws [32]) = ws
  | [], _ => rfl
  | [w], h => by
    have h1 := h w (by simp)
    have : join [w] [32] = w ++ [] := by simp [join]
    rw [this, wordsL, wordsG_word w [] [] h1.2]
    simp [wordsG, h1.1]
  | w :: x :: r, h => by
    have h1 := h w (by simp)
    rw [join_two, wordsL, wordsG_word w [] _ h1.2, List.nil_append, wordsG_sep _ (by decide), if_neg h1.1, words_join (x :: r) (fun y hy => h y (by simp [hy]))]
theorem wordsG_pre : ∀ (l : Lb), (∀ b ∈ l, isSep b = true) → ∀ r, wordsL (l ++ r) = wordsL r
  | [], _, r => rfl
  | b :: l, h, r => by
    rw [List.cons_append, wordsL, wordsG_sep _ (h b (by simp)), if_pos rfl, wordsG_pre l (fun c hc => h c (by simp [hc]))]
theorem words_mem : ∀ {l w : Lb} {x : Lb}, (∀ b ∈ w, isSep b = false) → x ∈ wordsG l w → x ≠ [] ∧ ∀ b ∈ x, isSep b = false ∧ (b ∈ w ∨ b ∈ l)
  | [], w, x, hw, h => by
    simp only [wordsG] at h
    split at h
    · cases h
    · rename_i hne
      obtain rfl : x = w := by simpa using h
      exact ⟨hne, fun b hb => ⟨hw b hb, .inl hb⟩⟩
  | c :: l, w, x, hw, h => by
    simp only [wordsG] at h
    by_cases hc : isSep c = true
    · rw [if_pos hc] at h
      by_cases hne : w = []
      · rw [if_pos hne] at h
        obtain ⟨h1, h2⟩ := words_mem (w := []) (by simp) h
        exact ⟨h1, fun b hb => ⟨(h2 b hb).1, (h2 b hb).2.elim (fun h3 => by cases h3) (fun h3 => .inr (by simp [h3]))⟩⟩
      · rw [if_neg hne] at h
        rcases List.mem_cons.1 h with rfl | h
        · exact ⟨hne, fun b hb => ⟨hw b hb, .inl hb⟩⟩
        · obtain ⟨h1, h2⟩ := words_mem (w := []) (by simp) h
          exact ⟨h1, fun b hb => ⟨(h2 b hb).1, (h2 b hb).2.elim (fun h3 => by cases h3) (fun h3 => .inr (by simp [h3]))⟩⟩
    · rw [if_neg hc] at h
      obtain ⟨h1, h2⟩ := words_mem (w := w ++ [c]) (by
        intro b hb
        rcases List.mem_append.1 hb with hb | hb
        · exact hw b hb
        · simp at hb; subst hb; simpa using hc) h
      refine ⟨h1, fun b hb => ⟨(h2 b hb).1, ?_⟩⟩
      rcases (h2 b hb).2 with h3 | h3
      · rcases List.mem_append.1 h3 with h3 | h3
        · exact .inl h3
        · simp at h3; exact .inr (by simp [h3])
      · exact .inr (by simp [h3])

/-! ### What words say -/
def kAllow : Lb := [97, 108, 108, 111, 119]
def kDeny : Lb := [100, 101, 110, 121]
def kDefault : Lb := [100, 101, 102, 97, 117, 108, 116]
def kPin : Lb := [112, 105, 110]
def kPort : Lb := [112, 111, 114, 116]
def kAlpn : Lb := [97, 108, 112, 110]
def kUntil : Lb := [117, 110, 116, 105, 108]
def signedL (s : Lb) : Option Int := if s.head? = some 45 then (number s.tail 1000).map (fun (n : Nat) => -(n : Int)) else (number s 1000).map (fun (n : Nat) => (n : Int))
def takeL (l : List Lb) (key : Lb) : Option (Lb × List Lb) := match l with
  | k :: w :: r => if k = key then some (w, r) else none
  | _ => none
/-- A number behind a key, if the key is there; none where it is no number. -/
def numBeh (l : List Lb) (key : Lb) (most : Int) : Option (Int × List Lb) := match takeL l key with
  | none => some (0, l)
  | some (w, r) => (number w most).map fun (n : Nat) => ((n : Int), r)
def ruleL (l : List Lb) : Option Ru := match l with
  | w0 :: w1 :: w2 :: rest => match signedL w1, numBeh rest kPort 65535 with
    | some n, some (port, r1) => match takeL r1 kAlpn with
      | some (w, r2) => if r2 = [] then some ⟨decide (w0 = kAllow), n, w2, port, w⟩ else none
      | none => if r1 = [] then some ⟨decide (w0 = kAllow), n, w2, port, []⟩ else none
    | _, _ => none
  | _ => none
def pinL (l : List Lb) : Option Pn := match l with
  | _ :: w1 :: w2 :: rest => match parseC w2, numBeh rest kUntil 1099511627776 with
    | some c, some (n, r1) => if r1 = [] then some ⟨w1, c, n⟩ else none
    | _, _ => none
  | _ => none
def placeOf (x : Pn) : Lb × Cd := (x.name, x.cidr)
/-- What is wrong of a pin behind others. -/
def pinErr (ps : List Pn) (x : Pn) : Int :=
  if normalL x.name ≠ (x.name, 0) then 9 else if rightC x.cidr = false ∨ x.till < 0 ∨ 1099511627776 < x.till then 1 else if placeOf x ∈ ps.map placeOf then 7 else 0
def lineW (p : Pol) (ws : List Lb) : Pol × Int := match ws with
  | [] => (p, 0)
  | w0 :: r =>
    if w0.head? = some 35 then (p, 0)
    else if w0 = kDefault then (match r with
      | [w1] => if w1 = kAllow then ({ p with allow := true }, 0) else if w1 = kDeny then ({ p with allow := false }, 0) else (p, 3)
      | _ => (p, 3))
    else if w0 = kAllow ∨ w0 = kDeny then (match ruleL ws with
      | some x => ({ p with rules := p.rules ++ [x] }, (addL p.rules x).2)
      | none => (p, 3))
    else if w0 = kPin then (match pinL ws with
      | some x => if p.pins.length = 200 then (p, 2) else ({ p with pins := p.pins ++ [x] }, pinErr p.pins x)
      | none => (p, 3))
    else (p, 3)
def runL (p : Pol) : Nat → List Lb → Pol × Nat × Int
  | _, [] => (p, 0, 0)
  | k, l :: r => if (lineW p (wordsL l)).2 = 0 then runL (lineW p (wordsL l)).1 (k + 1) r else (polZ, k + 1, (lineW p (wordsL l)).2)
def parseP (s : Lb) : Pol × Nat × Int := runL polZ 0 (splitB 10 s)

/-! ### What is right -/
def pinsErr : List Pn → List Pn → Int
  | _, [] => 0
  | ps, x :: r => if pinErr ps x = 0 then pinsErr (ps ++ [x]) r else pinErr ps x
def rulesErr : List Ru → List Ru → Int
  | _, [] => 0
  | rs, x :: r => if (addL rs x).2 = 0 then rulesErr (rs ++ [x]) r else (addL rs x).2
def rightP (p : Pol) : Int := if rulesErr [] p.rules ≠ 0 then rulesErr [] p.rules else if 200 < p.pins.length then 2 else pinsErr [] p.pins
theorem add_ok {rs : List Ru} {x : Ru} (h : (addL rs x).2 = 0) : (addL rs x).1 = rs ++ [x] := by
  unfold addL at h ⊢
  split at h
  · rename_i h0; exact absurd h h0
  · rename_i h0
    rw [if_neg h0]
    split at h
    · cases h
    · rename_i h1
      rw [if_neg h1]
      split at h
      · cases h
      · rename_i h2
        rw [if_neg h2]
theorem rulesErr_app : ∀ (l rs : List Ru) (x : Ru), rulesErr rs l = 0 → rulesErr rs (l ++ [x]) = (addL (rs ++ l) x).2
  | [], rs, x, _ => by
    simp only [List.nil_append, List.append_nil, rulesErr]
    split
    · rename_i h; exact h.symm
    · rfl
  | y :: l, rs, x, h => by
    simp only [rulesErr] at h
    simp only [List.cons_append, rulesErr]
    by_cases h1 : (addL rs y).2 = 0
    · rw [if_pos h1] at h ⊢
      rw [rulesErr_app l (rs ++ [y]) x h, List.append_assoc]; rfl
    · rw [if_neg h1] at h; exact absurd h h1
theorem pinsErr_app : ∀ (l rs : List Pn) (x : Pn), pinsErr rs l = 0 → pinsErr rs (l ++ [x]) = pinErr (rs ++ l) x
  | [], rs, x, _ => by
    simp only [List.nil_append, List.append_nil, pinsErr]
    split
    · rename_i h; exact h.symm
    · rfl
  | y :: l, rs, x, h => by
    simp only [pinsErr] at h
    simp only [List.cons_append, pinsErr]
    by_cases h1 : pinErr rs y = 0
    · rw [if_pos h1] at h ⊢
      rw [pinsErr_app l (rs ++ [y]) x h, List.append_assoc]; rfl
    · rw [if_neg h1] at h; exact absurd h h1
theorem rightP_iff {p : Pol} : rightP p = 0 ↔ rulesErr [] p.rules = 0 ∧ p.pins.length ≤ 200 ∧ pinsErr [] p.pins = 0 := by
  unfold rightP
  constructor
  · intro h
    split at h
    · rename_i h0; exact absurd h h0
    · rename_i h0
      split at h
      · cases h
      · exact ⟨Classical.not_not.1 h0, by omega, h⟩
  · rintro ⟨h1, h2, h3⟩
    rw [if_neg (by simp [h1]), if_neg (by omega), h3]
theorem line_right {p : Pol} (h : rightP p = 0) {ws : List Lb} (h0 : (lineW p ws).2 = 0) : rightP (lineW p ws).1 = 0 := by
  have hp := rightP_iff.1 h
  unfold lineW at h0 ⊢
  split
  · exact h
  · rename_i w0 r
    simp only at h0
    split
    · exact h
    · rename_i c1
      rw [if_neg c1] at h0
      split
      · rename_i c2
        rw [if_pos c2] at h0
        split
        · split
          · exact rightP_iff.2 hp
          · split
            · exact rightP_iff.2 hp
            · exact h
        · exact h
      · rename_i c2
        rw [if_neg c2] at h0
        split
        · rename_i c3
          rw [if_pos c3] at h0
          split
          · rename_i x hx
            rw [hx] at h0
            exact rightP_iff.2 ⟨by rw [rulesErr_app _ _ _ hp.1]; exact h0, hp.2⟩
          · exact h
        · rename_i c3
          rw [if_neg c3] at h0
          split
          · rename_i c4
            rw [if_pos c4] at h0
            split
            · rename_i x hx
              rw [hx] at h0
              simp only at h0
              split
              · exact h
              · rename_i c5
                rw [if_neg c5] at h0
                exact rightP_iff.2 ⟨hp.1, by simp only [List.length_append, List.length_cons, List.length_nil]; have := hp.2.1; omega, by rw [pinsErr_app _ _ _ hp.2.2]; exact h0⟩
            · exact h
          · exact h
theorem run_right : ∀ (ls : List Lb) (p : Pol) (k : Nat), rightP p = 0 → (runL p k ls).2.2 = 0 → rightP (runL p k ls).1 = 0
  | [], p, k, h, _ => h
  | l :: r, p, k, h, h0 => by
    simp only [runL] at h0 ⊢
    split
    · rename_i h1
      rw [if_pos h1] at h0
      exact run_right r _ _ (line_right h h1) h0
    · rename_i h1
      rw [if_neg h1] at h0
      exact absurd h0 h1
theorem zero_right : rightP polZ = 0 := by decide +kernel
theorem parse_right {s : Lb} (h : (parseP s).2.2 = 0) : rightP (parseP s).1 = 0 := run_right _ _ _ zero_right h

/-! ### Lines, one behind the other -/
theorem run_app_ok : ∀ (ls ms : List Lb) (p : Pol) (k : Nat), (runL p k ls).2.2 = 0 → runL p k (ls ++ ms) = runL (runL p k ls).1 (k + ls.length) ms
  | [], ms, p, k, _ => by simp [runL]
  | l :: r, ms, p, k, h => by
    simp only [runL] at h
    simp only [List.cons_append, runL]
    by_cases h1 : (lineW p (wordsL l)).2 = 0
    · rw [if_pos h1] at h
      rw [if_pos h1, if_pos h1, run_app_ok r ms _ (k + 1) h]
      congr 1
      simp; omega
    · rw [if_neg h1] at h; exact absurd h h1
theorem run_app_bad : ∀ (ls ms : List Lb) (p : Pol) (k : Nat), (runL p k ls).2.2 ≠ 0 → runL p k (ls ++ ms) = runL p k ls
  | [], ms, p, k, h => absurd rfl h
  | l :: r, ms, p, k, h => by
    simp only [runL] at h
    simp only [List.cons_append, runL]
    by_cases h1 : (lineW p (wordsL l)).2 = 0
    · rw [if_pos h1] at h
      rw [if_pos h1, if_pos h1, run_app_bad r ms _ (k + 1) h]
    · rw [if_neg h1, if_neg h1]
theorem run_zero : ∀ (ls : List Lb) (p : Pol) (k : Nat), (runL p k ls).2.2 = 0 → (runL p k ls).2.1 = 0
  | [], _, _, _ => rfl
  | l :: r, p, k, h => by
    simp only [runL] at h ⊢
    split
    · rename_i h1; rw [if_pos h1] at h; exact run_zero r _ _ h
    · rename_i h1; rw [if_neg h1] at h; exact absurd h h1
theorem run_bad : ∀ (ls : List Lb) (p : Pol) (k : Nat), (runL p k ls).2.2 ≠ 0 → (runL p k ls).1 = polZ ∧ k < (runL p k ls).2.1 ∧ ∀ j, runL p j ls = (polZ, (runL p k ls).2.1 + j - k, (runL p k ls).2.2)
  | [], _, _, h => absurd rfl h
  | l :: r, p, k, h => by
    simp only [runL] at h ⊢
    by_cases h1 : (lineW p (wordsL l)).2 = 0
    · rw [if_pos h1] at h ⊢
      obtain ⟨e1, e2, e3⟩ := run_bad r _ (k + 1) h
      refine ⟨e1, by omega, fun j => ?_⟩
      rw [if_pos h1, e3 (j + 1)]
      congr 2
      omega
    · rw [if_neg h1] at h ⊢
      refine ⟨rfl, by simp only; omega, fun j => ?_⟩
      rw [if_neg h1]
      simp only
      congr 2
      omega
theorem run_ok_k : ∀ (ls : List Lb) (p : Pol) (k j : Nat), (runL p k ls).2.2 = 0 → runL p j ls = runL p k ls
  | [], _, _, _, _ => rfl
  | l :: r, p, k, j, h => by
    simp only [runL] at h ⊢
    split
    · rename_i h1
      rw [if_pos h1] at h
      exact run_ok_k r _ _ _ h
    · rename_i h1; rw [if_neg h1] at h; exact absurd h h1
end Go.Pol

namespace Go.Pol
open Go.Lib Go.Asc Go.Adr Go.Nam Go.Tri Go.Cid

/-- A word in which nothing parts words or lines. -/
def Wd (w : Lb) : Prop := w ≠ [] ∧ ∀ b ∈ w, isSep b = false ∧ b ≠ 10
theorem wd_of {w : Lb} (h0 : w ≠ []) (h : ∀ b ∈ w, 33 ≤ b.toNat) : Wd w := by
  refine ⟨h0, fun b hb => ?_⟩
  have h1 := h b hb
  have key : 33 ≤ b.toNat → isSep b = false ∧ b ≠ 10 := byte_all (p := fun b => 33 ≤ b.toNat → isSep b = false ∧ b ≠ 10) (by decide +kernel) b
  exact key h1
theorem dig_ge (b : UInt8) : isDig b.toNat = true → 33 ≤ b.toNat := byte_all (p := fun b => isDig b.toNat = true → 33 ≤ b.toNat) (by decide +kernel) b
theorem hex_ge (b : UInt8) : isHex b = true → 33 ≤ b.toNat := byte_all (p := fun b => isHex b = true → 33 ≤ b.toNat) (by decide +kernel) b
theorem fine_ge (b : UInt8) : strangeP b.toNat = false → 33 ≤ b.toNat := byte_all (p := fun b => strangeP b.toNat = false → 33 ≤ b.toNat) (by decide +kernel) b
theorem join_ge {c : UInt8} (hc : 33 ≤ c.toNat) {xs : List Lb} (h : ∀ x ∈ xs, ∀ b ∈ x, 33 ≤ b.toNat) : ∀ b ∈ join xs [c], 33 ≤ b.toNat := by
  intro b hb
  rcases mem_join hb with rfl | ⟨x, hx, hb⟩
  · exact hc
  · exact h x hx b hb
theorem textL_ge (gs : List Nat) : ∀ b ∈ textL gs, 33 ≤ b.toNat := by
  refine join_ge (by decide) (fun x hx b hb => ?_)
  obtain ⟨n, _, rfl⟩ := List.mem_map.1 hx
  exact hex_ge b ((hexL_all n).2.1 b hb).1
theorem printL_ge (a : List UInt8) : ∀ b ∈ printL a, 33 ≤ b.toNat := by
  unfold printL
  split
  · refine join_ge (by decide) (fun x hx b hb => ?_)
    obtain ⟨n, _, rfl⟩ := List.mem_map.1 hx
    exact dig_ge b (itoa_dig _ b hb)
  · split
    · exact textL_ge _
    · intro b hb
      rcases List.mem_append.1 hb with hb | hb
      · rcases List.mem_append.1 hb with hb | hb
        · exact textL_ge _ b hb
        · have : b = 58 := by simpa using hb
          subst this; decide
      · exact textL_ge _ b hb
theorem nm_ge {n : Lb} (h : Nm n) : ∀ b ∈ n, 33 ≤ b.toNat := by
  intro b hb
  rcases mem_splitB (c := 46) hb with rfl | ⟨x, hx, hb⟩
  · decide
  · exact fine_ge b ((badL_ne (any_bad h.fine x hx)).2.2 b hb)
theorem named_wd {s : Lb} (h : named s = true) : s ≠ [] ∧ ∀ b ∈ s, 33 ≤ b.toNat := by
  rcases named_cases h with ⟨a, _, ha, rfl⟩ | ⟨hm, _⟩
  · exact ⟨print_ne ha, printL_ge a⟩
  · exact ⟨hm.ne, nm_ge hm⟩
theorem pat_wd {p : Lb} (h : patL p = true) : Wd p := by
  unfold patL at h
  split at h
  · rename_i r hr
    rw [Bool.and_eq_true] at h
    have h1 := named_wd h.1
    rw [cutP_some hr]
    refine wd_of (by simp) (fun b hb => ?_)
    simp only [List.mem_cons] at hb
    rcases hb with rfl | rfl | hb
    · decide
    · decide
    · exact h1.2 b hb
  · rw [Bool.or_eq_true, decide_eq_true_eq] at h
    rcases h with rfl | h
    · exact wd_of (by simp) (fun b hb => by have : b = 42 := by simpa using hb
                                            subst this; decide)
    · have h1 := named_wd h
      exact wd_of h1.1 h1.2
theorem vis_wd {s : Lb} (h0 : s ≠ []) (h : visL s = true) : Wd s := by
  refine wd_of h0 (fun b hb => ?_)
  unfold visL at h
  rw [Bool.and_eq_true] at h
  have := List.all_eq_true.1 h.1 b hb
  simp only [Bool.and_eq_true, decide_eq_true_eq] at this
  exact this.1
theorem itoa_wd (n : Int) : Wd (itoa n) := by
  unfold itoa
  split
  · refine wd_of (by simp) (fun b hb => ?_)
    rcases List.mem_cons.1 hb with rfl | hb
    · decide
    · exact dig_ge b (dec_dig _ b hb)
  · exact wd_of (dec_ne _) (fun b hb => dig_ge b (dec_dig _ b hb))
theorem printC_wd {c : Cd} (_ : c.addr.length = 16) : Wd (printC c) := by
  refine wd_of (by simp [printC]) (fun b hb => ?_)
  rw [printC] at hb
  rcases List.mem_append.1 hb with hb | hb
  · rcases List.mem_append.1 hb with hb | hb
    · exact printL_ge _ b hb
    · have : b = 47 := by simpa using hb
      subst this; decide
  · have := (itoa_wd (bitsP c)).2 b hb
    unfold itoa at hb
    split at hb
    · rcases List.mem_cons.1 hb with rfl | hb
      · decide
      · exact dig_ge b (dec_dig _ b hb)
    · exact dig_ge b (dec_dig _ b hb)

/-! ### What is printed -/
def verbL (b : Bool) : Lb := if b then kAllow else kDeny
def ruleWs (r : Ru) : List Lb := [verbL r.allow, itoa r.prio, r.pat] ++ ((if r.port = 0 then [] else [kPort, itoa r.port]) ++ (if r.alpn = [] then [] else [kAlpn, r.alpn]))
def pinWs (x : Pn) : List Lb := [kPin, x.name, printC x.cidr] ++ (if x.till = 0 then [] else [kUntil, itoa x.till])
def sayL (ws : List Lb) : Lb := join ws [32] ++ [10]
def printP (p : Pol) : Lb := sayL [kDefault, verbL p.allow] ++ (p.rules.flatMap (fun r => sayL (ruleWs r)) ++ p.pins.flatMap (fun x => sayL (pinWs x)))
theorem wd_const {w : Lb} (h : (decide (w ≠ []) && w.all fun b => decide (33 ≤ b.toNat)) = true) : Wd w := by
  rw [Bool.and_eq_true, decide_eq_true_eq] at h
  exact wd_of h.1 (fun b hb => by simpa using List.all_eq_true.1 h.2 b hb)
theorem verb_wd (b : Bool) : Wd (verbL b) := by cases b <;> exact wd_const (by decide)
theorem split_say {ws : List Lb} (h : ∀ w ∈ ws, Wd w) (y : Lb) : splitB 10 (sayL ws ++ y) = join ws [32] :: splitB 10 y := by
  have hn : (10 : UInt8) ∉ join ws [32] := by
    intro hb
    rcases mem_join hb with hb | ⟨x, hx, hb⟩
    · revert hb; decide
    · exact ((h x hx).2 10 hb).2 rfl
  rw [sayL, List.append_assoc, List.singleton_append, splitB_append, splitB_nosep hn]; rfl
theorem words_say {ws : List Lb} (h : ∀ w ∈ ws, Wd w) : wordsL (join ws [32]) = ws := words_join ws (fun w hw => ⟨(h w hw).1, fun b hb => ((h w hw).2 b hb).1⟩)
theorem run_say {ws : List Lb} (h : ∀ w ∈ ws, Wd w) (p : Pol) (k : Nat) (y : Lb) (h0 : (lineW p ws).2 = 0) : runL p k (splitB 10 (sayL ws ++ y)) = runL (lineW p ws).1 (k + 1) (splitB 10 y) := by
  rw [split_say h, runL, words_say h, if_pos h0]
theorem signed_itoa {n : Int} (h1 : -1000 ≤ n) (h2 : n ≤ 1000) : signedL (itoa n) = some n := by
  rcases Int.lt_or_le n 0 with h | h
  · have h3 := number_itoa (n := n.natAbs) (m := 1000) (by omega) (by omega)
    have h4 : itoa (n.natAbs : Int) = decDigits n.natAbs := by rw [itoa, if_neg (by omega)]; rfl
    rw [h4] at h3
    rw [itoa, if_pos h, signedL, if_pos (by rfl), List.tail_cons, h3]
    simp only [Option.map_some, Option.some.injEq]
    omega
  · obtain ⟨m, rfl⟩ : ∃ m : Nat, n = (m : Int) := ⟨n.toNat, by omega⟩
    have h3 := number_itoa (n := m) (m := 1000) h2 (by omega)
    have h5 : (itoa (m : Int)).head? ≠ some 45 := by
      intro hh
      have := itoa_dig m 45 (List.mem_of_head? hh)
      revert this; decide
    rw [signedL, if_neg h5, h3]; rfl
theorem number_pos {n m : Int} (h0 : 0 ≤ n) (h : n ≤ m) (h18 : n < 10 ^ 18) : (number (itoa n) m).map (fun (k : Nat) => (k : Int)) = some n := by
  obtain ⟨k, rfl⟩ : ∃ k : Nat, n = (k : Int) := ⟨n.toNat, by omega⟩
  rw [number_itoa h (by omega)]; rfl
structure Good (r : Ru) : Prop where
  p1 : -1000 ≤ r.prio
  p2 : r.prio ≤ 1000
  pat : patL r.pat = true
  q1 : 0 ≤ r.port
  q2 : r.port ≤ 65535
  al : r.alpn = [] ∨ visL r.alpn = true
theorem right_good {r : Ru} (h : rightL r = 0) : Good r := by
  unfold rightL at h
  split at h
  · cases h
  · rename_i h1
    split at h
    · cases h
    · rename_i h2
      split at h
      · cases h
      · rename_i h3
        split at h
        · cases h
        · rename_i h4
          simp only [not_or, not_and, Int.not_lt] at h1 h3 h4
          refine ⟨h1.1, h1.2, by simpa using h2, h3.1, h3.2, ?_⟩
          by_cases ha : r.alpn = []
          · exact .inl ha
          · exact .inr (by have := h4.1 ha; simpa using this)
theorem add_right {rs : List Ru} {r : Ru} (h : (addL rs r).2 = 0) : rightL r = 0 := by
  unfold addL at h
  split at h
  · exact h
  · rename_i h1; exact Classical.not_not.1 h1
theorem ruleWs_wd {r : Ru} (h : Good r) : ∀ w ∈ ruleWs r, Wd w := by
  intro w hw
  simp only [ruleWs, List.mem_append, List.mem_cons, List.not_mem_nil, or_false] at hw
  rcases hw with (rfl | rfl | rfl) | hw | hw
  · exact verb_wd _
  · exact itoa_wd _
  · exact pat_wd h.pat
  · split at hw
    · cases hw
    · simp only [List.mem_cons, List.not_mem_nil, or_false] at hw
      rcases hw with rfl | rfl
      · exact wd_const (by decide)
      · exact itoa_wd _
  · split at hw
    · cases hw
    · rename_i ha
      simp only [List.mem_cons, List.not_mem_nil, or_false] at hw
      rcases hw with rfl | rfl
      · exact wd_const (by decide)
      · exact vis_wd ha (h.al.resolve_left ha)
theorem verb_dec (b : Bool) : decide (verbL b = kAllow) = b := by cases b <;> decide
theorem ruleL_ws {r : Ru} (h : Good r) : ruleL (ruleWs r) = some r := by
  have h1 := signed_itoa h.p1 h.p2
  have h2 := number_pos h.q1 (m := 65535) h.q2 (by have := h.q2; omega)
  obtain ⟨al, pr, pt, po, ap⟩ := r
  simp only at h1 h2
  simp only [ruleWs, List.cons_append, List.nil_append, ruleL, h1, verb_dec]
  by_cases hp : po = 0
  · subst hp
    simp only [if_true, List.nil_append]
    by_cases ha : ap = []
    · subst ha; rfl
    · simp only [if_neg ha]
      have hk : kAlpn ≠ kPort := by decide
      simp [numBeh, takeL, hk]
  · simp only [if_neg hp]
    cases hn : number (itoa po) 65535 with
    | none => rw [hn] at h2; cases h2
    | some k =>
      rw [hn] at h2
      have hk : (k : Int) = po := by simpa using h2
      by_cases ha : ap = []
      · subst ha; simp [numBeh, takeL, hn, hk]
      · simp [if_neg ha, numBeh, takeL, hn, hk]
theorem line_rule {r : Ru} (p : Pol) (h : Good r) : lineW p (ruleWs r) = ({ p with rules := p.rules ++ [r] }, (addL p.rules r).2) := by
  have h1 := ruleL_ws h
  have hws : ruleWs r = verbL r.allow :: (itoa r.prio :: r.pat :: ((if r.port = 0 then [] else [kPort, itoa r.port]) ++ (if r.alpn = [] then [] else [kAlpn, r.alpn]))) := rfl
  rw [hws] at h1 ⊢
  unfold lineW
  have e1 : (verbL r.allow).head? ≠ some 35 := by cases r.allow <;> decide
  have e2 : verbL r.allow ≠ kDefault := by cases r.allow <;> decide
  have e3 : verbL r.allow = kAllow ∨ verbL r.allow = kDeny := by cases r.allow <;> decide
  simp only
  rw [if_neg e1, if_neg e2, if_pos e3, h1]
theorem run_rules : ∀ (rs : List Ru) (p : Pol) (k : Nat) (y : Lb), rulesErr p.rules rs = 0 → runL p k (splitB 10 (rs.flatMap (fun r => sayL (ruleWs r)) ++ y)) = runL { p with rules := p.rules ++ rs } (k + rs.length) (splitB 10 y)
  | [], p, k, y, _ => by simp
  | r :: rs, p, k, y, h => by
    simp only [rulesErr] at h
    by_cases h1 : (addL p.rules r).2 = 0
    · rw [if_pos h1] at h
      have hg := right_good (add_right h1)
      rw [List.flatMap_cons, List.append_assoc, run_say (ruleWs_wd hg) p k _ (by rw [line_rule p hg]; exact h1), line_rule p hg, run_rules rs _ (k + 1) y h]
      simp only [List.append_assoc, List.singleton_append, List.length_cons]
      congr 1; omega
    · rw [if_neg h1] at h; exact absurd h h1
theorem pinErr_good {ps : List Pn} {x : Pn} (h : pinErr ps x = 0) : named x.name = true ∧ rightC x.cidr = true ∧ 0 ≤ x.till ∧ x.till ≤ 1099511627776 := by
  unfold pinErr at h
  split at h
  · cases h
  · rename_i h1
    split at h
    · cases h
    · rename_i h2
      simp only [not_or, Bool.not_eq_false, Int.not_lt] at h2
      exact ⟨by simpa [named] using h1, h2.1, h2.2.1, h2.2.2⟩
theorem pinWs_wd {x : Pn} (h1 : named x.name = true) (ha : x.cidr.addr.length = 16) : ∀ w ∈ pinWs x, Wd w := by
  intro w hw
  simp only [pinWs, List.mem_append, List.mem_cons, List.not_mem_nil, or_false] at hw
  rcases hw with (rfl | rfl | rfl) | hw
  · exact wd_const (by decide)
  · have := named_wd h1; exact wd_of this.1 this.2
  · exact printC_wd ha
  · split at hw
    · cases hw
    · simp only [List.mem_cons, List.not_mem_nil, or_false] at hw
      rcases hw with rfl | rfl
      · exact wd_const (by decide)
      · exact itoa_wd _
theorem pinL_ws {x : Pn} (h2 : rightC x.cidr = true) (h3 : 0 ≤ x.till) (h4 : x.till ≤ 1099511627776) (ha : x.cidr.addr.length = 16) : pinL (pinWs x) = some x := by
  have e1 := back h2 ha
  have e2 := number_pos h3 (m := 1099511627776) h4 (by omega)
  obtain ⟨nm, cd, tl⟩ := x
  simp only at e1 e2
  simp only [pinWs, List.cons_append, List.nil_append, pinL, e1]
  by_cases ht : tl = 0
  · subst ht; rfl
  · simp only [if_neg ht]
    cases hn : number (itoa tl) 1099511627776 with
    | none => rw [hn] at e2; cases e2
    | some k =>
      rw [hn] at e2
      have hk : (k : Int) = tl := by simpa using e2
      simp [numBeh, takeL, hn, hk]
theorem line_pin {x : Pn} (p : Pol) (h : pinErr p.pins x = 0) (hl : p.pins.length < 200) (ha : x.cidr.addr.length = 16) : lineW p (pinWs x) = ({ p with pins := p.pins ++ [x] }, 0) := by
  obtain ⟨g1, g2, g3, g4⟩ := pinErr_good h
  have h1 := pinL_ws g2 g3 g4 ha
  have hws : pinWs x = kPin :: (x.name :: printC x.cidr :: (if x.till = 0 then [] else [kUntil, itoa x.till])) := rfl
  rw [hws] at h1 ⊢
  unfold lineW
  simp only
  rw [if_neg (show ¬ kPin.head? = some 35 by decide), if_neg (show ¬ kPin = kDefault by decide), if_neg (show ¬ (kPin = kAllow ∨ kPin = kDeny) by decide), if_pos trivial, h1]
  simp only
  rw [if_neg (by omega), h]
theorem run_pins : ∀ (xs : List Pn) (p : Pol) (k : Nat) (y : Lb), pinsErr p.pins xs = 0 → p.pins.length + xs.length ≤ 200 → (∀ x ∈ xs, x.cidr.addr.length = 16) →
    runL p k (splitB 10 (xs.flatMap (fun x => sayL (pinWs x)) ++ y)) = runL { p with pins := p.pins ++ xs } (k + xs.length) (splitB 10 y)
  | [], p, k, y, _, _, _ => by simp
  | x :: xs, p, k, y, h, hl, ha => by
    simp only [pinsErr] at h
    simp only [List.length_cons] at hl
    by_cases h1 : pinErr p.pins x = 0
    · rw [if_pos h1] at h
      have hx := ha x (by simp)
      have hln := line_pin p h1 (by omega) hx
      rw [List.flatMap_cons, List.append_assoc, run_say (pinWs_wd (pinErr_good h1).1 hx) p k _ (by rw [hln]), hln, run_pins xs _ (k + 1) y h (by simp only [List.length_append, List.length_cons, List.length_nil]; omega) (fun z hz => ha z (by simp [hz]))]
      simp only [List.append_assoc, List.singleton_append, List.length_cons]
      congr 1; omega
    · rw [if_neg h1] at h; exact absurd h h1
/-- What is right is printed, and parsed as it was. -/
theorem backP {p : Pol} (h : rightP p = 0) (ha : ∀ x ∈ p.pins, x.cidr.addr.length = 16) : parseP (printP p) = (p, 0, 0) := by
  obtain ⟨h1, h2, h3⟩ := rightP_iff.1 h
  have hd : ∀ w ∈ [kDefault, verbL p.allow], Wd w := by
    intro w hw
    simp only [List.mem_cons, List.not_mem_nil, or_false] at hw
    rcases hw with rfl | rfl
    · exact wd_const (by decide)
    · exact verb_wd _
  have hl : lineW polZ [kDefault, verbL p.allow] = ({ polZ with allow := p.allow }, 0) := by cases p.allow <;> rfl
  unfold parseP printP
  rw [run_say hd polZ 0 _ (by rw [hl]), hl, run_rules p.rules _ _ _ h1]
  have := run_pins p.pins { polZ with allow := p.allow, rules := p.rules } (0 + 1 + p.rules.length) [] h3 (by simpa [polZ] using h2) ha
  rw [List.append_nil] at this
  simp only [polZ, List.nil_append] at this ⊢
  rw [this]
  simp [splitB, runL, wordsL, wordsG, lineW]
/-- The addresses of what is parsed. -/
theorem line_wf {p : Pol} {ws : List Lb} (h : ∀ x ∈ p.pins, x.cidr.addr.length = 16) : ∀ x ∈ (lineW p ws).1.pins, x.cidr.addr.length = 16 := by
  unfold lineW
  split
  · exact h
  · split
    · exact h
    · split
      · split
        · split
          · exact h
          · split <;> exact h
        · exact h
      · split
        · split <;> exact h
        · split
          · split
            · rename_i x hx
              split
              · exact h
              · intro z hz
                rcases List.mem_append.1 hz with hz | hz
                · exact h z hz
                · obtain rfl : z = x := by simpa using hz
                  unfold pinL at hx
                  split at hx
                  · split at hx
                    · rename_i c n r1 hc hn
                      split at hx
                      · cases hx; exact (Cid.parse_right hc).2
                      · cases hx
                    · cases hx
                  · cases hx
            · exact h
          · exact h
theorem run_wf : ∀ (ls : List Lb) (p : Pol) (k : Nat), (∀ x ∈ p.pins, x.cidr.addr.length = 16) → ∀ x ∈ (runL p k ls).1.pins, x.cidr.addr.length = 16
  | [], p, k, h => h
  | l :: r, p, k, h => by
    simp only [runL]
    split
    · exact run_wf r _ _ (line_wf h)
    · simp [polZ]
theorem parse_wf (s : Lb) : ∀ x ∈ (parseP s).1.pins, x.cidr.addr.length = 16 := run_wf _ _ _ (by simp [polZ])
theorem parse_bad {s : Lb} (h : (parseP s).2.2 ≠ 0) : (parseP s).1 = polZ ∧ 0 < (parseP s).2.1 := by
  have := run_bad _ _ _ h
  exact ⟨this.1, this.2.1⟩
theorem parse_zero {s : Lb} (h : (parseP s).2.2 = 0) : (parseP s).2.1 = 0 := run_zero _ _ _ h
/-- A text behind another. -/
theorem parse_app (s t : Lb) : parseP (s ++ 10 :: t) = if (parseP s).2.2 = 0 then runL (parseP s).1 (splitB 10 s).length (splitB 10 t) else parseP s := by
  unfold parseP
  rw [splitB_append]
  split
  · rename_i h; rw [run_app_ok _ _ _ _ h, Nat.zero_add]
  · rename_i h; rw [run_app_bad _ _ _ _ h]
/-- Comments and blanks do not matter. -/
theorem line_note (p : Pol) (w : Lb) (r : List Lb) (h : w.head? = some 35) : lineW p (w :: r) = (p, 0) := by simp [lineW, h]
/-- Rules and pins are those ahead, and more. -/
theorem line_grows {p q : Pol} {ws : List Lb} (h : (lineW p ws).2 = 0) (h' : (lineW q ws).2 = 0) : ∃ rs xs, (lineW p ws).1.rules = p.rules ++ rs ∧ (lineW q ws).1.rules = q.rules ++ rs ∧ (lineW p ws).1.pins = p.pins ++ xs ∧ (lineW q ws).1.pins = q.pins ++ xs := by
  unfold lineW at h h' ⊢
  split
  · exact ⟨[], [], by simp⟩
  · rename_i w0 r
    simp only at h h'
    split
    · exact ⟨[], [], by simp⟩
    · rename_i c1
      rw [if_neg c1] at h h'
      split
      · refine ⟨[], [], ?_⟩
        split
        · split
          · simp
          · split <;> simp
        · simp
      · rename_i c2
        rw [if_neg c2] at h h'
        split
        · split
          · rename_i x hx; exact ⟨[x], [], by simp⟩
          · exact ⟨[], [], by simp⟩
        · rename_i c3
          rw [if_neg c3] at h h'
          split
          · rename_i c4
            rw [if_pos c4] at h h'
            split
            · rename_i x hx
              rw [hx] at h h'
              simp only at h h'
              split at h
              · cases h
              · rename_i c5
                split at h'
                · cases h'
                · rename_i c6
                  rw [if_neg c5, if_neg c6]
                  exact ⟨[], [x], by simp⟩
            · exact ⟨[], [], by simp⟩
          · exact ⟨[], [], by simp⟩
theorem run_grows : ∀ (ls : List Lb) (p q : Pol) (k j : Nat), (runL p k ls).2.2 = 0 → (runL q j ls).2.2 = 0 →
    ∃ rs xs, (runL p k ls).1.rules = p.rules ++ rs ∧ (runL q j ls).1.rules = q.rules ++ rs ∧ (runL p k ls).1.pins = p.pins ++ xs ∧ (runL q j ls).1.pins = q.pins ++ xs
  | [], p, q, _, _, _, _ => ⟨[], [], by simp [runL]⟩
  | l :: r, p, q, k, j, h, h' => by
    simp only [runL] at h h' ⊢
    by_cases h1 : (lineW p (wordsL l)).2 = 0
    · by_cases h2 : (lineW q (wordsL l)).2 = 0
      · rw [if_pos h1] at h ⊢
        rw [if_pos h2] at h' ⊢
        obtain ⟨rs, xs, a1, a2, a3, a4⟩ := line_grows h1 h2
        obtain ⟨rs', xs', b1, b2, b3, b4⟩ := run_grows r _ _ _ _ h h'
        exact ⟨rs ++ rs', xs ++ xs', by rw [b1, a1, List.append_assoc], by rw [b2, a2, List.append_assoc], by rw [b3, a3, List.append_assoc], by rw [b4, a4, List.append_assoc]⟩
      · rw [if_neg h2] at h'; exact absurd h' h2
    · rw [if_neg h1] at h; exact absurd h h1
theorem join_law {s t : Lb} (h1 : (parseP s).2.2 = 0) (h2 : (parseP t).2.2 = 0) (h3 : (parseP (s ++ 10 :: t)).2.2 = 0) :
    (parseP (s ++ 10 :: t)).1.rules = (parseP s).1.rules ++ (parseP t).1.rules ∧ (parseP (s ++ 10 :: t)).1.pins.length = (parseP s).1.pins.length + (parseP t).1.pins.length := by
  rw [parse_app, if_pos h1] at h3 ⊢
  obtain ⟨rs, xs, a1, a2, a3, a4⟩ := run_grows (splitB 10 t) (parseP s).1 polZ _ 0 h3 h2
  have e : runL polZ 0 (splitB 10 t) = parseP t := rfl
  rw [e] at a2 a4
  simp only [polZ, List.nil_append] at a2 a4
  rw [a1, a3, a2, a4]
  exact ⟨rfl, by simp⟩
end Go.Pol
