/-
  PLAIN LAWS: patterns of names, and what they match: no program in sight.
  PLAIN LAWS: rows of rules, and the one that counts: no program in sight.
  PLAIN LAWS: what the trie's statements say of rows of rules: no program in sight.
  PLAIN LAWS: addresses that begin alike: no program in sight.
  PLAIN LAWS: comparing, and rows in order: no program in sight.
  PLAIN LAWS: a tenant's file: lines, words, what they say: no program in sight.
  PLAIN LAWS: a tenant's file, printed, and parsed as it was: no program in sight.
-/
import Derived.Test.YtlakopiopplfhaaGreatDoorPl3
import Derived.Test.YtlakopiopplfhaaGreatDoorPl2
import Derived.Sort.Statements
namespace Go.Asc
open Go.Lib
theorem splitB_tail {c : UInt8} : ∀ (y l : List UInt8), c ∉ y → splitB c (l ++ y) = (splitB c l).dropLast ++ [(splitB c l).getLast?.getD [] ++ y]
  | [], l, _ => by
    have h := splitB_ne c l
    rw [List.append_nil, List.append_nil, List.getLast?_eq_some_getLast h, Option.getD_some, List.dropLast_concat_getLast]
  | b :: y, l, h => by
    simp only [List.mem_cons, not_or] at h
    have h1 := splitB_tail y (l ++ [b]) h.2
    rw [show l ++ b :: y = l ++ [b] ++ y by simp, h1, splitB_snoc (Ne.symm h.1)]
    simp
end Go.Asc
namespace Go.Adr
open Go.Lib Go.Asc
theorem cutDD_tail {z : List UInt8} (hz : 58 ∉ z) : ∀ m : List UInt8, cutDD (m ++ 46 :: z) = (cutDD m).map fun p => (p.1, p.2 ++ 46 :: z)
  | [] => by
    rw [List.nil_append, cutDD_none (by simpa using hz)]
    rfl
  | b :: l => by
    have h : (b = 58 ∧ (l ++ 46 :: z).head? = some 58) ↔ (b = 58 ∧ l.head? = some 58) := by
      cases l with
      | nil => simp
      | cons a l => simp
    simp only [List.cons_append, cutDD, h, cutDD_tail hz l]
    split
    · rename_i hc
      cases l with
      | nil => simp at hc
      | cons a l => simp
    · cases cutDD l <;> simp
/-- What ends in a label that is no number is no address. -/
theorem parseL_tail {z : List UInt8} (hz : 58 ∉ z) (hn : isNum ((splitB 46 z).getLast?.getD []) = false) (m : List UInt8) : parseL (m ++ 46 :: z) = none := by
  have hmem : (splitB 46 z).getLast?.getD [] ∈ splitB 46 z := by
    rw [List.getLast?_eq_some_getLast (splitB_ne 46 z), Option.getD_some]; exact List.getLast_mem _
  have hd : ∀ m : List UInt8, dot (m ++ 46 :: z) = none := fun m => by
    refine dot_none (x := (splitB 46 z).getLast?.getD []) ?_ hn
    rw [splitB_append]
    exact List.mem_append_right _ hmem
  have hr : ∀ (may : Bool) (m : List UInt8), readL may (m ++ 46 :: z) = none := fun may m => by
    rw [readL, if_neg (by simp), splitB_tail (46 :: z) m (by simpa using hz)]
    refine grp_last_none (hexR_none (b := 46) (by simp) (by decide)) (hd _) _
  rw [parseL_dd, hd, cutDD_tail hz, hr]
  cases cutDD m with
  | none => rfl
  | some p =>
    simp only [Option.map_some, hr]
    cases readL false p.1 <;> rfl
end Go.Adr
namespace Go.Tri
open Go.Lib Go.Asc Go.Adr Go.Nam

def named (s : List UInt8) : Bool := decide (normalL s = (s, 0))
def cutP (p : List UInt8) : Option (List UInt8) := if p.take 2 = [42, 46] then some (p.drop 2) else none
def patL (p : List UInt8) : Bool := match cutP p with | some r => named r && (parseL r).isNone | none => decide (p = [42]) || named p
def matchL (p host : List UInt8) : Bool := patL p && (match cutP p with | some r => decide ((46 :: r) <:+ host) | none => decide (p = [42]) || decide (p = host))
theorem named_cases {s : List UInt8} (h : named s = true) : (∃ a, parseL s = some a ∧ a.length = 16 ∧ s = printL a) ∨ (Nm s ∧ s.length ≤ 253) := by
  have h' : normalL s = (s, 0) := by simpa [named] using h
  cases came s with
  | addr a ha hp hn => rw [hn] at h'; exact .inl ⟨a, hp, ha, (congrArg Prod.fst h').symm⟩
  | name n hm hl hp hn => rw [hn] at h'; have : n = s := congrArg Prod.fst h'; subst this; exact .inr ⟨hm, hl⟩
  | bad e h0 hp hn => rw [hn] at h'; have : e = 0 := congrArg Prod.snd h'; omega
theorem named_ne {s : List UInt8} (h : named s = true) : s ≠ [] := by
  rcases named_cases h with ⟨a, hp, ha, rfl⟩ | ⟨hm, _⟩
  · exact print_ne ha
  · exact hm.ne
theorem cutP_some {p r : List UInt8} (h : cutP p = some r) : p = 42 :: 46 :: r := by
  unfold cutP at h
  split at h
  · rename_i hp
    cases h
    have := List.take_append_drop 2 p
    rw [hp] at this; exact this.symm
  · cases h
/-- What stands behind the sign of a pattern, or all of it. -/
def restL (p : List UInt8) : List UInt8 := (cutP p).getD p
def wildL (p : List UInt8) : Bool := (cutP p).isSome
theorem wild_nm {p : List UInt8} (h : patL p = true) (hw : wildL p = true) : Nm (restL p) ∧ (restL p).length ≤ 253 ∧ p = 42 :: 46 :: restL p ∧ p ≠ [42] := by
  unfold wildL at hw
  cases hc : cutP p with
  | none => rw [hc] at hw; cases hw
  | some r =>
    have hp := cutP_some hc
    simp only [patL, hc, Bool.and_eq_true, Option.isNone_iff_eq_none] at h
    simp only [restL, hc, Option.getD_some]
    refine ⟨?_, ?_, hp, by rw [hp]; simp⟩
    · rcases named_cases h.1 with ⟨a, h1, _⟩ | ⟨h1, _⟩
      · rw [h1] at h; cases h.2
      · exact h1
    · rcases named_cases h.1 with ⟨a, h1, _⟩ | ⟨_, h1⟩
      · rw [h1] at h; cases h.2
      · exact h1
theorem flat_named {p : List UInt8} (h : patL p = true) (hw : wildL p = false) (hs : p ≠ [42]) : named p = true ∧ restL p = p := by
  unfold wildL at hw
  cases hc : cutP p with
  | some r => rw [hc] at hw; cases hw
  | none =>
    simp only [patL, hc, hs, decide_false, Bool.false_or] at h
    exact ⟨h, by simp [restL, hc]⟩
/-! ### Labels -/
theorem join_labels (l : List UInt8) : join (labelsL l).reverse [46] = l := by
  unfold labelsL
  split
  · simp [join]
  · rw [List.reverse_reverse]; exact join_splitB 46 l
theorem labels_inj {l m : List UInt8} (h : labelsL l = labelsL m) : l = m := by
  rw [← join_labels l, h, join_labels]
theorem labels_ne (l : List UInt8) : labelsL l ≠ [] := by
  unfold labelsL
  split
  · simp
  · simpa using splitB_ne 46 l
theorem join_app (c : UInt8) : ∀ {xs ys : List (List UInt8)}, xs ≠ [] → ys ≠ [] → join (xs ++ ys) [c] = join xs [c] ++ c :: join ys [c]
  | [], _, h, _ => absurd rfl h
  | [x], y :: ys, _, _ => by rw [List.singleton_append, join_two]; simp [join]
  | x :: x' :: xs, ys, _, hy => by
    rw [List.cons_append, List.cons_append, join_two, join_two, List.append_assoc, ← List.cons_append, join_app c (xs := x' :: xs) (by simp) hy]
    simp
theorem suffix_labels {r host : List UInt8} (hr : Nm r) : (46 :: r) <:+ host ↔ ∃ ps, ps ≠ [] ∧ labelsL host = labelsL r ++ ps := by
  constructor
  · rintro ⟨m, rfl⟩
    have hn : parseL (m ++ 46 :: r) = none := parseL_tail hr.nocol (other_isNum hr.last) m
    refine ⟨(splitB 46 m).reverse, by simpa using splitB_ne 46 m, ?_⟩
    rw [labels_name hr]
    simp only [labelsL, hn, splitB_append, List.reverse_append]
  · rintro ⟨ps, hne, h⟩
    refine ⟨join ps.reverse [46], ?_⟩
    have h1 := join_labels host
    rw [h, List.reverse_append, join_app 46 (by simpa using hne) (by simpa using labels_ne r), join_labels] at h1
    exact h1
theorem match_wild {p host : List UInt8} (h : patL p = true) (hw : wildL p = true) : matchL p host = true ↔ ∃ ps, ps ≠ [] ∧ labelsL host = labelsL (restL p) ++ ps := by
  rw [← suffix_labels (wild_nm h hw).1]
  unfold wildL at hw
  cases hc : cutP p with
  | none => rw [hc] at hw; cases hw
  | some r => simp [matchL, h, hc, restL]
theorem match_flat {p host : List UInt8} (h : patL p = true) (hw : wildL p = false) (hs : p ≠ [42]) : matchL p host = true ↔ labelsL host = labelsL (restL p) := by
  obtain ⟨_, hr⟩ := flat_named h hw hs
  unfold wildL at hw
  cases hc : cutP p with
  | some r => rw [hc] at hw; cases hw
  | none =>
    rw [hr]
    simp only [matchL, h, hc, hs, decide_false, Bool.false_or, Bool.true_and, decide_eq_true_eq]
    exact ⟨fun h => by rw [h], fun h => (labels_inj h).symm⟩
theorem pat_star : patL [42] = true := by simp [patL, cutP]
theorem match_star (host : List UInt8) : matchL [42] host = true := by simp [matchL, patL, cutP]
/-- The document's own reading of a pattern: 0: all, 1: wild, 2: a name, 3: none; and its name. -/
def cutL (p : List UInt8) : Nat × List UInt8 :=
  if p = [42] then (0, []) else if 2 < p.length ∧ p.take 2 = [42, 46] then (if (parseL (p.drop 2)).isSome = true ∨ named (p.drop 2) = false then (3, []) else (1, p.drop 2))
  else if named p = false then (3, []) else (2, p)
theorem named_two : named [42, 46] = false := by
  cases h : named [42, 46] with
  | false => rfl
  | true =>
    rcases named_cases h with ⟨a, h1, _⟩ | ⟨h1, _⟩
    · have : parseL [42, 46] = none := parseL_snoc [42]
      rw [this] at h1; cases h1
    · exact absurd rfl h1.nodot
theorem named_nil : named [] = false := by
  cases h : named [] with
  | false => rfl
  | true => exact absurd rfl (named_ne h)
theorem cut_cases (p : List UInt8) : (p = [42] ∧ cutL p = (0, [])) ∨ (p ≠ [42] ∧ patL p = false ∧ cutL p = (3, [])) ∨ (patL p = true ∧ wildL p = true ∧ cutL p = (1, restL p)) ∨ (p ≠ [42] ∧ patL p = true ∧ wildL p = false ∧ cutL p = (2, restL p)) := by
  by_cases h0 : p = [42]
  · subst h0; exact .inl ⟨rfl, rfl⟩
  · right
    by_cases h2 : p.take 2 = [42, 46]
    · have hc : cutP p = some (p.drop 2) := by simp [cutP, h2]
      by_cases h3 : 2 < p.length
      · by_cases h4 : (parseL (p.drop 2)).isSome = true ∨ named (p.drop 2) = false
        · left
          refine ⟨h0, ?_, by rw [cutL, if_neg h0, if_pos ⟨h3, h2⟩, if_pos h4]⟩
          simp only [patL, hc]
          rcases h4 with h4 | h4
          · cases hq : parseL (p.drop 2) <;> simp [hq] at h4 ⊢
          · simp [h4]
        · right; left
          simp only [not_or, Bool.not_eq_true, Option.isSome_eq_false_iff, Bool.not_eq_false] at h4
          refine ⟨by simp [patL, hc, h4.1, h4.2], by simp [wildL, hc], ?_⟩
          rw [cutL, if_neg h0, if_pos ⟨h3, h2⟩, if_neg]
          · simp [restL, hc]
          · rw [h4.2]; cases hq : parseL (p.drop 2) <;> simp [hq] at h4 ⊢
      · left
        have hp : p = [42, 46] := by
          have h5 := List.take_append_drop 2 p
          have h6 : p.drop 2 = [] := List.drop_eq_nil_of_le (by omega)
          rw [h2, h6] at h5; exact h5.symm
        subst hp
        refine ⟨h0, ?_, ?_⟩
        · simp [patL, hc, named_nil]
        · rw [cutL, if_neg h0, if_neg (by simp), if_pos named_two]
    · have hc : cutP p = none := by simp [cutP, h2]
      cases hn : named p with
      | false =>
        left
        refine ⟨h0, by simp [patL, hc, h0, hn], by rw [cutL, if_neg h0, if_neg (fun h => h2 h.2), if_pos hn]⟩
      | true =>
        right; right
        refine ⟨h0, by simp [patL, hc, hn], by simp [wildL, hc], by rw [cutL, if_neg h0, if_neg (fun h => h2 h.2), hn]; simp [restL, hc]⟩
/-- The document's matching. -/
def refMatch (p host : List UInt8) : Bool := match (cutL p).1 with
  | 0 => true
  | 1 => decide ((cutL p).2.length < host.length ∧ host.drop (host.length - (cutL p).2.length) = (cutL p).2 ∧ host.getD (host.length - (cutL p).2.length - 1) 0 = 46)
  | 2 => decide (host = (cutL p).2)
  | _ => false
theorem suffix_drop {r host : List UInt8} : (46 :: r) <:+ host ↔ (r.length < host.length ∧ host.drop (host.length - r.length) = r ∧ host.getD (host.length - r.length - 1) 0 = 46) := by
  constructor
  · rintro ⟨m, rfl⟩
    have e1 : (m ++ 46 :: r).length - r.length = m.length + 1 := by simp; omega
    refine ⟨by simp; omega, ?_, ?_⟩
    · rw [e1, show m ++ 46 :: r = (m ++ [46]) ++ r by simp]
      exact List.drop_left' (by simp)
    · rw [e1, Nat.add_sub_cancel, List.getD_eq_getElem?_getD, List.getElem?_append_right (Nat.le_refl _)]
      simp
  · rintro ⟨h1, h2, h3⟩
    refine ⟨host.take (host.length - r.length - 1), ?_⟩
    have h4 : host.length - r.length - 1 < host.length := by omega
    have h5 : host.drop (host.length - r.length - 1) = 46 :: r := by
      rw [List.drop_eq_getElem_cons h4, show host.length - r.length - 1 + 1 = host.length - r.length by omega, h2]
      congr 1
      rw [List.getD_eq_getElem?_getD, List.getElem?_eq_getElem h4] at h3
      exact h3
    rw [← h5]; exact List.take_append_drop _ _
theorem ref_match (p host : List UInt8) : refMatch p host = matchL p host := by
  rcases cut_cases p with ⟨rfl, h⟩ | ⟨_, h1, h⟩ | ⟨h1, h2, h⟩ | ⟨h0, h1, h2, h⟩
  · simp [refMatch, h, match_star]
  · simp [refMatch, h, matchL, h1]
  · have h3 : cutP p = some (restL p) := by
      unfold wildL at h2
      cases hc : cutP p with
      | none => rw [hc] at h2; cases h2
      | some r => simp [restL, hc]
    simp only [refMatch, h, matchL, h1, h3, Bool.true_and]
    rw [Bool.eq_iff_iff, decide_eq_true_eq, decide_eq_true_eq]
    exact suffix_drop.symm
  · have h3 : cutP p = none := by
      unfold wildL at h2
      cases hc : cutP p with
      | none => rfl
      | some r => rw [hc] at h2; cases h2
    have h4 : restL p = p := by simp [restL, h3]
    simp only [refMatch, h, matchL, h1, h3, Bool.true_and, h0, decide_false, Bool.false_or, h4]
    rw [Bool.eq_iff_iff, decide_eq_true_eq, decide_eq_true_eq]
    exact eq_comm
end Go.Tri

namespace Go.Tri
open Go.Lib Go.Asc Go.Adr Go.Nam

/-- A rule. -/
structure Ru where
  allow : Bool
  prio : Int
  pat : List UInt8
  port : Int
  alpn : List UInt8
instance : DecidableEq Ru := fun a b =>
  if h : a.allow = b.allow ∧ a.prio = b.prio ∧ a.pat = b.pat ∧ a.port = b.port ∧ a.alpn = b.alpn then isTrue (by
    obtain ⟨_, _, _, _, _⟩ := a; obtain ⟨_, _, _, _, _⟩ := b
    simp only at h
    obtain ⟨rfl, rfl, rfl, rfl, rfl⟩ := h; rfl)
  else isFalse (fun e => h (by rw [e]; exact ⟨rfl, rfl, rfl, rfl, rfl⟩))
def zeroR : Ru := ⟨false, 0, [], 0, []⟩
def visL (s : List UInt8) : Bool := s.all (fun b => decide (33 ≤ b.toNat) && decide (b.toNat ≤ 126)) && decide (s ≠ [])
def rightL (r : Ru) : Int :=
  if r.prio < -1000 ∨ 1000 < r.prio then 1 else if patL r.pat = false then 9 else if r.port < 0 ∨ 65535 < r.port then 10
  else if (r.alpn ≠ [] ∧ visL r.alpn = false) ∨ 255 < r.alpn.length then 1 else 0
def fitsL (r : Ru) (port : Int) (alpn : List (List UInt8)) : Bool := (decide (r.port = 0) || decide (r.port = port)) && (decide (r.alpn = []) || alpn.contains r.alpn)
def countsL (r : Ru) (host : List UInt8) (port : Int) (alpn : List (List UInt8)) : Bool := matchL r.pat host && fitsL r port alpn
def dull (r : Ru) : Ru := { r with allow := false }
def addL (rs : List Ru) (r : Ru) : List Ru × Int :=
  if rightL r ≠ 0 then (rs, rightL r) else if rs.length = 200 then (rs, 2) else if dull r ∈ rs.map dull then (rs, 7) else (rs ++ [r], 0)
theorem right_pat {r : Ru} (h : rightL r = 0) : patL r.pat = true := by
  unfold rightL at h
  split at h
  · cases h
  · split at h
    · cases h
    · rename_i hp; simpa using hp

/-! ### Which rules stand where -/
def idxF (rs : List Ru) (q : Ru → Bool) : List Nat := (List.range rs.length).filter fun i => q (rs.getD i zeroR)
theorem getD_snoc (rs : List Ru) (r : Ru) {i : Nat} (h : i < rs.length) : (rs ++ [r]).getD i zeroR = rs.getD i zeroR := by
  simp [List.getD_eq_getElem?_getD, List.getElem?_append_left h]
theorem getD_last (rs : List Ru) (r : Ru) : (rs ++ [r]).getD rs.length zeroR = r := by simp [List.getD_eq_getElem?_getD]
theorem idxF_snoc (rs : List Ru) (r : Ru) (q : Ru → Bool) : idxF (rs ++ [r]) q = idxF rs q ++ if q r then [rs.length] else [] := by
  simp only [idxF, List.length_append, List.length_cons, List.length_nil, Nat.zero_add, List.range_succ, List.filter_append]
  congr 1
  · refine List.filter_congr fun i hi => ?_
    rw [getD_snoc rs r (List.mem_range.1 hi)]
  · simp only [List.filter_cons, List.filter_nil, getD_last]
theorem mem_idxF {rs : List Ru} {q : Ru → Bool} {i : Nat} : i ∈ idxF rs q ↔ i < rs.length ∧ q (rs.getD i zeroR) = true := by simp [idxF]
theorem idxF_sorted (rs : List Ru) (q : Ru → Bool) : (idxF rs q).Pairwise (· < ·) := List.pairwise_lt_range.filter _
theorem idxF_len (rs : List Ru) (q : Ru → Bool) : (idxF rs q).length ≤ rs.length := by
  have := List.length_filter_le (fun i => q (rs.getD i zeroR)) (List.range rs.length)
  simpa [idxF] using this
def isAny (r : Ru) : Bool := decide (r.pat = [42])
def isEx (path : List (List UInt8)) (r : Ru) : Bool := !isAny r && !wildL r.pat && decide (labelsL (restL r.pat) = path)
def isLo (path : List (List UInt8)) (r : Ru) : Bool := !isAny r && wildL r.pat && decide (labelsL (restL r.pat) = path)
abbrev Fam := List (List UInt8) → List Nat × List Nat
def famOf (rs : List Ru) : Fam := fun path => (idxF rs (isEx path), idxF rs (isLo path))
def sub (f : Fam) (l : List UInt8) : Fam := fun p => f (l :: p)
def rowsG (f : Fam) : List (List UInt8) → List (List Nat)
  | [] => [(f []).1]
  | l :: r => (f []).2 :: rowsG (sub f l) r
/-- A rule's index laid down at a place. -/
def putF (f : Fam) (path : List (List UInt8)) (longer : Bool) (k : Nat) : Fam := fun p => if p = path then (if longer then ((f p).1, (f p).2 ++ [k]) else ((f p).1 ++ [k], (f p).2)) else f p
theorem sub_putF (f : Fam) (l : List UInt8) (r : List (List UInt8)) (longer : Bool) (k : Nat) : sub (putF f (l :: r) longer k) l = putF (sub f l) r longer k := by
  funext p; simp [sub, putF]
theorem sub_putF_ne (f : Fam) {l m : List UInt8} (h : m ≠ l) (r : List (List UInt8)) (longer : Bool) (k : Nat) : sub (putF f (l :: r) longer k) m = sub f m := by
  funext p; simp [sub, putF, h]
theorem famOf_snoc (rs : List Ru) (r : Ru) (h : r.pat ≠ [42]) : famOf (rs ++ [r]) = putF (famOf rs) (labelsL (restL r.pat)) (wildL r.pat) rs.length := by
  funext p
  simp only [famOf, idxF_snoc, putF]
  have h1 : isAny r = false := by simp [isAny, h]
  cases hw : wildL r.pat <;> by_cases hp : p = labelsL (restL r.pat)
  · simp [isEx, isLo, h1, hw, hp]
  · simp [isEx, isLo, h1, hw, hp]; exact fun h => hp h.symm
  · simp [isEx, isLo, h1, hw, hp]
  · simp [isEx, isLo, h1, hw, hp]; exact fun h => hp h.symm
theorem famOf_snoc_any (rs : List Ru) (r : Ru) (h : r.pat = [42]) : famOf (rs ++ [r]) = famOf rs := by
  funext p
  simp only [famOf, idxF_snoc]
  have h1 : isAny r = true := by simp [isAny, h]
  simp [isEx, isLo, h1]
def anyOf (rs : List Ru) : List Nat := idxF rs isAny
theorem anyOf_snoc (rs : List Ru) (r : Ru) (h : r.pat ≠ [42]) : anyOf (rs ++ [r]) = anyOf rs := by simp [anyOf, idxF_snoc, isAny, h]
theorem anyOf_snoc_any (rs : List Ru) (r : Ru) (h : r.pat = [42]) : anyOf (rs ++ [r]) = anyOf rs ++ [rs.length] := by simp [anyOf, idxF_snoc, isAny, h]

/-! ### The best one -/
section
variable (fits : Nat → Bool) (prio wt : Nat → Int)
def rowStep (at_ : Option Nat) (k : Nat) : Option Nat := if fits k && (match at_ with | none => true | some a => decide (prio a < prio k)) then some k else at_
def rowBest (row : List Nat) : Option Nat := row.foldl (rowStep fits prio) none
def bestStep (b : Option Nat) (row : List Nat) : Option Nat := match rowBest fits prio row with
  | none => b
  | some a => match b with
    | none => some a
    | some c => if prio c ≤ prio a then some a else some c
def bestOf (rows : List (List Nat)) : Option Nat := rows.foldl (bestStep fits prio) none
theorem bestOf_empty (rows : List (List Nat)) (b : Option Nat) : (rows.filter (· ≠ [])).foldl (bestStep fits prio) b = rows.foldl (bestStep fits prio) b := by
  induction rows generalizing b with
  | nil => rfl
  | cons r rows ih =>
    by_cases h : r = []
    · subst h; simp only [List.filter_cons, ne_eq, not_true, decide_false, List.foldl_cons]; rw [if_neg (by simp), ih]; rfl
    · simp [h]; rw [← ih]; simp
theorem bestOf_same {rows rows' : List (List Nat)} (h : rows.filter (· ≠ []) = rows'.filter (· ≠ [])) : bestOf fits prio rows = bestOf fits prio rows' := by
  unfold bestOf; rw [← bestOf_empty, h, bestOf_empty]
/-- The one that counts most among those of S. -/
def IsBest (S : Nat → Prop) : Option Nat → Prop
  | none => ∀ k, ¬ S k
  | some i => S i ∧ ∀ k, S k → prio k < prio i ∨ (prio k = prio i ∧ (wt k < wt i ∨ (wt k = wt i ∧ i ≤ k)))
variable {fits prio wt}
theorem IsBest.unique {S : Nat → Prop} {b c : Option Nat} (hb : IsBest prio wt S b) (hc : IsBest prio wt S c) : b = c := by
  cases b with
  | none => cases c with
    | none => rfl
    | some j => exact absurd hc.1 (hb j)
  | some i => cases c with
    | none => exact absurd hb.1 (hc i)
    | some j =>
      have h1 := hb.2 j hc.1
      have h2 := hc.2 i hb.1
      congr 1; omega
theorem IsBest.congr {S S' : Nat → Prop} {b : Option Nat} (h : ∀ k, S k ↔ S' k) (hb : IsBest prio wt S b) : IsBest prio wt S' b := by
  have : S = S' := funext fun k => propext (h k)
  rw [← this]; exact hb
theorem rowBest_is (row : List Nat) (hs : row.Pairwise (· < ·)) (hw : ∀ k ∈ row, ∀ m ∈ row, wt k = wt m) : IsBest prio wt (fun k => k ∈ row ∧ fits k = true) (rowBest fits prio row) := by
  have key : ∀ (pre rest : List Nat) (b : Option Nat), row = pre ++ rest → IsBest prio wt (fun k => k ∈ pre ∧ fits k = true) b → IsBest prio wt (fun k => k ∈ row ∧ fits k = true) (rest.foldl (rowStep fits prio) b) := by
    intro pre rest
    induction rest generalizing pre with
    | nil => intro b hr hb; simp at hr; subst hr; exact hb
    | cons x rest ih =>
      intro b hr hb
      rw [List.foldl_cons]
      refine ih (pre ++ [x]) _ (by simp [hr]) ?_
      have hlt : ∀ k ∈ pre, k < x := by
        intro k hk
        rw [hr] at hs
        exact (List.pairwise_append.1 hs).2.2 k hk x (by simp)
      have hww : ∀ k ∈ pre, wt k = wt x := fun k hk => hw k (by rw [hr]; simp [hk]) x (by rw [hr]; simp)
      unfold rowStep
      cases hf : fits x with
      | false =>
        simp only [Bool.false_and]
        refine hb.congr fun k => ?_
        constructor
        · rintro ⟨h1, h2⟩; exact ⟨by simp [h1], h2⟩
        · rintro ⟨h1, h2⟩
          rcases List.mem_append.1 h1 with h1 | h1
          · exact ⟨h1, h2⟩
          · simp at h1; subst h1; rw [hf] at h2; cases h2
      | true =>
        cases b with
        | none =>
          simp only [Bool.true_and, if_true]
          refine ⟨⟨by simp, hf⟩, fun k hk => ?_⟩
          rcases List.mem_append.1 hk.1 with h1 | h1
          · exact absurd ⟨h1, hk.2⟩ (hb k)
          · simp at h1; subst h1; omega
        | some a =>
          simp only [Bool.true_and, decide_eq_true_eq]
          obtain ⟨⟨ha, hfa⟩, hb2⟩ := hb
          have hax := hlt a ha
          have haw := hww a ha
          by_cases hp : prio a < prio x
          · rw [if_pos hp]
            refine ⟨⟨by simp, hf⟩, fun k hk => ?_⟩
            rcases List.mem_append.1 hk.1 with h1 | h1
            · have := hb2 k ⟨h1, hk.2⟩; omega
            · simp at h1; subst h1; omega
          · rw [if_neg hp]
            refine ⟨⟨by simp [ha], hfa⟩, fun k hk => ?_⟩
            rcases List.mem_append.1 hk.1 with h1 | h1
            · exact hb2 k ⟨h1, hk.2⟩
            · simp at h1; subst h1; omega
  exact key [] row none rfl (fun k hk => by simp at hk)
theorem bestStep_is {S : Nat → Prop} {b : Option Nat} {row : List Nat} (hb : IsBest prio wt S b) (hs : row.Pairwise (· < ·)) (hw : ∀ k ∈ row, ∀ m ∈ row, wt k = wt m) (hlt : ∀ k, S k → ∀ m ∈ row, wt k < wt m) :
    IsBest prio wt (fun k => S k ∨ (k ∈ row ∧ fits k = true)) (bestStep fits prio b row) := by
  have hr := rowBest_is (fits := fits) (prio := prio) (wt := wt) row hs hw
  unfold bestStep
  cases ha : rowBest fits prio row with
  | none =>
    rw [ha] at hr
    refine hb.congr fun k => ?_
    exact ⟨.inl, fun h => h.elim id (fun h => absurd h (hr k))⟩
  | some a =>
    rw [ha] at hr
    obtain ⟨⟨ha1, ha2⟩, ha3⟩ := hr
    cases b with
    | none =>
      refine ⟨.inr ⟨ha1, ha2⟩, fun k hk => ?_⟩
      rcases hk with hk | hk
      · exact absurd hk (hb k)
      · exact ha3 k hk
    | some c =>
      obtain ⟨hc1, hc2⟩ := hb
      have hca := hlt c hc1 a ha1
      simp only
      by_cases hp : prio c ≤ prio a
      · rw [if_pos hp]
        refine ⟨.inr ⟨ha1, ha2⟩, fun k hk => ?_⟩
        rcases hk with hk | hk
        · have h1 := hc2 k hk
          have h2 := hlt k hk a ha1
          omega
        · exact ha3 k hk
      · rw [if_neg hp]
        refine ⟨.inl hc1, fun k hk => ?_⟩
        rcases hk with hk | hk
        · exact hc2 k hk
        · have := ha3 k hk; omega
theorem bestOf_is : ∀ (rows : List (List Nat)) (S : Nat → Prop) (b : Option Nat), IsBest prio wt S b → (∀ row ∈ rows, row.Pairwise (· < ·)) → (∀ row ∈ rows, ∀ k ∈ row, ∀ m ∈ row, wt k = wt m) →
    rows.Pairwise (fun r r' => ∀ k ∈ r, ∀ m ∈ r', wt k < wt m) → (∀ k, S k → ∀ row ∈ rows, ∀ m ∈ row, wt k < wt m) →
    IsBest prio wt (fun k => S k ∨ ((∃ row ∈ rows, k ∈ row) ∧ fits k = true)) (rows.foldl (bestStep fits prio) b)
  | [], S, b, hb, _, _, _, _ => hb.congr fun k => by simp
  | row :: rows, S, b, hb, hs, hw, hp, hlt => by
    rw [List.foldl_cons]
    obtain ⟨hp1, hp2⟩ := List.pairwise_cons.1 hp
    have h1 := bestStep_is (fits := fits) hb (hs row (by simp)) (hw row (by simp)) (fun k hk m hm => hlt k hk row (by simp) m hm)
    have h2 := bestOf_is rows _ _ h1 (fun r hr => hs r (by simp [hr])) (fun r hr => hw r (by simp [hr])) hp2 (fun k hk r hr m hm => by
      rcases hk with hk | hk
      · exact hlt k hk r (by simp [hr]) m hm
      · exact hp1 r hr k hk.1 m hm)
    refine h2.congr fun k => ?_
    simp only [List.mem_cons, exists_eq_or_imp]
    constructor
    · rintro ((h | h) | h)
      · exact .inl h
      · exact .inr ⟨.inl h.1, h.2⟩
      · exact .inr ⟨.inr h.1, h.2⟩
    · rintro (h | ⟨h | h, h'⟩)
      · exact .inl (.inl h)
      · exact .inl (.inr ⟨h, h'⟩)
      · exact .inr ⟨h, h'⟩
/-- One behind the other, as the document looks. -/
def refStep (prio wt : Nat → Int) (counts : Nat → Bool) (b : Option Nat) (k : Nat) : Option Nat :=
  if counts k && (match b with | none => true | some a => decide (prio a < prio k) || (decide (prio a = prio k) && decide (wt a < wt k))) then some k else b
theorem refBest_is {counts : Nat → Bool} : ∀ n, IsBest prio wt (fun k => k < n ∧ counts k = true) ((List.range n).foldl (refStep prio wt counts) none)
  | 0 => fun k hk => by omega
  | n + 1 => by
    have ih := refBest_is (counts := counts) n
    rw [List.range_succ, List.foldl_append, List.foldl_cons, List.foldl_nil]
    generalize (List.range n).foldl (refStep prio wt counts) none = b at ih
    unfold refStep
    cases hc : counts n with
    | false =>
      simp only [Bool.false_and]
      refine ih.congr fun k => ?_
      constructor
      · rintro ⟨h1, h2⟩; exact ⟨by omega, h2⟩
      · rintro ⟨h1, h2⟩
        refine ⟨?_, h2⟩
        rcases Nat.lt_or_ge k n with h | h
        · exact h
        · obtain rfl : k = n := by omega
          rw [hc] at h2; cases h2
    | true =>
      cases b with
      | none =>
        refine ⟨⟨by omega, hc⟩, fun k hk => ?_⟩
        rcases Nat.lt_or_ge k n with h | h
        · exact absurd ⟨h, hk.2⟩ (ih k)
        · obtain rfl : k = n := by omega
          omega
      | some a =>
        obtain ⟨⟨h1, h2⟩, h3⟩ := ih
        simp only [Bool.true_and, Bool.or_eq_true, decide_eq_true_eq, Bool.and_eq_true]
        by_cases hp : prio a < prio n ∨ prio a = prio n ∧ wt a < wt n
        · rw [if_pos hp]
          refine ⟨⟨by omega, hc⟩, fun k hk => ?_⟩
          rcases Nat.lt_or_ge k n with h | h
          · have := h3 k ⟨h, hk.2⟩; omega
          · obtain rfl : k = n := by omega
            omega
        · rw [if_neg hp]
          refine ⟨⟨by omega, h2⟩, fun k hk => ?_⟩
          rcases Nat.lt_or_ge k n with h | h
          · exact h3 k ⟨h, hk.2⟩
          · obtain rfl : k = n := by omega
            omega
end

/-! ### The rows of a host -/
def wtOf (r : Ru) : Int := if r.pat = [42] then 0 else 2 * ((labelsL (restL r.pat)).length : Int) + (if wildL r.pat then 0 else 1)
theorem rowsG_mem (f : Fam) : ∀ (ls : List (List UInt8)) (k : Nat), (∃ row ∈ rowsG f ls, k ∈ row) ↔ k ∈ (f ls).1 ∨ ∃ d, d < ls.length ∧ k ∈ (f (ls.take d)).2
  | [], k => by simp [rowsG]
  | l :: r, k => by
    simp only [rowsG, List.mem_cons, exists_eq_or_imp, rowsG_mem (sub f l) r k, List.length_cons]
    constructor
    · rintro (h | h | ⟨d, h1, h2⟩)
      · exact .inr ⟨0, by omega, by simpa using h⟩
      · exact .inl h
      · exact .inr ⟨d + 1, by omega, h2⟩
    · rintro (h | ⟨d, h1, h2⟩)
      · exact .inr (.inl h)
      · cases d with
        | zero => exact .inl (by simpa using h2)
        | succ d => exact .inr (.inr ⟨d, by omega, h2⟩)
def famAt (f : Fam) (pre : List (List UInt8)) : Fam := fun p => f (pre ++ p)
theorem rowsG_rows (f : Fam) : ∀ (ls pre : List (List UInt8)) (row : List Nat), row ∈ rowsG (famAt f pre) ls → row = (f (pre ++ ls)).1 ∨ ∃ d, d < ls.length ∧ row = (f (pre ++ ls.take d)).2
  | [], pre, row, h => by simp [rowsG, famAt] at h; exact .inl (by simpa using h)
  | l :: r, pre, row, h => by
    simp only [rowsG, List.mem_cons] at h
    rcases h with h | h
    · exact .inr ⟨0, by simp, by simpa [famAt] using h⟩
    · have hs : sub (famAt f pre) l = famAt f (pre ++ [l]) := by funext p; simp [sub, famAt]
      rw [hs] at h
      rcases rowsG_rows f r (pre ++ [l]) row h with h | ⟨d, h1, h2⟩
      · exact .inl (by simpa using h)
      · exact .inr ⟨d + 1, by simp; omega, by simpa using h2⟩
theorem rowsG_pairs (f : Fam) (wt : Nat → Int) (h1 : ∀ p k, k ∈ (f p).1 → wt k = 2 * (p.length : Int) + 1) (h2 : ∀ p k, k ∈ (f p).2 → wt k = 2 * (p.length : Int)) :
    ∀ (ls pre : List (List UInt8)), (rowsG (famAt f pre) ls).Pairwise (fun r r' => ∀ k ∈ r, ∀ m ∈ r', wt k < wt m)
  | [], pre => by simp [rowsG]
  | l :: r, pre => by
    have hs : sub (famAt f pre) l = famAt f (pre ++ [l]) := by funext p; simp [sub, famAt]
    simp only [rowsG, hs]
    refine List.pairwise_cons.2 ⟨fun row hrow k hk m hm => ?_, rowsG_pairs f wt h1 h2 r (pre ++ [l])⟩
    have hk' := h2 _ k hk
    rcases rowsG_rows f r (pre ++ [l]) row hrow with h | ⟨d, _, h⟩
    · rw [h] at hm; have := h1 _ m hm; simp at this hk'; omega
    · rw [h] at hm; have := h2 _ m hm; simp at this hk'; omega
def rowsOf (rs : List Ru) (host : List UInt8) : List (List Nat) := anyOf rs :: (if host = [] then [] else rowsG (famOf rs) (labelsL host))
def pickL (rs : List Ru) (b : Option Nat) : Ru × Nat × Bool := match b with | none => (zeroR, 0, false) | some i => (rs.getD i zeroR, i, true)
def findB (rs : List Ru) (host : List UInt8) (port : Int) (alpn : List (List UInt8)) : Option Nat :=
  bestOf (fun i => fitsL (rs.getD i zeroR) port alpn) (fun i => (rs.getD i zeroR).prio) (rowsOf rs host)
def refB (rs : List Ru) (host : List UInt8) (port : Int) (alpn : List (List UInt8)) : Option Nat :=
  (List.range rs.length).foldl (refStep (fun i => (rs.getD i zeroR).prio) (fun i => wtOf (rs.getD i zeroR)) (fun i => countsL (rs.getD i zeroR) host port alpn)) none
def Fine (rs : List Ru) : Prop := ∀ r ∈ rs, patL r.pat = true
theorem fine_getD {rs : List Ru} (h : Fine rs) {i : Nat} (hi : i < rs.length) : patL (rs.getD i zeroR).pat = true := by
  rw [List.getD_eq_getElem?_getD, List.getElem?_eq_getElem hi]; exact h _ (List.getElem_mem hi)
theorem find_is {rs : List Ru} (hf : Fine rs) (host : List UInt8) (port : Int) (alpn : List (List UInt8)) :
    IsBest (fun i => (rs.getD i zeroR).prio) (fun i => wtOf (rs.getD i zeroR)) (fun k => k < rs.length ∧ countsL (rs.getD k zeroR) host port alpn = true) (findB rs host port alpn) := by
  have w0 : ∀ k, k ∈ anyOf rs → wtOf (rs.getD k zeroR) = 0 := fun k hk => by
    have := (mem_idxF.1 hk).2; simp only [isAny, decide_eq_true_eq] at this; rw [wtOf, if_pos this]
  have w1 : ∀ p k, k ∈ (famOf rs p).1 → wtOf (rs.getD k zeroR) = 2 * (p.length : Int) + 1 := fun p k hk => by
    have := (mem_idxF.1 hk).2
    simp only [isEx, isAny, Bool.and_eq_true, Bool.not_eq_true', decide_eq_false_iff_not, decide_eq_true_eq] at this
    rw [wtOf, if_neg this.1.1, this.1.2, this.2]; simp
  have w2 : ∀ p k, k ∈ (famOf rs p).2 → wtOf (rs.getD k zeroR) = 2 * (p.length : Int) := fun p k hk => by
    have := (mem_idxF.1 hk).2
    simp only [isLo, isAny, Bool.and_eq_true, Bool.not_eq_true', decide_eq_false_iff_not, decide_eq_true_eq] at this
    rw [wtOf, if_neg this.1.1, this.1.2, this.2]; simp
  have pos : ∀ p k, (k ∈ (famOf rs p).1 ∨ k ∈ (famOf rs p).2) → 0 < p.length := fun p k hk => by
    have : labelsL (restL (rs.getD k zeroR).pat) = p := by
      rcases hk with hk | hk
      · have := (mem_idxF.1 hk).2; simp only [isEx, Bool.and_eq_true, decide_eq_true_eq] at this; exact this.2
      · have := (mem_idxF.1 hk).2; simp only [isLo, Bool.and_eq_true, decide_eq_true_eq] at this; exact this.2
    rw [← this]; exact List.length_pos_iff.2 (labels_ne _)
  have e0 : famOf rs = famAt (famOf rs) [] := rfl
  have shape : ∀ row ∈ rowsOf rs host, row = anyOf rs ∨ ∃ p, row = (famOf rs p).1 ∨ row = (famOf rs p).2 := by
    intro row hrow
    simp only [rowsOf, List.mem_cons] at hrow
    rcases hrow with h | h
    · exact .inl h
    · split at h
      · cases h
      · rw [e0] at h
        rcases rowsG_rows _ _ _ _ h with h | ⟨d, _, h⟩
        · exact .inr ⟨_, .inl h⟩
        · exact .inr ⟨_, .inr h⟩
  have h := bestOf_is (fits := fun i => fitsL (rs.getD i zeroR) port alpn) (prio := fun i => (rs.getD i zeroR).prio) (wt := fun i => wtOf (rs.getD i zeroR)) (rowsOf rs host) (fun _ => False) none (fun k hk => hk)
    (fun row hrow => by
      rcases shape row hrow with h | ⟨p, h | h⟩
      · rw [h]; exact idxF_sorted _ _
      · rw [h]; exact idxF_sorted _ _
      · rw [h]; exact idxF_sorted _ _)
    (fun row hrow k hk m hm => by
      rcases shape row hrow with h | ⟨p, h | h⟩
      · rw [h] at hk hm; rw [w0 k hk, w0 m hm]
      · rw [h] at hk hm; rw [w1 p k hk, w1 p m hm]
      · rw [h] at hk hm; rw [w2 p k hk, w2 p m hm])
    (by
      simp only [rowsOf]
      refine List.pairwise_cons.2 ⟨fun row hrow k hk m hm => ?_, ?_⟩
      · rw [w0 k hk]
        split at hrow
        · cases hrow
        · rw [e0] at hrow
          rcases rowsG_rows _ _ _ _ hrow with h | ⟨d, _, h⟩
          · rw [h] at hm; have h3 := pos _ m (.inl hm); rw [w1 _ m hm]; omega
          · rw [h] at hm; have h3 := pos _ m (.inr hm); rw [w2 _ m hm]; omega
      · split
        · simp
        · rw [e0]; exact rowsG_pairs _ _ w1 w2 _ _)
    (fun k hk => hk.elim)
  refine h.congr fun k => ?_
  simp only [false_or, countsL, Bool.and_eq_true]
  have hm : (∃ row ∈ rowsOf rs host, k ∈ row) ↔ k < rs.length ∧ matchL (rs.getD k zeroR).pat host = true := by
    simp only [rowsOf, List.mem_cons, exists_eq_or_imp]
    constructor
    · rintro (h | ⟨row, hr, hk⟩)
      · obtain ⟨h1, h2⟩ := mem_idxF.1 h
        simp only [isAny, decide_eq_true_eq] at h2
        exact ⟨h1, by rw [h2]; exact match_star host⟩
      · split at hr
        · cases hr
        · rcases (rowsG_mem _ _ k).1 ⟨row, hr, hk⟩ with h | ⟨d, hd, h⟩
          · obtain ⟨h1, h2⟩ := mem_idxF.1 h
            simp only [isEx, isAny, Bool.and_eq_true, Bool.not_eq_true', decide_eq_false_iff_not, decide_eq_true_eq] at h2
            exact ⟨h1, (match_flat (fine_getD hf h1) h2.1.2 h2.1.1).2 h2.2.symm⟩
          · obtain ⟨h1, h2⟩ := mem_idxF.1 h
            simp only [isLo, isAny, Bool.and_eq_true, Bool.not_eq_true', decide_eq_false_iff_not, decide_eq_true_eq] at h2
            refine ⟨h1, (match_wild (fine_getD hf h1) h2.1.2).2 ⟨(labelsL host).drop d, fun h0 => ?_, ?_⟩⟩
            · have := List.drop_eq_nil_iff.1 h0; omega
            · rw [h2.2]; exact (List.take_append_drop _ _).symm
    · rintro ⟨h1, h2⟩
      have hp := fine_getD hf h1
      by_cases hs : (rs.getD k zeroR).pat = [42]
      · exact .inl (mem_idxF.2 ⟨h1, decide_eq_true hs⟩)
      · right
        cases hw : wildL (rs.getD k zeroR).pat with
        | true =>
          obtain ⟨ps, hne, hl⟩ := (match_wild hp hw).1 h2
          have hh : host ≠ [] := by
            rintro rfl
            have h3 : (labelsL []).length = 1 := by decide
            have h4 := congrArg List.length hl
            have h5 := List.length_pos_iff.2 (labels_ne (restL (rs.getD k zeroR).pat))
            have h6 := List.length_pos_iff.2 hne
            rw [h3, List.length_append] at h4; omega
          rw [if_neg hh]
          refine (rowsG_mem _ _ k).2 (.inr ⟨(labelsL (restL (rs.getD k zeroR).pat)).length, ?_, ?_⟩)
          · rw [hl, List.length_append]; have := List.length_pos_iff.2 hne; omega
          · rw [hl, List.take_left]; exact mem_idxF.2 ⟨h1, by rw [isLo, isAny, decide_eq_false hs, hw, decide_eq_true rfl]; rfl⟩
        | false =>
          have hl := (match_flat hp hw hs).1 h2
          have hh : host ≠ [] := by
            rintro rfl
            have := labels_inj hl
            obtain ⟨hn, hr⟩ := flat_named hp hw hs
            rw [hr] at this; exact named_ne hn this.symm
          rw [if_neg hh]
          exact (rowsG_mem _ _ k).2 (.inl (mem_idxF.2 ⟨h1, by rw [isEx, isAny, decide_eq_false hs, hw, decide_eq_true hl.symm]; rfl⟩))
  constructor
  · rintro ⟨h, hfit⟩
    obtain ⟨h1, h2⟩ := hm.1 h
    exact ⟨h1, h2, hfit⟩
  · rintro ⟨h1, h2, hfit⟩
    exact ⟨hm.2 ⟨h1, h2⟩, hfit⟩
/-- **What the labels find is what the document's look finds.** -/
theorem find_ref {rs : List Ru} (hf : Fine rs) (host : List UInt8) (port : Int) (alpn : List (List UInt8)) : findB rs host port alpn = refB rs host port alpn :=
  (find_is hf host port alpn).unique (refBest_is rs.length)
end Go.Tri

namespace Go.Tri
open Go.Lib Go.Asc Go.Adr Go.Nam

theorem wt_any {r : Ru} (h : r.pat = [42]) : wtOf r = 0 := by rw [wtOf, if_pos h]
theorem wt_wild {r : Ru} (h : r.pat ≠ [42]) (hw : wildL r.pat = true) : wtOf r = 2 * ((labelsL (restL r.pat)).length : Int) := by rw [wtOf, if_neg h, hw]; simp
theorem wt_flat {r : Ru} (h : r.pat ≠ [42]) (hw : wildL r.pat = false) : wtOf r = 2 * ((labelsL (restL r.pat)).length : Int) + 1 := by rw [wtOf, if_neg h, hw]; simp
theorem lab_pos (l : List UInt8) : 0 < (labelsL l).length := List.length_pos_iff.2 (labels_ne l)
theorem three (r : Ru) (_ : patL r.pat = true) : r.pat = [42] ∨ (r.pat ≠ [42] ∧ wildL r.pat = true) ∨ (r.pat ≠ [42] ∧ wildL r.pat = false) := by
  by_cases h : r.pat = [42]
  · exact .inl h
  · cases hw : wildL r.pat
    · exact .inr (.inr ⟨h, rfl⟩)
    · exact .inr (.inl ⟨h, rfl⟩)
theorem flat_host {r : Ru} {host : List UInt8} (hp : patL r.pat = true) (h : r.pat ≠ [42]) (hw : wildL r.pat = false) (hm : matchL r.pat host = true) : r.pat = host := by
  have h1 := (match_flat hp hw h).1 hm
  have h2 := (flat_named hp hw h).2
  rw [h2] at h1
  exact (labels_inj h1).symm
theorem same_pat {a b : Ru} {host : List UInt8} (ha : patL a.pat = true) (hb : patL b.pat = true) (ma : matchL a.pat host = true) (mb : matchL b.pat host = true) (hw : wtOf a = wtOf b) : a.pat = b.pat := by
  rcases three a ha with h1 | ⟨h1, w1⟩ | ⟨h1, w1⟩ <;> rcases three b hb with h2 | ⟨h2, w2⟩ | ⟨h2, w2⟩
  · rw [h1, h2]
  · rw [wt_any h1, wt_wild h2 w2] at hw; have := lab_pos (restL b.pat); omega
  · rw [wt_any h1, wt_flat h2 w2] at hw; omega
  · rw [wt_wild h1 w1, wt_any h2] at hw; have := lab_pos (restL a.pat); omega
  · rw [wt_wild h1 w1, wt_wild h2 w2] at hw
    obtain ⟨ps, _, e1⟩ := (match_wild ha w1).1 ma
    obtain ⟨qs, _, e2⟩ := (match_wild hb w2).1 mb
    rw [e1] at e2
    have h3 := (List.append_inj e2 (by omega)).1
    have h4 := labels_inj h3
    rw [(wild_nm ha w1).2.2.1, (wild_nm hb w2).2.2.1, h4]
  · rw [wt_wild h1 w1, wt_flat h2 w2] at hw; omega
  · rw [wt_flat h1 w1, wt_any h2] at hw; omega
  · rw [wt_flat h1 w1, wt_wild h2 w2] at hw; omega
  · rw [flat_host ha h1 w1 ma, flat_host hb h2 w2 mb]
theorem wild_len {r : Ru} {host : List UInt8} (hp : patL r.pat = true) (hw : wildL r.pat = true) (hm : matchL r.pat host = true) : r.pat.length ≤ host.length + 1 := by
  have h1 := (suffix_labels (wild_nm hp hw).1).2 ((match_wild hp hw).1 hm)
  have h2 := h1.length_le
  rw [(wild_nm hp hw).2.2.1]
  simp only [List.length_cons] at h2 ⊢
  omega
theorem len_pat {a b : Ru} {host : List UInt8} (ha : patL a.pat = true) (hb : patL b.pat = true) (ma : matchL a.pat host = true) (mb : matchL b.pat host = true) (hw : wtOf a ≤ wtOf b) : a.pat.length ≤ b.pat.length + 1 := by
  rcases three a ha with h1 | ⟨h1, w1⟩ | ⟨h1, w1⟩
  · rw [h1]; simp
  · rcases three b hb with h2 | ⟨h2, w2⟩ | ⟨h2, w2⟩
    · rw [wt_any h2, wt_wild h1 w1] at hw; have := lab_pos (restL a.pat); omega
    · rw [wt_wild h1 w1, wt_wild h2 w2] at hw
      obtain ⟨ps, _, e1⟩ := (match_wild ha w1).1 ma
      obtain ⟨qs, _, e2⟩ := (match_wild hb w2).1 mb
      have h3 : labelsL (restL a.pat) <+: labelsL (restL b.pat) := List.prefix_of_prefix_length_le ⟨ps, e1.symm⟩ ⟨qs, e2.symm⟩ (by omega)
      obtain ⟨t, ht⟩ := h3
      have h4 : (restL a.pat).length ≤ (restL b.pat).length := by
        have h5 := join_labels (restL b.pat)
        by_cases h0 : t = []
        · subst h0; rw [List.append_nil] at ht; rw [labels_inj ht]; exact Nat.le_refl _
        · rw [← ht, List.reverse_append, join_app 46 (by simpa using h0) (by simpa using labels_ne _), join_labels] at h5
          rw [← h5]; simp; omega
      rw [(wild_nm ha w1).2.2.1, (wild_nm hb w2).2.2.1]; simp; omega
    · rw [flat_host hb h2 w2 mb]; exact wild_len ha w1 ma
  · rw [flat_host ha h1 w1 ma]
    rcases three b hb with h2 | ⟨h2, w2⟩ | ⟨h2, w2⟩
    · rw [wt_any h2, wt_flat h1 w1] at hw; omega
    · rw [wt_flat h1 w1, wt_wild h2 w2] at hw
      obtain ⟨qs, hq, e2⟩ := (match_wild hb w2).1 mb
      have h3 := (match_flat ha w1 h1).1 ma
      rw [h3] at e2
      have h4 := congrArg List.length e2
      rw [List.length_append] at h4
      have := List.length_pos_iff.2 hq
      omega
    · rw [flat_host hb h2 w2 mb]; omega

/-! ### Rules added -/
theorem add_fine {rs : List Ru} (h : Fine rs) (r : Ru) : Fine (addL rs r).1 := by
  unfold addL
  split
  · exact h
  · rename_i h0
    split
    · exact h
    · split
      · exact h
      · intro x hx
        rcases List.mem_append.1 hx with hx | hx
        · exact h x hx
        · simp at hx; subst hx; exact right_pat (by simpa using h0)
theorem add_len {rs : List Ru} (h : rs.length ≤ 200) (r : Ru) : (addL rs r).1.length ≤ 200 := by
  unfold addL
  split
  · exact h
  · split
    · exact h
    · split
      · exact h
      · simp; omega
theorem fine_nil : Fine [] := by intro r hr; cases hr
theorem find_lt {rs : List Ru} (hf : Fine rs) {host : List UInt8} {port : Int} {alpn : List (List UInt8)} {i : Nat} (h : findB rs host port alpn = some i) : i < rs.length ∧ countsL (rs.getD i zeroR) host port alpn = true := by
  have := find_is hf host port alpn
  rw [h] at this; exact this.1
theorem counts_match {r : Ru} {host : List UInt8} {port : Int} {alpn : List (List UInt8)} (h : countsL r host port alpn = true) : matchL r.pat host = true := by
  unfold countsL at h; rw [Bool.and_eq_true] at h; exact h.1
/-- **TrieFinds.** -/
theorem finds {rs : List Ru} (hf : Fine rs) (host : List UInt8) (port : Int) (alpn : List (List UInt8)) {k : Nat} (hk : k < rs.length) (hc : countsL (rs.getD k zeroR) host port alpn = true) :
    ∃ i, findB rs host port alpn = some i ∧ (rs.getD k zeroR).prio ≤ (rs.getD i zeroR).prio ∧ ((rs.getD k zeroR).prio = (rs.getD i zeroR).prio → (rs.getD k zeroR).pat.length ≤ (rs.getD i zeroR).pat.length + 1 ∧
      ((rs.getD k zeroR).pat = (rs.getD i zeroR).pat → i ≤ k)) := by
  have h := find_is hf host port alpn
  cases hb : findB rs host port alpn with
  | none => rw [hb] at h; exact absurd ⟨hk, hc⟩ (h k)
  | some i =>
    rw [hb] at h
    obtain ⟨⟨hi, hci⟩, h2⟩ := h
    have h3 := h2 k ⟨hk, hc⟩
    simp only at h3
    refine ⟨i, rfl, by omega, fun hp => ?_⟩
    have hw : wtOf (rs.getD k zeroR) ≤ wtOf (rs.getD i zeroR) := by omega
    refine ⟨len_pat (fine_getD hf hk) (fine_getD hf hi) (counts_match hc) (counts_match hci) hw, fun hpat => ?_⟩
    have hw2 : wtOf (rs.getD k zeroR) = wtOf (rs.getD i zeroR) := by unfold wtOf; rw [hpat]
    omega

/-! ### In which order -/
theorem getD_mem {rs : List Ru} {i : Nat} (h : i < rs.length) : rs.getD i zeroR ∈ rs := by
  rw [List.getD_eq_getElem?_getD, List.getElem?_eq_getElem h]; exact List.getElem_mem h
theorem mem_getD {rs : List Ru} {r : Ru} (h : r ∈ rs) : ∃ i, i < rs.length ∧ rs.getD i zeroR = r := by
  obtain ⟨i, hi, he⟩ := List.getElem_of_mem h
  exact ⟨i, hi, by rw [List.getD_eq_getElem?_getD, List.getElem?_eq_getElem hi]; exact he⟩
/-- The same rules, each pattern once, in whatever order: the same is found. -/
theorem order {rs rs' : List Ru} (hf : Fine rs) (hm : ∀ r, r ∈ rs ↔ r ∈ rs') (hn : (rs.map (·.pat)).Nodup) (host : List UInt8) (port : Int) (alpn : List (List UInt8)) :
    (pickL rs (findB rs host port alpn)).1 = (pickL rs' (findB rs' host port alpn)).1 ∧ (pickL rs (findB rs host port alpn)).2.2 = (pickL rs' (findB rs' host port alpn)).2.2 := by
  have hf' : Fine rs' := fun r hr => hf r ((hm r).2 hr)
  have h := find_is hf host port alpn
  have h' := find_is hf' host port alpn
  cases hb : findB rs host port alpn with
  | none =>
    cases hb' : findB rs' host port alpn with
    | none => exact ⟨rfl, rfl⟩
    | some j =>
      rw [hb] at h; rw [hb'] at h'
      obtain ⟨i, hi, he⟩ := mem_getD ((hm _).2 (getD_mem h'.1.1))
      exact absurd ⟨hi, by rw [he]; exact h'.1.2⟩ (h i)
  | some i =>
    rw [hb] at h
    cases hb' : findB rs' host port alpn with
    | none =>
      rw [hb'] at h'
      obtain ⟨j, hj, he⟩ := mem_getD ((hm _).1 (getD_mem h.1.1))
      exact absurd ⟨hj, by rw [he]; exact h.1.2⟩ (h' j)
    | some j =>
      rw [hb'] at h'
      refine ⟨?_, rfl⟩
      obtain ⟨i', hi', he'⟩ := mem_getD ((hm _).2 (getD_mem h'.1.1))
      obtain ⟨j', hj', hej⟩ := mem_getD ((hm _).1 (getD_mem h.1.1))
      have h1 := h.2 i' ⟨hi', by rw [he']; exact h'.1.2⟩
      have h2 := h'.2 j' ⟨hj', by rw [hej]; exact h.1.2⟩
      simp only [he'] at h1
      simp only [hej] at h2
      have hw : wtOf (rs.getD i zeroR) = wtOf (rs'.getD j zeroR) := by omega
      have hp := same_pat (fine_getD hf h.1.1) (fine_getD hf' h'.1.1) (counts_match h.1.2) (counts_match h'.1.2) hw
      show rs.getD i zeroR = rs'.getD j zeroR
      rw [← he'] at hp ⊢
      have hii : i = i' := by
        have e1 : (rs.map (·.pat))[i]? = (rs.map (·.pat))[i']? := by
          rw [List.getD_eq_getElem?_getD, List.getD_eq_getElem?_getD, List.getElem?_eq_getElem h.1.1, List.getElem?_eq_getElem hi'] at hp
          rw [List.getElem?_map, List.getElem?_map, List.getElem?_eq_getElem h.1.1, List.getElem?_eq_getElem hi']
          exact congrArg some hp
        exact (List.getElem?_inj (by simpa using h.1.1) hn).1 e1
      rw [hii]

/-! ### A rule for all -/

/-! ### Patterns of names -/
end Go.Tri

namespace Go.Cid
open Go.Lib Go.Asc Go.Adr

/-- The first n bits of a byte, n at most 8. -/
def keepB (n : Nat) : UInt8 := ([0, 128, 192, 224, 240, 248, 252, 254, 255] : List UInt8).getD n 255
def maskL : List UInt8 → Nat → List UInt8
  | [], _ => []
  | b :: l, n => (b &&& keepB (min n 8)) :: maskL l (n - 8)
theorem maskL_len : ∀ (a : List UInt8) (n : Nat), (maskL a n).length = a.length
  | [], _ => rfl
  | b :: l, n => by simp [maskL, maskL_len l]
theorem maskL_get : ∀ (a : List UInt8) (n k : Nat), k < a.length → (maskL a n)[k]? = some (a.getD k 0 &&& keepB (min (n - 8 * k) 8))
  | [], _, _, h => by simp at h
  | b :: l, n, 0, _ => by simp [maskL]
  | b :: l, n, k + 1, h => by
    simp only [maskL, List.getElem?_cons_succ]
    rw [maskL_get l _ k (by simpa using h)]
    simp only [List.getD_cons_succ]
    rw [show n - 8 - 8 * k = n - 8 * (k + 1) by omega]
/-- Addresses that begin as one does. -/
structure Cd where
  addr : List UInt8
  bits : Int
instance : DecidableEq Cd := fun a b => if h : a.addr = b.addr ∧ a.bits = b.bits then isTrue (by cases a; cases b; simp only at h; obtain ⟨rfl, rfl⟩ := h; rfl) else isFalse (fun e => h (by rw [e]; exact ⟨rfl, rfl⟩))
def cl (n : Int) : Nat := (max 0 (min n 128)).toNat
theorem cl_le (n : Int) : cl n ≤ 128 := by unfold cl; omega
theorem cl_cast (n : Int) : (cl n : Int) = max 0 (min n 128) := by unfold cl; omega
theorem cl_nat {n : Nat} (h : n ≤ 128) : cl (n : Int) = n := by unfold cl; omega
def ofL (a : List UInt8) (n : Int) : Cd := ⟨maskL a (cl n), (cl n : Int)⟩
def rightC (c : Cd) : Bool := decide (c = ofL c.addr c.bits)
def hasC (c : Cd) (a : List UInt8) : Bool := rightC c && decide (ofL a c.bits = c)
def zeroC : Cd := ⟨zero16, 0⟩
theorem right_iff {c : Cd} : rightC c = true ↔ 0 ≤ c.bits ∧ c.bits ≤ 128 ∧ maskL c.addr c.bits.toNat = c.addr := by
  obtain ⟨a, n⟩ := c
  simp only [rightC, ofL, decide_eq_true_eq, Cd.mk.injEq]
  constructor
  · rintro ⟨h1, h2⟩
    have h3 := cl_cast n
    have h4 : cl n = n.toNat := by omega
    exact ⟨by omega, by omega, by rw [← h4]; exact h1.symm⟩
  · rintro ⟨h1, h2, h3⟩
    have h4 : cl n = n.toNat := by unfold cl; omega
    exact ⟨by rw [h4]; exact h3.symm, by omega⟩
theorem of_bits (a : List UInt8) {n : Int} (h0 : 0 ≤ n) (h1 : n ≤ 128) : ofL a n = ⟨maskL a n.toNat, n⟩ := by
  have h5 : cl n = n.toNat := by unfold cl; omega
  rw [ofL, h5, Int.toNat_of_nonneg h0]

/-! ### Texts -/
theorem index_one (c : UInt8) : ∀ l : List UInt8, index l [c] = if c ∈ l then ((l.takeWhile (fun b => decide (b ≠ c))).length : Int) else -1
  | [] => rfl
  | b :: l => by
    unfold index
    have ih := index_one c l
    by_cases h : b = c
    · subst h
      simp [List.isPrefixOf]
    · have hp : ([c] : List UInt8).isPrefixOf (b :: l) = false := by simp [List.isPrefixOf, Ne.symm h]
      rw [hp]
      by_cases hm : c ∈ l
      · rw [if_pos hm] at ih
        rw [ih, if_pos (List.mem_cons_of_mem _ hm)]
        have h1 : (((List.takeWhile (fun b => decide (b ≠ c)) l).length : Int) == -1) = false := by rw [beq_eq_false_iff_ne]; omega
        simp [h]
      · rw [if_neg hm] at ih
        simp [ih, hm, Ne.symm h]
theorem cut_here {c : UInt8} {x : List UInt8} (y : List UInt8) (h : c ∉ x) : cut (x ++ c :: y) [c] = (x, y, true) := by
  have ht : List.takeWhile (fun b => decide (b ≠ c)) (x ++ c :: y) = x := by
    rw [List.takeWhile_append_of_pos (fun b hb => by simp; rintro rfl; exact h hb)]
    simp
  have hi : index (x ++ c :: y) [c] = (x.length : Int) := by rw [index_one, if_pos (by simp), ht]
  unfold cut
  rw [hi, if_pos (by omega)]
  simp only [Int.toNat_natCast, List.length_cons, List.length_nil]
  rw [List.take_left, ← List.drop_drop, List.drop_left]
  simp
def moreL (t : List UInt8) : Nat := if 58 ∈ t then 0 else 96
def parseC (s : List UInt8) : Option Cd := match parseL (cut s [47]).1 with
  | none => none
  | some a => match number (cut s [47]).2.1 (128 - (moreL (cut s [47]).1 : Int)) with
    | none => none
    | some n => some (ofL a ((n : Int) + moreL (cut s [47]).1))
def fourL (a : List UInt8) : Bool := decide (a.take 12 = aheadL)
def bitsP (c : Cd) : Int := if fourL c.addr = true ∧ 96 ≤ c.bits then c.bits - 96 else c.bits
def printC (c : Cd) : List UInt8 := printL c.addr ++ [47] ++ itoa (bitsP c)
theorem hex_ne (b : UInt8) : isHex b = true → b ≠ 47 := byte_all (p := fun b => isHex b = true → b ≠ 47) (by decide +kernel) b
theorem textL_noslash (gs : List Nat) : (47 : UInt8) ∉ textL gs := by
  intro h
  rcases mem_join h with h | ⟨x, hx, hb⟩
  · revert h; decide
  · obtain ⟨n, _, rfl⟩ := List.mem_map.1 hx
    exact hex_ne _ ((hexL_all n).2.1 _ hb).1 rfl
theorem print_noslash (a : List UInt8) : (47 : UInt8) ∉ printL a := by
  unfold printL
  split
  · intro h
    rcases mem_join h with h | ⟨x, hx, hb⟩
    · revert h; decide
    · obtain ⟨n, _, rfl⟩ := List.mem_map.1 hx
      exact dig_ne (itoa_dig _ _ hb) (c := 47) (by decide) rfl
  · split
    · exact textL_noslash _
    · simp only [List.mem_append, not_or]
      exact ⟨⟨textL_noslash _, by decide⟩, textL_noslash _⟩
theorem print_col (a : List UInt8) (_ : a.length = 16) : (58 : UInt8) ∈ printL a ↔ fourL a = false := by
  unfold printL fourL
  by_cases h4 : a.take 12 = aheadL
  · rw [if_pos h4]
    simp only [h4, decide_true, Bool.true_eq_false, iff_false]
    intro h
    rcases mem_join h with h | ⟨x, hx, hb⟩
    · revert h; decide
    · obtain ⟨n, _, rfl⟩ := List.mem_map.1 hx
      exact dig_ne (itoa_dig _ _ hb) (c := 58) (by decide) rfl
  · rw [if_neg h4]
    simp only [h4, decide_false, iff_true]
    split
    · have h8 := groupsL_len a
      obtain ⟨x, gs, hg⟩ : ∃ x gs, groupsL a = x :: gs := by
        cases hq : groupsL a with
        | nil => rw [hq] at h8; cases h8
        | cons x gs => exact ⟨x, gs, rfl⟩
      obtain ⟨y, gs', rfl⟩ : ∃ y gs', gs = y :: gs' := by
        cases gs with
        | nil => rw [hg] at h8; simp at h8
        | cons y gs' => exact ⟨y, gs', rfl⟩
      rw [hg]
      simp only [textL, List.map_cons]
      rw [join_two]; simp
    · simp
theorem keepB_all {i : Nat} (h : (255 : UInt8) &&& keepB (min i 8) = 255) : 8 ≤ i := by
  have key : ∀ j < 8, (255 : UInt8) &&& keepB j ≠ 255 := by decide +kernel
  rcases Nat.lt_or_ge i 8 with h1 | h1
  · exact absurd h (by rw [Nat.min_eq_left (by omega)]; exact key i h1)
  · exact h1
theorem four_bits {c : Cd} (hr : rightC c = true) (ha : c.addr.length = 16) (h4 : fourL c.addr = true) : 96 ≤ c.bits := by
  rw [right_iff] at hr
  obtain ⟨h0, h1, h2⟩ := hr
  have h3 := maskL_get c.addr c.bits.toNat 11 (by omega)
  rw [h2] at h3
  have h5 : c.addr[11]? = some 255 := by
    have h6 : c.addr.take 12 = aheadL := by simpa [fourL] using h4
    have h7 : (c.addr.take 12)[11]? = some 255 := by rw [h6]; rfl
    rwa [List.getElem?_take_of_lt (by omega)] at h7
  have h8 : c.addr.getD 11 0 = 255 := by rw [List.getD_eq_getElem?_getD, h5]; rfl
  rw [h5, h8] at h3
  have h9 := keepB_all (Option.some.inj h3).symm
  omega
/-- What is right is printed, and parsed as it was. -/
theorem back {c : Cd} (hr : rightC c = true) (ha : c.addr.length = 16) : parseC (printC c) = some c := by
  have hr' := hr
  rw [right_iff] at hr'
  obtain ⟨h0, h1, h2⟩ := hr'
  have hcut : cut (printC c) [47] = (printL c.addr, itoa (bitsP c), true) := by
    rw [printC, List.append_assoc]; exact cut_here _ (print_noslash _)
  unfold parseC
  rw [hcut]
  simp only
  rw [parse_print ha]
  simp only
  obtain ⟨m, hm⟩ : ∃ m : Nat, bitsP c = (m : Int) := ⟨(bitsP c).toNat, by unfold bitsP; split <;> omega⟩
  have hmore : moreL (printL c.addr) = if fourL c.addr = true then 96 else 0 := by
    unfold moreL
    by_cases h4 : fourL c.addr = true
    · rw [if_neg (fun h => by rw [(print_col _ ha).1 h] at h4; cases h4), if_pos h4]
    · rw [if_pos ((print_col _ ha).2 (by simpa using h4)), if_neg h4]
  have hsum : (m : Int) + (moreL (printL c.addr) : Int) = c.bits := by
    rw [← hm, hmore]
    unfold bitsP
    by_cases h4 : fourL c.addr = true
    · have := four_bits hr ha h4
      rw [if_pos ⟨h4, this⟩, if_pos h4]; omega
    · rw [if_neg (fun h => h4 h.1), if_neg h4]; omega
  rw [hm, number_itoa (by omega) (by omega)]
  simp only
  rw [hsum, of_bits _ h0 h1, h2]
end Go.Cid

namespace Go.Cid
open Go.Lib Go.Asc Go.Adr

/-- What compares whatever two, in one order. -/
structure Tot {α : Type} (f : α → α → Int) : Prop where
  neg : ∀ a b, f b a = - f a b
  same : ∀ a b, f a b = 0 → a = b
  trans : ∀ a b c, f a b < 0 → f b c < 0 → f a c < 0
section
variable {α : Type} {f : α → α → Int}
theorem Tot.refl (h : Tot f) (a : α) : f a a = 0 := by have := h.neg a a; omega
theorem Tot.le_trans (h : Tot f) {a b c : α} (h1 : f a b ≤ 0) (h2 : f b c ≤ 0) : f a c ≤ 0 := by
  rcases Int.lt_or_eq_of_le h1 with h3 | h3
  · rcases Int.lt_or_eq_of_le h2 with h4 | h4
    · exact Int.le_of_lt (h.trans _ _ _ h3 h4)
    · rw [← h.same _ _ h4]; exact h1
  · rw [h.same _ _ h3]; exact h2
theorem Tot.swo (h : Tot f) : Go.Sort.SWO (fun x y => decide (f x y < 0)) where
  irrefl x := by simp [h.refl]
  trans x y z h1 h2 := by simp only [decide_eq_true_eq] at *; exact h.trans _ _ _ h1 h2
  ntrans x y z h1 h2 := by
    simp only [decide_eq_false_iff_not] at *
    have h3 := h.neg x y
    have h4 := h.neg y z
    have h5 := h.neg x z
    have := h.le_trans (a := z) (b := y) (c := x) (by omega) (by omega)
    omega
/-- In order. -/
def sortF (f : α → α → Int) (l : List α) : List α := l.mergeSort fun x y => !decide (f y x < 0)
theorem sortF_perm (f : α → α → Int) (l : List α) : (sortF f l).Perm l := List.mergeSort_perm _ _
theorem sortF_len (f : α → α → Int) (l : List α) : (sortF f l).length = l.length := (sortF_perm f l).length_eq
theorem sortF_pair (h : Tot f) (l : List α) : (sortF f l).Pairwise fun x y => f x y ≤ 0 := by
  have := List.pairwise_mergeSort (le := fun x y => !decide (f y x < 0)) (fun a b c h1 h2 => by
    simp only [Bool.not_eq_true', decide_eq_false_iff_not] at *
    have e1 := h.neg a b
    have e2 := h.neg b c
    have e3 := h.neg a c
    have := h.le_trans (a := a) (b := b) (c := c) (by omega) (by omega)
    omega) (fun a b => by
    have e1 := h.neg a b
    simp only [Bool.or_eq_true, Bool.not_eq_true', decide_eq_false_iff_not]; omega) l
  refine this.imp ?_
  intro x y hxy
  simp only [Bool.not_eq_true', decide_eq_false_iff_not] at hxy
  have := h.neg x y
  omega
theorem sorted_one (h : Tot f) {l m : List α} (hl : l.Pairwise fun x y => f x y ≤ 0) (hm : m.Pairwise fun x y => f x y ≤ 0) (hp : l.Perm m) : l = m :=
  List.Perm.eq_of_pairwise (le := fun x y => f x y ≤ 0) (fun a b _ _ h1 h2 => h.same _ _ (by have := h.neg a b; omega)) hl hm hp
theorem sortF_eq (h : Tot f) {l m : List α} (hp : l.Perm m) : sortF f l = sortF f m :=
  sorted_one h (sortF_pair h l) (sortF_pair h m) ((sortF_perm f l).trans (hp.trans (sortF_perm f m).symm))
theorem sortF_of (h : Tot f) {l m : List α} (hm : m.Pairwise fun x y => f x y ≤ 0) (hp : m.Perm l) : sortF f l = m :=
  sorted_one h (sortF_pair h l) hm ((sortF_perm f l).trans hp.symm)
theorem sortF_mem {l : List α} {x : α} : x ∈ sortF f l ↔ x ∈ l := (sortF_perm f l).mem_iff
theorem sortF_map {β : Type} {g : β → β → Int} (hf : Tot f) (hg : Tot g) (m : β → α) (hm : ∀ x y, f (m x) (m y) = g x y) (l : List β) : (sortF g l).map m = sortF f (l.map m) := by
  refine (sortF_of hf ?_ ((sortF_perm g l).map m)).symm
  rw [List.pairwise_map]
  exact (sortF_pair hg l).imp (fun {x y} h => by rw [hm]; exact h)
/-- One more, laid where it stands. -/
theorem sortF_ins (h : Tot f) {l A B : List α} {x : α} (hA : sortF f l = A ++ B) (h1 : ∀ y ∈ A, f y x ≤ 0) (h2 : ∀ y ∈ B, f x y ≤ 0) : sortF f (x :: l) = A ++ x :: B := by
  have hs := sortF_pair h l
  rw [hA, List.pairwise_append] at hs
  refine sortF_of h ?_ ?_
  · rw [List.pairwise_append]
    refine ⟨hs.1, List.pairwise_cons.2 ⟨h2, hs.2.1⟩, ?_⟩
    intro a ha b hb
    rcases List.mem_cons.1 hb with rfl | hb
    · exact h1 a ha
    · exact hs.2.2 a ha b hb
  · refine List.perm_middle.trans (List.Perm.cons x ?_)
    rw [← hA]; exact sortF_perm f l
end

/-- Numbers. -/
def cmpN (a b : Int) : Int := if a < b then -1 else if b < a then 1 else 0
theorem tot_cmpN : Tot cmpN where
  neg a b := by unfold cmpN; repeat' split <;> omega
  same a b h := by unfold cmpN at h; repeat' split at h <;> omega
  trans a b c h1 h2 := by unfold cmpN at *; repeat' split at * <;> omega
/-- Bytes, one by one. -/
def cmpL : List UInt8 → List UInt8 → Int
  | [], [] => 0
  | [], _ :: _ => -1
  | _ :: _, [] => 1
  | x :: a, y :: b => if x.toNat < y.toNat then -1 else if y.toNat < x.toNat then 1 else cmpL a b
theorem cmpL_neg : ∀ a b, cmpL b a = - cmpL a b
  | [], [] => rfl
  | [], _ :: _ => rfl
  | _ :: _, [] => rfl
  | x :: a, y :: b => by
    have := cmpL_neg a b
    simp only [cmpL]
    repeat' split <;> omega
theorem cmpL_same : ∀ a b, cmpL a b = 0 → a = b
  | [], [], _ => rfl
  | [], _ :: _, h => by simp [cmpL] at h
  | _ :: _, [], h => by simp [cmpL] at h
  | x :: a, y :: b, h => by
    simp only [cmpL] at h
    by_cases h1 : x.toNat < y.toNat
    · rw [if_pos h1] at h; omega
    · rw [if_neg h1] at h
      by_cases h2 : y.toNat < x.toNat
      · rw [if_pos h2] at h; omega
      · rw [if_neg h2] at h
        rw [cmpL_same a b h, UInt8.toNat_inj.1 (show x.toNat = y.toNat by omega)]
theorem cmpL_trans : ∀ a b c, cmpL a b < 0 → cmpL b c < 0 → cmpL a c < 0
  | [], [], _, h, _ => by simp [cmpL] at h
  | [], _ :: _, [], _, h => by simp [cmpL] at h
  | [], _ :: _, _ :: _, _, _ => by simp [cmpL]
  | _ :: _, [], _, h, _ => by simp [cmpL] at h
  | _ :: _, _ :: _, [], _, h => by simp [cmpL] at h
  | x :: a, y :: b, z :: c, h1, h2 => by
    have ih := cmpL_trans a b c
    simp only [cmpL] at *
    by_cases e1 : x.toNat < y.toNat
    · by_cases e2 : y.toNat < z.toNat
      · rw [if_pos (by omega)]; omega
      · rw [if_neg e2] at h2
        by_cases e3 : z.toNat < y.toNat
        · rw [if_pos e3] at h2; omega
        · rw [if_pos (by omega)]; omega
    · rw [if_neg e1] at h1
      by_cases e2 : y.toNat < x.toNat
      · rw [if_pos e2] at h1; omega
      · rw [if_neg e2] at h1
        by_cases e3 : y.toNat < z.toNat
        · rw [if_pos (by omega)]; omega
        · rw [if_neg e3] at h2
          by_cases e4 : z.toNat < y.toNat
          · rw [if_pos e4] at h2; omega
          · rw [if_neg e4] at h2
            rw [if_neg (by omega), if_neg (by omega)]
            exact ih h1 h2
theorem tot_cmpL : Tot cmpL := ⟨cmpL_neg, cmpL_same, cmpL_trans⟩
/-- One, then the other. -/
def thenF (a b : Int) : Int := if a = 0 then b else a
theorem tot_then {α β γ : Type} {f : α → α → Int} {g : β → β → Int} (hf : Tot f) (hg : Tot g) (p : γ → α) (q : γ → β) (hpq : ∀ x y, p x = p y → q x = q y → x = y) : Tot fun x y => thenF (f (p x) (p y)) (g (q x) (q y)) where
  neg a b := by
    have h1 := hf.neg (p a) (p b)
    have h2 := hg.neg (q a) (q b)
    unfold thenF
    repeat' split <;> omega
  same a b h := by
    unfold thenF at h
    by_cases h1 : f (p a) (p b) = 0
    · rw [if_pos h1] at h; exact hpq _ _ (hf.same _ _ h1) (hg.same _ _ h)
    · rw [if_neg h1] at h; exact absurd h h1
  trans a b c h1 h2 := by
    unfold thenF at *
    by_cases e1 : f (p a) (p b) = 0
    · rw [if_pos e1] at h1
      rw [hf.same _ _ e1]
      by_cases e2 : f (p b) (p c) = 0
      · rw [if_pos e2] at h2 ⊢; exact hg.trans _ _ _ h1 h2
      · rw [if_neg e2] at h2 ⊢; exact h2
    · rw [if_neg e1] at h1
      by_cases e2 : f (p b) (p c) = 0
      · rw [← hf.same _ _ e2, if_neg e1]; exact h1
      · rw [if_neg e2] at h2
        have := hf.trans _ _ _ h1 h2
        rw [if_neg (by omega)]; exact this
/-- Ranges. -/
def cmpC (a b : Cd) : Int := thenF (cmpL a.addr b.addr) (cmpN a.bits b.bits)
theorem tot_cmpC : Tot cmpC := tot_then tot_cmpL tot_cmpN Cd.addr Cd.bits (fun x y h1 h2 => by cases x; cases y; simp only at h1 h2; rw [h1, h2])
def sortC (l : List Cd) : List Cd := sortF cmpC l
end Go.Cid

namespace Go.Pol
abbrev Lb := List UInt8
open Go.Lib Go.Asc Go.Adr Go.Nam Go.Tri Go.Cid

/-- A pin: a name, where it lies, until when. -/
structure Pn where
  name : Lb
  cidr : Cd
  till : Int
instance : DecidableEq Pn := fun a b => if h : a.name = b.name ∧ a.cidr = b.cidr ∧ a.till = b.till then isTrue (by cases a; cases b; simp only at h; obtain ⟨rfl, rfl, rfl⟩ := h; rfl) else isFalse (fun e => h (by rw [e]; exact ⟨rfl, rfl, rfl⟩))
structure Pol where
  allow : Bool
  rules : List Ru
  pins : List Pn

/-! ### What words say -/
def placeOf (x : Pn) : Lb × Cd := (x.name, x.cidr)
/-- What is wrong of a pin behind others. -/
def pinErr (ps : List Pn) (x : Pn) : Int :=
  if normalL x.name ≠ (x.name, 0) then 9 else if rightC x.cidr = false ∨ x.till < 0 ∨ 1099511627776 < x.till then 1 else if placeOf x ∈ ps.map placeOf then 7 else 0

/-! ### What is right -/
def pinsErr : List Pn → List Pn → Int
  | _, [] => 0
  | ps, x :: r => if pinErr ps x = 0 then pinsErr (ps ++ [x]) r else pinErr ps x
def rulesErr : List Ru → List Ru → Int
  | _, [] => 0
  | rs, x :: r => if (addL rs x).2 = 0 then rulesErr (rs ++ [x]) r else (addL rs x).2
def rightP (p : Pol) : Int := if rulesErr [] p.rules ≠ 0 then rulesErr [] p.rules else if 200 < p.pins.length then 2 else pinsErr [] p.pins
theorem add_ok {rs : List Ru} {x : Ru} (h : (addL rs x).2 = 0) : (addL rs x).1 = rs ++ [x] := by
  unfold addL at h ⊢
  split at h
  · rename_i h0; exact absurd h h0
  · rename_i h0
    rw [if_neg h0]
    split at h
    · cases h
    · rename_i h1
      rw [if_neg h1]
      split at h
      · cases h
      · rename_i h2
        rw [if_neg h2]
theorem rightP_iff {p : Pol} : rightP p = 0 ↔ rulesErr [] p.rules = 0 ∧ p.pins.length ≤ 200 ∧ pinsErr [] p.pins = 0 := by
  unfold rightP
  constructor
  · intro h
    split at h
    · rename_i h0; exact absurd h h0
    · rename_i h0
      split at h
      · cases h
      · exact ⟨Classical.not_not.1 h0, by omega, h⟩
  · rintro ⟨h1, h2, h3⟩
    rw [if_neg (by simp [h1]), if_neg (by omega), h3]

/-! ### Lines, one behind the other -/
end Go.Pol

namespace Go.Pol
open Go.Lib Go.Asc Go.Adr Go.Nam Go.Tri Go.Cid

/-! ### What is printed -/
structure Good (r : Ru) : Prop where
  p1 : -1000 ≤ r.prio
  p2 : r.prio ≤ 1000
  pat : patL r.pat = true
  q1 : 0 ≤ r.port
  q2 : r.port ≤ 65535
  al : r.alpn = [] ∨ visL r.alpn = true
end Go.Pol
