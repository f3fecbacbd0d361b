/-
  PLAIN LAWS: patterns of names, and what they match: no program in sight.
  PLAIN LAWS: rows of rules, and the one that counts: no program in sight.
  PLAIN LAWS: what the trie's statements say of rows of rules: no program in sight.
  PLAIN LAWS: the small case of the trie: no program in sight.
-/
import Derived.Test.YtabkbpckehdiaaaGreatDoorPl3
namespace Go.Asc
open Go.Lib
theorem splitB_tail {c : UInt8} : ∀ (y l : List UInt8), c ∉ y → splitB c (l ++ y) = (splitB c l).dropLast ++ [(splitB c l).getLast?.getD [] ++ y]
  | [], l, _ => by
    have h := splitB_ne c l
    rw [List.append_nil, List.append_nil, List.getLast?_eq_some_getLast h, Option.getD_some, List.dropLast_concat_getLast]
  | b :: y, l, h => by
    simp only [List.mem_cons, not_or] at h
    have h1 := splitB_tail y (l ++ [b]) h.2
    rw [show l ++ b :: y = l ++ [b] ++ y by simp, h1, splitB_snoc (Ne.symm h.1)]
    simp
end Go.Asc
namespace Go.Adr
open Go.Lib Go.Asc
theorem cutDD_tail {z : List UInt8} (hz : 58 ∉ z) : ∀ m : List UInt8, cutDD (m ++ 46 :: z) = (cutDD m).map fun p => (p.1, p.2 ++ 46 :: z)
  | [] => by
    rw [List.nil_append, cutDD_none (by simpa using hz)]
    rfl
  | b :: l => by
    have h : (b = 58 ∧ (l ++ 46 :: z).head? = some 58) ↔ (b = 58 ∧ l.head? = some 58) := by
      cases l with
      | nil => simp
      | cons a l => simp
    simp only [List.cons_append, cutDD, h, cutDD_tail hz l]
    split
    · rename_i hc
      cases l with
      | nil => simp at hc
      | cons a l => simp
    · cases cutDD l <;> simp
/-- What ends in a label that is no number is no address. -/
theorem parseL_tail {z : List UInt8} (hz : 58 ∉ z) (hn : isNum ((splitB 46 z).getLast?.getD []) = false) (m : List UInt8) : parseL (m ++ 46 :: z) = none := by
  have hmem : (splitB 46 z).getLast?.getD [] ∈ splitB 46 z := by
    rw [List.getLast?_eq_some_getLast (splitB_ne 46 z), Option.getD_some]; exact List.getLast_mem _
  have hd : ∀ m : List UInt8, dot (m ++ 46 :: z) = none := fun m => by
    refine dot_none (x := (splitB 46 z).getLast?.getD []) ?_ hn
    rw [splitB_append]
    exact List.mem_append_right _ hmem
  have hr : ∀ (may : Bool) (m : List UInt8), readL may (m ++ 46 :: z) = none := fun may m => by
    rw [readL, if_neg (by simp), splitB_tail (46 :: z) m (by simpa using hz)]
    refine grp_last_none (hexR_none (b := 46) (by simp) (by decide)) (hd _) _
  rw [parseL_dd, hd, cutDD_tail hz, hr]
  cases cutDD m with
  | none => rfl
  | some p =>
    simp only [Option.map_some, hr]
    cases readL false p.1 <;> rfl
end Go.Adr
namespace Go.Tri
open Go.Lib Go.Asc Go.Adr Go.Nam

def named (s : List UInt8) : Bool := decide (normalL s = (s, 0))
def cutP (p : List UInt8) : Option (List UInt8) := if p.take 2 = [42, 46] then some (p.drop 2) else none
def patL (p : List UInt8) : Bool := match cutP p with | some r => named r && (parseL r).isNone | none => decide (p = [42]) || named p
def matchL (p host : List UInt8) : Bool := patL p && (match cutP p with | some r => decide ((46 :: r) <:+ host) | none => decide (p = [42]) || decide (p = host))
theorem named_cases {s : List UInt8} (h : named s = true) : (∃ a, parseL s = some a ∧ a.length = 16 ∧ s = printL a) ∨ (Nm s ∧ s.length ≤ 253) := by
  have h' : normalL s = (s, 0) := by simpa [named] using h
  cases came s with
  | addr a ha hp hn => rw [hn] at h'; exact .inl ⟨a, hp, ha, (congrArg Prod.fst h').symm⟩
  | name n hm hl hp hn => rw [hn] at h'; have : n = s := congrArg Prod.fst h'; subst this; exact .inr ⟨hm, hl⟩
  | bad e h0 hp hn => rw [hn] at h'; have : e = 0 := congrArg Prod.snd h'; omega
theorem named_nm {s : List UInt8} (h : Nm s) (hl : s.length ≤ 253) : named s = true := by simp [named, normal_nm h hl]
theorem named_ne {s : List UInt8} (h : named s = true) : s ≠ [] := by
  rcases named_cases h with ⟨a, hp, ha, rfl⟩ | ⟨hm, _⟩
  · exact print_ne ha
  · exact hm.ne
theorem cutP_some {p r : List UInt8} (h : cutP p = some r) : p = 42 :: 46 :: r := by
  unfold cutP at h
  split at h
  · rename_i hp
    cases h
    have := List.take_append_drop 2 p
    rw [hp] at this; exact this.symm
  · cases h
theorem cutP_mk (r : List UInt8) : cutP (42 :: 46 :: r) = some r := by simp [cutP]
/-- What stands behind the sign of a pattern, or all of it. -/
def restL (p : List UInt8) : List UInt8 := (cutP p).getD p
def wildL (p : List UInt8) : Bool := (cutP p).isSome
theorem wild_nm {p : List UInt8} (h : patL p = true) (hw : wildL p = true) : Nm (restL p) ∧ (restL p).length ≤ 253 ∧ p = 42 :: 46 :: restL p ∧ p ≠ [42] := by
  unfold wildL at hw
  cases hc : cutP p with
  | none => rw [hc] at hw; cases hw
  | some r =>
    have hp := cutP_some hc
    simp only [patL, hc, Bool.and_eq_true, Option.isNone_iff_eq_none] at h
    simp only [restL, hc, Option.getD_some]
    refine ⟨?_, ?_, hp, by rw [hp]; simp⟩
    · rcases named_cases h.1 with ⟨a, h1, _⟩ | ⟨h1, _⟩
      · rw [h1] at h; cases h.2
      · exact h1
    · rcases named_cases h.1 with ⟨a, h1, _⟩ | ⟨_, h1⟩
      · rw [h1] at h; cases h.2
      · exact h1
theorem flat_named {p : List UInt8} (h : patL p = true) (hw : wildL p = false) (hs : p ≠ [42]) : named p = true ∧ restL p = p := by
  unfold wildL at hw
  cases hc : cutP p with
  | some r => rw [hc] at hw; cases hw
  | none =>
    simp only [patL, hc, hs, decide_false, Bool.false_or] at h
    exact ⟨h, by simp [restL, hc]⟩
/-! ### Labels -/
theorem join_labels (l : List UInt8) : join (labelsL l).reverse [46] = l := by
  unfold labelsL
  split
  · simp [join]
  · rw [List.reverse_reverse]; exact join_splitB 46 l
theorem labels_inj {l m : List UInt8} (h : labelsL l = labelsL m) : l = m := by
  rw [← join_labels l, h, join_labels]
theorem labels_ne (l : List UInt8) : labelsL l ≠ [] := by
  unfold labelsL
  split
  · simp
  · simpa using splitB_ne 46 l
theorem join_app (c : UInt8) : ∀ {xs ys : List (List UInt8)}, xs ≠ [] → ys ≠ [] → join (xs ++ ys) [c] = join xs [c] ++ c :: join ys [c]
  | [], _, h, _ => absurd rfl h
  | [x], y :: ys, _, _ => by rw [List.singleton_append, join_two]; simp [join]
  | x :: x' :: xs, ys, _, hy => by
    rw [List.cons_append, List.cons_append, join_two, join_two, List.append_assoc, ← List.cons_append, join_app c (xs := x' :: xs) (by simp) hy]
    simp
theorem suffix_labels {r host : List UInt8} (hr : Nm r) : (46 :: r) <:+ host ↔ ∃ ps, ps ≠ [] ∧ labelsL host = labelsL r ++ ps := by
  constructor
  · rintro ⟨m, rfl⟩
    have hn : parseL (m ++ 46 :: r) = none := parseL_tail hr.nocol (other_isNum hr.last) m
    refine ⟨(splitB 46 m).reverse, by simpa using splitB_ne 46 m, ?_⟩
    rw [labels_name hr]
    simp only [labelsL, hn, splitB_append, List.reverse_append]
  · rintro ⟨ps, hne, h⟩
    refine ⟨join ps.reverse [46], ?_⟩
    have h1 := join_labels host
    rw [h, List.reverse_append, join_app 46 (by simpa using hne) (by simpa using labels_ne r), join_labels] at h1
    exact h1
theorem match_wild {p host : List UInt8} (h : patL p = true) (hw : wildL p = true) : matchL p host = true ↔ ∃ ps, ps ≠ [] ∧ labelsL host = labelsL (restL p) ++ ps := by
  rw [← suffix_labels (wild_nm h hw).1]
  unfold wildL at hw
  cases hc : cutP p with
  | none => rw [hc] at hw; cases hw
  | some r => simp [matchL, h, hc, restL]
theorem match_flat {p host : List UInt8} (h : patL p = true) (hw : wildL p = false) (hs : p ≠ [42]) : matchL p host = true ↔ labelsL host = labelsL (restL p) := by
  obtain ⟨_, hr⟩ := flat_named h hw hs
  unfold wildL at hw
  cases hc : cutP p with
  | some r => rw [hc] at hw; cases hw
  | none =>
    rw [hr]
    simp only [matchL, h, hc, hs, decide_false, Bool.false_or, Bool.true_and, decide_eq_true_eq]
    exact ⟨fun h => by rw [h], fun h => (labels_inj h).symm⟩
theorem pat_star : patL [42] = true := by simp [patL, cutP]
theorem match_star (host : List UInt8) : matchL [42] host = true := by simp [matchL, patL, cutP]
/-- The document's own reading of a pattern: 0: all, 1: wild, 2: a name, 3: none; and its name. -/
def cutL (p : List UInt8) : Nat × List UInt8 :=
  if p = [42] then (0, []) else if 2 < p.length ∧ p.take 2 = [42, 46] then (if (parseL (p.drop 2)).isSome = true ∨ named (p.drop 2) = false then (3, []) else (1, p.drop 2))
  else if named p = false then (3, []) else (2, p)
theorem named_two : named [42, 46] = false := by
  cases h : named [42, 46] with
  | false => rfl
  | true =>
    rcases named_cases h with ⟨a, h1, _⟩ | ⟨h1, _⟩
    · have : parseL [42, 46] = none := parseL_snoc [42]
      rw [this] at h1; cases h1
    · exact absurd rfl h1.nodot
theorem named_nil : named [] = false := by
  cases h : named [] with
  | false => rfl
  | true => exact absurd rfl (named_ne h)
theorem cut_cases (p : List UInt8) : (p = [42] ∧ cutL p = (0, [])) ∨ (p ≠ [42] ∧ patL p = false ∧ cutL p = (3, [])) ∨ (patL p = true ∧ wildL p = true ∧ cutL p = (1, restL p)) ∨ (p ≠ [42] ∧ patL p = true ∧ wildL p = false ∧ cutL p = (2, restL p)) := by
  by_cases h0 : p = [42]
  · subst h0; exact .inl ⟨rfl, rfl⟩
  · right
    by_cases h2 : p.take 2 = [42, 46]
    · have hc : cutP p = some (p.drop 2) := by simp [cutP, h2]
      by_cases h3 : 2 < p.length
      · by_cases h4 : (parseL (p.drop 2)).isSome = true ∨ named (p.drop 2) = false
        · left
          refine ⟨h0, ?_, by rw [cutL, if_neg h0, if_pos ⟨h3, h2⟩, if_pos h4]⟩
          simp only [patL, hc]
          rcases h4 with h4 | h4
          · cases hq : parseL (p.drop 2) <;> simp [hq] at h4 ⊢
          · simp [h4]
        · right; left
          simp only [not_or, Bool.not_eq_true, Option.isSome_eq_false_iff, Bool.not_eq_false] at h4
          refine ⟨by simp [patL, hc, h4.1, h4.2], by simp [wildL, hc], ?_⟩
          rw [cutL, if_neg h0, if_pos ⟨h3, h2⟩, if_neg]
          · simp [restL, hc]
          · rw [h4.2]; cases hq : parseL (p.drop 2) <;> simp [hq] at h4 ⊢
      · left
        have hp : p = [42, 46] := by
          have h5 := List.take_append_drop 2 p
          have h6 : p.drop 2 = [] := List.drop_eq_nil_of_le (by omega)
          rw [h2, h6] at h5; exact h5.symm
        subst hp
        refine ⟨h0, ?_, ?_⟩
        · simp [patL, hc, named_nil]
        · rw [cutL, if_neg h0, if_neg (by simp), if_pos named_two]
    · have hc : cutP p = none := by simp [cutP, h2]
      cases hn : named p with
      | false =>
        left
        refine ⟨h0, by simp [patL, hc, h0, hn], by rw [cutL, if_neg h0, if_neg (fun h => h2 h.2), if_pos hn]⟩
      | true =>
        right; right
        refine ⟨h0, by simp [patL, hc, hn], by simp [wildL, hc], by rw [cutL, if_neg h0, if_neg (fun h => h2 h.2), hn]; simp [restL, hc]⟩
/-- The document's matching. -/
def refMatch (p host : List UInt8) : Bool := match (cutL p).1 with
  | 0 => true
  | 1 => decide ((cutL p).2.length < host.length ∧ host.drop (host.length - (cutL p).2.length) = (cutL p).2 ∧ host.getD (host.length - (cutL p).2.length - 1) 0 = 46)
  | 2 => decide (host = (cutL p).2)
  | _ => false
theorem suffix_drop {r host : List UInt8} : (46 :: r) <:+ host ↔ (r.length < host.length ∧ host.drop (host.length - r.length) = r ∧ host.getD (host.length - r.length - 1) 0 = 46) := by
  constructor
  · rintro ⟨m, rfl⟩
    have e1 : (m ++ 46 :: r).length - r.length = m.length + 1 := by simp; omega
    refine ⟨by simp; omega, ?_, ?_⟩
    · rw [e1, show m ++ 46 :: r = (m ++ [46]) ++ r by simp]
      exact List.drop_left' (by simp)
    · rw [e1, Nat.add_sub_cancel, List.getD_eq_getElem?_getD, List.getElem?_append_right (Nat.le_refl _)]
      simp
  · rintro ⟨h1, h2, h3⟩
    refine ⟨host.take (host.length - r.length - 1), ?_⟩
    have h4 : host.length - r.length - 1 < host.length := by omega
    have h5 : host.drop (host.length - r.length - 1) = 46 :: r := by
      rw [List.drop_eq_getElem_cons h4, show host.length - r.length - 1 + 1 = host.length - r.length by omega, h2]
      congr 1
      rw [List.getD_eq_getElem?_getD, List.getElem?_eq_getElem h4] at h3
      exact h3
    rw [← h5]; exact List.take_append_drop _ _
theorem ref_match (p host : List UInt8) : refMatch p host = matchL p host := by
  rcases cut_cases p with ⟨rfl, h⟩ | ⟨_, h1, h⟩ | ⟨h1, h2, h⟩ | ⟨h0, h1, h2, h⟩
  · simp [refMatch, h, match_star]
  · simp [refMatch, h, matchL, h1]
  · have h3 : cutP p = some (restL p) := by
      unfold wildL at h2
      cases hc : cutP p with
      | none => rw [hc] at h2; cases h2
      | some r => simp [restL, hc]
    simp only [refMatch, h, matchL, h1, h3, Bool.true_and]
    rw [Bool.eq_iff_iff, decide_eq_true_eq, decide_eq_true_eq]
    exact suffix_drop.symm
  · have h3 : cutP p = none := by
      unfold wildL at h2
      cases hc : cutP p with
      | none => rfl
      | some r => rw [hc] at h2; cases h2
    have h4 : restL p = p := by simp [restL, h3]
    simp only [refMatch, h, matchL, h1, h3, Bool.true_and, h0, decide_false, Bool.false_or, h4]
    rw [Bool.eq_iff_iff, decide_eq_true_eq, decide_eq_true_eq]
    exact eq_comm
end Go.Tri

namespace Go.Tri
open Go.Lib Go.Asc Go.Adr Go.Nam

/-- A rule. -/
structure Ru where
  allow : Bool
  prio : Int
  pat : List UInt8
  port : Int
  alpn : List UInt8
instance : DecidableEq Ru := fun a b =>
  if h : a.allow = b.allow ∧ a.prio = b.prio ∧ a.pat = b.pat ∧ a.port = b.port ∧ a.alpn = b.alpn then isTrue (by
    obtain ⟨_, _, _, _, _⟩ := a; obtain ⟨_, _, _, _, _⟩ := b
    simp only at h
    obtain ⟨rfl, rfl, rfl, rfl, rfl⟩ := h; rfl)
  else isFalse (fun e => h (by rw [e]; exact ⟨rfl, rfl, rfl, rfl, rfl⟩))
def zeroR : Ru := ⟨false, 0, [], 0, []⟩
def visL (s : List UInt8) : Bool := s.all (fun b => decide (33 ≤ b.toNat) && decide (b.toNat ≤ 126)) && decide (s ≠ [])
def rightL (r : Ru) : Int :=
  if r.prio < -1000 ∨ 1000 < r.prio then 1 else if patL r.pat = false then 9 else if r.port < 0 ∨ 65535 < r.port then 10
  else if (r.alpn ≠ [] ∧ visL r.alpn = false) ∨ 255 < r.alpn.length then 1 else 0
def fitsL (r : Ru) (port : Int) (alpn : List (List UInt8)) : Bool := (decide (r.port = 0) || decide (r.port = port)) && (decide (r.alpn = []) || alpn.contains r.alpn)
def countsL (r : Ru) (host : List UInt8) (port : Int) (alpn : List (List UInt8)) : Bool := matchL r.pat host && fitsL r port alpn
def dull (r : Ru) : Ru := { r with allow := false }
def addL (rs : List Ru) (r : Ru) : List Ru × Int :=
  if rightL r ≠ 0 then (rs, rightL r) else if rs.length = 200 then (rs, 2) else if dull r ∈ rs.map dull then (rs, 7) else (rs ++ [r], 0)
theorem right_pat {r : Ru} (h : rightL r = 0) : patL r.pat = true := by
  unfold rightL at h
  split at h
  · cases h
  · split at h
    · cases h
    · rename_i hp; simpa using hp

/-! ### Which rules stand where -/
def idxF (rs : List Ru) (q : Ru → Bool) : List Nat := (List.range rs.length).filter fun i => q (rs.getD i zeroR)
theorem getD_snoc (rs : List Ru) (r : Ru) {i : Nat} (h : i < rs.length) : (rs ++ [r]).getD i zeroR = rs.getD i zeroR := by
  simp [List.getD_eq_getElem?_getD, List.getElem?_append_left h]
theorem getD_last (rs : List Ru) (r : Ru) : (rs ++ [r]).getD rs.length zeroR = r := by simp [List.getD_eq_getElem?_getD]
theorem idxF_snoc (rs : List Ru) (r : Ru) (q : Ru → Bool) : idxF (rs ++ [r]) q = idxF rs q ++ if q r then [rs.length] else [] := by
  simp only [idxF, List.length_append, List.length_cons, List.length_nil, Nat.zero_add, List.range_succ, List.filter_append]
  congr 1
  · refine List.filter_congr fun i hi => ?_
    rw [getD_snoc rs r (List.mem_range.1 hi)]
  · simp only [List.filter_cons, List.filter_nil, getD_last]
theorem mem_idxF {rs : List Ru} {q : Ru → Bool} {i : Nat} : i ∈ idxF rs q ↔ i < rs.length ∧ q (rs.getD i zeroR) = true := by simp [idxF]
theorem idxF_sorted (rs : List Ru) (q : Ru → Bool) : (idxF rs q).Pairwise (· < ·) := List.pairwise_lt_range.filter _
theorem idxF_len (rs : List Ru) (q : Ru → Bool) : (idxF rs q).length ≤ rs.length := by
  have := List.length_filter_le (fun i => q (rs.getD i zeroR)) (List.range rs.length)
  simpa [idxF] using this
def isAny (r : Ru) : Bool := decide (r.pat = [42])
def isEx (path : List (List UInt8)) (r : Ru) : Bool := !isAny r && !wildL r.pat && decide (labelsL (restL r.pat) = path)
def isLo (path : List (List UInt8)) (r : Ru) : Bool := !isAny r && wildL r.pat && decide (labelsL (restL r.pat) = path)
abbrev Fam := List (List UInt8) → List Nat × List Nat
def famOf (rs : List Ru) : Fam := fun path => (idxF rs (isEx path), idxF rs (isLo path))
def sub (f : Fam) (l : List UInt8) : Fam := fun p => f (l :: p)
def rowsG (f : Fam) : List (List UInt8) → List (List Nat)
  | [] => [(f []).1]
  | l :: r => (f []).2 :: rowsG (sub f l) r
/-- A rule's index laid down at a place. -/
def putF (f : Fam) (path : List (List UInt8)) (longer : Bool) (k : Nat) : Fam := fun p => if p = path then (if longer then ((f p).1, (f p).2 ++ [k]) else ((f p).1 ++ [k], (f p).2)) else f p
theorem sub_putF (f : Fam) (l : List UInt8) (r : List (List UInt8)) (longer : Bool) (k : Nat) : sub (putF f (l :: r) longer k) l = putF (sub f l) r longer k := by
  funext p; simp [sub, putF]
theorem sub_putF_ne (f : Fam) {l m : List UInt8} (h : m ≠ l) (r : List (List UInt8)) (longer : Bool) (k : Nat) : sub (putF f (l :: r) longer k) m = sub f m := by
  funext p; simp [sub, putF, h]
theorem famOf_snoc (rs : List Ru) (r : Ru) (h : r.pat ≠ [42]) : famOf (rs ++ [r]) = putF (famOf rs) (labelsL (restL r.pat)) (wildL r.pat) rs.length := by
  funext p
  simp only [famOf, idxF_snoc, putF]
  have h1 : isAny r = false := by simp [isAny, h]
  cases hw : wildL r.pat <;> by_cases hp : p = labelsL (restL r.pat)
  · simp [isEx, isLo, h1, hw, hp]
  · simp [isEx, isLo, h1, hw, hp]; exact fun h => hp h.symm
  · simp [isEx, isLo, h1, hw, hp]
  · simp [isEx, isLo, h1, hw, hp]; exact fun h => hp h.symm
theorem famOf_snoc_any (rs : List Ru) (r : Ru) (h : r.pat = [42]) : famOf (rs ++ [r]) = famOf rs := by
  funext p
  simp only [famOf, idxF_snoc]
  have h1 : isAny r = true := by simp [isAny, h]
  simp [isEx, isLo, h1]
def anyOf (rs : List Ru) : List Nat := idxF rs isAny
theorem anyOf_snoc (rs : List Ru) (r : Ru) (h : r.pat ≠ [42]) : anyOf (rs ++ [r]) = anyOf rs := by simp [anyOf, idxF_snoc, isAny, h]
theorem anyOf_snoc_any (rs : List Ru) (r : Ru) (h : r.pat = [42]) : anyOf (rs ++ [r]) = anyOf rs ++ [rs.length] := by simp [anyOf, idxF_snoc, isAny, h]

/-! ### The best one -/
section
variable (fits : Nat → Bool) (prio wt : Nat → Int)
def rowStep (at_ : Option Nat) (k : Nat) : Option Nat := if fits k && (match at_ with | none => true | some a => decide (prio a < prio k)) then some k else at_
def rowBest (row : List Nat) : Option Nat := row.foldl (rowStep fits prio) none
def bestStep (b : Option Nat) (row : List Nat) : Option Nat := match rowBest fits prio row with
  | none => b
  | some a => match b with
    | none => some a
    | some c => if prio c ≤ prio a then some a else some c
def bestOf (rows : List (List Nat)) : Option Nat := rows.foldl (bestStep fits prio) none
theorem bestOf_empty (rows : List (List Nat)) (b : Option Nat) : (rows.filter (· ≠ [])).foldl (bestStep fits prio) b = rows.foldl (bestStep fits prio) b := by
  induction rows generalizing b with
  | nil => rfl
  | cons r rows ih =>
    by_cases h : r = []
    · subst h; simp only [List.filter_cons, ne_eq, not_true, decide_false, List.foldl_cons]; rw [if_neg (by simp), ih]; rfl
    · simp [h]; rw [← ih]; simp
theorem bestOf_same {rows rows' : List (List Nat)} (h : rows.filter (· ≠ []) = rows'.filter (· ≠ [])) : bestOf fits prio rows = bestOf fits prio rows' := by
  unfold bestOf; rw [← bestOf_empty, h, bestOf_empty]
/-- The one that counts most among those of S. -/
def IsBest (S : Nat → Prop) : Option Nat → Prop
  | none => ∀ k, ¬ S k
  | some i => S i ∧ ∀ k, S k → prio k < prio i ∨ (prio k = prio i ∧ (wt k < wt i ∨ (wt k = wt i ∧ i ≤ k)))
variable {fits prio wt}
theorem IsBest.unique {S : Nat → Prop} {b c : Option Nat} (hb : IsBest prio wt S b) (hc : IsBest prio wt S c) : b = c := by
  cases b with
  | none => cases c with
    | none => rfl
    | some j => exact absurd hc.1 (hb j)
  | some i => cases c with
    | none => exact absurd hb.1 (hc i)
    | some j =>
      have h1 := hb.2 j hc.1
      have h2 := hc.2 i hb.1
      congr 1; omega
theorem IsBest.congr {S S' : Nat → Prop} {b : Option Nat} (h : ∀ k, S k ↔ S' k) (hb : IsBest prio wt S b) : IsBest prio wt S' b := by
  have : S = S' := funext fun k => propext (h k)
  rw [← this]; exact hb
theorem rowBest_is (row : List Nat) (hs : row.Pairwise (· < ·)) (hw : ∀ k ∈ row, ∀ m ∈ row, wt k = wt m) : IsBest prio wt (fun k => k ∈ row ∧ fits k = true) (rowBest fits prio row) := by
  have key : ∀ (pre rest : List Nat) (b : Option Nat), row = pre ++ rest → IsBest prio wt (fun k => k ∈ pre ∧ fits k = true) b → IsBest prio wt (fun k => k ∈ row ∧ fits k = true) (rest.foldl (rowStep fits prio) b) := by
    intro pre rest
    induction rest generalizing pre with
    | nil => intro b hr hb; simp at hr; subst hr; exact hb
    | cons x rest ih =>
      intro b hr hb
      rw [List.foldl_cons]
      refine ih (pre ++ [x]) _ (by simp [hr]) ?_
      have hlt : ∀ k ∈ pre, k < x := by
        intro k hk
        rw [hr] at hs
        exact (List.pairwise_append.1 hs).2.2 k hk x (by simp)
      have hww : ∀ k ∈ pre, wt k = wt x := fun k hk => hw k (by rw [hr]; simp [hk]) x (by rw [hr]; simp)
      unfold rowStep
      cases hf : fits x with
      | false =>
        simp only [Bool.false_and]
        refine hb.congr fun k => ?_
        constructor
        · rintro ⟨h1, h2⟩; exact ⟨by simp [h1], h2⟩
        · rintro ⟨h1, h2⟩
          rcases List.mem_append.1 h1 with h1 | h1
          · exact ⟨h1, h2⟩
          · simp at h1; subst h1; rw [hf] at h2; cases h2
      | true =>
        cases b with
        | none =>
          simp only [Bool.true_and, if_true]
          refine ⟨⟨by simp, hf⟩, fun k hk => ?_⟩
          rcases List.mem_append.1 hk.1 with h1 | h1
          · exact absurd ⟨h1, hk.2⟩ (hb k)
          · simp at h1; subst h1; omega
        | some a =>
          simp only [Bool.true_and, decide_eq_true_eq]
          obtain ⟨⟨ha, hfa⟩, hb2⟩ := hb
          have hax := hlt a ha
          have haw := hww a ha
          by_cases hp : prio a < prio x
          · rw [if_pos hp]
            refine ⟨⟨by simp, hf⟩, fun k hk => ?_⟩
            rcases List.mem_append.1 hk.1 with h1 | h1
            · have := hb2 k ⟨h1, hk.2⟩; omega
            · simp at h1; subst h1; omega
          · rw [if_neg hp]
            refine ⟨⟨by simp [ha], hfa⟩, fun k hk => ?_⟩
            rcases List.mem_append.1 hk.1 with h1 | h1
            · exact hb2 k ⟨h1, hk.2⟩
            · simp at h1; subst h1; omega
  exact key [] row none rfl (fun k hk => by simp at hk)
theorem bestStep_is {S : Nat → Prop} {b : Option Nat} {row : List Nat} (hb : IsBest prio wt S b) (hs : row.Pairwise (· < ·)) (hw : ∀ k ∈ row, ∀ m ∈ row, wt k = wt m) (hlt : ∀ k, S k → ∀ m ∈ row, wt k < wt m) :
    IsBest prio wt (fun k => S k ∨ (k ∈ row ∧ fits k = true)) (bestStep fits prio b row) := by
  have hr := rowBest_is (fits := fits) (prio := prio) (wt := wt) row hs hw
  unfold bestStep
  cases ha : rowBest fits prio row with
  | none =>
    rw [ha] at hr
    refine hb.congr fun k => ?_
    exact ⟨.inl, fun h => h.elim id (fun h => absurd h (hr k))⟩
  | some a =>
    rw [ha] at hr
    obtain ⟨⟨ha1, ha2⟩, ha3⟩ := hr
    cases b with
    | none =>
      refine ⟨.inr ⟨ha1, ha2⟩, fun k hk => ?_⟩
      rcases hk with hk | hk
      · exact absurd hk (hb k)
      · exact ha3 k hk
    | some c =>
      obtain ⟨hc1, hc2⟩ := hb
      have hca := hlt c hc1 a ha1
      simp only
      by_cases hp : prio c ≤ prio a
      · rw [if_pos hp]
        refine ⟨.inr ⟨ha1, ha2⟩, fun k hk => ?_⟩
        rcases hk with hk | hk
        · have h1 := hc2 k hk
          have h2 := hlt k hk a ha1
          omega
        · exact ha3 k hk
      · rw [if_neg hp]
        refine ⟨.inl hc1, fun k hk => ?_⟩
        rcases hk with hk | hk
        · exact hc2 k hk
        · have := ha3 k hk; omega
theorem bestOf_is : ∀ (rows : List (List Nat)) (S : Nat → Prop) (b : Option Nat), IsBest prio wt S b → (∀ row ∈ rows, row.Pairwise (· < ·)) → (∀ row ∈ rows, ∀ k ∈ row, ∀ m ∈ row, wt k = wt m) →
    rows.Pairwise (fun r r' => ∀ k ∈ r, ∀ m ∈ r', wt k < wt m) → (∀ k, S k → ∀ row ∈ rows, ∀ m ∈ row, wt k < wt m) →
    IsBest prio wt (fun k => S k ∨ ((∃ row ∈ rows, k ∈ row) ∧ fits k = true)) (rows.foldl (bestStep fits prio) b)
  | [], S, b, hb, _, _, _, _ => hb.congr fun k => by simp
  | row :: rows, S, b, hb, hs, hw, hp, hlt => by
    rw [List.foldl_cons]
    obtain ⟨hp1, hp2⟩ := List.pairwise_cons.1 hp
    have h1 := bestStep_is (fits := fits) hb (hs row (by simp)) (hw row (by simp)) (fun k hk m hm => hlt k hk row (by simp) m hm)
    have h2 := bestOf_is rows _ _ h1 (fun r hr => hs r (by simp [hr])) (fun r hr => hw r (by simp [hr])) hp2 (fun k hk r hr m hm => by
      rcases hk with hk | hk
      · exact hlt k hk r (by simp [hr]) m hm
      · exact hp1 r hr k hk.1 m hm)
    refine h2.congr fun k => ?_
    simp only [List.mem_cons, exists_eq_or_imp]
    constructor
    · rintro ((h | h) | h)
      · exact .inl h
      · exact .inr ⟨.inl h.1, h.2⟩
      · exact .inr ⟨.inr h.1, h.2⟩
    · rintro (h | ⟨h | h, h'⟩)
      · exact .inl (.inl h)
      · exact .inl (.inr ⟨h, h'⟩)
      · exact .inr ⟨h, h'⟩
/-- One behind the other, as the document looks. -/
def refStep (prio wt : Nat → Int) (counts : Nat → Bool) (b : Option Nat) (k : Nat) : Option Nat :=
  if counts k && (match b with | none => true | some a => decide (prio a < prio k) || (decide (prio a = prio k) && decide (wt a < wt k))) then some k else b
theorem refBest_is {counts : Nat → Bool} : ∀ n, IsBest prio wt (fun k => k < n ∧ counts k = true) ((List.range n).foldl (refStep prio wt counts) none)
  | 0 => fun k hk => by omega
  | n + 1 => by
    have ih := refBest_is (counts := counts) n
    rw [List.range_succ, List.foldl_append, List.foldl_cons, List.foldl_nil]
    generalize (List.range n).foldl (refStep prio wt counts) none = b at ih
    unfold refStep
    cases hc : counts n with
    | false =>
      simp only [Bool.false_and]
      refine ih.congr fun k => ?_
      constructor
      · rintro ⟨h1, h2⟩; exact ⟨by omega, h2⟩
      · rintro ⟨h1, h2⟩
        refine ⟨?_, h2⟩
        rcases Nat.lt_or_ge k n with h | h
        · exact h
        · obtain rfl : k = n := by omega
          rw [hc] at h2; cases h2
    | true =>
      cases b with
      | none =>
        refine ⟨⟨by omega, hc⟩, fun k hk => ?_⟩
        rcases Nat.lt_or_ge k n with h | h
        · exact absurd ⟨h, hk.2⟩ (ih k)
        · obtain rfl : k = n := by omega
          omega
      | some a =>
        obtain ⟨⟨h1, h2⟩, h3⟩ := ih
        simp only [Bool.true_and, Bool.or_eq_true, decide_eq_true_eq, Bool.and_eq_true]
        by_cases hp : prio a < prio n ∨ prio a = prio n ∧ wt a < wt n
        · rw [if_pos hp]
          refine ⟨⟨by omega, hc⟩, fun k hk => ?_⟩
          rcases Nat.lt_or_ge k n with h | h
          · have := h3 k ⟨h, hk.2⟩; omega
          · obtain rfl : k = n := by omega
            omega
        · rw [if_neg hp]
          refine ⟨⟨by omega, h2⟩, fun k hk => ?_⟩
          rcases Nat.lt_or_ge k n with h | h
          · exact h3 k ⟨h, hk.2⟩
          · obtain rfl : k = n := by omega
            omega
end

/-! ### The rows of a host -/
def wtOf (r : Ru) : Int := if r.pat = [42] then 0 else 2 * ((labelsL (restL r.pat)).length : Int) + (if wildL r.pat then 0 else 1)
theorem rowsG_mem (f : Fam) : ∀ (ls : List (List UInt8)) (k : Nat), (∃ row ∈ rowsG f ls, k ∈ row) ↔ k ∈ (f ls).1 ∨ ∃ d, d < ls.length ∧ k ∈ (f (ls.take d)).2
  | [], k => by simp [rowsG]
  | l :: r, k => by
    simp only [rowsG, List.mem_cons, exists_eq_or_imp, rowsG_mem (sub f l) r k, List.length_cons]
    constructor
    · rintro (h | h | ⟨d, h1, h2⟩)
      · exact .inr ⟨0, by omega, by simpa using h⟩
      · exact .inl h
      · exact .inr ⟨d + 1, by omega, h2⟩
    · rintro (h | ⟨d, h1, h2⟩)
      · exact .inr (.inl h)
      · cases d with
        | zero => exact .inl (by simpa using h2)
        | succ d => exact .inr (.inr ⟨d, by omega, h2⟩)
def famAt (f : Fam) (pre : List (List UInt8)) : Fam := fun p => f (pre ++ p)
theorem rowsG_rows (f : Fam) : ∀ (ls pre : List (List UInt8)) (row : List Nat), row ∈ rowsG (famAt f pre) ls → row = (f (pre ++ ls)).1 ∨ ∃ d, d < ls.length ∧ row = (f (pre ++ ls.take d)).2
  | [], pre, row, h => by simp [rowsG, famAt] at h; exact .inl (by simpa using h)
  | l :: r, pre, row, h => by
    simp only [rowsG, List.mem_cons] at h
    rcases h with h | h
    · exact .inr ⟨0, by simp, by simpa [famAt] using h⟩
    · have hs : sub (famAt f pre) l = famAt f (pre ++ [l]) := by funext p; simp [sub, famAt]
      rw [hs] at h
      rcases rowsG_rows f r (pre ++ [l]) row h with h | ⟨d, h1, h2⟩
      · exact .inl (by simpa using h)
      · exact .inr ⟨d + 1, by simp; omega, by simpa using h2⟩
theorem rowsG_pairs (f : Fam) (wt : Nat → Int) (h1 : ∀ p k, k ∈ (f p).1 → wt k = 2 * (p.length : Int) + 1) (h2 : ∀ p k, k ∈ (f p).2 → wt k = 2 * (p.length : Int)) :
    ∀ (ls pre : List (List UInt8)), (rowsG (famAt f pre) ls).Pairwise (fun r r' => ∀ k ∈ r, ∀ m ∈ r', wt k < wt m)
  | [], pre => by simp [rowsG]
  | l :: r, pre => by
    have hs : sub (famAt f pre) l = famAt f (pre ++ [l]) := by funext p; simp [sub, famAt]
    simp only [rowsG, hs]
    refine List.pairwise_cons.2 ⟨fun row hrow k hk m hm => ?_, rowsG_pairs f wt h1 h2 r (pre ++ [l])⟩
    have hk' := h2 _ k hk
    rcases rowsG_rows f r (pre ++ [l]) row hrow with h | ⟨d, _, h⟩
    · rw [h] at hm; have := h1 _ m hm; simp at this hk'; omega
    · rw [h] at hm; have := h2 _ m hm; simp at this hk'; omega
def rowsOf (rs : List Ru) (host : List UInt8) : List (List Nat) := anyOf rs :: (if host = [] then [] else rowsG (famOf rs) (labelsL host))
def pickL (rs : List Ru) (b : Option Nat) : Ru × Nat × Bool := match b with | none => (zeroR, 0, false) | some i => (rs.getD i zeroR, i, true)
def findB (rs : List Ru) (host : List UInt8) (port : Int) (alpn : List (List UInt8)) : Option Nat :=
  bestOf (fun i => fitsL (rs.getD i zeroR) port alpn) (fun i => (rs.getD i zeroR).prio) (rowsOf rs host)
def refB (rs : List Ru) (host : List UInt8) (port : Int) (alpn : List (List UInt8)) : Option Nat :=
  (List.range rs.length).foldl (refStep (fun i => (rs.getD i zeroR).prio) (fun i => wtOf (rs.getD i zeroR)) (fun i => countsL (rs.getD i zeroR) host port alpn)) none
def Fine (rs : List Ru) : Prop := ∀ r ∈ rs, patL r.pat = true
theorem fine_getD {rs : List Ru} (h : Fine rs) {i : Nat} (hi : i < rs.length) : patL (rs.getD i zeroR).pat = true := by
  rw [List.getD_eq_getElem?_getD, List.getElem?_eq_getElem hi]; exact h _ (List.getElem_mem hi)
theorem find_is {rs : List Ru} (hf : Fine rs) (host : List UInt8) (port : Int) (alpn : List (List UInt8)) :
    IsBest (fun i => (rs.getD i zeroR).prio) (fun i => wtOf (rs.getD i zeroR)) (fun k => k < rs.length ∧ countsL (rs.getD k zeroR) host port alpn = true) (findB rs host port alpn) := by
  have w0 : ∀ k, k ∈ anyOf rs → wtOf (rs.getD k zeroR) = 0 := fun k hk => by
    have := (mem_idxF.1 hk).2; simp only [isAny, decide_eq_true_eq] at this; rw [wtOf, if_pos this]
  have w1 : ∀ p k, k ∈ (famOf rs p).1 → wtOf (rs.getD k zeroR) = 2 * (p.length : Int) + 1 := fun p k hk => by
    have := (mem_idxF.1 hk).2
    simp only [isEx, isAny, Bool.and_eq_true, Bool.not_eq_true', decide_eq_false_iff_not, decide_eq_true_eq] at this
    rw [wtOf, if_neg this.1.1, this.1.2, this.2]; simp
  have w2 : ∀ p k, k ∈ (famOf rs p).2 → wtOf (rs.getD k zeroR) = 2 * (p.length : Int) := fun p k hk => by
    have := (mem_idxF.1 hk).2
    simp only [isLo, isAny, Bool.and_eq_true, Bool.not_eq_true', decide_eq_false_iff_not, decide_eq_true_eq] at this
    rw [wtOf, if_neg this.1.1, this.1.2, this.2]; simp
  have pos : ∀ p k, (k ∈ (famOf rs p).1 ∨ k ∈ (famOf rs p).2) → 0 < p.length := fun p k hk => by
    have : labelsL (restL (rs.getD k zeroR).pat) = p := by
      rcases hk with hk | hk
      · have := (mem_idxF.1 hk).2; simp only [isEx, Bool.and_eq_true, decide_eq_true_eq] at this; exact this.2
      · have := (mem_idxF.1 hk).2; simp only [isLo, Bool.and_eq_true, decide_eq_true_eq] at this; exact this.2
    rw [← this]; exact List.length_pos_iff.2 (labels_ne _)
  have e0 : famOf rs = famAt (famOf rs) [] := rfl
  have shape : ∀ row ∈ rowsOf rs host, row = anyOf rs ∨ ∃ p, row = (famOf rs p).1 ∨ row = (famOf rs p).2 := by
    intro row hrow
    simp only [rowsOf, List.mem_cons] at hrow
    rcases hrow with h | h
    · exact .inl h
    · split at h
      · cases h
      · rw [e0] at h
        rcases rowsG_rows _ _ _ _ h with h | ⟨d, _, h⟩
        · exact .inr ⟨_, .inl h⟩
        · exact .inr ⟨_, .inr h⟩
  have h := bestOf_is (fits := fun i => fitsL (rs.getD i zeroR) port alpn) (prio := fun i => (rs.getD i zeroR).prio) (wt := fun i => wtOf (rs.getD i zeroR)) (rowsOf rs host) (fun _ => False) none (fun k hk => hk)
    (fun row hrow => by
      rcases shape row hrow with h | ⟨p, h | h⟩
      · rw [h]; exact idxF_sorted _ _
      · rw [h]; exact idxF_sorted _ _
      · rw [h]; exact idxF_sorted _ _)
    (fun row hrow k hk m hm => by
      rcases shape row hrow with h | ⟨p, h | h⟩
      · rw [h] at hk hm; rw [w0 k hk, w0 m hm]
      · rw [h] at hk hm; rw [w1 p k hk, w1 p m hm]
      · rw [h] at hk hm; rw [w2 p k hk, w2 p m hm])
    (by
      simp only [rowsOf]
      refine List.pairwise_cons.2 ⟨fun row hrow k hk m hm => ?_, ?_⟩
      · rw [w0 k hk]
        split at hrow
        · cases hrow
        · rw [e0] at hrow
          rcases rowsG_rows _ _ _ _ hrow with h | ⟨d, _, h⟩
          · rw [h] at hm; have h3 := pos _ m (.inl hm); rw [w1 _ m hm]; omega
          · rw [h] at hm; have h3 := pos _ m (.inr hm); rw [w2 _ m hm]; omega
      · split
        · simp
        · rw [e0]; exact rowsG_pairs _ _ w1 w2 _ _)
    (fun k hk => hk.elim)
  refine h.congr fun k => ?_
  simp only [false_or, countsL, Bool.and_eq_true]
  have hm : (∃ row ∈ rowsOf rs host, k ∈ row) ↔ k < rs.length ∧ matchL (rs.getD k zeroR).pat host = true := by
    simp only [rowsOf, List.mem_cons, exists_eq_or_imp]
    constructor
    · rintro (h | ⟨row, hr, hk⟩)
      · obtain ⟨h1, h2⟩ := mem_idxF.1 h
        simp only [isAny, decide_eq_true_eq] at h2
        exact ⟨h1, by rw [h2]; exact match_star host⟩
      · split at hr
        · cases hr
        · rcases (rowsG_mem _ _ k).1 ⟨row, hr, hk⟩ with h | ⟨d, hd, h⟩
          · obtain ⟨h1, h2⟩ := mem_idxF.1 h
            simp only [isEx, isAny, Bool.and_eq_true, Bool.not_eq_true', decide_eq_false_iff_not, decide_eq_true_eq] at h2
            exact ⟨h1, (match_flat (fine_getD hf h1) h2.1.2 h2.1.1).2 h2.2.symm⟩
          · obtain ⟨h1, h2⟩ := mem_idxF.1 h
            simp only [isLo, isAny, Bool.and_eq_true, Bool.not_eq_true', decide_eq_false_iff_not, decide_eq_true_eq] at h2
            refine ⟨h1, (match_wild (fine_getD hf h1) h2.1.2).2 ⟨(labelsL host).drop d, fun h0 => ?_, ?_⟩⟩
            · have := List.drop_eq_nil_iff.1 h0; omega
            · rw [h2.2]; exact (List.take_append_drop _ _).symm
    · rintro ⟨h1, h2⟩
      have hp := fine_getD hf h1
      by_cases hs : (rs.getD k zeroR).pat = [42]
      · exact .inl (mem_idxF.2 ⟨h1, decide_eq_true hs⟩)
      · right
        cases hw : wildL (rs.getD k zeroR).pat with
        | true =>
          obtain ⟨ps, hne, hl⟩ := (match_wild hp hw).1 h2
          have hh : host ≠ [] := by
            rintro rfl
            have h3 : (labelsL []).length = 1 := by decide
            have h4 := congrArg List.length hl
            have h5 := List.length_pos_iff.2 (labels_ne (restL (rs.getD k zeroR).pat))
            have h6 := List.length_pos_iff.2 hne
            rw [h3, List.length_append] at h4; omega
          rw [if_neg hh]
          refine (rowsG_mem _ _ k).2 (.inr ⟨(labelsL (restL (rs.getD k zeroR).pat)).length, ?_, ?_⟩)
          · rw [hl, List.length_append]; have := List.length_pos_iff.2 hne; omega
          · rw [hl, List.take_left]; exact mem_idxF.2 ⟨h1, by rw [isLo, isAny, decide_eq_false hs, hw, decide_eq_true rfl]; rfl⟩
        | false =>
          have hl := (match_flat hp hw hs).1 h2
          have hh : host ≠ [] := by
            rintro rfl
            have := labels_inj hl
            obtain ⟨hn, hr⟩ := flat_named hp hw hs
            rw [hr] at this; exact named_ne hn this.symm
          rw [if_neg hh]
          exact (rowsG_mem _ _ k).2 (.inl (mem_idxF.2 ⟨h1, by rw [isEx, isAny, decide_eq_false hs, hw, decide_eq_true hl.symm]; rfl⟩))
  constructor
  · rintro ⟨h, hfit⟩
    obtain ⟨h1, h2⟩ := hm.1 h
    exact ⟨h1, h2, hfit⟩
  · rintro ⟨h1, h2, hfit⟩
    exact ⟨hm.2 ⟨h1, h2⟩, hfit⟩
/-- **What the labels find is what the document's look finds.** -/
theorem find_ref {rs : List Ru} (hf : Fine rs) (host : List UInt8) (port : Int) (alpn : List (List UInt8)) : findB rs host port alpn = refB rs host port alpn :=
  (find_is hf host port alpn).unique (refBest_is rs.length)
end Go.Tri

namespace Go.Tri
open Go.Lib Go.Asc Go.Adr Go.Nam

theorem wt_any {r : Ru} (h : r.pat = [42]) : wtOf r = 0 := by rw [wtOf, if_pos h]
theorem wt_wild {r : Ru} (h : r.pat ≠ [42]) (hw : wildL r.pat = true) : wtOf r = 2 * ((labelsL (restL r.pat)).length : Int) := by rw [wtOf, if_neg h, hw]; simp
theorem wt_flat {r : Ru} (h : r.pat ≠ [42]) (hw : wildL r.pat = false) : wtOf r = 2 * ((labelsL (restL r.pat)).length : Int) + 1 := by rw [wtOf, if_neg h, hw]; simp
theorem lab_pos (l : List UInt8) : 0 < (labelsL l).length := List.length_pos_iff.2 (labels_ne l)
theorem three (r : Ru) (hp : patL r.pat = true) : r.pat = [42] ∨ (r.pat ≠ [42] ∧ wildL r.pat = true) ∨ (r.pat ≠ [42] ∧ wildL r.pat = false) := by
  by_cases h : r.pat = [42]
  · exact .inl h
  · cases hw : wildL r.pat
    · exact .inr (.inr ⟨h, rfl⟩)
    · exact .inr (.inl ⟨h, rfl⟩)
theorem flat_host {r : Ru} {host : List UInt8} (hp : patL r.pat = true) (h : r.pat ≠ [42]) (hw : wildL r.pat = false) (hm : matchL r.pat host = true) : r.pat = host := by
  have h1 := (match_flat hp hw h).1 hm
  have h2 := (flat_named hp hw h).2
  rw [h2] at h1
  exact (labels_inj h1).symm
theorem same_pat {a b : Ru} {host : List UInt8} (ha : patL a.pat = true) (hb : patL b.pat = true) (ma : matchL a.pat host = true) (mb : matchL b.pat host = true) (hw : wtOf a = wtOf b) : a.pat = b.pat := by
  rcases three a ha with h1 | ⟨h1, w1⟩ | ⟨h1, w1⟩ <;> rcases three b hb with h2 | ⟨h2, w2⟩ | ⟨h2, w2⟩
  · rw [h1, h2]
  · rw [wt_any h1, wt_wild h2 w2] at hw; have := lab_pos (restL b.pat); omega
  · rw [wt_any h1, wt_flat h2 w2] at hw; omega
  · rw [wt_wild h1 w1, wt_any h2] at hw; have := lab_pos (restL a.pat); omega
  · rw [wt_wild h1 w1, wt_wild h2 w2] at hw
    obtain ⟨ps, _, e1⟩ := (match_wild ha w1).1 ma
    obtain ⟨qs, _, e2⟩ := (match_wild hb w2).1 mb
    rw [e1] at e2
    have h3 := (List.append_inj e2 (by omega)).1
    have h4 := labels_inj h3
    rw [(wild_nm ha w1).2.2.1, (wild_nm hb w2).2.2.1, h4]
  · rw [wt_wild h1 w1, wt_flat h2 w2] at hw; omega
  · rw [wt_flat h1 w1, wt_any h2] at hw; omega
  · rw [wt_flat h1 w1, wt_wild h2 w2] at hw; omega
  · rw [flat_host ha h1 w1 ma, flat_host hb h2 w2 mb]
theorem wild_len {r : Ru} {host : List UInt8} (hp : patL r.pat = true) (hw : wildL r.pat = true) (hm : matchL r.pat host = true) : r.pat.length ≤ host.length + 1 := by
  have h1 := (suffix_labels (wild_nm hp hw).1).2 ((match_wild hp hw).1 hm)
  have h2 := h1.length_le
  rw [(wild_nm hp hw).2.2.1]
  simp only [List.length_cons] at h2 ⊢
  omega
theorem len_pat {a b : Ru} {host : List UInt8} (ha : patL a.pat = true) (hb : patL b.pat = true) (ma : matchL a.pat host = true) (mb : matchL b.pat host = true) (hw : wtOf a ≤ wtOf b) : a.pat.length ≤ b.pat.length + 1 := by
  rcases three a ha with h1 | ⟨h1, w1⟩ | ⟨h1, w1⟩
  · rw [h1]; simp
  · rcases three b hb with h2 | ⟨h2, w2⟩ | ⟨h2, w2⟩
    · rw [wt_any h2, wt_wild h1 w1] at hw; have := lab_pos (restL a.pat); omega
    · rw [wt_wild h1 w1, wt_wild h2 w2] at hw
      obtain ⟨ps, _, e1⟩ := (match_wild ha w1).1 ma
      obtain ⟨qs, _, e2⟩ := (match_wild hb w2).1 mb
      have h3 : labelsL (restL a.pat) <+: labelsL (restL b.pat) := List.prefix_of_prefix_length_le ⟨ps, e1.symm⟩ ⟨qs, e2.symm⟩ (by omega)
      obtain ⟨t, ht⟩ := h3
      have h4 : (restL a.pat).length ≤ (restL b.pat).length := by
        have h5 := join_labels (restL b.pat)
        by_cases h0 : t = []
        · subst h0; rw [List.append_nil] at ht; rw [labels_inj ht]; exact Nat.le_refl _
        · rw [← ht, List.reverse_append, join_app 46 (by simpa using h0) (by simpa using labels_ne _), join_labels] at h5
          rw [← h5]; simp; omega
      rw [(wild_nm ha w1).2.2.1, (wild_nm hb w2).2.2.1]; simp; omega
    · rw [flat_host hb h2 w2 mb]; exact wild_len ha w1 ma
  · rw [flat_host ha h1 w1 ma]
    rcases three b hb with h2 | ⟨h2, w2⟩ | ⟨h2, w2⟩
    · rw [wt_any h2, wt_flat h1 w1] at hw; omega
    · rw [wt_flat h1 w1, wt_wild h2 w2] at hw
      obtain ⟨qs, hq, e2⟩ := (match_wild hb w2).1 mb
      have h3 := (match_flat ha w1 h1).1 ma
      rw [h3] at e2
      have h4 := congrArg List.length e2
      rw [List.length_append] at h4
      have := List.length_pos_iff.2 hq
      omega
    · rw [flat_host hb h2 w2 mb]; omega

/-! ### Rules added -/
theorem add_fine {rs : List Ru} (h : Fine rs) (r : Ru) : Fine (addL rs r).1 := by
  unfold addL
  split
  · exact h
  · rename_i h0
    split
    · exact h
    · split
      · exact h
      · intro x hx
        rcases List.mem_append.1 hx with hx | hx
        · exact h x hx
        · simp at hx; subst hx; exact right_pat (by simpa using h0)
theorem add_len {rs : List Ru} (h : rs.length ≤ 200) (r : Ru) : (addL rs r).1.length ≤ 200 := by
  unfold addL
  split
  · exact h
  · split
    · exact h
    · split
      · exact h
      · simp; omega
def addAll (rs : List Ru) (l : List Ru) : List Ru := l.foldl (fun rs r => (addL rs r).1) rs
theorem addAll_snoc (rs l : List Ru) (r : Ru) : addAll rs (l ++ [r]) = (addL (addAll rs l) r).1 := by simp [addAll]
theorem addAll_fine {rs : List Ru} (h : Fine rs) : ∀ l, Fine (addAll rs l) := by
  intro l
  induction l generalizing rs with
  | nil => exact h
  | cons r l ih => exact ih (add_fine h r)
theorem addAll_len {rs : List Ru} (h : rs.length ≤ 200) : ∀ l, (addAll rs l).length ≤ 200 := by
  intro l
  induction l generalizing rs with
  | nil => exact h
  | cons r l ih => exact ih (add_len h r)
theorem fine_nil : Fine [] := by intro r hr; cases hr
theorem find_lt {rs : List Ru} (hf : Fine rs) {host : List UInt8} {port : Int} {alpn : List (List UInt8)} {i : Nat} (h : findB rs host port alpn = some i) : i < rs.length ∧ countsL (rs.getD i zeroR) host port alpn = true := by
  have := find_is hf host port alpn
  rw [h] at this; exact this.1
theorem counts_match {r : Ru} {host : List UInt8} {port : Int} {alpn : List (List UInt8)} (h : countsL r host port alpn = true) : matchL r.pat host = true := by
  unfold countsL at h; rw [Bool.and_eq_true] at h; exact h.1
/-- **TrieFinds.** -/
theorem finds {rs : List Ru} (hf : Fine rs) (host : List UInt8) (port : Int) (alpn : List (List UInt8)) {k : Nat} (hk : k < rs.length) (hc : countsL (rs.getD k zeroR) host port alpn = true) :
    ∃ i, findB rs host port alpn = some i ∧ (rs.getD k zeroR).prio ≤ (rs.getD i zeroR).prio ∧ ((rs.getD k zeroR).prio = (rs.getD i zeroR).prio → (rs.getD k zeroR).pat.length ≤ (rs.getD i zeroR).pat.length + 1 ∧
      ((rs.getD k zeroR).pat = (rs.getD i zeroR).pat → i ≤ k)) := by
  have h := find_is hf host port alpn
  cases hb : findB rs host port alpn with
  | none => rw [hb] at h; exact absurd ⟨hk, hc⟩ (h k)
  | some i =>
    rw [hb] at h
    obtain ⟨⟨hi, hci⟩, h2⟩ := h
    have h3 := h2 k ⟨hk, hc⟩
    simp only at h3
    refine ⟨i, rfl, by omega, fun hp => ?_⟩
    have hw : wtOf (rs.getD k zeroR) ≤ wtOf (rs.getD i zeroR) := by omega
    refine ⟨len_pat (fine_getD hf hk) (fine_getD hf hi) (counts_match hc) (counts_match hci) hw, fun hpat => ?_⟩
    have hw2 : wtOf (rs.getD k zeroR) = wtOf (rs.getD i zeroR) := by unfold wtOf; rw [hpat]
    omega

/-! ### In which order -/
theorem addAll_filter : ∀ (l rs : List Ru), ((rs ++ l).map (·.pat)).Nodup → rs.length + l.length ≤ 200 → addAll rs l = rs ++ l.filter (fun r => decide (rightL r = 0))
  | [], rs, _, _ => by simp [addAll]
  | r :: l, rs, hn, hl => by
    simp only [List.length_cons] at hl
    have hnot : dull r ∉ rs.map dull := by
      intro hm
      obtain ⟨x, hx, he⟩ := List.mem_map.1 hm
      have hp : x.pat = r.pat := (congrArg Ru.pat he : (dull x).pat = (dull r).pat)
      simp only [List.map_append, List.map_cons] at hn
      exact (List.nodup_append.1 hn).2.2 x.pat (List.mem_map.2 ⟨x, hx, rfl⟩) r.pat (by simp) hp
    have h1 : addAll rs (r :: l) = addAll (addL rs r).1 l := rfl
    rw [h1]
    by_cases h0 : rightL r = 0
    · have h2 : (addL rs r).1 = rs ++ [r] := by rw [addL, if_neg (by simp [h0]), if_neg (by omega), if_neg hnot]
      rw [h2, addAll_filter l (rs ++ [r]) (by simpa using hn) (by simp; omega)]
      simp [h0]
    · have h2 : (addL rs r).1 = rs := by rw [addL, if_pos h0]
      rw [h2, addAll_filter l rs (hn.sublist (by simp)) (by omega)]
      simp [h0]
theorem getD_mem {rs : List Ru} {i : Nat} (h : i < rs.length) : rs.getD i zeroR ∈ rs := by
  rw [List.getD_eq_getElem?_getD, List.getElem?_eq_getElem h]; exact List.getElem_mem h
theorem mem_getD {rs : List Ru} {r : Ru} (h : r ∈ rs) : ∃ i, i < rs.length ∧ rs.getD i zeroR = r := by
  obtain ⟨i, hi, he⟩ := List.getElem_of_mem h
  exact ⟨i, hi, by rw [List.getD_eq_getElem?_getD, List.getElem?_eq_getElem hi]; exact he⟩
/-- The same rules, each pattern once, in whatever order: the same is found. -/
theorem order {rs rs' : List Ru} (hf : Fine rs) (hm : ∀ r, r ∈ rs ↔ r ∈ rs') (hn : (rs.map (·.pat)).Nodup) (host : List UInt8) (port : Int) (alpn : List (List UInt8)) :
    (pickL rs (findB rs host port alpn)).1 = (pickL rs' (findB rs' host port alpn)).1 ∧ (pickL rs (findB rs host port alpn)).2.2 = (pickL rs' (findB rs' host port alpn)).2.2 := by
  have hf' : Fine rs' := fun r hr => hf r ((hm r).2 hr)
  have h := find_is hf host port alpn
  have h' := find_is hf' host port alpn
  cases hb : findB rs host port alpn with
  | none =>
    cases hb' : findB rs' host port alpn with
    | none => exact ⟨rfl, rfl⟩
    | some j =>
      rw [hb] at h; rw [hb'] at h'
      obtain ⟨i, hi, he⟩ := mem_getD ((hm _).2 (getD_mem h'.1.1))
      exact absurd ⟨hi, by rw [he]; exact h'.1.2⟩ (h i)
  | some i =>
    rw [hb] at h
    cases hb' : findB rs' host port alpn with
    | none =>
      rw [hb'] at h'
      obtain ⟨j, hj, he⟩ := mem_getD ((hm _).1 (getD_mem h.1.1))
      exact absurd ⟨hj, by rw [he]; exact h.1.2⟩ (h' j)
    | some j =>
      rw [hb'] at h'
      refine ⟨?_, rfl⟩
      obtain ⟨i', hi', he'⟩ := mem_getD ((hm _).2 (getD_mem h'.1.1))
      obtain ⟨j', hj', hej⟩ := mem_getD ((hm _).1 (getD_mem h.1.1))
      have h1 := h.2 i' ⟨hi', by rw [he']; exact h'.1.2⟩
      have h2 := h'.2 j' ⟨hj', by rw [hej]; exact h.1.2⟩
      simp only [he'] at h1
      simp only [hej] at h2
      have hw : wtOf (rs.getD i zeroR) = wtOf (rs'.getD j zeroR) := by omega
      have hp := same_pat (fine_getD hf h.1.1) (fine_getD hf' h'.1.1) (counts_match h.1.2) (counts_match h'.1.2) hw
      show rs.getD i zeroR = rs'.getD j zeroR
      rw [← he'] at hp ⊢
      have hii : i = i' := by
        have e1 : (rs.map (·.pat))[i]? = (rs.map (·.pat))[i']? := by
          rw [List.getD_eq_getElem?_getD, List.getD_eq_getElem?_getD, List.getElem?_eq_getElem h.1.1, List.getElem?_eq_getElem hi'] at hp
          rw [List.getElem?_map, List.getElem?_map, List.getElem?_eq_getElem h.1.1, List.getElem?_eq_getElem hi']
          exact congrArg some hp
        exact (List.getElem?_inj (by simpa using h.1.1) hn).1 e1
      rw [hii]

/-! ### A rule for all -/
theorem addAll_all : ∀ (l rs : List Ru) (r : Ru), (∀ x ∈ l, x.pat ≠ [42]) → r.pat = [42] → rs.length + l.length ≤ 150 → addAll (r :: rs) l = r :: addAll rs l
  | [], rs, r, _, _, _ => rfl
  | x :: l, rs, r, hx, hr, hl => by
    simp only [List.length_cons] at hl
    have hne : dull x ≠ dull r := fun h => hx x (by simp) (by have h9 : (dull x).pat = (dull r).pat := congrArg Ru.pat h; exact Eq.trans h9 hr)
    have h1 : (addL (r :: rs) x).1 = r :: (addL rs x).1 ∧ (addL rs x).1.length ≤ rs.length + 1 := by
      unfold addL
      by_cases h0 : rightL x = 0
      · rw [if_neg (show ¬ rightL x ≠ 0 by simp [h0]), if_neg (show ¬ (r :: rs).length = 200 by simp; omega), if_neg (show ¬ rightL x ≠ 0 by simp [h0]), if_neg (show ¬ rs.length = 200 by omega)]
        by_cases h2 : dull x ∈ rs.map dull
        · rw [if_pos (by rw [List.map_cons]; exact List.mem_cons_of_mem _ h2), if_pos h2]; exact ⟨rfl, by simp⟩
        · rw [if_neg (by rw [List.map_cons, List.mem_cons]; exact fun h => h.elim hne h2), if_neg h2]; exact ⟨rfl, by simp⟩
      · rw [if_pos h0, if_pos h0]; exact ⟨rfl, by simp⟩
    show addAll (addL (r :: rs) x).1 l = r :: addAll (addL rs x).1 l
    rw [h1.1]
    exact addAll_all l (addL rs x).1 r (fun y hy => hx y (by simp [hy])) hr (by have := h1.2; omega)
theorem addL_star {r : Ru} (hp : r.pat = [42]) (h1 : -1000 ≤ r.prio) (h2 : r.prio ≤ 1000) (h3 : r.port = 0) (h4 : r.alpn = []) : addL [] r = ([r], 0) := by
  have : rightL r = 0 := by
    unfold rightL
    rw [if_neg (by omega), hp, pat_star, if_neg (by simp), h3, if_neg (by omega), h4, if_neg (by simp)]
  rw [addL, if_neg (by simp [this]), if_neg (by simp), if_neg (by simp)]; rfl
theorem addAll_nostar : ∀ (l rs : List Ru), (∀ x ∈ l, x.pat ≠ [42]) → (∀ x ∈ rs, x.pat ≠ [42]) → ∀ x ∈ addAll rs l, x.pat ≠ [42]
  | [], _, _, h => h
  | y :: l, rs, hl, h => by
    refine addAll_nostar l (addL rs y).1 (fun x hx => hl x (by simp [hx])) ?_
    unfold addL
    split
    · exact h
    · split
      · exact h
      · split
        · exact h
        · intro x hx
          rcases List.mem_append.1 hx with hx | hx
          · exact h x hx
          · simp at hx; subst hx; exact hl _ (by simp)
theorem all_find {rs : List Ru} (hf : Fine rs) (hs : ∀ x ∈ rs, x.pat ≠ [42]) {r : Ru} (hp : r.pat = [42]) (h3 : r.port = 0) (h4 : r.alpn = []) (host : List UInt8) (port : Int) (alpn : List (List UInt8)) :
    findB (r :: rs) host port alpn = match findB rs host port alpn with | some i => if r.prio ≤ (rs.getD i zeroR).prio then some (i + 1) else some 0 | none => some 0 := by
  have hfu : Fine (r :: rs) := fun x hx => by
    rcases List.mem_cons.1 hx with rfl | hx
    · rw [hp]; exact pat_star
    · exact hf x hx
  have hc0 : countsL r host port alpn = true := by
    unfold countsL fitsL; rw [hp, match_star, h3, h4]; simp
  have h0 : ∀ k, (r :: rs).getD (k + 1) zeroR = rs.getD k zeroR := fun k => by simp [List.getD_eq_getElem?_getD]
  have hz : (r :: rs).getD 0 zeroR = r := by simp
  have hw0 : wtOf r = 0 := wt_any hp
  have hwp : ∀ k, k < rs.length → 0 < wtOf (rs.getD k zeroR) := fun k hk => by
    have h5 := hs _ (getD_mem hk)
    have := lab_pos (restL (rs.getD k zeroR).pat)
    unfold wtOf
    rw [if_neg h5]; split <;> omega
  refine (find_is hfu host port alpn).unique ?_
  have h := find_is hf host port alpn
  cases hb : findB rs host port alpn with
  | none =>
    rw [hb] at h
    refine ⟨⟨by simp, by rw [hz]; exact hc0⟩, fun k hk => ?_⟩
    cases k with
    | zero => omega
    | succ k => exact absurd ⟨by simpa using hk.1, by rw [← h0]; exact hk.2⟩ (h k)
  | some i =>
    rw [hb] at h
    obtain ⟨⟨hi, hci⟩, h2⟩ := h
    simp only
    by_cases hpr : r.prio ≤ (rs.getD i zeroR).prio
    · rw [if_pos hpr]
      refine ⟨⟨by simpa using hi, by rw [h0]; exact hci⟩, fun k hk => ?_⟩
      cases k with
      | zero => simp only [hz, h0]; have := hwp i hi; omega
      | succ k =>
        simp only [h0]
        have h9 := h2 k ⟨by simpa using hk.1, by rw [← h0]; exact hk.2⟩
        simp only at h9
        omega
    · rw [if_neg hpr]
      refine ⟨⟨by simp, by rw [hz]; exact hc0⟩, fun k hk => ?_⟩
      cases k with
      | zero => omega
      | succ k =>
        simp only [h0, hz]
        have h9 := h2 k ⟨by simpa using hk.1, by rw [← h0]; exact hk.2⟩
        simp only at h9
        omega

/-! ### Patterns of names -/
theorem match_name {x y : List UInt8} (hx : Nm x) (hl : x.length ≤ 253) : matchL x y = decide (x = y) := by
  have hn := named_nm hx hl
  have hc : cutP x = none := by
    cases hc : cutP x with
    | none => rfl
    | some r =>
      have hxx := cutP_some hc
      have hb : (42 : UInt8) ∈ x := by rw [hxx]; simp
      exfalso
      rcases mem_splitB (c := 46) hb with h1 | ⟨z, hz, h1⟩
      · cases h1
      · have h2 := (badL_ne (any_bad hx.fine z hz)).2.2 42 h1
        revert h2; decide
  have hs : x ≠ [42] := by
    rintro rfl
    have h2 := (badL_ne (any_bad hx.fine [42] (by decide))).2.2 42 (by simp)
    revert h2; decide
  simp [matchL, patL, hc, hn, hs]
theorem pat_name {x : List UInt8} (hx : Nm x) (hl : x.length ≤ 253) : patL x = true := by
  have h := match_name (y := x) hx hl
  unfold matchL at h
  simp only [decide_true] at h
  rw [Bool.and_eq_true] at h; exact h.1
theorem pat_wild {x : List UInt8} (hx : Nm x) (hl : x.length ≤ 253) : patL (42 :: 46 :: x) = true := by
  simp [patL, cutP_mk, named_nm hx hl, hx.parse]
theorem match_wildn {x y : List UInt8} (hx : Nm x) (hl : x.length ≤ 253) : matchL (42 :: 46 :: x) y = decide ((46 :: x) <:+ y) := by
  simp only [matchL, pat_wild hx hl, cutP_mk, Bool.true_and]
theorem not_suffix_self (x : List UInt8) : ¬ (46 :: x) <:+ x := fun h => by have := h.length_le; simp at this; omega
end Go.Tri

namespace Go.Tri
open Go.Lib Go.Asc Go.Adr Go.Nam
def q0 : Ru := ⟨false, 0, [42], 0, []⟩
def q1 : Ru := ⟨true, 0, [42, 46, 97, 46, 98], 0, []⟩
def q2 : Ru := ⟨false, 0, [42, 46, 97, 46, 98], 0, []⟩
def q3 : Ru := ⟨false, 0, [120, 46, 97, 46, 98], 80, [104, 50]⟩
def q4 : Ru := ⟨false, 0, [65, 46, 98], 0, []⟩
theorem s0 : addL [] q0 = ([q0], 0) := by decide +kernel
theorem s1 : addL [q0] q1 = ([q0, q1], 0) := by decide +kernel
theorem s2 : addL [q0, q1] q2 = ([q0, q1], 7) := by decide +kernel
theorem s3 : addL [q0, q1] q3 = ([q0, q1, q3], 0) := by decide +kernel
theorem s4 : addL [q0, q1, q3] q4 = ([q0, q1, q3], 9) := by decide +kernel
theorem g0 : pickL [q0, q1, q3] (findB [q0, q1, q3] [120, 46, 97, 46, 98] 443 []) = (q1, 1, true) := by decide +kernel
theorem g1 : pickL [q0, q1, q3] (findB [q0, q1, q3] [97, 46, 98] 443 []) = (q0, 0, true) := by decide +kernel
theorem g2 : pickL [q0, q1, q3] (findB [q0, q1, q3] [120, 46, 97, 46, 98] 80 [[120], [104, 50]]) = (q3, 2, true) := by decide +kernel
theorem m0 : matchL [42, 46, 97] [98, 46, 97] = true := by decide +kernel
theorem m1 : matchL [42, 46, 97] [97] = false := by decide +kernel
theorem m2 : matchL [42] [] = true := match_star []
theorem r0 : rightL ⟨false, 0, [97], 65536, []⟩ = 10 := by decide +kernel
theorem r1 : rightL ⟨false, 0, [42, 46, 49, 46, 50, 46, 51, 46, 52], 0, []⟩ = 9 := by decide +kernel
end Go.Tri
