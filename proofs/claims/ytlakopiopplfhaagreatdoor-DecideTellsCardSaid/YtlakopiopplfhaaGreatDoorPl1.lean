/-
  PLAIN LAWS: texts between signs, small letters, reading what was printed: no program in sight.
-/
import Derived.Test.YtlakopiopplfhaaGreatDoorPl0
namespace Go.Asc
open Go.Lib

/-! ### Texts between signs -/
theorem splitB_nosep {c : UInt8} {l : List UInt8} (h : c ∉ l) : splitB c l = [l] := splitB_zero (List.count_eq_zero.2 h)
theorem splitB_sep (c : UInt8) (y : List UInt8) : splitB c (c :: y) = [] :: splitB c y := by simp [splitB]
theorem splitB_other {c b : UInt8} (h : b ≠ c) (l : List UInt8) : ∃ x xs, splitB c l = x :: xs ∧ splitB c (b :: l) = (b :: x) :: xs := by
  cases hs : splitB c l with
  | nil => exact absurd hs (splitB_ne c l)
  | cons x xs => exact ⟨x, xs, rfl, by simp [splitB, h, hs]⟩
theorem splitB_append (c : UInt8) (y : List UInt8) : ∀ x : List UInt8, splitB c (x ++ c :: y) = splitB c x ++ splitB c y
  | [] => by rw [List.nil_append, splitB_sep]; rfl
  | b :: x => by
    by_cases h : b = c
    · subst h
      rw [List.cons_append, splitB_sep, splitB_sep, splitB_append b y x, List.cons_append]
    · obtain ⟨p, ps, h1, h2⟩ := splitB_other h x
      obtain ⟨q, qs, h3, h4⟩ := splitB_other h (x ++ c :: y)
      rw [splitB_append c y x, h1, List.cons_append] at h3
      cases h3
      rw [List.cons_append, h4, h2, List.cons_append]
theorem join_two (x y : List UInt8) (r : List (List UInt8)) (c : UInt8) : join (x :: y :: r) [c] = x ++ c :: join (y :: r) [c] := by
  rw [join_cons, join_cons]; simp [joinTail]
theorem splitB_join {c : UInt8} : ∀ {xs : List (List UInt8)}, xs ≠ [] → (∀ x ∈ xs, c ∉ x) → splitB c (join xs [c]) = xs
  | [], h, _ => absurd rfl h
  | [x], _, h => by rw [join_one, splitB_nosep (h x (by simp))]
  | x :: y :: r, _, h => by
    rw [join_two, splitB_append, splitB_nosep (h x (by simp)), splitB_join (by simp) (fun z hz => h z (by simp [hz]))]; rfl
theorem join_splitB (c : UInt8) : ∀ l : List UInt8, join (splitB c l) [c] = l
  | [] => by simp [splitB, join_one]
  | b :: l => by
    by_cases h : b = c
    · subst h
      rw [splitB_sep]
      cases hs : splitB b l with
      | nil => exact absurd hs (splitB_ne b l)
      | cons x xs => rw [join_two, ← hs, join_splitB b l]; rfl
    · obtain ⟨x, xs, h1, h2⟩ := splitB_other h l
      have := join_splitB c l
      rw [h1, join_cons] at this
      rw [h2, join_cons, List.cons_append, this]
theorem mem_splitB {c b : UInt8} : ∀ {l : List UInt8}, b ∈ l → b = c ∨ ∃ x ∈ splitB c l, b ∈ x
  | [], h => by simp at h
  | a :: l, h => by
    by_cases ha : a = c
    · subst ha
      rw [splitB_sep]
      rcases List.mem_cons.1 h with rfl | h
      · exact .inl rfl
      · rcases mem_splitB (c := a) h with rfl | ⟨x, hx, hb⟩
        · exact .inl rfl
        · exact .inr ⟨x, List.mem_cons_of_mem _ hx, hb⟩
    · obtain ⟨p, ps, h1, h2⟩ := splitB_other ha l
      rw [h2]
      rcases List.mem_cons.1 h with rfl | h
      · exact .inr ⟨b :: p, by simp, by simp⟩
      · rcases mem_splitB (c := c) h with rfl | ⟨x, hx, hb⟩
        · exact .inl rfl
        · rw [h1] at hx
          rcases List.mem_cons.1 hx with rfl | hx
          · exact .inr ⟨a :: x, by simp, by simp [hb]⟩
          · exact .inr ⟨x, by simp [hx], hb⟩
theorem splitB_snoc {c b : UInt8} (h : b ≠ c) (l : List UInt8) : splitB c (l ++ [b]) = (splitB c l).dropLast ++ [(splitB c l).getLast?.getD [] ++ [b]] := by
  induction l with
  | nil => simp [splitB, h]
  | cons a l ih =>
    by_cases ha : a = c
    · subst ha
      rw [List.cons_append, splitB_sep, splitB_sep, ih]
      cases hs : splitB a l with
      | nil => exact absurd hs (splitB_ne a l)
      | cons x xs => simp [List.dropLast, List.getLast?_cons_cons]
    · obtain ⟨p, ps, h1, h2⟩ := splitB_other ha l
      obtain ⟨q, qs, h3, h4⟩ := splitB_other ha (l ++ [b])
      rw [List.cons_append, h4, h2]
      rw [ih, h1] at h3
      cases ps with
      | nil => simp at h3 ⊢; obtain ⟨rfl, rfl⟩ := h3; simp
      | cons r rs =>
        simp [List.dropLast, List.getLast?_cons_cons] at h3 ⊢
        obtain ⟨rfl, rfl⟩ := h3
        simp

/-! ### Small letters -/
theorem lowB_idem (c : UInt8) : lowB (lowB c) = lowB c := byte_all (p := fun c => lowB (lowB c) = lowB c) (by decide +kernel) c
theorem map_lowB_idem (l : List UInt8) : (l.map lowB).map lowB = l.map lowB := by simp [lowB_idem]
end Go.Asc
namespace Go.Adr
open Go.Lib Go.Asc

/-! ### Addresses read -/
/-- What stands ahead of the first two colons, and behind them. -/
def cutDD : List UInt8 → Option (List UInt8 × List UInt8)
  | [] => none
  | b :: l => if b = 58 ∧ l.head? = some 58 then some ([], l.drop 1) else (cutDD l).map fun p => (b :: p.1, p.2)
theorem index_dd : ∀ l : List UInt8, (cutDD l = none ∧ index l [58, 58] = -1) ∨ (∃ x y, cutDD l = some (x, y) ∧ l = x ++ 58 :: 58 :: y ∧ index l [58, 58] = (x.length : Int))
  | [] => .inl ⟨rfl, rfl⟩
  | b :: l => by
    have hp : List.isPrefixOf [58, 58] (b :: l) = decide (b = 58 ∧ l.head? = some 58) := by
      cases l with
      | nil => simp [List.isPrefixOf]
      | cons a l =>
        simp only [List.isPrefixOf, Bool.and_true, List.head?_cons, Option.some.injEq]
        rw [Bool.eq_iff_iff]
        simp only [Bool.and_eq_true, beq_iff_eq, decide_eq_true_eq]
        constructor <;> rintro ⟨h1, h2⟩ <;> exact ⟨h1.symm, h2.symm⟩
    by_cases h : b = 58 ∧ l.head? = some 58
    · right
      obtain ⟨rfl, h2⟩ := h
      cases l with
      | nil => simp at h2
      | cons a l =>
        simp only [List.head?_cons, Option.some.injEq] at h2
        subst h2
        refine ⟨[], l, by simp [cutDD], rfl, ?_⟩
        unfold index
        rw [hp]; simp
    · have hp' : List.isPrefixOf [58, 58] (b :: l) = false := by rw [hp]; simpa using h
      rcases index_dd l with ⟨h1, h2⟩ | ⟨x, y, h1, h2, h3⟩
      · left
        refine ⟨by simp only [cutDD, if_neg h, h1]; rfl, ?_⟩
        unfold index
        rw [hp', h2]; rfl
      · right
        refine ⟨b :: x, y, by simp only [cutDD, if_neg h, h1]; rfl, by rw [h2]; rfl, ?_⟩
        unfold index
        rw [hp', h3]
        have : ((x.length : Int) == -1) = false := by rw [beq_eq_false_iff_ne]; omega
        simp [this]
theorem cut_dd (l : List UInt8) : cut l [58, 58] = match cutDD l with | some p => (p.1, p.2, true) | none => (l, [], false) := by
  unfold cut
  rcases index_dd l with ⟨h1, h2⟩ | ⟨x, y, h1, h2, h3⟩
  · rw [h1, h2]; rfl
  · rw [h1, h3, if_pos (by omega)]
    simp only [Int.toNat_natCast, List.length_cons, List.length_nil]
    rw [h2]
    simp [List.drop_append]
/-- addr.Parse, by what stands around two colons. -/
theorem parseL_dd (l : List UInt8) : parseL l = match dot l with
    | some d => some (aheadL ++ d)
    | none => match cutDD l with
      | none => match readL true l with
        | some b => if b.length = 16 then some b else none
        | none => none
      | some p => match readL false p.1, readL true p.2 with
        | some x, some y => if x.length + y.length ≤ 14 then some (x ++ List.replicate (16 - x.length - y.length) 0 ++ y) else none
        | _, _ => none := by
  unfold parseL
  rw [cut_dd]
  cases dot l with
  | some d => rfl
  | none =>
    cases cutDD l with
    | none => rfl
    | some p => simp only [Bool.true_eq_false, if_false]; rfl
theorem cutDD_none {l : List UInt8} (h : 58 ∉ l) : cutDD l = none := by
  induction l with
  | nil => rfl
  | cons b l ih =>
    simp only [List.mem_cons, not_or] at h
    simp only [cutDD]
    rw [if_neg (fun e => h.1 e.1.symm), ih h.2]; rfl
theorem hexR_none {x : List UInt8} {b : UInt8} (hb : b ∈ x) (h : isHex b = false) : hexR x = none := by
  unfold hexR
  rw [if_neg]
  rintro ⟨_, h2, _⟩
  rw [List.all_eq_true] at h2
  rw [h2 b hb] at h; cases h
theorem dot_none {l x : List UInt8} (hx : x ∈ splitB 46 l) (h : isNum x = false) : dot l = none := by
  unfold dot
  rw [if_neg]
  rintro ⟨_, h2⟩
  rw [List.all_eq_true] at h2
  rw [h2 x hx] at h; cases h
theorem isNum_dig {x : List UInt8} (h : isNum x = true) : x ≠ [] ∧ ∀ b ∈ x, isDig b.toNat = true := by
  unfold isNum number at h
  split at h
  · rename_i hc
    exact ⟨hc.1, List.all_eq_true.1 hc.2.1⟩
  · cases h
/-- No address: without colons, and with a last part that is no number. -/
theorem parseL_none {l x : List UInt8} (hc : 58 ∉ l) (hx : x ∈ splitB 46 l) (h : isNum x = false) : parseL l = none := by
  rw [parseL_dd, dot_none hx h, cutDD_none hc]
  simp only
  by_cases h0 : l = []
  · subst h0; simp [readL]
  · rw [readL, if_neg h0, splitB_nosep hc]
    cases hh : hexR l with
    | some n => rw [grp_some hh]; simp [grp, two]
    | none => simp [grp, hh, dot_none hx h]
theorem grp_last_none {may : Bool} {z : List UInt8} (h1 : hexR z = none) (h2 : dot z = none) : ∀ ps : List (List UInt8), grp may (ps ++ [z]) = none
  | [] => by simp [grp, h1, h2]
  | x :: ps => by
    simp only [List.cons_append, grp, grp_last_none h1 h2 ps]
    cases hexR x with
    | some n => rfl
    | none =>
      cases dot x with
      | some d => simp
      | none => rfl
theorem cutDD_snoc : ∀ m : List UInt8, cutDD (m ++ [46]) = (cutDD m).map fun p => (p.1, p.2 ++ [46])
  | [] => by decide
  | b :: l => by
    have h : (b = 58 ∧ (l ++ [46]).head? = some 58) ↔ (b = 58 ∧ l.head? = some 58) := by
      cases l with
      | nil => simp
      | cons a l => simp
    simp only [List.cons_append, cutDD, h, cutDD_snoc l]
    split
    · rename_i hc
      cases l with
      | nil => simp at hc
      | cons a l => simp
    · cases cutDD l <;> simp
theorem dot_snoc (m : List UInt8) : dot (m ++ [46]) = none := by
  refine dot_none (x := []) ?_ (by decide)
  rw [show m ++ [46] = m ++ 46 :: [] from rfl, splitB_append]
  simp [splitB]
theorem readL_snoc (may : Bool) (m : List UInt8) : readL may (m ++ [46]) = none := by
  rw [readL, if_neg (by simp), splitB_snoc (by decide)]
  refine grp_last_none (hexR_none (b := 46) (by simp) (by decide)) (dot_snoc _) _
theorem parseL_snoc (m : List UInt8) : parseL (m ++ [46]) = none := by
  rw [parseL_dd, dot_snoc, cutDD_snoc, readL_snoc]
  cases cutDD m with
  | none => rfl
  | some p =>
    simp only [Option.map_some, readL_snoc]
    cases readL false p.1 <;> rfl
end Go.Adr
