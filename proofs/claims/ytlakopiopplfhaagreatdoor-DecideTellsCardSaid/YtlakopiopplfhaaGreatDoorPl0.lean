/-
  PLAIN WORDS: numbers, hex, texts between signs, addresses, names: no program in sight.
-/
import Derived.Lib.IndexMore
import Derived.Lib.Join
import Derived.Lib.ItoaNum
import Derived.Lib.Bytealg
namespace Go.Asc
open Go.Lib
/-- A byte's small letter. -/
def lowB (c : UInt8) : UInt8 := if 65 ≤ c.toNat ∧ c.toNat ≤ 90 then c + 32 else c
theorem lowB_up {c : UInt8} (h : 65 ≤ c.toNat ∧ c.toNat ≤ 90) : (lowB c).toNat = c.toNat + 32 := by
  rw [lowB, if_pos h, UInt8.toNat_add]
  have : (32 : UInt8).toNat = 32 := rfl
  omega
theorem lowB_no {c : UInt8} (h : ¬ (65 ≤ c.toNat ∧ c.toNat ≤ 90)) : lowB c = c := if_neg h
def isDig (c : Nat) : Bool := decide (48 ≤ c) && decide (c ≤ 57)
/-- The number of digits. -/
def numOf (l : List UInt8) : Nat := l.foldl (fun n b => 10 * n + (b.toNat - 48)) 0
theorem numOf_snoc (l : List UInt8) (b : UInt8) : numOf (l ++ [b]) = 10 * numOf l + (b.toNat - 48) := by simp [numOf]
theorem numOf_lt (l : List UInt8) (h : ∀ b ∈ l, isDig b.toNat = true) : numOf l < 10 ^ l.length := by
  generalize hn : l.length = n
  induction n generalizing l with
  | zero => rw [List.eq_nil_of_length_eq_zero hn]; simp [numOf]
  | succ n ih =>
    obtain ⟨l, b, rfl⟩ : ∃ l' b, l = l' ++ [b] := ⟨l.dropLast, l.getLast (by intro h; simp [h] at hn), (List.dropLast_concat_getLast _).symm⟩
    have h1 := ih l (fun x hx => h x (by simp [hx])) (by simpa using hn)
    have h2 := h b (by simp)
    simp only [isDig, Bool.and_eq_true, decide_eq_true_eq] at h2
    rw [numOf_snoc, Nat.pow_succ]
    omega
theorem dig_bounds {c : Nat} : isDig c = true ↔ 48 ≤ c ∧ c ≤ 57 := by simp [isDig]
/-- The number of a text, if it is one of at most so many. -/
def number (l : List UInt8) (most : Int) : Option Nat :=
  if l ≠ [] ∧ l.all (fun b => isDig b.toNat) = true ∧ l.length ≤ 18 ∧ ¬ (1 < l.length ∧ l.head? = some 48) ∧ (numOf l : Int) ≤ most then some (numOf l) else none
def splitB (c : UInt8) : List UInt8 → List (List UInt8)
  | [] => [[]]
  | b :: l => if b = c then [] :: splitB c l else match splitB c l with
    | [] => [[b]]
    | x :: xs => (b :: x) :: xs
theorem splitB_ne (c : UInt8) (l : List UInt8) : splitB c l ≠ [] := by
  cases l with
  | nil => simp [splitB]
  | cons b l =>
    simp only [splitB]
    split
    · simp
    · split <;> simp
theorem splitB_length (c : UInt8) (l : List UInt8) : (splitB c l).length = l.count c + 1 := by
  induction l with
  | nil => simp [splitB]
  | cons b l ih =>
    simp only [splitB]
    by_cases h : b = c
    · subst h; simp [ih]
    · rw [if_neg h, List.count_cons, if_neg (by simpa using h)]
      split
      · rename_i hx; exact absurd hx (splitB_ne c l)
      · rename_i hx; rw [hx] at ih; simpa using ih
theorem index_none {c : UInt8} {l : List UInt8} (h : indexByte l c < 0) : splitB c l = [l] ∧ l.count c = 0 := by
  induction l with
  | nil => simp [splitB]
  | cons b l ih =>
    unfold indexByte at h
    have hge := indexByte_ge l c
    by_cases hb : b = c
    · subst hb; simp at h
    · simp only [beq_iff_eq, hb, if_false] at h
      by_cases h1 : indexByte l c = -1
      · obtain ⟨h2, h3⟩ := ih (by omega)
        exact ⟨by simp [splitB, hb, h2], by rw [List.count_cons, h3]; simp [hb]⟩
      · rw [if_neg h1] at h; omega
theorem index_some {c : UInt8} {l : List UInt8} {m : Nat} (h : indexByte l c = (m : Int)) : m < l.length ∧ splitB c l = l.take m :: splitB c (l.drop (m + 1)) := by
  induction l generalizing m with
  | nil => simp [indexByte] at h
  | cons b l ih =>
    unfold indexByte at h
    have hge := indexByte_ge l c
    by_cases hb : b = c
    · subst hb
      simp at h
      obtain rfl : m = 0 := by omega
      simp [splitB]
    · simp only [beq_iff_eq, hb, if_false] at h
      by_cases h1 : indexByte l c = -1
      · rw [if_pos h1] at h; omega
      · rw [if_neg h1] at h
        obtain ⟨k, rfl⟩ : ∃ k, m = k + 1 := ⟨m - 1, by omega⟩
        obtain ⟨h2, h3⟩ := ih (m := k) (by omega)
        exact ⟨by simpa using h2, by simp [splitB, hb, h3]⟩
theorem splitB_zero {c : UInt8} {l : List UInt8} (h : l.count c = 0) : splitB c l = [l] := by
  induction l with
  | nil => rfl
  | cons b l ih =>
    rw [List.count_cons] at h
    have hb : ¬ b = c := by rintro rfl; simp at h
    simp [splitB, hb, ih (by omega)]
def hexs : List UInt8 := [48, 49, 50, 51, 52, 53, 54, 55, 56, 57, 97, 98, 99, 100, 101, 102]
def hx (c : UInt8) : Int := indexByte hexs (lowB c)
theorem hx_lt (c : UInt8) : -1 ≤ hx c ∧ hx c ≤ 15 := by
  have h1 := indexByte_ge hexs (lowB c)
  refine ⟨h1, ?_⟩
  rcases Int.lt_or_le (hx c) 0 with h | h
  · omega
  · obtain ⟨m, hm⟩ : ∃ m : Nat, hx c = (m : Int) := ⟨(hx c).toNat, by omega⟩
    have := (index_some hm).1
    have h2 : hexs.length = 16 := rfl
    omega
def hexOf (l : List UInt8) : Nat := l.foldl (fun n b => 16 * n + (hx b).toNat) 0
theorem hexOf_snoc (l : List UInt8) (b : UInt8) : hexOf (l ++ [b]) = 16 * hexOf l + (hx b).toNat := by simp [hexOf]
theorem hexOf_lt (l : List UInt8) : hexOf l < 16 ^ l.length := by
  generalize hn : l.length = n
  induction n generalizing l with
  | zero => rw [List.eq_nil_of_length_eq_zero hn]; simp [hexOf]
  | succ n ih =>
    obtain ⟨l, b, rfl⟩ : ∃ l' b, l = l' ++ [b] := ⟨l.dropLast, l.getLast (by intro h; simp [h] at hn), (List.dropLast_concat_getLast _).symm⟩
    have h1 := ih l (by simpa using hn)
    have h2 := hx_lt b
    rw [hexOf_snoc, Nat.pow_succ]
    omega
def isHex (c : UInt8) : Bool := decide (0 ≤ hx c)
def hexR (l : List UInt8) : Option Nat := if l ≠ [] ∧ l.all isHex = true ∧ l.length ≤ 4 then some (hexOf l) else none
theorem byte_all {p : UInt8 → Prop} (h : ∀ n < 256, p (UInt8.ofNat n)) (c : UInt8) : p c := by
  have := h c.toNat c.toNat_lt
  rwa [UInt8.ofNat_toNat] at this
theorem hx_high (c : UInt8) : 128 ≤ c.toNat → hx c < 0 := byte_all (p := fun c => 128 ≤ c.toNat → hx c < 0) (by decide +kernel) c
theorem lowB_small (c : UInt8) : c.toNat < 128 → (lowB c).toNat < 128 := byte_all (p := fun c => c.toNat < 128 → (lowB c).toNat < 128) (by decide +kernel) c
end Go.Asc
namespace Go.Adr
open Go.Lib Go.Asc
def numB (x : List UInt8) : UInt8 := UInt8.ofNat ((number x 255).getD 0)
def isNum (x : List UInt8) : Bool := (number x 255).isSome
/-- The four bytes of a dotted text. -/
def dot (l : List UInt8) : Option (List UInt8) := if (splitB 46 l).length = 4 ∧ (splitB 46 l).all isNum = true then some ((splitB 46 l).map numB) else none
theorem splitB_le (c : UInt8) (l : List UInt8) : ∀ x ∈ splitB c l, x.length ≤ l.length := by
  induction l with
  | nil => simp [splitB]
  | cons b l ih =>
    intro x hx
    simp only [splitB] at hx
    split at hx
    · rcases List.mem_cons.1 hx with rfl | hx
      · simp
      · have := ih x hx; simp; omega
    · split at hx
      · rename_i h0; exact absurd h0 (splitB_ne c l)
      · rename_i y ys h0
        rcases List.mem_cons.1 hx with rfl | hx
        · have := ih y (by rw [h0]; simp); simp; omega
        · have := ih x (by rw [h0]; simp [hx]); simp; omega
theorem number_le {x : List UInt8} {n : Nat} (h : number x 255 = some n) : n ≤ 255 ∧ numB x = UInt8.ofNat n ∧ (numB x).toNat = n := by
  have h1 : n ≤ 255 := by
    unfold number at h
    split at h
    · rename_i hc; cases h; omega
    · cases h
  refine ⟨h1, by simp [numB, h], ?_⟩
  rw [numB, h, Option.getD_some, UInt8.toNat_ofNat']
  omega
def two (n : Nat) : List UInt8 := [UInt8.ofNat (n / 256), UInt8.ofNat (n % 256)]
/-- The bytes of groups; a dotted text may be the last one, if it may. -/
def grp (may : Bool) : List (List UInt8) → Option (List UInt8)
  | [] => some []
  | x :: xs => match hexR x with
    | some n => (grp may xs).map (two n ++ ·)
    | none => match dot x with
      | some d => if may = true ∧ xs = [] then some d else none
      | none => none
def readL (may : Bool) (l : List UInt8) : Option (List UInt8) := if l = [] then some [] else grp may (splitB 58 l)
theorem hexR_lt {x : List UInt8} {n : Nat} (h : hexR x = some n) : n < 65536 := by
  unfold hexR at h
  split at h
  · rename_i hc
    cases h
    have := hexOf_lt x
    have h2 : 16 ^ x.length ≤ 16 ^ 4 := Nat.pow_le_pow_right (by omega) hc.2.2
    omega
  · cases h
theorem grp_some {may : Bool} {x : List UInt8} {xs : List (List UInt8)} {n : Nat} (h : hexR x = some n) : grp may (x :: xs) = (grp may xs).map (two n ++ ·) := by simp [grp, h]
theorem grp_dot {may : Bool} {x d : List UInt8} {xs : List (List UInt8)} (h : hexR x = none) (hd : dot x = some d) (hm : may = true) (hx : xs = []) : grp may (x :: xs) = some d := by simp [grp, h, hd, hm, hx]
theorem grp_bad {may : Bool} {x : List UInt8} {xs : List (List UInt8)} (h : hexR x = none) (hd : ¬ ((dot x).isSome = true ∧ may = true ∧ xs = [])) : grp may (x :: xs) = none := by
  simp only [grp, h]
  cases hx : dot x with
  | none => rfl
  | some d => rw [hx] at hd; simp only [Option.isSome_some, true_and] at hd; simp only [if_neg hd]
/-- What stands ahead of four bytes. -/
def aheadL : List UInt8 := [0, 0, 0, 0, 0, 0, 0, 0, 0, 0, 255, 255]
def zero16 : List UInt8 := List.replicate 16 0
/-- The address of a text. -/
def parseL (l : List UInt8) : Option (List UInt8) :=
  match dot l with
  | some d => some (aheadL ++ d)
  | none => if (cut l [58, 58]).2.2 = false then
      match readL true l with
      | some b => if b.length = 16 then some b else none
      | none => none
    else match readL false (cut l [58, 58]).1, readL true (cut l [58, 58]).2.1 with
      | some x, some y => if x.length + y.length ≤ 14 then some (x ++ List.replicate (16 - x.length - y.length) 0 ++ y) else none
      | _, _ => none
theorem cut_le (l sep : List UInt8) : (cut l sep).1.length ≤ l.length ∧ (cut l sep).2.1.length ≤ l.length := by
  unfold cut
  split
  · simp only [List.length_take, List.length_drop]; omega
  · simp
theorem dot_len {l d : List UInt8} (h : dot l = some d) : d.length = 4 := by
  unfold dot at h
  split at h
  · rename_i hc; cases h; simpa using hc.1
  · cases h
theorem grp_len (may : Bool) : ∀ (ps : List (List UInt8)) (q : List UInt8), grp may ps = some q → q.length ≤ 4 * ps.length
  | [], q, h => by simp [grp] at h; subst h; simp
  | x :: xs, q, h => by
    simp only [grp] at h
    split at h
    · cases hg : grp may xs with
      | none => rw [hg] at h; simp at h
      | some z =>
        rw [hg] at h
        simp only [Option.map_some, Option.some.injEq] at h
        subst h
        have := grp_len may xs z hg
        simp only [List.length_append, List.length_cons]
        show 2 + _ ≤ _
        omega
    · split at h
      · rename_i d hd
        split at h
        · cases h
          have := dot_len hd
          simp only [List.length_cons]; omega
        · cases h
      · cases h
theorem readL_len {may : Bool} {l q : List UInt8} (h : readL may l = some q) : q.length ≤ 4 * (l.length + 1) := by
  unfold readL at h
  split at h
  · cases h; simp
  · have := grp_len may _ q h
    rw [splitB_length] at this
    have h2 := List.count_le_length (a := (58 : UInt8)) (l := l)
    omega
theorem parseL_len {l d : List UInt8} (h : parseL l = some d) : d.length = 16 := by
  unfold parseL at h
  split at h
  · rename_i q hq
    cases h
    rw [List.length_append, dot_len hq]; rfl
  · split at h
    · split at h
      · split at h
        · rename_i h16; cases h; exact h16
        · cases h
      · cases h
    · split at h
      · split at h
        · rename_i hs
          cases h
          simp only [List.length_append, List.length_replicate]
          omega
        · cases h
      · cases h
def digs : List UInt8 := [48, 49, 50, 51, 52, 53, 54, 55, 56, 57, 97, 98, 99, 100, 101, 102, 103, 104, 105, 106, 107, 108, 109, 110, 111, 112, 113, 114, 115, 116, 117, 118, 119, 120, 121, 122]
def hexC (d : Nat) : UInt8 := digs.getD d 0
/-- A number in base 16. -/
def hexL (n : Nat) : List UInt8 := if n < 16 then [hexC n] else hexL (n / 16) ++ [hexC (n % 16)]
termination_by n
decreasing_by omega
theorem hexL_big {n : Nat} (h : 16 ≤ n) : hexL n = hexL (n / 16) ++ [hexC (n % 16)] := by rw [hexL, if_neg (by omega)]
theorem hexL_small {n : Nat} (h : n < 16) : hexL n = [hexC n] := by rw [hexL, if_pos h]
def textL (l : List Nat) : List UInt8 := join (l.map hexL) [58]
theorem hexL_len (n : Nat) (hn : n < 65536) : (hexL n).length ≤ 4 := by
  have h1 : ∀ m, m < 16 → (hexL m).length = 1 := fun m h => by rw [hexL_small h]; rfl
  have step : ∀ k m, (∀ x, x < 16 ^ k → (hexL x).length ≤ k) → 0 < k → m < 16 ^ (k + 1) → (hexL m).length ≤ k + 1 := fun k m ih hk hm => by
    rcases Nat.lt_or_ge m 16 with h | h
    · rw [h1 m h]; omega
    · rw [hexL_big h, List.length_append, List.length_singleton]
      have := ih (m / 16) (by rw [Nat.pow_succ] at hm; omega)
      omega
  have s1 : ∀ x, x < 16 ^ 1 → (hexL x).length ≤ 1 := fun x hx => by rw [h1 x (by simpa using hx)]; exact Nat.le_refl _
  have s2 : ∀ x, x < 16 ^ 2 → (hexL x).length ≤ 2 := fun x hx => step 1 x s1 (by omega) hx
  have s3 : ∀ x, x < 16 ^ 3 → (hexL x).length ≤ 3 := fun x hx => step 2 x s2 (by omega) hx
  exact step 3 n s3 (by omega) (by simpa using hn)
theorem join_len (sep : List UInt8) (m : Nat) : ∀ (xs : List (List UInt8)), (∀ x ∈ xs, x.length ≤ m) → (join xs sep).length ≤ xs.length * (m + sep.length)
  | [], _ => by simp [join_nil]
  | x :: xs, h => by
    rw [join_cons]
    have hx := h x (by simp)
    have : (joinTail sep xs).length ≤ xs.length * (m + sep.length) := by
      unfold joinTail
      induction xs with
      | nil => simp
      | cons y ys ih =>
        have hy := h y (by simp)
        have := ih (fun z hz => h z (by rcases List.mem_cons.1 hz with rfl | hz <;> simp [*]))
        simp only [List.map_cons, List.flatten_cons, List.length_append, List.length_cons, Nat.add_mul, Nat.one_mul] at this ⊢
        omega
    simp only [List.length_append, List.length_cons, Nat.add_mul, Nat.one_mul]
    omega
def zlead : List Nat → Nat
  | [] => 0
  | x :: xs => if x = 0 then zlead xs + 1 else 0
def rowStep (l : List Nat) (p : Nat × Nat) (k : Nat) : Nat × Nat := if zlead (l.drop k) > p.2 then (k, zlead (l.drop k)) else p
/-- The longest row of groups 0: from where, and how many. -/
def rowL (l : List Nat) : Nat × Nat := (List.range l.length).foldl (rowStep l) (8, 1)
theorem zlead_eq (l : List Nat) (e : Nat) (he : e ≤ l.length) (hend : ∀ h : e < l.length, l[e] ≠ 0) : ∀ d k, k + d = e → (∀ i (h : i < l.length), k ≤ i → i < e → l[i] = 0) → zlead (l.drop k) = d
  | 0, k, hk, _ => by
    have hk' : k = e := by omega
    subst hk'
    rcases Nat.lt_or_ge k l.length with h | h
    · rw [List.drop_eq_getElem_cons h, zlead, if_neg (hend h)]
    · rw [List.drop_of_length_le h]; rfl
  | d + 1, k, hk, hz => by
    have hlt : k < l.length := by omega
    rw [List.drop_eq_getElem_cons hlt, zlead, if_pos (hz k hlt (Nat.le_refl _) (by omega)), zlead_eq l e he hend d (k + 1) (by omega) (fun i h h1 h2 => hz i h (by omega) h2)]
/-- The groups of sixteen bytes. -/
def groupsL (a : List UInt8) : List Nat := (List.range 8).map fun k => (a.getD (2 * k) 0).toNat * 256 + (a.getD (2 * k + 1) 0).toNat
/-- An address as a text. -/
def printL (a : List UInt8) : List UInt8 :=
  if a.take 12 = aheadL then join ((a.drop 12).map fun b => itoa (b.toNat : Int)) [46]
  else if (rowL (groupsL a)).1 = 8 then textL (groupsL a)
  else textL ((groupsL a).take (rowL (groupsL a)).1) ++ [58, 58] ++ textL ((groupsL a).drop ((rowL (groupsL a)).1 + (rowL (groupsL a)).2))
theorem itoa_len (n : Nat) (h : n < 256) : (itoa (n : Int)).length ≤ 3 := by
  rw [itoa, if_neg (Int.not_lt.2 (Int.natCast_nonneg _)), Int.toNat_natCast, decDigits_length]
  rcases Nat.lt_or_ge n 10 with h1 | h1
  · rw [nDigits_small h1]; omega
  · rcases Nat.lt_or_ge n 100 with h2 | h2
    · rw [nDigits_unique 1 n (by simpa using h1) (by simpa using h2)]; omega
    · rw [nDigits_unique 2 n (by omega) (by omega)]; omega
theorem zlead_le : ∀ l : List Nat, zlead l ≤ l.length
  | [] => Nat.le_refl _
  | x :: xs => by
    have := zlead_le xs
    simp only [zlead, List.length_cons]
    split <;> omega
theorem rowL_bound (l : List Nat) (h8 : l.length = 8) : (rowL l).1 = 8 ∨ ((rowL l).1 < 8 ∧ (rowL l).1 + (rowL l).2 ≤ 8) := by
  have key : ∀ m, m ≤ 8 → ((List.range m).foldl (rowStep l) (8, 1)).1 = 8 ∨ (((List.range m).foldl (rowStep l) (8, 1)).1 < 8 ∧ ((List.range m).foldl (rowStep l) (8, 1)).1 + ((List.range m).foldl (rowStep l) (8, 1)).2 ≤ 8) := by
    intro m
    induction m with
    | zero => intro _; left; rfl
    | succ m ih =>
      intro hm
      have ih := ih (by omega)
      rw [List.range_succ, List.foldl_append, List.foldl_cons, List.foldl_nil]
      generalize (List.range m).foldl (rowStep l) (8, 1) = p at ih ⊢
      have hz := zlead_le (l.drop m)
      rw [List.length_drop, h8] at hz
      unfold rowStep
      split
      · right; dsimp only; omega
      · exact ih
  have := key 8 (Nat.le_refl _)
  rwa [rowL, h8]
end Go.Adr
namespace Go.Nam
open Go.Lib Go.Asc Go.Adr
def otherP (c : Nat) : Bool := decide (c < 48) || decide (57 < c)
def fineC (c : Nat) : Bool := decide (97 ≤ c ∧ c ≤ 122) || decide (65 ≤ c ∧ c ≤ 90) || decide (c = 45) || decide (c = 95)
def strangeP (c : Nat) : Bool := !fineC c && otherP c
theorem otherP_high (c : Nat) (h : 128 ≤ c) : otherP c = true := by simp [otherP]; omega
theorem strangeP_high (c : Nat) (h : 128 ≤ c) : strangeP c = true := by
  have h1 : fineC c = false := by simp [fineC]; omega
  rw [strangeP, h1, otherP_high c h]; rfl
/-- A text without the sign behind. -/
def trimL (c : UInt8) (l : List UInt8) : List UInt8 := if l.getLast? = some c then l.dropLast else l
def badL (x : List UInt8) : Bool := decide (x = []) || decide (63 < x.length) || x.any (fun b => strangeP b.toNat) || decide (x.head? = some 45) || decide (x.getLast? = some 45)
/-- The one form of a name, and the error. -/
def normalL (s : List UInt8) : List UInt8 × Nat :=
  match parseL s with
  | some a => (printL a, 0)
  | none =>
    if trimL 46 (s.map lowB) = [] then ([], 8)
    else if 253 < (trimL 46 (s.map lowB)).length then ([], 6)
    else if (splitB 46 (trimL 46 (s.map lowB))).any badL = true ∨ ((splitB 46 (trimL 46 (s.map lowB))).getLast?.getD []).any (fun b => otherP b.toNat) = false then ([], 9)
    else (trimL 46 (s.map lowB), 0)
theorem trimL_le (c : UInt8) (l : List UInt8) : (trimL c l).length ≤ l.length := by
  unfold trimL
  split
  · rw [List.length_dropLast]; omega
  · omega
/-- A name's labels. -/
def labelsL (s : List UInt8) : List (List UInt8) := match parseL s with
  | some _ => [s]
  | none => (splitB 46 s).reverse
theorem turn_set (ps : List (List UInt8)) (k : Nat) (hk : k < ps.length) : (List.replicate (ps.length - k) [] ++ (ps.take k).reverse).set (ps.length - 1 - k) ps[k] = List.replicate (ps.length - (k + 1)) [] ++ (ps.take (k + 1)).reverse := by
  rw [show ps.length - k = (ps.length - (k + 1)) + 1 by omega, List.replicate_succ', List.append_assoc, List.set_append_right _ _ (by simp; omega), List.take_succ_eq_append_getElem hk, List.reverse_append]
  simp only [List.length_replicate, show ps.length - 1 - k - (ps.length - (k + 1)) = 0 by omega]
  simp
end Go.Nam
