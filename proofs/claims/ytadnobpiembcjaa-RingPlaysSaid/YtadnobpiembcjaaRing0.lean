/-
  PLAIN FACTS ON A ROUND QUEUE: what lies in a row of cells from a place on, round its end.
-/
import Derived.Test.YtadnobpiembcjaaOwnE
namespace Go.Ring

/-- The row 'cells' of 'room' bytes holds the queue q, from 'from' on. -/
structure Holds (room : Nat) (cells : List UInt8) (fr : Nat) (q : List UInt8) : Prop where
  len : cells.length = room
  le : q.length ≤ room
  at_ : fr < room ∨ (fr = 0 ∧ room = 0)
  get : ∀ i, i < q.length → cells[(fr + i) % room]? = q[i]?

theorem Holds.empty (room : Nat) : Holds room (List.replicate room 0) 0 [] := ⟨by simp, by simp, by omega, by simp⟩

/-- Two parts copied in: up to the row's end, and from its begin on. -/
theorem Holds.push {room fr : Nat} {cells q b : List UInt8} (h : Holds room cells fr q) (hb : b.length ≤ room - q.length) (hb0 : 0 < b.length) :
    let at_ := (fr + q.length) % room
    let first := min b.length (room - at_)
    let c1 := cells.take at_ ++ b.take (room - at_) ++ cells.drop (at_ + (b.take (room - at_)).length)
    let c2 := c1.take 0 ++ b.drop first ++ c1.drop (0 + (b.drop first).length)
    Holds room c2 fr (q ++ b) := by
  intro at_ first c1 c2
  have hle := h.le
  have hroom : 0 < room := by omega
  have hat : at_ < room := Nat.mod_lt _ hroom
  have hfr : fr < room := by rcases h.at_ with h | h <;> omega
  have hlen := h.len
  have hc1 : c1.length = room := by simp only [c1, List.length_append, List.length_take, List.length_drop]; omega
  have hbd : (b.drop first).length = b.length - first := List.length_drop
  have hc2 : c2.length = room := by simp only [c2, List.length_append, List.length_take, List.length_drop]; omega
  -- a cell of c1
  have g1 : ∀ j, c1[j]? = if at_ ≤ j ∧ j < at_ + first then b[j - at_]? else cells[j]? := by
    intro j
    have e1 : (cells.take at_).length = at_ := by rw [List.length_take]; omega
    have e2 : (b.take (room - at_)).length = first := by rw [List.length_take]; exact Nat.min_comm _ _
    simp only [c1, List.append_assoc]
    rw [List.getElem?_append]
    by_cases h1 : j < at_
    · rw [if_pos (by omega), if_neg (by omega), List.getElem?_take, if_pos h1]
    · rw [if_neg (by omega), List.getElem?_append, e1, e2]
      by_cases h2 : j - at_ < first
      · rw [if_pos h2, if_pos (by omega), List.getElem?_take, if_pos (by omega)]
      · rw [if_neg h2, if_neg (by omega), List.getElem?_drop]
        congr 1; omega
  have g2 : ∀ j, c2[j]? = if j < b.length - first then b[first + j]? else c1[j]? := by
    intro j
    simp only [c2, List.take_zero, List.nil_append, Nat.zero_add]
    rw [List.getElem?_append, hbd]
    by_cases h1 : j < b.length - first
    · rw [if_pos h1, if_pos h1, List.getElem?_drop]
    · rw [if_neg h1, if_neg h1, List.getElem?_drop]
      congr 1; omega
  refine ⟨hc2, by rw [List.length_append]; omega, h.at_, fun i hi => ?_⟩
  rw [List.length_append] at hi
  rw [g2, g1, List.getElem?_append]
  -- where things lie
  have hatv : at_ = if fr + q.length < room then fr + q.length else fr + q.length - room := by
    simp only [at_]
    split
    · exact Nat.mod_eq_of_lt (by assumption)
    · rw [Nat.mod_eq_sub_mod (by omega), Nat.mod_eq_of_lt (by omega)]
  have hm : (fr + i) % room = if fr + i < room then fr + i else fr + i - room := by
    split
    · exact Nat.mod_eq_of_lt (by assumption)
    · rw [Nat.mod_eq_sub_mod (by omega), Nat.mod_eq_of_lt (by omega)]
  have hfirst : first = min b.length (room - at_) := rfl
  by_cases hq : i < q.length
  · rw [if_pos hq, ← h.get i hq]
    have n1 : ¬ ((fr + i) % room < b.length - first) := by rw [hm]; split <;> (split at hatv) <;> omega
    have n2 : ¬ (at_ ≤ (fr + i) % room ∧ (fr + i) % room < at_ + first) := by rw [hm]; split <;> (split at hatv) <;> omega
    rw [if_neg n1, if_neg n2]
  · rw [if_neg hq]
    by_cases h1 : (fr + i) % room < b.length - first
    · rw [if_pos h1]
      congr 1
      rw [hm] at h1 ⊢
      split at h1 <;> (split at hatv) <;> (try simp only [*, if_true, if_false]) <;> omega
    · have n2 : at_ ≤ (fr + i) % room ∧ (fr + i) % room < at_ + first := by rw [hm] at h1 ⊢; split at h1 <;> (split at hatv) <;> (try simp only [*, if_true, if_false]) <;> omega
      rw [if_neg h1, if_pos n2]
      congr 1
      rw [hm] at h1 ⊢
      split at h1 <;> (split at hatv) <;> (try simp only [*, if_true, if_false]) <;> omega

/-- What is seen: up to the row's end, and from its begin on. -/
theorem Holds.see {room fr : Nat} {cells q : List UInt8} (h : Holds room cells fr q) (m : Nat) (hm : m ≤ q.length) (out : List UInt8) (ho : out.length = m) :
    let first := min m (room - fr)
    let o1 := out.take 0 ++ (cells.drop fr).take m ++ out.drop (0 + ((cells.drop fr).take m).length)
    o1.take first ++ cells.take (m - first) ++ o1.drop (first + (cells.take (m - first)).length) = q.take m := by
  intro first o1
  have hlen := h.len
  have hle := h.le
  by_cases hr : room = 0
  · have hq : q = [] := List.eq_nil_of_length_eq_zero (by omega)
    have hm0 : m = 0 := by subst hq; simpa using hm
    subst hq hm0
    have ho' : out = [] := List.eq_nil_of_length_eq_zero ho
    have hc : cells = [] := List.eq_nil_of_length_eq_zero (by omega)
    simp [o1, ho', hc, first]
  · have hfr : fr < room := by rcases h.at_ with h | h <;> omega
    have hl1 : ((cells.drop fr).take m).length = first := by simp only [List.length_take, List.length_drop, hlen]; rfl
    have ho1 : o1.length = m := by simp only [o1, List.length_append, List.length_take, List.length_drop]; omega
    have hl2 : (cells.take (m - first)).length = m - first := by rw [List.length_take]; omega
    apply List.ext_getElem?
    intro i
    rw [List.getElem?_append, List.getElem?_append]
    simp only [List.length_append, List.length_take, ho1, hl2]
    have hf : first = min m (room - fr) := rfl
    by_cases h1 : i < first
    · have g : i < q.length := by omega
      have := h.get i g
      rw [Nat.mod_eq_of_lt (by omega)] at this
      rw [if_pos (by omega), if_pos (by omega), List.getElem?_take, if_pos h1, List.getElem?_take, if_pos (by omega)]
      simp only [o1, List.take_zero, List.nil_append]
      rw [List.getElem?_append, if_pos (by omega), List.getElem?_take, if_pos (by omega), List.getElem?_drop]
      exact this
    · by_cases h2 : i < m
      · have g : i < q.length := by omega
        have := h.get i g
        rw [Nat.mod_eq_sub_mod (by omega), Nat.mod_eq_of_lt (by omega)] at this
        rw [if_pos (by omega), if_neg (by omega), List.getElem?_take, if_pos (by omega), List.getElem?_take, if_pos h2, ← this]
        congr 1; omega
      · rw [if_neg (by omega), List.getElem?_drop, List.getElem?_take, if_neg h2, List.getElem?_eq_none (by omega)]

/-- What is left when m have gone. -/
theorem Holds.pop {room fr : Nat} {cells q : List UInt8} (h : Holds room cells fr q) (m : Nat) (hm : m ≤ q.length) (hr : 0 < room) : Holds room cells ((fr + m) % room) (q.drop m) := by
  have hle := h.le
  refine ⟨h.len, by rw [List.length_drop]; omega, .inl (Nat.mod_lt _ hr), fun i hi => ?_⟩
  rw [List.length_drop] at hi
  rw [List.getElem?_drop, ← h.get (m + i) (by omega)]
  congr 1
  rw [Nat.add_mod, Nat.mod_mod, ← Nat.add_mod]
  congr 1
  omega
end Go.Ring
