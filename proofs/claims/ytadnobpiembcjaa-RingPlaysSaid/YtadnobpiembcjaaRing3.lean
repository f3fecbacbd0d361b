/-
  THE QUEUE'S LAWS: calls that came in, as the laws' arguments tell them.
-/
import Derived.Test.YtadnobpiembcjaaRing2
import Derived.Test.YtadnobpiembcjaaTabF
namespace Go.Ring
open Go.Own Go.Proofs Go.RowKit
attribute [local irreducible] GC GQ G Rd Eff T
set_option maxRecDepth 20000

theorem lies_calls_each {W : World} : ∀ {es : List VT}, VT.LiesAll Try.prog W 31 es → ∃ l : List CallV, l.length = es.length ∧ VT.cellsL es = l.flatMap CallV.cells ∧ Sized l ∧ (∀ c ∈ l, At W c.p (u8s c.bytes))
  | [], _ => ⟨[], rfl, by simp [VT.cellsL], by simp [Sized], by simp⟩
  | x :: es, hl => by
    simp only [VT.LiesAll] at hl
    obtain ⟨l, h1, h2, h3, h4⟩ := lies_calls_each hl.2
    obtain ⟨ps, rfl, hps⟩ := Lies.agg hl.1
    obtain ⟨v0, r0, rfl, g0, h⟩ := lies_one hps
    obtain ⟨v1, r1, rfl, g1, h⟩ := lies_one h
    obtain ⟨v2, r2, rfl, g2, h⟩ := lies_one h
    obtain rfl := lies_nil h
    obtain ⟨w, rfl, _⟩ := Lies.int g0
    obtain ⟨n, rfl, _⟩ := Lies.int g2
    obtain ⟨p, c, b, _, hb2, _, hb4, hb5, hb6⟩ := Lies.bytes (by kernel_rfl) g1
    refine ⟨⟨w, b, p, c, n⟩ :: l, by simp [h1], ?_, ?_, ?_⟩
    · rw [VT.cellsL, h2]
      simp [VT.cells, VT.cellsL, hb2, CallV.cells]
    · intro x hx
      rcases List.mem_cons.1 hx with rfl | hx
      · exact ⟨hb4, hb5⟩
      · exact h3 x hx
    · intro x hx
      rcases List.mem_cons.1 hx with rfl | hx
      · exact hb6
      · exact h4 x hx

theorem lies_calls {W : World} {v : VT} (hl : VT.Lies Try.prog W 22 v) : ∃ p c l, v.val = .slice p l.length c ∧ Pt p l.length ∧ l.length ≤ c ∧ c ≤ 140737488351232 ∧ Sized l ∧ CallsAt W p l := by
  obtain ⟨p, c, es, rfl, hp, hc, hc2, hat, hes⟩ := Lies.slice hl
  obtain ⟨l, h1, h2, h3, h4⟩ := lies_calls_each hes
  have hb : Try.prog.bytesOf 31 = 40 := by kernel_rfl
  rw [hb] at hc2
  rw [h2] at hat
  exact ⟨p, c, l, by simp [VT.val, h1], by rw [h1]; exact hp, by omega, by omega, h3, hat, h4⟩

section
variable {W : World} {b o k : Nat} {l : List CallV}
theorem CallsAt.which (h : CallsAt W (some ⟨b, o, none⟩) l) (hk : k < l.length) {H : Heap} : ∀ w, Own W H w → w.cell? ⟨b, o + k * 3 + 0, none⟩ = some (.int .i64 (l[k]).which) := fun w hw => (h.below hw.below).cell k 0 (by omega) hk rfl
theorem CallsAt.sl (h : CallsAt W (some ⟨b, o, none⟩) l) (hk : k < l.length) {H : Heap} : ∀ w, Own W H w → w.cell? ⟨b, o + k * 3 + 1, none⟩ = some (.slice (l[k]).p (l[k]).bytes.length (l[k]).cap) := fun w hw => (h.below hw.below).cell k 1 (by omega) hk rfl
theorem CallsAt.num (h : CallsAt W (some ⟨b, o, none⟩) l) (hk : k < l.length) {H : Heap} : ∀ w, Own W H w → w.cell? ⟨b, o + k * 3 + 2, none⟩ = some (.int .i64 (l[k]).n) := fun w hw => (h.below hw.below).cell k 2 (by omega) hk rfl
theorem CallsAt.bytes (h : CallsAt W (some ⟨b, o, none⟩) l) (hk : k < l.length) {H : Heap} : RO W H (fun w => At w (l[k]).p (u8s (l[k]).bytes)) := RO.base fun w hw => (h.each _ (by simp)).below hw
end
theorem IsRing.le {g room : Nat} {q : List UInt8} {H : Heap} (h : IsRing g room q H) : q.length ≤ room := by cases h with | mk _ _ _ hh _ => exact hh.le
theorem sum_take_le {α : Type} (f : α → Nat) (l : List α) (k : Nat) : ((l.take k).map f).sum ≤ (l.map f).sum := by
  induction l generalizing k with
  | nil => simp
  | cons a l ih =>
    cases k with
    | zero => simp
    | succ k => have := ih k; simp only [List.take_succ_cons, List.map_cons, List.sum_cons]; omega
end Go.Ring
