/-
  PINS: what stands ahead of each statement about them: the small case, Few.
  PINS that come in: no longer than what came in is large.
-/
import Derived.Test.YtiemjebpbdmkpaaGreatDoorGPm
import Derived.Test.YtiemjebpbdmkpaaGreatDoorGCi
import Derived.Test.YtiemjebpbdmkpaaGreatDoorGPq
import Derived.Test.YtiemjebpbdmkpaaGreatDoorGNm
import Derived.Test.YtiemjebpbdmkpaaGreatDoorGBk
namespace Go.Pin
open Go.Own Go.Proofs Go.RowKit Go.Lib Go.Asc Go.Adr Go.Nam Go.Tri Go.Cid Go.Pol
attribute [local irreducible] GC GQ G Rd Eff T
set_option maxRecDepth 20000
set_option maxHeartbeats 4000000
def pc : Cd := ⟨[0, 0, 0, 0, 0, 0, 0, 0, 0, 0, 255, 255, 10, 0, 0, 0], 104⟩
def pa : List UInt8 := [0, 0, 0, 0, 0, 0, 0, 0, 0, 0, 255, 255, 10, 1, 2, 3]
theorem pcOf : ofL (aheadL ++ [10, 0, 0, 0]) 104 = pc := by decide +kernel
theorem sizPc : SizC pc := ⟨by decide, wf_small (by decide) (by decide)⟩
section
variable {W0 : World} {F : Heap}
attribute [local irreducible] Lit.wf addT addAllT checkT liveL okP rightC ofL
/-- Are pins few, and short? -/
def fewP (l : List Pn) : Bool := decide (∀ x ∈ l, x.name.length ≤ 300) && decide (l.length ≤ 100)
theorem fewP_iff {l : List Pn} : fewP l = true ↔ (∀ x ∈ l, x.name.length ≤ 300) ∧ l.length ≤ 100 := by simp [fewP]
theorem pfew_spec {l : List Pn} {v : Value} (hp : PinsAt W0 F v l) (sp : ∀ x ∈ l, SizP x) (hl : l.length ≤ 2000000) : T Tryz.prog W0 13 #[v] F (fun u H' => u = .bool (fewP l) ∧ H' = F) := by
  obtain ⟨p, c, rfl, hc, hat⟩ := hp
  have h19 : ∀ x ∈ l, (pnC x).length = 19 := fun x hx => pnC_len (sp x hx).1.1
  refine T.intro (args := [_]) Tryz.func13 rfl Tryz.ntmps13 rfl ?_
  repeat' first | refine Y.st ?_ | (refine nw ?_; intro _) | refine Y.kn ?_ | fail
  refine GC.loopE (ι := { k : Nat // k ≤ l.length ∧ ∀ x ∈ l.take k, x.name.length ≤ 300 }) (fun i => [(3, .int .i64 (i.1 : Int))]) [(0, _)] (fun _ => F) (fun k => l.length - k.1) ⟨0, Nat.zero_le _, by simp⟩ ⟨rfl, rfl, trivial⟩ (fun _ h => h) ?_
  rintro ⟨k, hk, hno⟩
  dsimp only at hk hno ⊢
  by_cases hlt : k < l.length
  · obtain ⟨b, o, rfl, a1⟩ := row_get (m := 19) h19 (by omega) hat hlt
    have c1 := a1 k hlt
    have hts := List.take_succ_eq_append_getElem hlt
    have hn2 := List.getElem_mem hlt
    by_cases hn : l[k].name.length ≤ 300
    · repeat' first | refine Y.st ?_ | (refine nw ?_; intro _) | refine Y.kn ?_ | fail
      refine G.rd (Rd.load (v := S l[k].name) rfl (fun w hw => c1 w hw 0 _ rfl)) rfl rfl ?_
      repeat' first | refine Y.st ?_ | (refine nw ?_; intro _) | refine Y.kn ?_ | fail
      exact GQ.back ⟨k + 1, by omega, by rw [hts]; intro x hx; rcases List.mem_append.1 hx with h | h; exact hno x h; rw [List.mem_singleton.1 h]; exact hn⟩ (by simp only; omega) ⟨rfl, rfl, trivial⟩ (fun w hw => hw)
    · repeat' first | refine Y.st ?_ | (refine nw ?_; intro _) | refine Y.kn ?_ | fail
      refine G.rd (Rd.load (v := S l[k].name) rfl (fun w hw => c1 w hw 0 _ rfl)) rfl rfl ?_
      repeat' first | refine Y.st ?_ | (refine nw ?_; intro _) | refine Y.kn ?_ | fail
      have : fewP l = false := by
        rw [Bool.eq_false_iff]; intro h; exact hn ((fewP_iff.1 h).1 _ hn2)
      exact GQ.done1 rfl rfl ⟨by rw [this], rfl⟩
  obtain rfl : k = l.length := by omega
  rw [List.take_length] at hno
  repeat' first | refine Y.st ?_ | (refine nw ?_; intro _) | refine Y.kn ?_ | fail
  exact GQ.done1 rfl rfl ⟨by rw [fewP, decide_eq_true hno, Bool.true_and]; congr 1; exact decide_eq_decide.2 (by omega), rfl⟩
end
end Go.Pin

namespace Go.Pin
open Go.Own Go.Proofs Go.RowKit Go.Lib Go.Asc Go.Adr Go.Nam Go.Tri Go.Cid Go.Pol
attribute [local irreducible] GC GQ G Rd Eff T
set_option maxRecDepth 20000
set_option maxHeartbeats 4000000
theorem siz_keys {l : List Pn} (hs : ∀ x ∈ l, SizP x) : ∀ e ∈ addAllT l, SizC e.1.2 := by
  have key : ∀ (l : List Pn) (t : Tab), (∀ x ∈ l, SizP x) → (∀ e ∈ t, SizC e.1.2) → ∀ e ∈ l.foldl addT t, SizC e.1.2 := by
    intro l
    induction l with
    | nil => intro t _ h; exact h
    | cons x l ih =>
      intro t hx h
      refine ih _ (fun y hy => hx y (List.mem_cons_of_mem _ hy)) ?_
      unfold addT
      split
      · intro e he
        have : e.1 ∈ (putK t (placeOf x) (joinT (getK t (placeOf x)) x.till)).map Prod.fst := List.mem_map.2 ⟨e, he, rfl⟩
        rcases (keys_putK _ _ _ _).1 this with h1 | h1
        · rw [h1]; exact (hx x (by simp)).1
        · obtain ⟨e2, h2, h3⟩ := List.mem_map.1 h1
          rw [← h3]; exact h _ h2
      · exact h
  exact key l [] hs (by simp)
section
variable {W : World}
end
end Go.Pin
