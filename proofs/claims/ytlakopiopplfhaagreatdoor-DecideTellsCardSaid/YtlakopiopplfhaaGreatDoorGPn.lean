/-
  PINS: what stands ahead of each statement about them: the small case, Few.
  PINS that come in: no longer than what came in is large.
-/
import Derived.Test.YtlakopiopplfhaaGreatDoorGPm
import Derived.Test.YtlakopiopplfhaaGreatDoorGCi
import Derived.Test.YtlakopiopplfhaaGreatDoorGPq
import Derived.Test.YtlakopiopplfhaaGreatDoorGNm
import Derived.Test.YtlakopiopplfhaaGreatDoorGBk
namespace Go.Pin
open Go.Own Go.Proofs Go.RowKit Go.Lib Go.Asc Go.Adr Go.Nam Go.Tri Go.Cid Go.Pol
attribute [local irreducible] GC GQ G Rd Eff T
set_option maxRecDepth 20000
set_option maxHeartbeats 4000000
def pc : Cd := ⟨[0, 0, 0, 0, 0, 0, 0, 0, 0, 0, 255, 255, 10, 0, 0, 0], 104⟩
def pa : List UInt8 := [0, 0, 0, 0, 0, 0, 0, 0, 0, 0, 255, 255, 10, 1, 2, 3]
theorem pcOf : ofL (aheadL ++ [10, 0, 0, 0]) 104 = pc := by decide +kernel
theorem sizPc : SizC pc := ⟨by decide, wf_small (by decide) (by decide)⟩
section
variable {W0 : World} {F : Heap}
attribute [local irreducible] Lit.wf addT addAllT checkT liveL okP rightC ofL
def fewP (l : List Pn) : Bool := decide (∀ x ∈ l, x.name.length ≤ 300) && decide (l.length ≤ 100)
end
end Go.Pin

namespace Go.Pin
open Go.Own Go.Proofs Go.RowKit Go.Lib Go.Asc Go.Adr Go.Nam Go.Tri Go.Cid Go.Pol
attribute [local irreducible] GC GQ G Rd Eff T
set_option maxRecDepth 20000
set_option maxHeartbeats 4000000
theorem siz_keys {l : List Pn} (hs : ∀ x ∈ l, SizP x) : ∀ e ∈ addAllT l, SizC e.1.2 := by
  have key : ∀ (l : List Pn) (t : Tab), (∀ x ∈ l, SizP x) → (∀ e ∈ t, SizC e.1.2) → ∀ e ∈ l.foldl addT t, SizC e.1.2 := by
    intro l
    induction l with
    | nil => intro t _ h; exact h
    | cons x l ih =>
      intro t hx h
      refine ih _ (fun y hy => hx y (List.mem_cons_of_mem _ hy)) ?_
      unfold addT
      split
      · intro e he
        have : e.1 ∈ (putK t (placeOf x) (joinT (getK t (placeOf x)) x.till)).map Prod.fst := List.mem_map.2 ⟨e, he, rfl⟩
        rcases (keys_putK _ _ _ _).1 this with h1 | h1
        · rw [h1]; exact (hx x (by simp)).1
        · obtain ⟨e2, h2, h3⟩ := List.mem_map.1 h1
          rw [← h3]; exact h _ h2
      · exact h
  exact key l [] hs (by simp)
section
variable {W : World}
end
end Go.Pin
