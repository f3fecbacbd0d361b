/-
  HOW MUCH COMES IN: a law's arguments as trees of plain values, of no more values and letters than the form's reading has: over any program.
  A LAW'S ROW UNDER A BOUND ON WHAT COMES IN, FROM ITS WALK: over any program.
  THE ROWS' OWN COUNT OF WHAT COMES IN.
-/
import Derived.Test.YtlakopiopplfhaaGreatDoorOwnG
import Derived.Test.YtlakopiopplfhaaGreatDoorOwnH
import Derived.Test.YtlakopiopplfhaaGreatDoorRows
namespace Go.Own
open Go.RowKit Go.ChangeShapes Go.WideShapes Go.ChangeAt

/-- A count of a reading that is no less than its parts' counts. -/
structure Counts (H : Type) where
  one : DataW H → Nat
  all : List (DataW H) → Nat
  bool : ∀ b, 1 ≤ one (.lit (.bool b))
  int : ∀ k n, 1 ≤ one (.lit (.int k n))
  str : ∀ bs, bs.length + 1 ≤ one (.lit (.string bs))
  nil : 1 ≤ one .nil
  slice : ∀ es sp, all es + 1 ≤ one (.slice es sp)
  agg : ∀ ps, all ps + 1 ≤ one (.agg ps)
  none : 0 ≤ all []
  cons : ∀ d r, one d + all r ≤ all (d :: r)

section
variable {H : Type} {enc : TypeId × Value → H} {P : Program} {w W : World}

end
end Go.Own

namespace Go.Own
open Go.RowKit Go.ChangeShapes Go.WideShapes Go.ChangeAt

end Go.Own

namespace Go.Own
open Go.Proofs.YtlakopiopplfhaaGreatDoor
end Go.Own
