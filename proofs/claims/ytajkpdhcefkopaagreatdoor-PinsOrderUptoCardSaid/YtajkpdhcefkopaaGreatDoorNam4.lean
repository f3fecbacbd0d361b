/-
  NAMES: the small case of the laws: what the plain functions answer there.
-/
import Derived.Test.YtajkpdhcefkopaaGreatDoorNam3
namespace Go.Nam
open Go.Own Go.Proofs Go.RowKit Go.Lib Go.Asc Go.Adr
attribute [local irreducible] GC GQ G Rd Eff T
set_option maxRecDepth 20000
set_option maxHeartbeats 4000000
end Go.Nam
