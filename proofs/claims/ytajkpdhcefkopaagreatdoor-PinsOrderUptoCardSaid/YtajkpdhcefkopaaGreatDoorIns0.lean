/-
  WHAT IS PROVED OF THE FUNCTIONS THAT ANSWER BY A VALUE, as a walk finds it: letters, numbers, addresses, names.
-/
import Derived.Test.YtajkpdhcefkopaaGreatDoorNam3
import Derived.Test.YtajkpdhcefkopaaGreatDoorPrt2
namespace Go.Nam
open Go.Own Go.Proofs Go.RowKit Go.Lib Go.Asc Go.Adr
instance (priority := high) : ZeroT Tryz.prog 24 (.agg (u8s zero16).toArray) := ⟨Tryz.zeroValue24⟩
instance (priority := high) : ZeroT Tryz.prog 78 (.agg (u8s [0, 0, 0, 0]).toArray) := ⟨Tryz.zeroValue78⟩
section
variable {W0 : World}
instance {s : List UInt8} : PureF Tryz.prog W0 106 [S s] (s.length ≤ 140737488351232) (S (s.map lowB)) := ⟨fun h _ => lower_spec s h⟩
instance [hv : Vars W0] {s : List UInt8} : PureF Tryz.prog W0 96 [S s] (s.length < 4294967281) (parseV s) := ⟨fun h _ => parse_spec hv s h⟩
instance [hv : Vars W0] {a : List UInt8} : PureF Tryz.prog W0 104 [.agg (u8s a).toArray] (a.length = 16) (S (printL a)) := ⟨fun h _ => print_spec hv a h⟩
instance [hv : Vars W0] {s : List UInt8} : PureF Tryz.prog W0 88 [S s] (s.length < 4294967281) (normalV s) := ⟨fun h _ => normal_spec hv s h⟩
end
end Go.Nam
