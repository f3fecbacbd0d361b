/-
  WHAT IS PROVED OF THE FUNCTIONS THAT ANSWER BY A VALUE, as a walk finds it: letters, numbers, addresses, names.
-/
import Derived.Test.YtabkbpckehdiaaaGreatDoorNam3
import Derived.Test.YtabkbpckehdiaaaGreatDoorPrt2
import Derived.Test.YtabkbpckehdiaaaGreatDoorNam4
namespace Go.Nam
open Go.Own Go.Proofs Go.RowKit Go.Lib Go.Asc Go.Adr
instance (priority := high) : ZeroT Tryz.prog 51 (.agg (u8s zero16).toArray) := ⟨Tryz.zeroValue51⟩
instance (priority := high) : ZeroT Tryz.prog 81 (.agg (u8s [0, 0, 0, 0]).toArray) := ⟨Tryz.zeroValue81⟩
section
variable {W0 : World}
instance {s : List UInt8} : PureF Tryz.prog W0 33 [S s] (s.length ≤ 140737488351232) (S (s.map lowB)) := ⟨fun h _ => lower_spec s h⟩
instance [hv : Vars W0] {s : List UInt8} : PureF Tryz.prog W0 30 [S s] (s.length < 4294967281) (parseV s) := ⟨fun h _ => parse_spec hv s h⟩
instance [hv : Vars W0] {a : List UInt8} : PureF Tryz.prog W0 31 [.agg (u8s a).toArray] (a.length = 16) (S (printL a)) := ⟨fun h _ => print_spec hv a h⟩
instance [hv : Vars W0] {s : List UInt8} : PureF Tryz.prog W0 11 [S s] (s.length < 4294967281) (normalV s) := ⟨fun h _ => normal_spec hv s h⟩
instance [hv : Vars W0] : PureF Tryz.prog W0 10 [] True (.bool true) := ⟨fun _ F => small_spec (F := F) hv⟩
end
end Go.Nam
