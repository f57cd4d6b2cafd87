/- Layer 5: the functions that the laws answer by a contract. -/
import Derived.Test.YtoilldfibaeokaaDoorUniG
namespace Go.Pg
open Go.Proofs
abbrev ovL : Ov := fun k => bif Nat.beq k 12 then some unifyG else (fun k => bif Nat.beq k 33 then some copiedG else (ovD) k) k
end Go.Pg
