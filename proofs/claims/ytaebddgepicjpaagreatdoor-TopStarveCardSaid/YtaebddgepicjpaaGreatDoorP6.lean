/- V -/
import Derived.Test.YtaebddgepicjpaaGreatDoorRows
import Derived.Test.YtaebddgepicjpaaGreatDoorP5
set_option maxHeartbeats 1000000
namespace Go.Pg
open Go.Proofs
abbrev ov0:Ov:=fun _=>none
abbrev ovD:Ov:=fun k=>bif Nat.beq k 225 then some (ovPure letterG) else (fun k=>bif Nat.beq k 287 then some (ovPure upperG) else (ov0) k) k
noncomputable abbrev tabsD:List (Nat × IntKind × List Int):=[(6,.u8,numsD YtaebddgepicjpaaGreatDoor.Rows.laid_math_bits_deBruijn32tab),(7,.u8,numsD YtaebddgepicjpaaGreatDoor.Rows.laid_math_bits_deBruijn64tab),(5,.u64,numsD YtaebddgepicjpaaGreatDoor.Rows.laid_internal_strconv_uint64pow10),(0,.u8,numsD YtaebddgepicjpaaGreatDoor.Rows.laid_unicode_properties)]
end Go.Pg
