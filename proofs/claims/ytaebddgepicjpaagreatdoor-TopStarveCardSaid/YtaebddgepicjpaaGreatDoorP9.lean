/- Ru2 -/
import Derived.Test.YtaebddgepicjpaaGreatDoorP7
set_option maxHeartbeats 1000000
namespace Go.Pg
set_option maxRecDepth 100000
theorem runs2 (old:Addr→Option Value) (p:Option Addr) (c:Nat):(∀ n1 n2 n3 n4 n5 n6 n7 n8 n9 n10 n11 n12 n13 n14:Int,RunOK old p c (.agg (([n1,n2,n3,n4,n5,n6,n7,n8,n9,n10,n11,n12,n13,n14]:List Int).map i64).toArray) 14 [n1,n2,n3,n4,n5,n6,n7,n8,n9,n10,n11,n12,n13,n14]):=(fun _ _ _ _ _ _ _ _ _ _ _ _ _ _=>by unfold RunOK;kernel_rfl)
end Go.Pg
