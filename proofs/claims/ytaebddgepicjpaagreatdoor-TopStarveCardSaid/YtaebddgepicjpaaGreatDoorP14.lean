/- Ru7 -/
import Derived.Test.YtaebddgepicjpaaGreatDoorP7
set_option maxHeartbeats 1000000
namespace Go.Pg
set_option maxRecDepth 100000
theorem runs7 (old:Addr→Option Value) (p:Option Addr) (c:Nat):(∀ n1 n2 n3 n4 n5 n6 n7 n8 n9:Int,RunOK old p c (.agg (([n1,n2,n3,n4,n5,n6,n7,n8,n9]:List Int).map i64).toArray) 9 [n1,n2,n3,n4,n5,n6,n7,n8,n9])∧(∀ n1 n2:Int,RunOK old p c (.agg (([n1,n2]:List Int).map i64).toArray) 2 [n1,n2]):=⟨(fun _ _ _ _ _ _ _ _ _=>by unfold RunOK;kernel_rfl),(fun _ _=>by unfold RunOK;kernel_rfl)⟩
end Go.Pg
