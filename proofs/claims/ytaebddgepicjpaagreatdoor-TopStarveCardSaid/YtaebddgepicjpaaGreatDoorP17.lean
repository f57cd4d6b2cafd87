/- Ru10 -/
import Derived.Test.YtaebddgepicjpaaGreatDoorP7
set_option maxHeartbeats 1000000
namespace Go.Pg
set_option maxRecDepth 100000
theorem runs10 (old:Addr→Option Value) (p:Option Addr) (c:Nat):(∀ n1 n2 n3 n4 n5 n6:Int,RunOK old p c (.agg (([n1,n2,n3,n4,n5,n6]:List Int).map i64).toArray) 6 [n1,n2,n3,n4,n5,n6])∧(∀ n1 n2 n3 n4 n5:Int,RunOK old p c (.agg (([n1,n2,n3,n4,n5]:List Int).map i64).toArray) 5 [n1,n2,n3,n4,n5]):=⟨(fun _ _ _ _ _ _=>by unfold RunOK;kernel_rfl),(fun _ _ _ _ _=>by unfold RunOK;kernel_rfl)⟩
end Go.Pg
