/- Ru6 -/
import Derived.Test.YtaebddgepicjpaaGreatDoorP7
set_option maxHeartbeats 1000000
namespace Go.Pg
set_option maxRecDepth 100000
theorem runs6 (old:Addr→Option Value) (p:Option Addr) (c:Nat):(∀ n1 n2 n3 n4 n5 n6 n7 n8 n9 n10:Int,RunOK old p c (.agg (([n1,n2,n3,n4,n5,n6,n7,n8,n9,n10]:List Int).map i64).toArray) 10 [n1,n2,n3,n4,n5,n6,n7,n8,n9,n10])∧(∀ n1:Int,RunOK old p c (.agg (([n1]:List Int).map i64).toArray) 1 [n1]):=⟨(fun _ _ _ _ _ _ _ _ _ _=>by unfold RunOK;kernel_rfl),(fun _=>by unfold RunOK;kernel_rfl)⟩
end Go.Pg
