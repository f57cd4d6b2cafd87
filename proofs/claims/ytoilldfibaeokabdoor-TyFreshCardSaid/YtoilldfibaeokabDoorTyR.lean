/- Layer 5: the document's Size, Good, Vars; two rows of numbers alike. -/
import Derived.Test.YtoilldfibaeokabDoorTyS
namespace Go.Pg
open Go.Proofs

mutual
def cntM : AT → Int
  | .mk _ l => cntL l + 1
def cntL : List AT → Int
  | [] => 0
  | a :: l => cntM a + cntL l
end
mutual
theorem cntM_pos : ∀ t : AT, 1 ≤ cntM t
  | .mk _ l => by
    rw [cntM]
    have := cntL_pos l
    omega
theorem cntL_pos : ∀ l : List AT, 0 ≤ cntL l
  | [] => by rw [cntL]; exact Int.le_refl _
  | a :: l => by
    rw [cntL]
    have := cntM_pos a
    have := cntL_pos l
    omega
end
mutual
theorem measM_cnt : ∀ (t : AT) (n : Int), 0 ≤ n → n ≤ 501 → measM t n = min (n + cntM t) 501
  | .mk _ l, n, h0, h1 => by
    rw [measM, cntM, minV_eq]
    have := measL_cnt l (n + 1) (by omega) (by omega)
    rw [this]
    congr 1
    omega
theorem measL_cnt : ∀ (l : List AT) (n : Int), 0 ≤ n → n ≤ 502 → min (measL l n) 501 = min (n + cntL l) 501
  | [], n, h0, h1 => by rw [measL, cntL, Int.add_zero]
  | a :: l, n, h0, h1 => by
    rw [measL, cntL]
    have := cntL_pos l
    have := cntM_pos a
    split
    · omega
    · rw [measM_cnt a n h0 (by omega), measL_cnt l _ (by omega) (by omega)]
      omega
end

end Go.Pg
