/- A call without arguments at a law's beginning, computed: it returns true, and the heap goes on. -/
import Derived.Test.YtoilldfibaeokaaDoorBlk
namespace Go.Pg

def Tri.bnd : Tri → Nat
  | .nil => 0
  | .node _ l r => max 1 (max (2 * l.bnd) (bif Nat.beq r.bnd 0 then 0 else 2 * r.bnd + 1))

theorem Tri.bnd_ok : ∀ (t : Tri) (j : Nat), t.bnd ≤ j → t.get j = none
  | .nil, j, _ => by cases j <;> rfl
  | .node v l r, j, h => by
    unfold Tri.bnd at h
    cases j with
    | zero => omega
    | succ m =>
      unfold Tri.get
      simp only
      cases hm : Nat.beq (m % 2) 0 with
      | true =>
        have : m % 2 = 0 := Nat.eq_of_beq_eq_true hm
        exact Tri.bnd_ok l _ (by omega)
      | false =>
        have hm' : m % 2 ≠ 0 := fun e => by rw [e] at hm; cases hm
        refine Tri.bnd_ok r _ ?_
        cases hr : Nat.beq r.bnd 0 with
        | true =>
          have := Nat.eq_of_beq_eq_true hr
          omega
        | false =>
          rw [hr] at h
          simp only [cond_false] at h
          omega

def goodR : Option (Value × AHeap) → Bool
  | some (.bool b, σ) => b && Nat.ble σ.mem.bnd σ.n
  | _ => false
def oldR (old : Addr → Option Value) : Option (Value × AHeap) → Addr → Option Value
  | some (_, σ) => σ.old
  | none => old

theorem WpF.tabQ {P : Program} {ov : Ov} {tab : Tab} (ht : TabOK P tab) {f : FuncId} {args : List Value} {old : Addr → Option Value} (n : Nat) (h : goodR (execTab ov tab n f args (startH old)) = true) (ho : oldR old (execTab ov tab n f args (startH old)) = old) :
    WpF P ov f args (startH old) fun v σ' => v = .bool true ∧ σ'.old = old ∧ Fresh σ' := by
  cases hx : execTab ov tab n f args (startH old) with
  | none => rw [hx] at h; cases h
  | some r =>
    obtain ⟨v, σ'⟩ := r
    rw [hx] at h ho
    refine ⟨v, σ', EvF.tab ht n hx, ?_⟩
    unfold goodR at h
    split at h
    · rename_i heq
      simp only [Option.some.injEq, Prod.mk.injEq] at heq
      obtain ⟨rfl, rfl⟩ := heq
      simp only [Bool.and_eq_true, Nat.ble_eq] at h
      exact ⟨by rw [h.1], ho, fun j hj => Tri.bnd_ok _ _ (Nat.le_trans h.2 hj)⟩
    · cases h
end Go.Pg
