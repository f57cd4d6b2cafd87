/- Layer 5: awake, answered by the kernel; names. -/
import Derived.Test.YtoilldfibaeokabDoorTyR
import Derived.Test.YtoilldfibaeokabDoorTyL
import Derived.Test.YtoilldfibaeokabDoorTabF
namespace Go.Pg
open Go.Proofs

theorem EvF.ov {P : Program} {ov : Ov} {f : FuncId} {g : List Value → Act} {args : List Value} {σ σ' : AHeap} {v : Value} (h : ov f = some g) (hg : g args σ = some (v, σ')) : EvF P ov f args σ v σ' :=
  ⟨1, fun n hn => by
    cases n with
    | zero => omega
    | succ n =>
      unfold execFn
      rw [h]
      exact hg⟩

def heapR (σ : AHeap) : Option (Value × AHeap) → AHeap
  | some (_, σ') => σ'
  | none => σ
theorem WpF.tabH {P : Program} {ov : Ov} {tab : Tab} (ht : TabOK P tab) {f : FuncId} {args : List Value} {σ : AHeap} {old : Addr → Option Value} (n : Nat) (h : goodR (execTab ov tab n f args σ) = true) (ho : oldR old (execTab ov tab n f args σ) = old) {Q : AHeap → Prop} (hQ : Q (heapR σ (execTab ov tab n f args σ))) :
    WpF P ov f args σ fun v σ' => v = .bool true ∧ σ'.old = old ∧ Fresh σ' ∧ Q σ' := by
  cases hx : execTab ov tab n f args σ with
  | none => rw [hx] at h; cases h
  | some r =>
    obtain ⟨v, σ'⟩ := r
    rw [hx] at h ho hQ
    refine ⟨v, σ', EvF.tab ht n hx, ?_⟩
    unfold goodR at h
    split at h
    · rename_i heq
      simp only [Option.some.injEq, Prod.mk.injEq] at heq
      obtain ⟨rfl, rfl⟩ := heq
      simp only [Bool.and_eq_true, Nat.ble_eq] at h
      exact ⟨by rw [h.1], ho, (fun j hj => Tri.bnd_ok _ _ (Nat.le_trans h.2 hj)), hQ⟩
    · cases h

theorem ovL_T : OvT ovL := fun f h1 h2 h3 => by
  have e1 : Nat.beq f 11 = false := by rw [Bool.eq_false_iff]; exact fun e => h1 (Nat.eq_of_beq_eq_true e)
  have e2 : Nat.beq f 16 = false := by rw [Bool.eq_false_iff]; exact fun e => h2 (Nat.eq_of_beq_eq_true e)
  have e3 : Nat.beq f 28 = false := by rw [Bool.eq_false_iff]; exact fun e => h3 (Nat.eq_of_beq_eq_true e)
  simp only [ovL, ovD, e1, e2, e3, cond_false]
theorem ovL_I : ovL 28 = some (ovPure itoaG) := rfl

abbrev nmA (d : TA × List Value) : ByteArray := d.1.name
theorem fits_strip : ∀ (n : Nat) (u : AT), fitT n (strip u) → Fits nmA n u
  | 0, _, h => h.elim
  | n + 1, .mk d l, h => by
    rw [strip, stripL_map] at h
    obtain ⟨h1, h2, h3⟩ := h
    exact ⟨by simpa [Tr.args] using h1, h2, fun x hx => fits_strip n x (h3 _ (List.mem_map_of_mem hx))⟩
theorem lev7 : lev 7 = 64 := rfl
end Go.Pg
