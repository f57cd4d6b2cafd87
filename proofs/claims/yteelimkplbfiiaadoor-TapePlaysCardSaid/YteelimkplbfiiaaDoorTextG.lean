/- Layer 18: what the function Text computes, as an act of the small semantics. -/
import Derived.Test.YteelimkplbfiiaaDoorPg3
namespace Go.Pg
def textL (zs : List Int) : List UInt8 := zs.flatMap fun z => Lib.itoa z ++ [10]
def intsL : List Value → Option (List Int)
  | [] => some []
  | .int .i64 z :: r => bif decide (-9223372036854775808 ≤ z) && decide (z ≤ 9223372036854775807) then (match intsL r with
    | some zs => some (z :: zs)
    | none => none) else none
  | _ => none
def rowL (σ : AHeap) (p : Option Addr) (n : Nat) : Option (List Value) := bif Nat.beq n 0 then some [] else match p with
  | some b => σ.rdN b n
  | none => none
def textR (σ : AHeap) (p : Option Addr) (n : Nat) : Option (List Int) := match rowL σ p n with
  | some vs => intsL vs
  | none => none
def textG : List Value → Act := fun args σ => match args with
  | [.pointer (some a)] => match σ.rdN (aadd a 1) 1 with
    | some [.slice p n _] => match textR σ p n with
      | some zs => bif decide (22 * n ≤ 140737488355328) then some (.string ⟨(textL zs).toArray⟩, σ) else none
      | none => none
    | _ => none
  | _ => none

theorem intsL_some : ∀ {vs : List Value} {zs : List Int}, intsL vs = some zs → vs = zs.map (Value.int .i64) ∧ ∀ z ∈ zs, -9223372036854775808 ≤ z ∧ z ≤ 9223372036854775807
  | [], zs, h => by
    simp only [intsL, Option.some.injEq] at h
    subst h
    simp
  | v :: r, zs, h => by
    unfold intsL at h
    split at h
    · simp at *
    · rename_i z r' heq
      simp only [List.cons.injEq] at heq
      obtain ⟨rfl, rfl⟩ := heq
      cases hc : (decide (-9223372036854775808 ≤ z) && decide (z ≤ 9223372036854775807)) with
      | false => rw [hc] at h; cases h
      | true =>
        rw [hc] at h
        simp only [cond_true] at h
        cases hr : intsL r with
        | none => rw [hr] at h; cases h
        | some ys =>
          rw [hr] at h
          cases h
          obtain ⟨h1, h2⟩ := intsL_some hr
          simp only [Bool.and_eq_true, decide_eq_true_eq] at hc
          exact ⟨by rw [h1]; rfl, by simpa using ⟨hc, h2⟩⟩
    · cases h
theorem intsL_of : ∀ {zs : List Int}, (∀ z ∈ zs, -9223372036854775808 ≤ z ∧ z ≤ 9223372036854775807) → intsL (zs.map (Value.int .i64)) = some zs
  | [], _ => rfl
  | z :: zs, h => by
    have h1 := h z (by simp)
    have h2 := intsL_of (zs := zs) fun y hy => h y (List.mem_cons_of_mem _ hy)
    simp only [List.map_cons, intsL, h1.1, h1.2, decide_true, Bool.and_true, cond_true, h2]
theorem textL_take (zs : List Int) (k : Nat) (h : k < zs.length) : textL (zs.take (k + 1)) = textL (zs.take k) ++ (Lib.itoa zs[k] ++ [10]) := by
  rw [List.take_succ_eq_append_getElem h]
  unfold textL
  rw [List.flatMap_append]
  rw [List.flatMap_cons, List.flatMap_nil, List.append_nil]
end Go.Pg
