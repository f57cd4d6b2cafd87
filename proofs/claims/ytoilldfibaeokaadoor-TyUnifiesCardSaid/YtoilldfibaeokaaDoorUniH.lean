/- Layer 5: what hangs on a linked type is linked. -/
import Derived.Test.YtoilldfibaeokaaDoorUniP
namespace Go.Pg
section
variable {ι : Inj} {W0 W : World} {σ : AHeap}
def Hung (ι : Inj) (B : Nat) (σ : AHeap) (t : AT) : Prop := (∃ k, readT σ k t.c = some t) ∧ ∃ v0, VR ι B (.agg t.c.toArray) v0
theorem agg_cell {B : Nat} {cs : Array Value} {v0 : Value} (h : VR ι B (.agg cs) v0) {j : Nat} {v : Value} (hj : cs[j]? = some v) : ∃ v', VR ι B v v' := by
  cases h with
  | agg hx hc =>
    rename_i m
    have hlt : j < m.size := by have := (Array.getElem?_eq_some_iff.1 hj).1; omega
    exact ⟨_, hc j v _ hj (Array.getElem?_eq_getElem hlt)⟩
theorem slice_at {B : Nat} {x : Addr} {n c : Nat} {v0 : Value} (h : VR ι B (.slice (some x) (n + 1) c) v0) : ∃ x', AR ι B x x' := by
  cases h with
  | sliceOld _ _ h1 h2 => exact ⟨_, .old h1 h2⟩
  | sliceNew h1 h2 _ _ => exact ⟨_, .new h1 h2⟩
theorem Hung.arg (R : Rel ι W0 σ W) {t u : AT} (h : Hung ι W0.heap.size σ t) (hu : u ∈ t.args) : Hung ι W0.heap.size σ u := by
  obtain ⟨⟨k, hk⟩, v0, hv⟩ := h
  cases k with
  | zero => cases hk
  | succ k =>
    unfold readT at hk
    split at hk
    · rename_i kd s n p len cap hcs
      replace hk := bif_opt hk
      obtain ⟨_, hk⟩ := hk
      split at hk
      · cases hk
        cases hu
      · rename_i m
        split at hk
        · rename_i x
          replace hk := bif_opt hk
          obtain ⟨_, hk⟩ := hk
          split at hk
          · rename_i l hr
            obtain ⟨h1, h2⟩ := readL_ok hr
            rw [hcs] at hv
            obtain ⟨v3, hv3⟩ := agg_cell hv (j := 3) rfl
            obtain ⟨x', hx'⟩ := slice_at hv3
            cases hk
            obtain ⟨j, hj, rfl⟩ := List.mem_iff_getElem.1 hu
            obtain ⟨cs, q1, q2⟩ := h2 j hj
            obtain ⟨_, vs', hvl, _, _⟩ := rdN_sound R (hx'.add _) q1
            obtain ⟨e1, _⟩ := readT_ok q2
            refine ⟨⟨k, by rw [show AT.c (Tr.args (Tr.mk _ l))[j] = cs from e1]; exact q2⟩, .agg vs'.toArray, ?_⟩
            rw [show AT.c (Tr.args (Tr.mk _ l))[j] = cs from e1]
            exact .agg (by simpa using hvl.1) fun i v v' a b => hvl.2 i v v' (by simpa using a) (by simpa using b)
          · cases hk
        · cases hk
    · cases hk
end
end Go.Pg
