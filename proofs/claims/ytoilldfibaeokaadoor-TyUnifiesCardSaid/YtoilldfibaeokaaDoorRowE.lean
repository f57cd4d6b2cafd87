/- Rows of elements of several cells that may be none: append of one, reading one. -/
import Derived.Test.YtoilldfibaeokaaDoorRow2
namespace Go.Pg
section
variable {P : Program} {ov : Ov}

def SlE (σ : AHeap) (b : Nat) (p : Option Addr) (cap esz : Nat) (xs : List Value) : Prop := (p = none ∧ cap = 0 ∧ xs = []) ∨ ∃ off s, p = some ⟨b, off, some s⟩ ∧ Row σ b off s cap esz xs

theorem SlE.frm {σ σ' : AHeap} {T : Nat → Prop} {b cap esz : Nat} {p : Option Addr} {xs : List Value} (h : SlE σ b p cap esz xs) (f : Frm σ σ' T) (hb : p ≠ none → ¬ T b) : SlE σ' b p cap esz xs := by
  rcases h with h | ⟨off, s, rfl, h⟩
  · exact .inl h
  · exact .inr ⟨off, s, rfl, f.row h (hb (by simp))⟩
theorem SlE.lt {σ : AHeap} {b cap esz : Nat} {p : Option Addr} {xs : List Value} (h : SlE σ b p cap esz xs) (hp : p ≠ none) : b < σ.n := by
  rcases h with ⟨e, _⟩ | ⟨off, s, _, h⟩
  · exact absurd e hp
  · exact h.lt

theorem wp_appE {σ : AHeap} {b cap len byt esz : Nat} {p : Option Addr} {xs ys : List Value} {g : Option Addr → Nat → Nat → Pg} {Q : Post} (h : SlE σ b p cap esz xs) (hlen : xs.length = len * esz) (h0 : 1 ≤ esz) (he : esz < 64) (hy : ys.length = esz) (hy1 : ∀ y ∈ ys, one y = true)
    (hb : 2 * (len + 1) * byt ≤ 281474976710656) (hb2 : len + 1 ≤ 4611686018427387904)
    (k : ∀ σ' b' off s cap', Frm σ σ' (fun j => p ≠ none ∧ j = b) → ((p ≠ none ∧ b' = b) ∨ σ.n ≤ b') → Row σ' b' off s cap' esz (xs ++ ys) → Wp P ov (g (some ⟨b', off, some s⟩) (len + 1) cap') σ' Q) :
    Wp P ov (.act (bdSl esz 1 ys) fun v => asSlice v fun p' n' c' => .act (apS esz byt p len cap p' n' c') fun w => asSlice w g) σ Q := by
  rw [wp_act, bdSl_eq]
  simp only [asSlice_slice]
  have hF := Frm.new σ ys esz NoB
  have hN := Row.new σ esz ys 1 he (by omega) hy1
  rw [wp_act, apS_some (show (σ.newBlk ys esz).rdN ⟨σ.n, 0, some esz⟩ (1 * esz) = some ys from by
    have := hN.rdN (i := 0) (k := 1 * esz) (by omega)
    rw [this, List.drop_zero, List.take_of_length_le (by omega)])]
  rcases h with ⟨rfl, rfl, rfl⟩ | ⟨off, s, rfl, h⟩
  · have hl0 : len = 0 := by
      simp only [List.length_nil] at hlen
      rcases Nat.mul_eq_zero.1 hlen.symm with h | h
      · exact h
      · omega
    subst hl0
    rw [apCore_nil he (by decide) (by omega) hy1 (by simpa using hb) (by decide)]
    simp only [asSlice_slice]
    refine k _ (σ.newBlk ys esz).n 0 esz 1 ?_ (.inr (by rw [newBlk_n]; omega)) ?_
    · exact hF.no.trans (Frm.new _ ys esz NoB) (fun _ _ h => h) (fun _ _ h => h.elim)
    · exact Row.new (σ.newBlk ys esz) esz ys 1 he (by omega) hy1
  · obtain ⟨σ', s', cap', e1, e2, e3, e4, e5⟩ := (hF.rowN h).append (byt := byt) (len := len) (n := 1) (ys := ys) hlen (by omega) h0 (by decide) hy1 hb hb2
    rw [e1]
    simp only [asSlice_slice]
    refine k σ' b off s' cap' ?_ (.inl ⟨by simp, rfl⟩) e5
    have hk : Frm (σ.newBlk ys esz) σ' (· = b) := Frm.of1 (by rw [newBlk_n]; exact Nat.lt_succ_of_lt h.lt) e2 e3 e4
    exact hF.trans hk (fun _ _ h => h.elim) (fun j _ h => ⟨by simp, h⟩)

/-- One cell of an element. -/
theorem wp_rowF {σ : AHeap} {b off s cap esz i o : Nat} {xs : List Value} {v : Value} (h : Row σ b off s cap esz xs) (hv : xs[i * esz + o]? = some v) (g : Value → Pg) (Q : Post) :
    Wp P ov (.act (ld1 (aadd (aadd ⟨b, off, some s⟩ (i * esz)) o)) g) σ Q = Wp P ov (g v) σ Q := by
  have e := h.ld hv
  rw [wp_act, show aadd (aadd ⟨b, off, some s⟩ (i * esz)) o = ⟨b, off + (i * esz + o), some s⟩ from by simp [aadd, Nat.add_assoc], e]
/-- A whole element. -/
theorem wp_rowA {σ : AHeap} {b off s cap esz i : Nat} {xs : List Value} (h : Row σ b off s cap esz xs) (hi : i * esz + esz ≤ xs.length) (g : Value → Pg) (Q : Post) :
    Wp P ov (.act (ldN esz (aadd ⟨b, off, some s⟩ (i * esz))) g) σ Q = Wp P ov (g (.agg ((xs.drop (i * esz)).take esz).toArray)) σ Q := by
  have e := h.rdN hi
  rw [wp_act]
  unfold ldN
  rw [show aadd ⟨b, off, some s⟩ (i * esz) = ⟨b, off + i * esz, some s⟩ from rfl, e]
end
end Go.Pg
