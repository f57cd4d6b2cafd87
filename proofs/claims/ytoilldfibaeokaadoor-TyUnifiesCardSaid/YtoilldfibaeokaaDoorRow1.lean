/- Rows of elements of one cell: what reading, writing, appending comes to. -/
import Derived.Test.YtoilldfibaeokaaDoorBlk
namespace Go.Pg
section
variable {P : Program} {ov : Ov}

/-- A row that may be none. -/
def SlV (σ : AHeap) (b : Nat) (p : Option Addr) (cap : Nat) (xs : List Value) : Prop := (p = none ∧ cap = 0 ∧ xs = []) ∨ ∃ off s, p = some ⟨b, off, some s⟩ ∧ Row σ b off s cap 1 xs

theorem SlV.frm {σ σ' : AHeap} {T : Nat → Prop} {b cap : Nat} {p : Option Addr} {xs : List Value} (h : SlV σ b p cap xs) (f : Frm σ σ' T) (hb : p ≠ none → ¬ T b) : SlV σ' b p cap xs := by
  rcases h with h | ⟨off, s, rfl, h⟩
  · exact .inl h
  · exact .inr ⟨off, s, rfl, f.row h (hb (by simp))⟩

theorem wp_rowR {σ : AHeap} {b off s cap i : Nat} {xs : List Value} {v : Value} (h : Row σ b off s cap 1 xs) (hv : xs[i]? = some v) (g : Value → Pg) (Q : Post) :
    Wp P ov (.act (ld1 (aadd ⟨b, off, some s⟩ (i * 1))) g) σ Q = Wp P ov (g v) σ Q := by
  have e := h.ld hv
  rw [wp_act, Nat.mul_one, show aadd ⟨b, off, some s⟩ i = ⟨b, off + i, some s⟩ from rfl, e]

theorem wp_rowW {σ : AHeap} {b off s cap i : Nat} {xs : List Value} {v : Value} {p : Pg} {Q : Post} (h : Row σ b off s cap 1 xs) (hi : i < xs.length) (hv : one v = true)
    (k : ∀ σ', Frm σ σ' (· = b) → σ'.n = σ.n → Row σ' b off s cap 1 (xs.set i v) → Wp P ov p σ' Q) :
    Wp P ov (.act (stC (aadd ⟨b, off, some s⟩ (i * 1)) [v]) fun v => asTuple v fun l => asNil l p) σ Q := by
  have hl := h.len
  obtain ⟨σ', w1, w2, w3, w4, w5⟩ := h.wrN (i := i) (vs := [v]) (by omega) (by simp only [List.length_singleton]; omega) (by intro x hx; simp at hx; subst hx; exact hv)
  rw [wp_act, Nat.mul_one, show aadd ⟨b, off, some s⟩ i = ⟨b, off + i, some s⟩ from rfl]
  unfold stC
  rw [w1]
  simp only [asTuple_tuple, asNil_nil]
  refine k σ' (Frm.of1 h.lt w2 w3 w4) w2 ?_
  have e : xs.take i ++ [v] ++ xs.drop (i + [v].length) = xs.set i v := by
    rw [List.set_eq_take_append_cons_drop, if_pos hi]
    simp
  rw [e] at w5
  exact w5

theorem wp_app1 {σ : AHeap} {b cap len byt : Nat} {p : Option Addr} {xs : List Value} {x : Value} {g : Option Addr → Nat → Nat → Pg} {Q : Post} (h : SlV σ b p cap xs) (hlen : len = xs.length) (hx : one x = true) (hb : 2 * (len + 1) * byt ≤ 281474976710656) (hb2 : len + 1 ≤ 4611686018427387904)
    (k : ∀ σ' b' off s cap', Frm σ σ' (fun j => p ≠ none ∧ j = b) → ((p ≠ none ∧ b' = b) ∨ σ.n ≤ b') → Row σ' b' off s cap' 1 (xs ++ [x]) → Wp P ov (g (some ⟨b', off, some s⟩) (len + 1) cap') σ' Q) :
    Wp P ov (.act (bdSl 1 1 [x]) fun v => asSlice v fun p' n' c' => .act (apS 1 byt p len cap p' n' c') fun w => asSlice w g) σ Q := by
  subst hlen
  rw [wp_act, bdSl_eq]
  simp only [asSlice_slice]
  have hF := Frm.new σ [x] 1 NoB
  have hN := Row.new σ 1 [x] 1 (by decide) rfl (by intro y hy; simp at hy; subst hy; exact hx)
  rw [wp_act, apS_some (show (σ.newBlk [x] 1).rdN ⟨σ.n, 0, some 1⟩ (1 * 1) = some [x] from hN.rdN (i := 0) (k := 1) (by simp))]
  rcases h with ⟨rfl, rfl, rfl⟩ | ⟨off, s, rfl, h⟩
  · rw [List.length_nil, apCore_nil (by decide) (by decide) rfl (by intro y hy; simp at hy; subst hy; exact hx) (by simpa using hb) (by decide)]
    simp only [asSlice_slice]
    refine k _ (σ.newBlk [x] 1).n 0 1 1 ?_ (.inr (by rw [newBlk_n]; omega)) ?_
    · exact hF.no.trans (Frm.new _ [x] 1 NoB) (fun _ _ h => h) (fun _ _ h => h.elim)
    · exact Row.new (σ.newBlk [x] 1) 1 [x] 1 (by decide) rfl (by intro y hy; simp at hy; subst hy; exact hx)
  · obtain ⟨σ', s', cap', e1, e2, e3, e4, e5⟩ := (hF.rowN h).append (byt := byt) (len := xs.length) (n := 1) (ys := [x]) (by simp) rfl (by decide) (by decide) (by intro y hy; simp at hy; subst hy; exact hx) hb hb2
    rw [e1]
    simp only [asSlice_slice]
    refine k σ' b off s' cap' ?_ (.inl ⟨by simp, rfl⟩) e5
    have hk : Frm (σ.newBlk [x] 1) σ' (· = b) := Frm.of1 (by rw [newBlk_n]; exact Nat.lt_succ_of_lt h.lt) e2 e3 e4
    exact hF.trans hk (fun _ _ h => h.elim) (fun j _ h => ⟨by simp, h⟩)

theorem mkSl_eq (esz byt : Nat) (zs : List Value) (n : Nat) (σ : AHeap) (hn : n * byt ≤ 281474976710656) : mkSl esz byt zs (n : Int) (n : Int) σ = some (.slice (some ⟨σ.n, 0, some esz⟩) n n, σ.newBlk (rep zs n) esz) := by
  unfold mkSl
  have : (decide (0 ≤ (n : Int)) && decide ((n : Int) ≤ (n : Int)) && Nat.ble ((n : Int).toNat * byt) 281474976710656) = true := by simp; omega
  rw [this, cond_true]
  rfl

theorem rep_1 (x : Value) (n : Nat) : rep [x] n = List.replicate n x := by
  induction n with
  | zero => rfl
  | succ n ih => rw [List.replicate_succ, ← ih]; rfl

theorem chks_one {h : Act} {v : Value} {σ τ : AHeap} (e : h σ = some (v, τ)) : chks [(h, v)] σ = true := by simp [chks, chkAt, e, eqv_same]
end
end Go.Pg
