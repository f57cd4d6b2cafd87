/- Blocks that are made anew: what making, writing, reading them comes to. -/
import Derived.Test.YtoilldfibaeokaaDoorV
namespace Go.Pg
section
variable {P : Program} {ov : Ov}

abbrev NoB : Nat → Prop := fun _ => False

theorem Frm.fresh {σ σ' σ'' : AHeap} {S : Nat → Prop} (h : Frm σ σ' NoB) (k : Frm σ' σ'' S) (hS : ∀ j, j < σ.n → ¬ S j) : Frm σ σ'' NoB :=
  h.trans k (fun _ _ h => h) fun j hj hs => hS j hj hs
theorem Frm.seq {σ σ' σ'' : AHeap} {S : Nat → Prop} (h : Frm σ σ' S) (k : Frm σ' σ'' S) : Frm σ σ'' S := h.trans k (fun _ _ h => h) fun _ _ h => h
theorem Frm.no {σ σ' : AHeap} {S : Nat → Prop} (h : Frm σ σ' NoB) : Frm σ σ' S := h.mono fun _ _ h => h.elim
theorem Frm.stN {σ σ' : AHeap} {b : Nat} {cs : List Value} (h : Frm σ σ' NoB) (k : St σ b cs) : St σ' b cs := h.st k fun h => h
theorem Frm.rowN {σ σ' : AHeap} {b off s cap esz : Nat} {xs : List Value} (h : Frm σ σ' NoB) (k : Row σ b off s cap esz xs) : Row σ' b off s cap esz xs := h.row k fun h => h

theorem wp_newQ {cs : List Value} {σ : AHeap} {f : Addr → Pg} {Q : Post} (h : ∀ σ', Frm σ σ' NoB → σ'.n = σ.n + 1 → St σ' σ.n cs → Wp P ov (f ⟨σ.n, 0, some 0⟩) σ' Q) :
    Wp P ov (.act (newC cs) fun v => asPtr v fun p => asSome p f) σ Q := by
  rw [wp_act, newC_eq]
  simp only [asPtr_ptr, asSome_some]
  exact h _ (Frm.new _ _ _ _) rfl (St.new _ _)

theorem St.stAll {σ : AHeap} {b : Nat} {cs vs : List Value} (h : St σ b cs) (hl : vs.length = cs.length) (hv : vs.all one = true) :
    Go.Pg.stC ⟨b, 0, some 0⟩ vs σ = some (.tuple #[], σ.put b (.blk ⟨vs, 0, [cs.length], 0⟩)) := by
  obtain ⟨_, h⟩ := h
  unfold Go.Pg.stC AHeap.wrN
  simp only [h, Nat.zero_div]
  have : (Nat.beq (0 + 1) [cs.length].length && Nat.ble (0 + vs.length) cs.length && vs.all one) = true := by simp [hv]; omega
  rw [this, cond_true]
  simp [hl]

theorem wp_stQ {σ : AHeap} {b : Nat} {cs vs : List Value} {p : Pg} {Q : Post} (h : St σ b cs) (hl : vs.length = cs.length) (hv : vs.all one = true)
    (k : ∀ σ', Frm σ σ' (· = b) → σ'.n = σ.n → St σ' b vs → Wp P ov p σ' Q) : Wp P ov (.act (stC ⟨b, 0, some 0⟩ vs) fun v => asTuple v fun l => asNil l p) σ Q := by
  rw [wp_act, h.stAll hl hv]
  simp only [asTuple_tuple, asNil_nil]
  exact k _ (Frm.put _ _ _ h.1) rfl (h.put hl)

theorem wp_st1Q {σ : AHeap} {b i : Nat} {cs : List Value} {x : Value} {p : Pg} {Q : Post} (h : St σ b cs) (hi : i < cs.length) (hx : one x = true)
    (k : ∀ σ', Frm σ σ' (· = b) → σ'.n = σ.n → St σ' b (cs.set i x) → Wp P ov p σ' Q) : Wp P ov (.act (stC (aadd ⟨b, 0, some 0⟩ i) [x]) fun v => asTuple v fun l => asNil l p) σ Q := by
  have e := h.stC (off := 0 + i) (v := x) (by omega) hx
  rw [wp_act, show aadd ⟨b, 0, some 0⟩ i = ⟨b, 0 + i, some 0⟩ from rfl, e]
  simp only [asTuple_tuple, asNil_nil, Nat.zero_add]
  exact k _ (Frm.put _ _ _ h.1) rfl (h.put (by simp))

theorem wp_ldAll {σ : AHeap} {b : Nat} {cs : List Value} (h : St σ b cs) (n : Nat) (hn : n = cs.length) (g : Value → Pg) (Q : Post) :
    Wp P ov (.act (ldN n ⟨b, 0, some 0⟩) g) σ Q = Wp P ov (g (.agg cs.toArray)) σ Q := by
  subst hn
  rw [wp_act, h.ldN (by omega)]
  simp

theorem wp_ldF {σ : AHeap} {b i : Nat} {cs : List Value} {v : Value} (h : St σ b cs) (hv : cs[i]? = some v) (g : Value → Pg) (Q : Post) :
    Wp P ov (.act (ld1 (aadd ⟨b, 0, some 0⟩ i)) g) σ Q = Wp P ov (g v) σ Q := by
  have e := h.ld (off := 0 + i) (v := v) (by rw [Nat.zero_add]; exact hv)
  rw [wp_act, show aadd ⟨b, 0, some 0⟩ i = ⟨b, 0 + i, some 0⟩ from rfl, e]
theorem St.ldAll {σ : AHeap} {b : Nat} {cs : List Value} (h : St σ b cs) (n : Nat) (hn : n = cs.length) : Go.Pg.ldN n ⟨b, 0, some 0⟩ σ = some (.agg cs.toArray, σ) := by
  subst hn
  rw [h.ldN (by omega)]
  simp
theorem St.ldF {σ : AHeap} {b i : Nat} {cs : List Value} {v : Value} (h : St σ b cs) (hv : cs[i]? = some v) : ld1 (aadd ⟨b, 0, some 0⟩ i) σ = some (v, σ) := by
  have e := h.ld (off := 0 + i) (v := v) (by rw [Nat.zero_add]; exact hv)
  exact e
end

theorem eqv_same (v : Value) : eqv v v = true := by simp [eqv, sameV]
theorem past_ok {h : Act} {v : Value} {σ τ : AHeap} (e : h σ = some (v, τ)) : past h v [σ] = true := by
  simp [past, chkAt, e, eqv_same]
end Go.Pg
