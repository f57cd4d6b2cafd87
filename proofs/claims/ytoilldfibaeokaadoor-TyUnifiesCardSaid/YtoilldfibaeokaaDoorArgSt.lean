/- A struct that a law is given by value: its cells. -/
import Derived.Test.YtoilldfibaeokaaDoorBlk
namespace Go.Pg
open Go.RowKit Go.ChangeShapes Go.WideShapes

/-- What one cell of an argument is. -/
def AV1 (old : Addr → Option Value) : (s : Sh) → s.D → Value → Prop
  | .int k, n, v => v = .int k n
  | .str, s, v => v = .string s
  | .bool, b, v => v = .bool b
  | .ptr, p, v => v = .pointer p
  | .opq, x, v => v = .slice x.1 x.2.1 x.2.2
  | .row c s, l, v => ∃ p cap, v = .slice p l.length cap ∧ RdR old c s p l
  | _, _, _ => False
/-- What the cells of a struct are. -/
def AV (old : Addr → Option Value) : (s : Sh) → s.D → List Value → Prop
  | .fin, _, vs => vs = []
  | .fld _ s r, d, vs => ∃ v rest, vs = v :: rest ∧ AV1 old s d.1 v ∧ AV old r d.2 rest
  | _, _, _ => False

def oneS (P : Program) : Sh → TypeId → Bool
  | .int k, t => shC P (.int k) (.inl t)
  | .str, t => shC P .str (.inl t)
  | .bool, t => shC P .bool (.inl t)
  | .ptr, t => shC P .ptr (.inl t)
  | .opq, t => shC P .opq (.inl t)
  | .row c s, t => shC P (.row c s) (.inl t)
  | _, _ => false
def flatS (P : Program) : Nat → Sh → List Field → Bool
  | _, .fin, [] => true
  | n, .fld o s r, f :: fs => Nat.beq o n && Nat.beq f.offset n && Nat.beq (P.cellsOf f.type) 1 && oneS P s f.type && flatS P (n + 1) r fs
  | _, _, _ => false

section
variable {H : Type} {enc : TypeId × Value → H} {P : Program} {W : World}

theorem one_arg {s : Sh} {t : TypeId} {fuel : Nat} {cs : List Value} {x : DataW H × List MemPlace} (hc : oneS P s t = true) (h : DataW.trod enc P W 0 (fun _ => true) true fuel t cs = some x) :
    ∃ (d : s.D) (v v' : Value), cs = [v'] ∧ AV1 (oldS W) s d v ∧ VR noInj W.heap.size v v' ∧ s.ok d := by
  cases s with
  | int k =>
    simp only [oneS, shC] at hc
    split at hc
    · rename_i k' hu
      obtain rfl := of_decide_eq_true hc
      obtain ⟨n, rfl, _, hw⟩ := DataW.trod_int hu h
      exact ⟨n, _, _, rfl, rfl, .int _ _, hw⟩
    · cases hc
  | str =>
    simp only [oneS, shC] at hc
    split at hc
    · rename_i hu
      obtain ⟨n, rfl, _, hw⟩ := DataW.trod_string hu h
      exact ⟨n, _, _, rfl, rfl, .string _, hw⟩
    · cases hc
  | bool =>
    simp only [oneS, shC] at hc
    split at hc
    · rename_i hu
      obtain ⟨n, rfl, _⟩ := DataW.trod_bool hu h
      exact ⟨n, _, _, rfl, rfl, .bool _, trivial⟩
    · cases hc
  | ptr =>
    simp only [oneS, shC] at hc
    split at hc
    · rename_i e hu
      simp only [Nat.ble_eq] at hc
      obtain ⟨p, rfl, hp⟩ := ptr_rd hu hc h
      exact ⟨p, _, _, rfl, rfl, plainO_VR hp, trivial⟩
    · cases hc
  | opq =>
    simp only [oneS, shC] at hc
    split at hc
    · rename_i e hu
      simp only [Nat.ble_eq] at hc
      obtain ⟨p, n, c, v, rfl, hp, hm⟩ := opq_rd hu hc h
      exact ⟨(p, n, c), _, _, rfl, rfl, plainO_VR hp, hm⟩
    · cases hc
  | row c s =>
    simp only [oneS, shC] at hc
    split at hc
    · rename_i e hu
      simp only [Bool.and_eq_true, Nat.beq_eq, Nat.ble_eq] at hc
      obtain ⟨v, p, cap, l, rfl, e2, e3, e4⟩ := slice_rd (sh_rd s).1 hu hc.1.1 hc.1.2 hc.2 h
      exact ⟨l, _, _, rfl, ⟨p, cap, rfl, e3⟩, plainO_VR e2, e4⟩
    · cases hc
  | fin => cases hc
  | fld o s r => cases hc

theorem fields_arg : ∀ (s : Sh) (n : Nat) (fs : List Field) (cs : List Value) (fuel : Nat), flatS P n s fs = true → cs.length = n + fs.length →
    (∀ f ∈ fs, ∃ x, DataW.trod enc P W 0 (fun _ => true) true fuel f.type ((cs.drop f.offset).take (P.cellsOf f.type)) = some x) →
    ∃ (d : s.D) (vs : List Value), AV (oldS W) s d vs ∧ s.ok d ∧ VRL noInj W.heap.size vs (cs.drop n) := by
  intro s
  induction s with
  | int k => intro n fs cs fuel h; cases fs <;> simp [flatS] at h
  | str => intro n fs cs fuel h; cases fs <;> simp [flatS] at h
  | bool => intro n fs cs fuel h; cases fs <;> simp [flatS] at h
  | ptr => intro n fs cs fuel h; cases fs <;> simp [flatS] at h
  | opq => intro n fs cs fuel h; cases fs <;> simp [flatS] at h
  | row c s _ => intro n fs cs fuel h; cases fs <;> simp [flatS] at h
  | fin =>
    intro n fs cs fuel h hl _
    cases fs with
    | cons f fs => simp [flatS] at h
    | nil =>
      have : cs.drop n = [] := List.drop_eq_nil_of_le (by simpa using Nat.le_of_eq hl)
      rw [this]
      exact ⟨(), [], rfl, trivial, .nil⟩
  | fld o s r _ ihr =>
    intro n fs cs fuel h hl hf
    cases fs with
    | nil => simp [flatS] at h
    | cons f fs =>
      simp only [flatS, Bool.and_eq_true, Nat.beq_eq] at h
      obtain ⟨⟨⟨⟨rfl, h2⟩, h3⟩, h4⟩, h5⟩ := h
      obtain ⟨x, hx⟩ := hf f (by simp)
      rw [h2, h3] at hx
      obtain ⟨d1, v, v', e1, e2, e3, e4⟩ := one_arg h4 hx
      simp only [List.length_cons] at hl
      obtain ⟨d2, vs, g1, g2, g3⟩ := ihr (o + 1) fs cs fuel h5 (by omega) fun g hg => hf g (by simp [hg])
      have hlt : o < cs.length := by omega
      have e5 : cs.drop o = v' :: cs.drop (o + 1) := by
        rw [List.drop_eq_getElem_cons hlt] at e1 ⊢
        simp only [List.take_succ_cons, List.take_zero, List.cons.injEq, and_true] at e1
        rw [e1]
      rw [e5]
      exact ⟨(d1, d2), v :: vs, ⟨v, vs, rfl, e2, g1⟩, ⟨e4, g2⟩, .cons e3 g3⟩

/-- A struct that is given. -/
theorem arg_struct {r : Reach} {b0 : Nat} {s : Sh} {t : TypeId} {fs : Array Field} {v : Value} {d : DataW H} {ps : List MemPlace} (ht : P.underlying t = some (.struct fs)) (hc : flatS P 0 s fs.toList = true) (hn : P.cellsOf t = fs.size)
    (hval : Value.okWide P W r b0 t v) (h : DataW.Trod enc P W 0 (fun _ => true) true t v d ps) :
    ∃ (x : s.D) (vs : List Value), VR noInj W.heap.size (.agg vs.toArray) v ∧ AV (oldS W) s x vs ∧ s.ok x := by
  simp only [Value.okWide, ht] at hval
  obtain ⟨cs, rfl, hsz, _⟩ := hval
  obtain ⟨fuel, hf⟩ := h
  obtain ⟨xs, n, _, _, hl, hxl, hx⟩ := DataW.trod_struct ht hf
  have hcl : (Value.agg cs).cells.toList = cs.toList := rfl
  rw [hcl] at hx hl
  obtain ⟨x, vs, g1, g2, g3⟩ := fields_arg (enc := enc) s 0 fs.toList cs.toList n hc (by simp [hsz, hn]) fun f hfm => by
    obtain ⟨i, hi, rfl⟩ := List.mem_iff_getElem.1 hfm
    simp at hi
    have := hx i fs[i] (Array.getElem?_eq_getElem hi)
    refine ⟨xs[i]'(by omega), ?_⟩
    simp only [Array.getElem_toList]
    rw [this]
    exact List.getElem?_eq_getElem (by omega)
  rw [List.drop_zero] at g3
  refine ⟨x, vs, .agg ?_ fun j v v' hv hv' => ?_, g1, g2⟩
  · have := g3.1
    simpa using this
  · exact g3.2 j v v' (by simpa using hv) (by simpa using hv')

/-- A row that is given; there is room for what it has. -/
theorem arg_rowC {r : Reach} {b0 c : Nat} {s : Sh} {t : TypeId} {v : Value} {d : DataW H} {ps : List MemPlace} (hc : shC P (.row c s) (.inl t) = true)
    (hval : Value.okWide P W r b0 t v) (h : DataW.Trod enc P W 0 (fun _ => true) true t v d ps) :
    ∃ (p : Option Addr) (cap : Nat) (l : List s.D), VR noInj W.heap.size (.slice p l.length cap) v ∧ RdR (oldS W) c s p l ∧ (Sh.row c s).ok l ∧ l.length ≤ cap ∧ ∀ a, p = some a → a.spot = none := by
  simp only [shC] at hc
  split at hc
  · rename_i e hu
    simp only [Bool.and_eq_true, Nat.beq_eq, Nat.ble_eq] at hc
    obtain ⟨a0, len, cap, rfl⟩ := okWide_slice hu hval
    obtain ⟨fuel, hf⟩ := h
    have hcs : (Value.slice a0 len cap).cells.toList = [.slice a0 len cap] := rfl
    rw [hcs] at hf
    have hle : len ≤ cap := by
      rcases DataW.trod_slice hu hf with ⟨h1, _⟩ | ⟨a, len', cap', _, _, _, _, h1, _, _, h2, _⟩
      · cases h1; exact Nat.le_refl _
      · cases h1; exact h2
    obtain ⟨v, p, cap2, l, e1, e2, e3, e4⟩ := slice_rd (sh_rd s).1 hu hc.1.1 hc.1.2 hc.2 hf
    simp only [List.cons.injEq, and_true] at e1
    subst e1
    have hx : l.length ≤ cap2 ∧ ∀ a, p = some a → a.spot = none := by
      unfold plainO at e2
      split at e2
      · simp only [Option.some.injEq, Value.slice.injEq] at e2
        obtain ⟨rfl, h1, h2⟩ := e2
        exact ⟨by omega, fun a ha => by cases ha; rfl⟩
      · rename_i q
        cases q
        obtain ⟨g1, g2⟩ := bif_some e2
        simp only [Value.slice.injEq] at g2
        obtain ⟨h0, h1, h2⟩ := g2
        simp only [Bool.and_eq_true] at g1
        exact ⟨by omega, fun a ha => by rw [ha] at h0; cases h0; simpa using g1.1.1⟩
      · obtain ⟨_, g2⟩ := bif_some e2
        cases g2
      · obtain ⟨g1, g2⟩ := bif_some e2
        simp only [Value.slice.injEq] at g2
        obtain ⟨h0, h1, h2⟩ := g2
        refine ⟨by omega, fun a ha => ?_⟩
        rw [ha] at h0
        rw [h0] at g1
        cases g1
    exact ⟨p, cap2, l, plainO_VR e2, e3, e4, hx⟩
  · cases hc

end
end Go.Pg
