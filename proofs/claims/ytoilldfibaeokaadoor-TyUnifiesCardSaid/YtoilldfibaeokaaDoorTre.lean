/- Trees: structs whose row holds structs of their own type; how they stand in memory, in a heap that a law finds or in blocks of one's own. -/
import Derived.Test.YtoilldfibaeokaaDoorRowE
import Derived.Test.YtoilldfibaeokaaDoorArgSt
namespace Go.Pg

inductive Tr (α : Type) where
  | mk (a : α) (args : List (Tr α))
def Tr.a {α : Type} : Tr α → α
  | .mk a _ => a
def Tr.args {α : Type} : Tr α → List (Tr α)
  | .mk _ l => l

/-- How a node's cells lie: how many, and which, with a pointer that nobody asks for and the row. -/
structure Lay (α : Type) where
  c : Nat
  cells : α → Option Addr → Value → List Value
  ok : α → Prop

/-- An address that stays: a given one, or a block of one's own that is none of Y's. -/
def Vis (σ : AHeap) (Y : Nat → Prop) (x : Addr) : Prop := x.spot = none ∨ (x.block < σ.n ∧ ¬ Y x.block)

/-- A row of elements of c cells. -/
def RowOf {β : Type} (σ : AHeap) (Y : Nat → Prop) (c : Nat) (R : List Value → β → Prop) (p : Option Addr) (ts : List β) : Prop :=
  ∀ i (h : i < ts.length), ∃ x cs, p = some x ∧ Vis σ Y x ∧ σ.rdN (aadd x (i * c)) c = some cs ∧ R cs ts[i]

section
variable {α : Type} (L : Lay α) (σ : AHeap) (Y : Nat → Prop)

/-- A node, with so many rounds of what is in it. -/
def VIn : Nat → List Value → Tr α → Prop
  | 0, cs, t => L.ok t.a ∧ ∃ e p cap, cs = L.cells t.a e (.slice p t.args.length cap)
  | n + 1, cs, t => L.ok t.a ∧ ∃ e p cap, cs = L.cells t.a e (.slice p t.args.length cap) ∧ RowOf σ Y L.c (VIn n) p t.args
end

section
variable {α β : Type} {L : Lay α} {σ σ' : AHeap} {Y Y' S : Nat → Prop}

theorem rdN_keep {x : Addr} {n k : Nat} (f : Frm σ σ' S) (hv : Vis σ Y x) (hS : ∀ j, j < σ.n → S j → Y j) : σ'.rdN (aadd x k) n = σ.rdN (aadd x k) n := by
  obtain ⟨b, o, s⟩ := x
  rcases hv with h | ⟨h1, h2⟩
  · simp only at h
    subst h
    unfold AHeap.rdN aadd
    simp only [f.old]
  · simp only at h1 h2
    cases s with
    | none =>
      unfold AHeap.rdN aadd
      simp only [f.old]
    | some s => exact rdN_get (f.get b h1 fun h => h2 (hS b h1 h))

theorem Vis.step {x : Addr} (f : Frm σ σ' S) (hY : ∀ j, j < σ.n → Y' j → Y j) (h : Vis σ Y x) : Vis σ' Y' x := by
  rcases h with h | ⟨h1, h2⟩
  · exact .inl h
  · exact .inr ⟨Nat.lt_of_lt_of_le h1 f.n, fun h => h2 (hY _ h1 h)⟩

theorem RowOf.step {c : Nat} {R R' : List Value → β → Prop} {p : Option Addr} {ts : List β} (f : Frm σ σ' S) (hS : ∀ j, j < σ.n → S j → Y j) (hY : ∀ j, j < σ.n → Y' j → Y j) (hR : ∀ cs t, R cs t → R' cs t) (h : RowOf σ Y c R p ts) : RowOf σ' Y' c R' p ts := by
  intro i hi
  obtain ⟨x, cs, h1, h2, h3, h4⟩ := h i hi
  exact ⟨x, cs, h1, h2.step f hY, by rw [rdN_keep f h2 hS]; exact h3, hR _ _ h4⟩

theorem VIn.step (f : Frm σ σ' S) (hS : ∀ j, j < σ.n → S j → Y j) (hY : ∀ j, j < σ.n → Y' j → Y j) : ∀ {n : Nat} {cs : List Value} {t : Tr α}, VIn L σ Y n cs t → VIn L σ' Y' n cs t
  | 0, _, _, h => h
  | _ + 1, _, _, ⟨ho, e, p, cap, h1, h2⟩ => ⟨ho, e, p, cap, h1, h2.step f hS hY fun _ _ h => VIn.step f hS hY h⟩

/-- Where nothing but what is new is written. -/
theorem VIn.frm (f : Frm σ σ' NoB) {n : Nat} {cs : List Value} {t : Tr α} (h : VIn L σ Y n cs t) : VIn L σ' Y n cs t := by
  have key : ∀ {n : Nat} {cs : List Value} {t : Tr α}, VIn L σ Y n cs t → VIn L σ' Y n cs t := VIn.step (S := NoB) f (fun _ _ h => h.elim) (fun _ _ h => h)
  exact key h
theorem RowOf.frm {c n : Nat} {p : Option Addr} {ts : List (Tr α)} (f : Frm σ σ' NoB) (h : RowOf σ Y c (VIn L σ Y n) p ts) : RowOf σ' Y c (VIn L σ' Y n) p ts :=
  RowOf.step (S := NoB) f (fun _ _ h => h.elim) (fun _ _ h => h) (fun _ _ h => h.frm f) h

/-- A node of so many rounds is one of fewer. -/
theorem VIn.low : ∀ {n m : Nat} {cs : List Value} {t : Tr α}, m ≤ n → VIn L σ Y n cs t → VIn L σ Y m cs t
  | 0, 0, _, _, _, h => h
  | _ + 1, 0, _, _, _, ⟨ho, e, p, cap, h1, _⟩ => ⟨ho, e, p, cap, h1⟩
  | n + 1, m + 1, _, _, hm, ⟨ho, e, p, cap, h1, h2⟩ => ⟨ho, e, p, cap, h1, fun i hi => by
    obtain ⟨x, cs, q1, q2, q3, q4⟩ := h2 i hi
    exact ⟨x, cs, q1, q2, q3, VIn.low (by omega) q4⟩⟩

theorem VIn.cells {n : Nat} {cs : List Value} {t : Tr α} (h : VIn L σ Y n cs t) : L.ok t.a ∧ ∃ e p cap, cs = L.cells t.a e (.slice p t.args.length cap) := VIn.low (m := 0) (Nat.zero_le _) h

/-- What one can see of a node's row, read. -/
theorem RowOf.ldN {c : Nat} {R : List Value → β → Prop} {p : Option Addr} {ts : List β} (h : RowOf σ Y c R p ts) {i : Nat} (hi : i < ts.length) : ∃ x cs, p = some x ∧ Go.Pg.ldN c (aadd x (i * c)) σ = some (.agg cs.toArray, σ) ∧ R cs ts[i] := by
  obtain ⟨x, cs, h1, h2, h3, h4⟩ := h i hi
  refine ⟨x, cs, h1, ?_, h4⟩
  unfold Go.Pg.ldN
  rw [h3]

variable {P : Program} {ov : Ov}
/-- An element of a row, read whole. -/
theorem wp_rowOf {c : Nat} {R : List Value → β → Prop} {p : Option Addr} {ts : List β} (h : RowOf σ Y c R p ts) {i n : Nat} (hi : i < ts.length) (hn : n = ts.length) {f : Value → Pg} {Q : Post}
    (k : ∀ cs, R cs ts[i] → Wp P ov (f (.agg cs.toArray)) σ Q) :
    Wp P ov (asSome p fun a => grd (decide (0 ≤ ((i : Nat) : Int)) && decide (((i : Nat) : Int) < ((n : Nat) : Int))) (.act (Go.Pg.ldN c (aadd a (Int.toNat ((i : Nat) : Int) * c))) f)) σ Q := by
  subst hn
  obtain ⟨x, cs, rfl, h1, h2⟩ := h.ldN hi
  have e : (decide (0 ≤ ((i : Nat) : Int)) && decide (((i : Nat) : Int) < ((ts.length : Nat) : Int))) = true := by simp; omega
  simp only [asSome_some]
  rw [wp_grd, e, Int.toNat_natCast, wp_act, h1]
  exact ⟨rfl, k cs h2⟩

theorem flat_len {c : Nat} : ∀ {css : List (List Value)}, (∀ cs ∈ css, cs.length = c) → css.flatten.length = css.length * c
  | [], _ => by simp
  | cs :: css, h => by
    rw [List.flatten_cons, List.length_append, flat_len (fun x hx => h x (by simp [hx])), h cs (by simp), List.length_cons, Nat.add_mul, Nat.one_mul, Nat.add_comm]
theorem flat_get {c : Nat} : ∀ {css : List (List Value)} (i : Nat) (hi : i < css.length), (∀ cs ∈ css, cs.length = c) → (css.flatten.drop (i * c)).take c = css[i]
  | cs :: css, 0, _, h => by
    rw [List.flatten_cons, Nat.zero_mul, List.drop_zero, List.take_append_of_le_length (by rw [h cs (by simp)]; exact Nat.le_refl _), List.take_of_length_le (by rw [h cs (by simp)]; exact Nat.le_refl _)]
    rfl
  | cs :: css, i + 1, hi, h => by
    have hc := h cs (by simp)
    rw [List.flatten_cons, show (i + 1) * c = cs.length + i * c by rw [hc, Nat.add_mul, Nat.one_mul, Nat.add_comm], List.drop_append, List.drop_of_length_le (by omega), List.nil_append, Nat.add_sub_cancel_left]
    rw [flat_get i (by simpa using hi) (fun x hx => h x (by simp [hx]))]
    rfl

/-- A row of one's own, as a row of elements. -/
theorem RowOf.own {b off s cap c : Nat} {R : List Value → β → Prop} {css : List (List Value)} {ts : List β} (h : Row σ b off s cap c css.flatten) (hY : ¬ Y b) (hl : css.length = ts.length) (hc : ∀ cs ∈ css, cs.length = c) (hR : ∀ i (h1 : i < css.length) (h2 : i < ts.length), R css[i] ts[i]) :
    RowOf σ Y c R (some ⟨b, off, some s⟩) ts := by
  intro i hi
  refine ⟨_, css[i]'(by omega), rfl, .inr ⟨h.lt, hY⟩, ?_, hR i (by omega) hi⟩
  have h1 : i * c + c ≤ css.flatten.length := by
    rw [flat_len hc]
    have : (i + 1) * c ≤ css.length * c := Nat.mul_le_mul_right c (by omega)
    rw [Nat.add_mul, Nat.one_mul] at this
    exact this
  have := h.rdN (i := i * c) (k := c) h1
  rw [flat_get i (by omega) hc] at this
  exact this
theorem RowOf.nil {c : Nat} {R : List Value → β → Prop} {p : Option Addr} : RowOf σ Y c R p [] := fun i hi => by cases hi
end

/-- One is appended, what was looked at ahead being the same still. -/
theorem wp_appC {P : Program} {ov : Ov} {σ : AHeap} {b cap len byt esz : Nat} {p : Option Addr} {xs ys : List Value} {ck : List (Act × Value)} {g : Option Addr → Nat → Nat → Pg} {Q : Post} (h : SlE σ b p cap esz xs) (hlen : xs.length = len * esz) (h0 : 1 ≤ esz) (he : esz < 64) (hy : ys.length = esz) (hy1 : ∀ y ∈ ys, one y = true)
    (hb : 2 * (len + 1) * byt ≤ 281474976710656) (hb2 : len + 1 ≤ 4611686018427387904) (hck : ∀ σ', Frm σ σ' NoB → chks ck σ' = true)
    (k : ∀ σ' b' off s cap', Frm σ σ' (fun j => p ≠ none ∧ j = b) → ((p ≠ none ∧ b' = b) ∨ σ.n ≤ b') → Row σ' b' off s cap' esz (xs ++ ys) → Wp P ov (g (some ⟨b', off, some s⟩) (len + 1) cap') σ' Q) :
    Wp P ov (.get fun h1 => grd (chks ck h1) (.act (bdSl esz 1 ys) fun v => asSlice v fun p' n' c' => .get fun h2 => grd (chks ck h2) (.act (apS esz byt p len cap p' n' c') fun w => asSlice w g))) σ Q := by
  rw [wp_get, wp_grd]
  refine ⟨hck σ (Frm.refl _ _), ?_⟩
  have key := wp_appE (P := P) (ov := ov) (g := g) (Q := Q) h hlen h0 he hy hy1 hb hb2 k
  rw [wp_act, bdSl_eq] at key ⊢
  simp only [asSlice_slice] at key ⊢
  rw [wp_get, wp_grd]
  exact ⟨hck _ (Frm.new _ _ _ _), key⟩

/-! ### what a law is given -/
theorem Cl.at {old : Addr → Option Value} {a : Addr} {v : Value} (h : Cl old a v) : a.spot = none ∧ old ⟨a.block, a.off, none⟩ = some v := by
  have h1 := h ⟨old, 0, .nil⟩ rfl
  obtain ⟨b, o, s⟩ := a
  unfold ld1 AHeap.rdN at h1
  cases s with
  | none =>
    simp only [oldN] at h1
    cases ho : old ⟨b, o, none⟩ with
    | none => rw [ho] at h1; cases h1
    | some u =>
      rw [ho] at h1
      simp only [Option.some.injEq, Prod.mk.injEq, and_true] at h1
      exact ⟨rfl, by rw [h1]⟩
  | some s =>
    have e : (⟨old, 0, .nil⟩ : AHeap).get b = none := by cases b <;> rfl
    simp only [e] at h1
    cases h1
theorem oldN_of {old : Addr → Option Value} {b : Nat} : ∀ (vs : List Value) (o : Nat), (∀ i v, vs[i]? = some v → old ⟨b, o + i, none⟩ = some v) → oldN old b o vs.length = some vs
  | [], o, _ => rfl
  | v :: vs, o, h => by
    have h0 : old ⟨b, o, none⟩ = some v := by simpa using h 0 v rfl
    have ih := oldN_of vs (o + 1) fun i w hw => by
      have := h (i + 1) w hw
      rw [show o + 1 + i = o + (i + 1) by omega]
      exact this
    rw [List.length_cons, oldN, h0]
    simp only [ih]
/-- The cells of a struct that is given. -/
theorem rdN_cl {old : Addr → Option Value} {σ : AHeap} (ho : σ.old = old) {a : Addr} {vs : List Value} (h0 : vs ≠ []) (h : ∀ i v, vs[i]? = some v → Cl old (aadd a i) v) : a.spot = none ∧ σ.rdN a vs.length = some vs := by
  obtain ⟨b, o, s⟩ := a
  have hs : s = none := by
    cases vs with
    | nil => exact absurd rfl h0
    | cons v vs => exact (h 0 v rfl).at.1
  subst hs
  refine ⟨rfl, ?_⟩
  unfold AHeap.rdN
  simp only [ho]
  exact oldN_of vs o fun i v hv => (h i v hv).at.2
end Go.Pg
