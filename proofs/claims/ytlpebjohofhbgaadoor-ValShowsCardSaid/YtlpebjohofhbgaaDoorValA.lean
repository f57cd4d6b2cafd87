/- Layer 9: values and types as trees; how they stand in memory; what big, small answer. -/
import Derived.Test.YtlpebjohofhbgaaDoorTre
namespace Go.Pg
open Go.Proofs

structure VA where
  kind : Int
  n : Int
  name : ByteArray
  node : Int
  loc : Int
structure TA where
  kind : Int
  name : ByteArray
  var : Int

def i64r (n : Int) : Prop := -9223372036854775808 ≤ n ∧ n ≤ 9223372036854775807
/-- A value's cells; the document's own; a type's. -/
@[reducible] def L7 : Lay VA := ⟨7, fun a e s => [.int .i64 a.kind, .int .i64 a.n, .string a.name, s, .int .i64 a.node, .pointer e, .int .i64 a.loc], fun a => i64r a.n⟩
@[reducible] def L8 : Lay VA := ⟨8, fun a e s => [.int .i64 a.kind, .int .i64 a.n, .string a.name, s, .int .i64 a.node, .pointer e, .int .i64 a.loc, .int .i64 0], fun a => i64r a.n⟩
@[reducible] def L4 : Lay TA := ⟨4, fun a _ s => [.int .i64 a.kind, .string a.name, .int .i64 a.var, s], fun _ => True⟩

/-! ### what a law is given -/
@[reducible] def valSh : Nat → Sh
  | 0 => .fld 0 (.int .i64) (.fld 1 (.int .i64) (.fld 2 .str (.fld 3 .opq (.fld 4 (.int .i64) (.fld 5 .ptr (.fld 6 (.int .i64) .fin))))))
  | n + 1 => .fld 0 (.int .i64) (.fld 1 (.int .i64) (.fld 2 .str (.fld 3 (.row 7 (valSh n)) (.fld 4 (.int .i64) (.fld 5 .ptr (.fld 6 (.int .i64) .fin))))))
@[reducible] def tySh : Nat → Sh
  | 0 => .fld 0 (.int .i64) (.fld 1 .str (.fld 2 (.int .i64) (.fld 3 .opq .fin)))
  | n + 1 => .fld 0 (.int .i64) (.fld 1 .str (.fld 2 (.int .i64) (.fld 3 (.row 4 (tySh n)) .fin)))

def cV : (n : Nat) → (valSh n).D → Tr VA
  | 0, d => .mk ⟨d.1, d.2.1, d.2.2.1, d.2.2.2.2.1, d.2.2.2.2.2.2.1⟩ (List.replicate d.2.2.2.1.2.1 (.mk ⟨0, 0, bs [], 0, 0⟩ []))
  | n + 1, d => .mk ⟨d.1, d.2.1, d.2.2.1, d.2.2.2.2.1, d.2.2.2.2.2.2.1⟩ ((show List (valSh n).D from d.2.2.2.1).map (cV n))
def cT : (n : Nat) → (tySh n).D → Tr TA
  | 0, d => .mk ⟨d.1, d.2.1, d.2.2.1⟩ (List.replicate d.2.2.2.1.2.1 (.mk ⟨0, bs [], 0⟩ []))
  | n + 1, d => .mk ⟨d.1, d.2.1, d.2.2.1⟩ ((show List (tySh n).D from d.2.2.2.1).map (cT n))

theorem i64r_wf {n : Int} (h : (Lit.int .i64 n).wf = true) : i64r n := by
  simp [Lit.wf, IntKind.min, IntKind.max, IntKind.bits, IntKind.signed] at h
  unfold i64r
  omega

section
variable {old : Addr → Option Value} {σ : AHeap} {Y : Nat → Prop}

theorem vis_old {x : Addr} (h : x.spot = none) : Vis σ Y x := .inl h

theorem rd_V (ho : σ.old = old) : ∀ (n : Nat) (a : Addr) (d : (valSh n).D), Rd old (valSh n) a d → (valSh n).ok d → a.spot = none ∧ ∃ cs, σ.rdN a 7 = some cs ∧ VIn L7 σ Y n cs (cV n d) := by
  intro n
  induction n with
  | zero =>
    rintro a ⟨k, m, s, x, nd, e, at', u⟩ ⟨h0, h1, h2, h3, h4, h5, h6, _⟩ ⟨_, w1, _⟩
    obtain ⟨g1, g2⟩ := rdN_cl ho (a := a) (vs := [.int .i64 k, .int .i64 m, .string s, .slice x.1 x.2.1 x.2.2, .int .i64 nd, .pointer e, .int .i64 at']) (by simp) (by
      intro i v hv
      match i, hv with
      | 0, hv => cases hv; exact h0
      | 1, hv => cases hv; exact h1
      | 2, hv => cases hv; exact h2
      | 3, hv => cases hv; exact h3
      | 4, hv => cases hv; exact h4
      | 5, hv => cases hv; exact h5
      | 6, hv => cases hv; exact h6
      | i + 7, hv => simp at hv)
    refine ⟨g1, _, g2, i64r_wf w1, e, x.1, x.2.2, ?_⟩
    simp [cV, Tr.a, Tr.args]
  | succ n ih =>
    rintro a ⟨k, m, s, x, nd, e, at', u⟩ ⟨h0, h1, h2, h3, h4, h5, h6, _⟩ ⟨_, w1, _, w3, _⟩
    obtain ⟨p, cap, hc, hr⟩ := h3
    obtain ⟨g1, g2⟩ := rdN_cl ho (a := a) (vs := [.int .i64 k, .int .i64 m, .string s, .slice p x.length cap, .int .i64 nd, .pointer e, .int .i64 at']) (by simp) (by
      intro i v hv
      match i, hv with
      | 0, hv => cases hv; exact h0
      | 1, hv => cases hv; exact h1
      | 2, hv => cases hv; exact h2
      | 3, hv => cases hv; exact hc
      | 4, hv => cases hv; exact h4
      | 5, hv => cases hv; exact h5
      | 6, hv => cases hv; exact h6
      | i + 7, hv => simp at hv)
    refine ⟨g1, _, g2, i64r_wf w1, e, p, cap, ?_, ?_⟩
    · simp [cV, Tr.a, Tr.args]
    · intro i hi
      have hi' : i < x.length := by simpa [cV, Tr.args] using hi
      obtain ⟨y, rfl, hy⟩ := hr i hi'
      obtain ⟨q1, cs, q2, q3⟩ := ih _ _ hy (w3.2 _ (List.getElem_mem hi'))
      refine ⟨y, cs, rfl, .inl (by simpa [aadd] using q1), q2, ?_⟩
      have : (cV (n + 1) (k, m, s, x, nd, e, at', u)).args[i] = cV n x[i] := by simp [cV, Tr.args]
      rw [this]
      exact q3

theorem rd_T (ho : σ.old = old) : ∀ (n : Nat) (a : Addr) (d : (tySh n).D), Rd old (tySh n) a d → (tySh n).ok d → a.spot = none ∧ ∃ cs, σ.rdN a 4 = some cs ∧ VIn L4 σ Y n cs (cT n d) := by
  intro n
  induction n with
  | zero =>
    rintro a ⟨k, s, v, x, u⟩ ⟨h0, h1, h2, h3, _⟩ _
    obtain ⟨g1, g2⟩ := rdN_cl ho (a := a) (vs := [.int .i64 k, .string s, .int .i64 v, .slice x.1 x.2.1 x.2.2]) (by simp) (by
      intro i v hv
      match i, hv with
      | 0, hv => cases hv; exact h0
      | 1, hv => cases hv; exact h1
      | 2, hv => cases hv; exact h2
      | 3, hv => cases hv; exact h3
      | i + 4, hv => simp at hv)
    refine ⟨g1, _, g2, trivial, none, x.1, x.2.2, ?_⟩
    simp [cT, Tr.a, Tr.args]
  | succ n ih =>
    rintro a ⟨k, s, v, x, u⟩ ⟨h0, h1, h2, h3, _⟩ ⟨_, _, _, w3, _⟩
    obtain ⟨p, cap, hc, hr⟩ := h3
    obtain ⟨g1, g2⟩ := rdN_cl ho (a := a) (vs := [.int .i64 k, .string s, .int .i64 v, .slice p x.length cap]) (by simp) (by
      intro i v hv
      match i, hv with
      | 0, hv => cases hv; exact h0
      | 1, hv => cases hv; exact h1
      | 2, hv => cases hv; exact h2
      | 3, hv => cases hv; exact hc
      | i + 4, hv => simp at hv)
    refine ⟨g1, _, g2, trivial, none, p, cap, ?_, ?_⟩
    · simp [cT, Tr.a, Tr.args]
    · intro i hi
      have hi' : i < x.length := by simpa [cT, Tr.args] using hi
      obtain ⟨y, rfl, hy⟩ := hr i hi'
      obtain ⟨q1, cs, q2, q3⟩ := ih _ _ hy (w3.2 _ (List.getElem_mem hi'))
      refine ⟨y, cs, rfl, .inl (by simpa [aadd] using q1), q2, ?_⟩
      have : (cT (n + 1) (k, s, v, x, u)).args[i] = cT n x[i] := by simp [cT, Tr.args]
      rw [this]
      exact q3

/-- A value that a law is given; a type; a row of values. -/
theorem av_V (ho : σ.old = old) (n : Nat) (d : (valSh (n + 1)).D) (vs : List Value) (h : AV old (valSh (n + 1)) d vs) (hk : (valSh (n + 1)).ok d) : VIn L7 σ Y (n + 1) vs (cV (n + 1) d) := by
  obtain ⟨k, m, s, x, nd, e, at', u⟩ := d
  obtain ⟨_, w1, _, w3, _⟩ := hk
  obtain ⟨_, _, rfl, rfl, _, _, rfl, rfl, _, _, rfl, rfl, _, _, rfl, ⟨p, cap, rfl, hr⟩, _, _, rfl, rfl, _, _, rfl, rfl, _, _, rfl, rfl, rfl⟩ := h
  refine ⟨i64r_wf w1, e, p, cap, ?_, ?_⟩
  · simp [cV, Tr.a, Tr.args]
  · intro i hi
    have hi' : i < x.length := by simpa [cV, Tr.args] using hi
    obtain ⟨y, rfl, hy⟩ := hr i hi'
    obtain ⟨q1, cs, q2, q3⟩ := rd_V (Y := Y) ho n _ _ hy (w3.2 _ (List.getElem_mem hi'))
    refine ⟨y, cs, rfl, .inl (by simpa [aadd] using q1), q2, ?_⟩
    have : (cV (n + 1) (k, m, s, x, nd, e, at', u)).args[i] = cV n x[i] := by simp [cV, Tr.args]
    rw [this]
    exact q3
theorem av_T (ho : σ.old = old) (n : Nat) (d : (tySh (n + 1)).D) (vs : List Value) (h : AV old (tySh (n + 1)) d vs) (hk : (tySh (n + 1)).ok d) : VIn L4 σ Y (n + 1) vs (cT (n + 1) d) := by
  obtain ⟨k, s, v, x, u⟩ := d
  obtain ⟨_, _, _, w3, _⟩ := hk
  obtain ⟨_, _, rfl, rfl, _, _, rfl, rfl, _, _, rfl, rfl, _, _, rfl, ⟨p, cap, rfl, hr⟩, rfl⟩ := h
  refine ⟨trivial, none, p, cap, ?_, ?_⟩
  · simp [cT, Tr.a, Tr.args]
  · intro i hi
    have hi' : i < x.length := by simpa [cT, Tr.args] using hi
    obtain ⟨y, rfl, hy⟩ := hr i hi'
    obtain ⟨q1, cs, q2, q3⟩ := rd_T (Y := Y) ho n _ _ hy (w3.2 _ (List.getElem_mem hi'))
    refine ⟨y, cs, rfl, .inl (by simpa [aadd] using q1), q2, ?_⟩
    have : (cT (n + 1) (k, s, v, x, u)).args[i] = cT n x[i] := by simp [cT, Tr.args]
    rw [this]
    exact q3
theorem row_V (ho : σ.old = old) (n : Nat) {p : Option Addr} {l : List (valSh n).D} (h : RdR old 7 (valSh n) p l) (hk : (Sh.row 7 (valSh n)).ok l) : RowOf σ Y 7 (VIn L7 σ Y n) p (l.map (cV n)) := by
  intro i hi
  have hi' : i < l.length := by simpa using hi
  obtain ⟨y, rfl, hy⟩ := h i hi'
  obtain ⟨q1, cs, q2, q3⟩ := rd_V (Y := Y) ho n _ _ hy (hk.2 _ (List.getElem_mem hi'))
  refine ⟨y, cs, rfl, .inl (by simpa [aadd] using q1), q2, ?_⟩
  simpa using q3
end

/-! ### big, small -/
/-- How much may be in a node that has so many rounds to go. -/
def lev (n : Nat) : Int := if n = 0 then 0 else 2 ^ (n - 1)
theorem lev_half (n : Nat) (hn : n ≤ 7) : wi64 (Int.tdiv (lev (n + 1)) 2) = lev n := by
  have : n = 0 ∨ n = 1 ∨ n = 2 ∨ n = 3 ∨ n = 4 ∨ n = 5 ∨ n = 6 ∨ n = 7 := by omega
  rcases this with rfl | rfl | rfl | rfl | rfl | rfl | rfl | rfl <;> decide
theorem lev_pos (n : Nat) : decide (lev (n + 1) ≤ 0) = false := by
  have : (0 : Int) < 2 ^ n := Int.pow_pos (by decide)
  simp [lev]
  omega

def bigM {α : Type} (nm : α → ByteArray) : Nat → Tr α → Bool
  | 0, _ => true
  | n + 1, t => decide (t.args.length > 4) || decide ((nm t.a).size > 60) || t.args.any (bigM nm n)
/-- What is not too much. -/
def Fits {α : Type} (nm : α → ByteArray) : Nat → Tr α → Prop
  | 0, _ => False
  | n + 1, t => t.args.length ≤ 4 ∧ (nm t.a).size ≤ 60 ∧ ∀ x ∈ t.args, Fits nm n x
theorem bigM_fits {α : Type} {nm : α → ByteArray} : ∀ {n : Nat} {t : Tr α}, bigM nm n t = false → Fits nm n t
  | 0, _, h => by cases h
  | n + 1, t, h => by
    simp only [bigM, Bool.or_eq_false_iff, decide_eq_false_iff_not, List.any_eq_false, Bool.not_eq_true] at h
    exact ⟨by omega, by omega, fun x hx => bigM_fits (h.2 x hx)⟩
end Go.Pg
