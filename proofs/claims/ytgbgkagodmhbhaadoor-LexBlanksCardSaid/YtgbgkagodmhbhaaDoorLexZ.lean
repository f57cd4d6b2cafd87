/- Layer 2: what the laws need of words that stand in a row. -/
import Derived.Test.YtgbgkagodmhbhaaDoorLexY
namespace Go.Pg
open Go.Proofs Go.Utf8 Go.Lib

theorem awake2 : WpF PROG ovD 9 [] (startH (tabOld tabsD)) fun v _ => v = .bool true := WpF.tab TAB_ok 100000 (by kernel_rfl)

section
variable {P : Program} {ov : Ov} {σ : AHeap}
theorem SlE.some {b c j : Nat} {p : Option Addr} {ws : List Wd} (h : SlE σ b p c 4 (wcs ws)) (hj : j < ws.length) : ∃ off s, p = some ⟨b, off, some s⟩ ∧ Row σ b off s c 4 (wcs ws) := by
  rcases h with ⟨_, _, h⟩ | h
  · have := wcs_len ws
    rw [h] at this
    simp at this
    omega
  · exact h
theorem grd_j {j n : Nat} (hj : j < n) (q : Pg) (Q : Post) : Wp P ov (grd (decide (0 ≤ ((j : Nat) : Int)) && decide (((j : Nat) : Int) < ((n : Nat) : Int))) q) σ Q = Wp P ov q σ Q := by
  have e : (decide (0 ≤ ((j : Nat) : Int)) && decide (((j : Nat) : Int) < ((n : Nat) : Int))) = true := by simp; omega
  rw [wp_grd, e]
  simp
theorem wp_wf {b c j n : Nat} {p : Option Addr} {ws : List Wd} (h : SlE σ b p c 4 (wcs ws)) (hj : j < ws.length) (hn : n = ws.length) (o : Nat) {v : Value} (ho : o < 4) (hv : (wc ws[j])[o]? = some v) (g : Value → Pg) (Q : Post) :
    Wp P ov (asSome p fun a => grd (decide (0 ≤ ((j : Nat) : Int)) && decide (((j : Nat) : Int) < ((n : Nat) : Int))) (.act (ld1 (aadd (aadd a ((Int.toNat ((j : Nat) : Int)) * 4)) o)) g)) σ Q = Wp P ov (g v) σ Q := by
  obtain ⟨off, s, rfl, hR⟩ := h.some hj
  subst hn
  rw [asSome_some, grd_j hj, Int.toNat_natCast]
  exact wp_rowF hR (by rw [wcs_get ws j hj o ho]; exact hv) g Q
theorem wp_wa {b c j n : Nat} {p : Option Addr} {ws : List Wd} (h : SlE σ b p c 4 (wcs ws)) (hj : j < ws.length) (hn : n = ws.length) (g : Value → Pg) (Q : Post) :
    Wp P ov (asSome p fun a => grd (decide (0 ≤ ((j : Nat) : Int)) && decide (((j : Nat) : Int) < ((n : Nat) : Int))) (.act (ldN 4 (aadd a ((Int.toNat ((j : Nat) : Int)) * 4))) g)) σ Q = Wp P ov (g (.agg (wc ws[j]).toArray)) σ Q := by
  obtain ⟨off, s, rfl, hR⟩ := h.some hj
  subst hn
  rw [asSome_some, grd_j hj, Int.toNat_natCast, wp_rowA hR (by have := wcs_len ws; omega), wcs_at ws j hj]
end

/-- Where the word ahead ends. -/
def pto (a : Nat) (ws : List Wd) : Nat → Nat
  | 0 => a
  | j + 1 => ((ws[j]?).map (·.to)).getD 0
theorem pto_cons (a : Nat) (w : Wd) (r : List Wd) (j : Nat) : pto a (w :: r) (j + 1) = pto w.to r j := by
  cases j with
  | zero => simp [pto]
  | succ j => simp [pto]
theorem chain_get {S : List UInt8} : ∀ {a : Nat} {ws : List Wd}, chain S a ws → ∀ (j : Nat) (h : j < ws.length),
    pto a ws j ≤ ws[j].fr ∧ ws[j].to = ws[j].fr + ws[j].t.length ∧ ws[j].t ≠ [] ∧ ws[j].to ≤ S.length ∧ S.drop ws[j].fr = ws[j].t ++ S.drop ws[j].to ∧ IsW (S.drop ws[j].fr) ws[j].k ws[j].t
  | _, [], _, j, hj => by simp at hj
  | a, w :: r, ⟨h1, h2, h3, h4, h5, h6, h7⟩, j, hj => by
    cases j with
    | zero => exact ⟨h1, h2, h3, h4, h5, h6⟩
    | succ j =>
      rw [pto_cons]
      exact chain_get h7 j (by simpa using hj)
theorem pto_succ (a : Nat) (ws : List Wd) (j : Nat) (h : j < ws.length) : pto a ws (j + 1) = ws[j].to := by
  show ((ws[j]?).map (·.to)).getD 0 = _
  rw [List.getElem?_eq_getElem h]
  rfl
theorem chain_len {S : List UInt8} : ∀ {a : Nat} {ws : List Wd}, a ≤ S.length → chain S a ws → (glue ws).length + 2 * a ≤ 2 * S.length
  | a, [], h, _ => by simp [glue]; omega
  | a, w :: r, _, ⟨h1, h2, h3, h4, _, _, h7⟩ => by
    have ih := chain_len h4 h7
    have := List.length_pos_iff.2 h3
    simp only [glue, List.length_cons, List.length_append]
    omega
theorem glue_snoc (l : List Wd) (w : Wd) : glue (l ++ [w]) = glue l ++ (32 :: w.t) := by
  induction l with
  | nil => simp [glue]
  | cons x r ih => simp [glue, ih]
theorem text_at {S : List UInt8} {fr to : Nat} {t : List UInt8} (h1 : to = fr + t.length) (h2 : S.drop fr = t ++ S.drop to) : (S.take to).drop fr = t := by
  rw [List.drop_take, h2, show to - fr = t.length by omega, List.take_left]

def trueR : Value → AHeap → Prop := fun v _ => v = .bool true
end Go.Pg
