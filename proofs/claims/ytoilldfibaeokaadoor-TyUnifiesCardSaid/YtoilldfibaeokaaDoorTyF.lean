/- Layer 5: types that a law is given; small; ty1. -/
import Derived.Test.YtoilldfibaeokaaDoorTyE
namespace Go.Pg
open Go.Proofs

@[reducible] def L4 : Lay TA := ⟨4, fun a _ s => [.int .i64 a.kind, .string a.name, .int .i64 a.var, s], fun _ => True⟩

@[reducible] def tySh : Nat → Sh
  | 0 => .fld 0 (.int .i64) (.fld 1 .str (.fld 2 (.int .i64) (.fld 3 .opq .fin)))
  | n + 1 => .fld 0 (.int .i64) (.fld 1 .str (.fld 2 (.int .i64) (.fld 3 (.row 4 (tySh n)) .fin)))


def cT : (n : Nat) → (tySh n).D → Tr TA
  | 0, d => .mk ⟨d.1, d.2.1, d.2.2.1⟩ (List.replicate d.2.2.2.1.2.1 (.mk ⟨0, bs [], 0⟩ []))
  | n + 1, d => .mk ⟨d.1, d.2.1, d.2.2.1⟩ ((show List (tySh n).D from d.2.2.2.1).map (cT n))


section
variable {old : Addr → Option Value} {σ : AHeap} {Y : Nat → Prop}

theorem rd_T (ho : σ.old = old) : ∀ (n : Nat) (a : Addr) (d : (tySh n).D), Rd old (tySh n) a d → (tySh n).ok d → a.spot = none ∧ ∃ cs, σ.rdN a 4 = some cs ∧ VIn L4 σ Y n cs (cT n d) := by
  intro n
  induction n with
  | zero =>
    rintro a ⟨k, s, v, x, u⟩ ⟨h0, h1, h2, h3, _⟩ _
    obtain ⟨g1, g2⟩ := rdN_cl ho (a := a) (vs := [.int .i64 k, .string s, .int .i64 v, .slice x.1 x.2.1 x.2.2]) (by simp) (by
      intro i v hv
      match i, hv with
      | 0, hv => cases hv; exact h0
      | 1, hv => cases hv; exact h1
      | 2, hv => cases hv; exact h2
      | 3, hv => cases hv; exact h3
      | i + 4, hv => simp at hv)
    refine ⟨g1, _, g2, trivial, none, x.1, x.2.2, ?_⟩
    simp [cT, Tr.a, Tr.args]
  | succ n ih =>
    rintro a ⟨k, s, v, x, u⟩ ⟨h0, h1, h2, h3, _⟩ ⟨_, _, _, w3, _⟩
    obtain ⟨p, cap, hc, hr⟩ := h3
    obtain ⟨g1, g2⟩ := rdN_cl ho (a := a) (vs := [.int .i64 k, .string s, .int .i64 v, .slice p x.length cap]) (by simp) (by
      intro i v hv
      match i, hv with
      | 0, hv => cases hv; exact h0
      | 1, hv => cases hv; exact h1
      | 2, hv => cases hv; exact h2
      | 3, hv => cases hv; exact hc
      | i + 4, hv => simp at hv)
    refine ⟨g1, _, g2, trivial, none, p, cap, ?_, ?_⟩
    · simp [cT, Tr.a, Tr.args]
    · intro i hi
      have hi' : i < x.length := by simpa [cT, Tr.args] using hi
      obtain ⟨y, rfl, hy⟩ := hr i hi'
      obtain ⟨q1, cs, q2, q3⟩ := ih _ _ hy (w3.2 _ (List.getElem_mem hi'))
      refine ⟨y, cs, rfl, .inl (by simpa [aadd] using q1), q2, ?_⟩
      have : (cT (n + 1) (k, s, v, x, u)).args[i] = cT n x[i] := by simp [cT, Tr.args]
      rw [this]
      exact q3


theorem av_T (ho : σ.old = old) (n : Nat) (d : (tySh (n + 1)).D) (vs : List Value) (h : AV old (tySh (n + 1)) d vs) (hk : (tySh (n + 1)).ok d) : VIn L4 σ Y (n + 1) vs (cT (n + 1) d) := by
  obtain ⟨k, s, v, x, u⟩ := d
  obtain ⟨_, _, _, w3, _⟩ := hk
  obtain ⟨_, _, rfl, rfl, _, _, rfl, rfl, _, _, rfl, rfl, _, _, rfl, ⟨p, cap, rfl, hr⟩, rfl⟩ := h
  refine ⟨trivial, none, p, cap, ?_, ?_⟩
  · simp [cT, Tr.a, Tr.args]
  · intro i hi
    have hi' : i < x.length := by simpa [cT, Tr.args] using hi
    obtain ⟨y, rfl, hy⟩ := hr i hi'
    obtain ⟨q1, cs, q2, q3⟩ := rd_T (Y := Y) ho n _ _ hy (w3.2 _ (List.getElem_mem hi'))
    refine ⟨y, cs, rfl, .inl (by simpa [aadd] using q1), q2, ?_⟩
    have : (cT (n + 1) (k, s, v, x, u)).args[i] = cT n x[i] := by simp [cT, Tr.args]
    rw [this]
    exact q3

theorem row_T (ho : σ.old = old) (n : Nat) {p : Option Addr} {l : List (tySh n).D} (h : RdR old 4 (tySh n) p l) (hk : (Sh.row 4 (tySh n)).ok l) : RowOf σ Y 4 (VIn L4 σ Y n) p (l.map (cT n)) := by
  intro i hi
  have hi' : i < l.length := by simpa using hi
  obtain ⟨y, rfl, hy⟩ := h i hi'
  obtain ⟨q1, cs, q2, q3⟩ := rd_T (Y := Y) ho n _ _ hy (hk.2 _ (List.getElem_mem hi'))
  refine ⟨y, cs, rfl, .inl (by simpa [aadd] using q1), q2, ?_⟩
  simpa using q3

end

/-! ### big, small -/
/-- How much may be in a node that has so many rounds to go. -/
def lev (n : Nat) : Int := if n = 0 then 0 else 2 ^ (n - 1)
theorem lev_half (n : Nat) (hn : n ≤ 7) : wi64 (Int.tdiv (lev (n + 1)) 2) = lev n := by
  have : n = 0 ∨ n = 1 ∨ n = 2 ∨ n = 3 ∨ n = 4 ∨ n = 5 ∨ n = 6 ∨ n = 7 := by omega
  rcases this with rfl | rfl | rfl | rfl | rfl | rfl | rfl | rfl <;> decide
theorem lev_pos (n : Nat) : decide (lev (n + 1) ≤ 0) = false := by
  have : (0 : Int) < 2 ^ n := Int.pow_pos (by decide)
  simp [lev]
  omega

def bigM {α : Type} (nm : α → ByteArray) : Nat → Tr α → Bool
  | 0, _ => true
  | n + 1, t => decide (t.args.length > 4) || decide ((nm t.a).size > 60) || t.args.any (bigM nm n)
/-- What is not too much. -/
def Fits {α : Type} (nm : α → ByteArray) : Nat → Tr α → Prop
  | 0, _ => False
  | n + 1, t => t.args.length ≤ 4 ∧ (nm t.a).size ≤ 60 ∧ ∀ x ∈ t.args, Fits nm n x
theorem bigM_fits {α : Type} {nm : α → ByteArray} : ∀ {n : Nat} {t : Tr α}, bigM nm n t = false → Fits nm n t
  | 0, _, h => by cases h
  | n + 1, t, h => by
    simp only [bigM, Bool.or_eq_false_iff, decide_eq_false_iff_not, List.any_eq_false, Bool.not_eq_true] at h
    exact ⟨by omega, by omega, fun x hx => bigM_fits (h.2 x hx)⟩

abbrev bigT := bigM TA.name
abbrev fitT := Fits TA.name
/-- A call that leaves what there was as it was. -/
def RetO (ov : Ov) (f : FuncId) (args : List Value) (σ : AHeap) (v : Value) : Prop := WpF PROG ov f args σ fun x σ' => x = v ∧ Frm σ σ' NoB

theorem any_take {α : Type} (f : α → Bool) (l : List α) (j : Nat) (hj : j < l.length) (h : (l.take j).any f = false) : (l.take (j + 1)).any f = f l[j] := by
  rw [List.take_succ_eq_append_getElem hj, List.any_append, h]
  simp

theorem any_of_take {α : Type} {f : α → Bool} {l : List α} {j : Nat} (h : (l.take j).any f = true) : l.any f = true := by
  rw [← List.take_append_drop j l, List.any_append, h]
  rfl


theorem wp_small {ov : Ov} (hO : OvT ov) {Y : Nat → Prop} : ∀ (n : Nat) (_ : n ≤ 7) (σ : AHeap) (cs : List Value) (t : Tr TA), VIn L4 σ Y n cs t → RetO ov 10 [.agg cs.toArray, .int .i64 (lev n)] σ (.bool (!bigT n t)) := by
  intro n
  induction n with
  | zero =>
    rintro _ σ cs ⟨a, args⟩ ⟨_, e, p, cap, rfl⟩
    refine WpF.of (T10_eq _ _ _ _ _ _ _) (hO _ (by decide) (by decide) (by decide)) ?_
    rw [T10]
    refine wp_newQ fun σ1 hF1 hn1 hS1 => ?_
    rw [wp_join, wp_bif, if_neg (by simp [lev]), wp_ret]
    simp only [T10k2, sw_same, asCons_cons, asBool_bool, asNil_nil]
    rw [wp_bif, if_pos (by rfl), wp_ret]
    exact ⟨_, rfl, rfl, hF1⟩
  | succ n ih =>
    rintro hn7 σ cs ⟨a, args⟩ ⟨_, e, p, cap, rfl, hr⟩
    simp only [Tr.a, Tr.args] at hr ⊢
    refine WpF.of (T10_eq _ _ _ _ _ _ _) (hO _ (by decide) (by decide) (by decide)) ?_
    rw [T10]
    refine wp_newQ fun σ1 hF1 hn1 hS1 => ?_
    rw [wp_join, wp_bif, lev_pos, if_pos (by rfl), wp_ldF hS1 rfl, asSlice_slice, wp_bif]
    by_cases h4 : ((args.length : Nat) : Int) > 4
    · rw [decide_eq_true h4, if_neg (by simp), wp_ret]
      simp only [T10k2, sw_same, asCons_cons, asBool_bool, asNil_nil]
      rw [wp_bif, if_pos (by rfl), wp_ret]
      exact ⟨_, rfl, by simp [bigM, Tr.args, show args.length > 4 by omega], hF1⟩
    rw [decide_eq_false h4, if_pos (by rfl), wp_ldF hS1 rfl, asStr_str, wp_ret]
    simp only [T10k2, sw_same, asCons_cons, asBool_bool, asNil_nil]
    rw [wp_bif]
    by_cases h60 : ((a.name.size : Nat) : Int) > 60
    · rw [if_pos (decide_eq_true h60), wp_ret]
      exact ⟨_, rfl, by simp [bigM, Tr.a, show a.name.size > 60 by omega], hF1⟩
    rw [if_neg (by rw [decide_eq_false h60]; simp)]
    have e4 : decide (args.length > 4) = false := decide_eq_false (by omega)
    have e60 : decide (a.name.size > 60) = false := decide_eq_false (by omega)
    have eM : bigT (n + 1) (.mk a args) = args.any (bigT n) := by
      show (decide (args.length > 4) || decide (a.name.size > 60) || args.any (bigT n)) = _
      rw [e4, e60]
      rfl
    rw [eM]
    have hl4 : args.length ≤ 4 := by omega
    refine Wp.count args.length (fun j st σ' => st = [.int .i64 ((j : Nat) : Int), .bool false] ∧ Frm σ1 σ' NoB ∧ (args.take j).any (bigT n) = false) ⟨rfl, Frm.refl _ _, by simp⟩ ?_ ?_
    · rintro j st σ2 hj ⟨rfl, hF2, hm⟩
      have ej : wi64 ((j : Int) + 1) = ((j + 1 : Nat) : Int) := by rw [wi64_in (by omega)]; omega
      have hS2 := hF2.stN hS1
      have hr2 := (hr.frm hF1).frm hF2
      simp only [T10b0, asCons_cons, asInt_int, asBool_bool, asNil_nil]
      rw [wp_ldF hS2 rfl, asSlice_slice, wp_bif, if_pos (by simp; omega), wp_join, wp_ldF hS2 rfl, asSlice_slice]
      refine wp_rowOf hr2 hj rfl fun cs hV => ?_
      have hrec := ih (by omega) σ2 cs _ hV
      have hat := any_take (bigT n) args j hj hm
      generalize args[j] = x at hV hrec hat
      obtain ⟨_, e', p', cap', rfl⟩ := hV.cells
      simp only [asAgg_agg, asCons_cons, asInt_int, asStr_str, asSlice_slice, asNil_nil]
      rw [wp_call, lev_half n (by omega)]
      refine WpF.mono hrec ?_
      rintro _ σ3 ⟨rfl, hF3⟩
      simp only [asBool_bool]
      rw [wp_bif]
      cases hb : bigT n x with
      | true =>
        rw [if_pos (by rfl), wp_ret]
        simp only [T10k0, sw_same, asCons_cons, asBool_bool, asNil_nil]
        rw [wp_ret]
        simp only [T10k1, sw_re, sw_same, asCons_cons, asInt_int, asBool_bool, asNil_nil]
        rw [wp_ret]
        refine ⟨_, rfl, ?_, (hF1.seq hF2).seq hF3⟩
        rw [hb] at hat
        rw [any_of_take hat]
        rfl
      | false =>
        rw [if_neg (by simp), wp_ret]
        simp only [T10k0, sw_nr, sw_same, asCons_cons, asBool_bool, asNil_nil]
        rw [wp_ret, ej]
        exact ⟨rfl, hF2.seq hF3, hat.trans hb⟩
    · rintro st σ2 ⟨rfl, hF2, hm⟩
      have hS2 := hF2.stN hS1
      simp only [T10b0, asCons_cons, asInt_int, asBool_bool, asNil_nil]
      rw [wp_ldF hS2 rfl, asSlice_slice, wp_bif, if_neg (by simp), wp_ret]
      simp only [T10k1, sw_same, asCons_cons, asInt_int, asBool_bool, asNil_nil]
      rw [wp_ret]
      rw [List.take_length] at hm
      exact ⟨_, rfl, by rw [hm]; rfl, hF1.seq hF2⟩

/-- The elements of a row that grows: each with its cells. -/
def Elts {β : Type} (c : Nat) (R : List Value → β → Prop) (css : List (List Value)) (ts : List β) : Prop := css.length = ts.length ∧ (∀ cs ∈ css, cs.length = c) ∧ ∀ i (h1 : i < css.length) (h2 : i < ts.length), R css[i] ts[i]
theorem Elts.nil {β : Type} {c : Nat} {R : List Value → β → Prop} : Elts c R [] ([] : List β) := ⟨rfl, (fun _ h => by cases h), fun i h1 _ => by cases h1⟩
theorem Elts.snoc {β : Type} {c : Nat} {R R' : List Value → β → Prop} {css : List (List Value)} {ts : List β} {cs : List Value} {t : β} (h : Elts c R css ts) (hR : ∀ cs t, R cs t → R' cs t) (hc : cs.length = c) (h1 : R' cs t) : Elts c R' (css ++ [cs]) (ts ++ [t]) := by
  obtain ⟨e1, e2, e3⟩ := h
  refine ⟨by simp [e1], fun x hx => ?_, fun i h1' h2' => ?_⟩
  · rcases List.mem_append.1 hx with hx | hx
    · exact e2 x hx
    · simp only [List.mem_singleton] at hx
      rw [hx]
      exact hc
  · by_cases hi : i < css.length
    · rw [List.getElem_append_left hi, List.getElem_append_left (by omega)]
      exact hR _ _ (e3 i hi (by omega))
    · have : i = css.length := by simp at h1'; omega
      subst this
      rw [List.getElem_append_right (by omega), List.getElem_append_right (by omega)]
      simpa using h1
theorem Elts.mono {β : Type} {c : Nat} {R R' : List Value → β → Prop} {css : List (List Value)} {ts : List β} (h : Elts c R css ts) (hR : ∀ cs t, R cs t → R' cs t) : Elts c R' css ts := ⟨h.1, h.2.1, fun i h1 h2 => hR _ _ (h.2.2 i h1 h2)⟩


theorem ones4 {a : TA} {e : Option Addr} {s : Value} (hs : one s = true) : ∀ y ∈ L4.cells a e s, one y = true := by
  intro y hy
  simp only [List.mem_cons, List.mem_nil_iff, or_false] at hy
  rcases hy with rfl | rfl | rfl | rfl <;> first | rfl | exact hs

theorem SlE.rowOf {σ : AHeap} {Y : Nat → Prop} {b cap c : Nat} {p : Option Addr} {β : Type} {R : List Value → β → Prop} {css : List (List Value)} {ts : List β} (h : SlE σ b p cap c css.flatten) (hY : p ≠ none → ¬ Y b) (h0 : 1 ≤ c) (hE : Elts c R css ts) : RowOf σ Y c R p ts := by
  rcases h with ⟨rfl, _, h2⟩ | ⟨off, s, rfl, h⟩
  · have : css = [] := by
      cases css with
      | nil => rfl
      | cons cs css =>
        have h1 := hE.2.1 cs (by simp)
        simp only [List.flatten_cons, List.append_eq_nil_iff] at h2
        rw [h2.1] at h1
        simp at h1
        omega
    subst this
    have : ts = [] := List.length_eq_zero_iff.1 hE.1.symm
    subst this
    exact RowOf.nil
  · exact RowOf.own h (hY (by simp)) hE.1 hE.2.1 hE.2.2


theorem wp_ty1 {ov : Ov} (hO : OvT ov) {Y : Nat → Prop} : ∀ (n : Nat) (σ : AHeap) (cs : List Value) (t : Tr TA), VIn L4 σ Y n cs t → fitT n t →
    WpF PROG ov 14 [.agg cs.toArray] σ fun v σ' => Frm σ σ' NoB ∧ ∃ cs', v = .agg cs'.toArray ∧ VIn L4 σ' (fun j => j < σ.n) n cs' t := by
  intro n
  induction n with
  | zero => intro σ cs t _ h; exact h.elim
  | succ n ih =>
    rintro σ cs ⟨a, args⟩ ⟨ho, e, p, cap, rfl, hr⟩ ⟨hl4, _, hfit⟩
    simp only [Tr.a, Tr.args] at hr hl4 hfit ⊢
    refine WpF.of (T14_eq _ _ _ _ _ _) (hO _ (by decide) (by decide) (by decide)) ?_
    rw [T14]
    refine wp_newQ fun σ1 hF1 hn1 hS1 => ?_
    refine wp_newQ fun σ2 hF2 hn2 hS2 => ?_
    have hS1 := hF2.stN hS1
    rw [wp_ldF hS1 rfl, asInt_int, wp_ldF hS1 rfl, asStr_str, wp_ldF hS1 rfl, asInt_int]
    refine wp_newQ fun σ3 hF3 hn3 hS3 => ?_
    refine wp_stQ hS3 rfl rfl fun σ4 hF4 hn4 hS4 => ?_
    have hS1 := hF4.st (hF3.stN hS1) (by omega)
    have hS2 := hF4.st (hF3.stN hS2) (by omega)
    have hF : Frm σ σ4 NoB := ((hF1.seq hF2).seq hF3).fresh hF4 fun j hj h => by omega
    have hr4 := hr.frm hF
    have hn : σ4.n = σ.n + 3 := by omega
    rw [show σ1.n = σ.n + 1 by omega] at hS2 ⊢
    rw [show σ2.n = σ.n + 2 by omega] at hS4 ⊢
    clear hF1 hF2 hF3 hF4 hS3 hn1 hn2 hn3 hn4
    refine Wp.count args.length (fun j st σ' => st = [.int .i64 ((j : Nat) : Int)] ∧ Frm σ σ' NoB ∧ σ.n + 3 ≤ σ'.n ∧ St σ' σ.n (L4.cells a e (.slice p args.length cap)) ∧ (∃ v, St σ' (σ.n + 1) v ∧ v.length = 4) ∧ RowOf σ' Y 4 (VIn L4 σ' Y n) p args ∧
        ∃ q cap2 b css, St σ' (σ.n + 2) (L4.cells a none (.slice q j cap2)) ∧ SlE σ' b q cap2 4 css.flatten ∧ (q ≠ none → σ.n + 3 ≤ b) ∧ Elts 4 (VIn L4 σ' (fun i => i < σ.n + 3 ∨ (q ≠ none ∧ i = b)) n) css (args.take j))
      ⟨rfl, hF, by omega, hS1, ⟨_, hS2, rfl⟩, hr4, none, 0, 0, [], hS4, .inl ⟨rfl, rfl, rfl⟩, fun h => absurd rfl h, Elts.nil⟩ ?_ ?_
    · rintro j st σ5 hj ⟨rfl, hF5, hn5, hA, hB, hR, q, cap2, b, css, hW, hQ, hqb, hE⟩
      have ej : wi64 ((j : Int) + 1) = ((j + 1 : Nat) : Int) := by rw [wi64_in (by omega)]; omega
      simp only [T14b0, asCons_cons, asInt_int, asNil_nil]
      rw [wp_ldF hA rfl, asSlice_slice, wp_bif, if_pos (by simp; omega), wp_join, wp_ldF hW rfl, asSlice_slice, wp_ldF hA rfl, asSlice_slice]
      refine wp_rowOf hR hj rfl fun cs hV => ?_
      have hrec := ih σ5 cs _ hV (hfit _ (List.getElem_mem hj))
      have htk := List.take_succ_eq_append_getElem hj
      generalize args[j] = x at hV hrec htk
      obtain ⟨_, e', p', cap', rfl⟩ := hV.cells
      simp only [asAgg_agg, asCons_cons, asInt_int, asStr_str, asSlice_slice, asNil_nil]
      rw [wp_call]
      refine WpF.mono hrec ?_
      rintro _ σ6 ⟨hF6, cs', rfl, hV'⟩
      have hcs' := hV'
      obtain ⟨_, e2, p2, c2, rfl⟩ := hV'.cells
      simp only [asAgg_agg, asCons_cons, asInt_int, asStr_str, asSlice_slice, asNil_nil]
      have hA6 := hF6.stN hA
      have hW6 := hF6.stN hW
      have hQ6 : SlE σ6 b q cap2 4 css.flatten := hQ.frm hF6 fun _ h => h
      have hjl : css.flatten.length = j * 4 := by
        rw [flat_len hE.2.1, hE.1, List.length_take, Nat.min_eq_left (by omega)]
      refine wp_appC hQ6 hjl (by decide) (by decide) rfl (ones4 (e := none) rfl) (by omega) (by omega) (fun σ' hF' => ?_) fun σ7 b' off s cap3 hF7 hb7 hR7 => ?_
      · exact chks_one ((hF'.stN hW6).ldF rfl)
      have hbl : q ≠ none → b < σ5.n := fun h => hQ.lt h
      have hW7 := hF7.st hW6 (by rintro ⟨h, rfl⟩; have := hqb h; omega)
      have hA7 := hF7.st hA6 (by rintro ⟨h, rfl⟩; have := hqb h; omega)
      have hF57 : Frm σ5 σ7 (fun j => q ≠ none ∧ j = b) := hF6.no.seq hF7
      refine wp_st1Q hW7 (by simp) rfl fun σ8 hF8 hn8 hS8 => ?_
      rw [wp_ret]
      simp only [T14k0, sw_same, asNil_nil]
      rw [wp_ret, ej]
      have hb' : σ.n + 3 ≤ b' := by
        rcases hb7 with ⟨h1, rfl⟩ | h1
        · exact hqb h1
        · have := hF6.n
          omega
      have hF58 : Frm σ σ8 NoB := (hF5.fresh hF57 fun i hi h => by have := hqb h.1; omega).fresh hF8 fun i hi h => by omega
      have hn58 : σ.n + 3 ≤ σ8.n := by have := hF57.n; omega
      obtain ⟨v, hv, hvl⟩ := hB
      have hB8 := hF8.st (hF57.st hv (by rintro ⟨h, h'⟩; have := hqb h; omega)) (by omega)
      refine ⟨rfl, hF58, hn58, hF8.st hA7 (by omega), ⟨v, hB8, hvl⟩, hr.frm hF58, some ⟨b', off, some s⟩, cap3, b', css ++ [L4.cells x.a e2 (.slice p2 x.args.length c2)], ?_, .inr ⟨off, s, rfl, hF8.row (by simpa using hR7) (by omega)⟩, fun _ => hb', ?_⟩
      · simpa using hS8
      · rw [htk]
        have hstep : ∀ (Z : Nat → Prop) (cs : List Value) (t : Tr TA), VIn L4 σ6 Z n cs t → (∀ i, i < σ6.n → (q ≠ none ∧ i = b) → Z i) → (∀ i, i < σ6.n → (i < σ.n + 3 ∨ i = b') → Z i) → VIn L4 σ8 (fun i => i < σ.n + 3 ∨ ((some ⟨b', off, some s⟩ : Option Addr) ≠ none ∧ i = b')) n cs t := fun Z cs t h h1 h2 => by
          have h3 : VIn L4 σ7 (fun i => i < σ.n + 3 ∨ i = b') n cs t := h.step hF7 h1 h2
          have h4 : VIn L4 σ8 (fun i => i < σ.n + 3 ∨ i = b') n cs t := h3.step hF8 (fun i hi h => by omega) (fun i hi h => h)
          exact h4.step (Frm.refl σ8 NoB) (fun i hi h => h.elim) (fun i hi h => h.imp id fun h => h.2)
        refine hE.snoc (fun cs t h => ?_) rfl ?_
        · refine hstep _ cs t (h.frm hF6) (fun i hi h => .inr h) fun i hi h => ?_
          rcases h with h | rfl
          · exact .inl h
          · rcases hb7 with ⟨h1, rfl⟩ | h1
            · exact .inr ⟨h1, rfl⟩
            · omega
        · refine hstep _ _ _ hcs' (fun i hi h => by rw [h.2]; exact hbl h.1) fun i hi h => ?_
          rcases h with h | rfl
          · show i < σ5.n
            omega
          · rcases hb7 with ⟨h1, rfl⟩ | h1
            · exact hbl h1
            · omega
    · rintro st σ5 ⟨rfl, hF5, hn5, hA, ⟨v, hB, hvl⟩, hR, q, cap2, b, css, hW, hQ, hqb, hE⟩
      rw [List.take_length] at hE
      simp only [T14b0, asCons_cons, asInt_int, asNil_nil]
      rw [wp_ldF hA rfl, asSlice_slice, wp_bif, if_neg (by simp), wp_ret]
      simp only [T14k1, sw_same, asCons_cons, asInt_int, asNil_nil]
      rw [wp_ldAll hW 4 rfl]
      simp only [asAgg_agg, asCons_cons, asInt_int, asStr_str, asSlice_slice, asNil_nil]
      refine wp_stQ hB (by simp [hvl]) rfl fun σ6 hF6 hn6 hS6 => ?_
      rw [wp_ldAll hS6 4 rfl, wp_ret]
      refine ⟨_, rfl, hF5.fresh hF6 fun i hi h => by omega, _, rfl, ho, none, q, cap2, rfl, ?_⟩
      have h1 : RowOf σ5 (fun j => j < σ.n + 3) 4 (VIn L4 σ5 (fun i => i < σ.n + 3) n) q args := SlE.rowOf hQ (fun h h' => by have := hqb h; omega) (by decide) (hE.mono fun cs t h => h.step (Frm.refl σ5 NoB) (fun i hi h => h.elim) (fun i hi h => .inl h))
      exact h1.step hF6 (fun i hi h => by omega) (fun i hi h => by omega) fun cs t h => h.step hF6 (fun i hi h => by omega) (fun i hi h => by omega)

end Go.Pg
