/- Layer 9: what big, small answer. -/
import Derived.Test.YtlpebjohofhbgaaDoorValA
namespace Go.Pg
open Go.Proofs

abbrev bigV := bigM VA.name
abbrev fitV := Fits VA.name
abbrev bigT := bigM TA.name
abbrev fitT := Fits TA.name

/-- A call that leaves what there was as it was. -/
def Ret (f : FuncId) (args : List Value) (σ : AHeap) (v : Value) : Prop := WpF PROG ovD f args σ fun x σ' => x = v ∧ Frm σ σ' NoB

theorem any_take {α : Type} (f : α → Bool) (l : List α) (j : Nat) (hj : j < l.length) (h : (l.take j).any f = false) : (l.take (j + 1)).any f = f l[j] := by
  rw [List.take_succ_eq_append_getElem hj, List.any_append, h]
  simp

theorem any_of_take {α : Type} {f : α → Bool} {l : List α} {j : Nat} (h : (l.take j).any f = true) : l.any f = true := by
  rw [← List.take_append_drop j l, List.any_append, h]
  rfl

theorem wp_big {Y : Nat → Prop} : ∀ (n : Nat) (_ : n ≤ 7) (σ : AHeap) (cs : List Value) (t : Tr VA), VIn L7 σ Y n cs t → Ret 6 [.agg cs.toArray, .int .i64 (lev n)] σ (.bool (bigV n t)) := by
  intro n
  induction n with
  | zero =>
    rintro _ σ cs ⟨a, args⟩ ⟨_, e, p, cap, rfl⟩
    refine WpF.of (T6_eq _ _ _ _ _ _ _ _ _ _) rfl ?_
    rw [T6]
    refine wp_newQ fun σ1 hF1 hn1 hS1 => ?_
    rw [wp_join, wp_bif, if_neg (by simp [lev]), wp_ret]
    simp only [T6k2, sw_same, asCons_cons, asBool_bool, asNil_nil]
    rw [wp_bif, if_pos (by rfl), wp_ret]
    exact ⟨_, rfl, rfl, hF1⟩
  | succ n ih =>
    rintro hn7 σ cs ⟨a, args⟩ ⟨_, e, p, cap, rfl, hr⟩
    simp only [Tr.a, Tr.args] at hr ⊢
    refine WpF.of (T6_eq _ _ _ _ _ _ _ _ _ _) rfl ?_
    rw [T6]
    refine wp_newQ fun σ1 hF1 hn1 hS1 => ?_
    rw [wp_join, wp_bif, lev_pos, if_pos (by rfl), wp_ldF hS1 rfl, asSlice_slice, wp_bif]
    by_cases h4 : ((args.length : Nat) : Int) > 4
    · rw [decide_eq_true h4, if_neg (by simp), wp_ret]
      simp only [T6k2, sw_same, asCons_cons, asBool_bool, asNil_nil]
      rw [wp_bif, if_pos (by rfl), wp_ret]
      exact ⟨_, rfl, by simp [bigM, Tr.args, show args.length > 4 by omega], hF1⟩
    rw [decide_eq_false h4, if_pos (by rfl), wp_ldF hS1 rfl, asStr_str, wp_ret]
    simp only [T6k2, sw_same, asCons_cons, asBool_bool, asNil_nil]
    rw [wp_bif]
    by_cases h60 : ((a.name.size : Nat) : Int) > 60
    · rw [if_pos (decide_eq_true h60), wp_ret]
      exact ⟨_, rfl, by simp [bigM, Tr.a, show a.name.size > 60 by omega], hF1⟩
    rw [if_neg (by rw [decide_eq_false h60]; simp)]
    have e4 : decide (args.length > 4) = false := decide_eq_false (by omega)
    have e60 : decide (a.name.size > 60) = false := decide_eq_false (by omega)
    have eM : bigV (n + 1) (.mk a args) = args.any (bigV n) := by
      show (decide (args.length > 4) || decide (a.name.size > 60) || args.any (bigV n)) = _
      rw [e4, e60]
      rfl
    rw [eM]
    have hl4 : args.length ≤ 4 := by omega
    refine Wp.count args.length (fun j st σ' => st = [.int .i64 ((j : Nat) : Int), .bool false] ∧ Frm σ1 σ' NoB ∧ (args.take j).any (bigV n) = false) ⟨rfl, Frm.refl _ _, by simp⟩ ?_ ?_
    · rintro j st σ2 hj ⟨rfl, hF2, hm⟩
      have ej : wi64 ((j : Int) + 1) = ((j + 1 : Nat) : Int) := by rw [wi64_in (by omega)]; omega
      have hS2 := hF2.stN hS1
      have hr2 := (hr.frm hF1).frm hF2
      simp only [T6b0, asCons_cons, asInt_int, asBool_bool, asNil_nil]
      rw [wp_ldF hS2 rfl, asSlice_slice, wp_bif, if_pos (by simp; omega), wp_join, wp_ldF hS2 rfl, asSlice_slice]
      refine wp_rowOf hr2 hj rfl fun cs hV => ?_
      have hrec := ih (by omega) σ2 cs _ hV
      have hat := any_take (bigV n) args j hj hm
      generalize args[j] = x at hV hrec hat
      obtain ⟨_, e', p', cap', rfl⟩ := hV.cells
      simp only [asAgg_agg, asCons_cons, asInt_int, asStr_str, asSlice_slice, asPtr_ptr, asNil_nil]
      rw [wp_call, lev_half n (by omega)]
      refine WpF.mono hrec ?_
      rintro _ σ3 ⟨rfl, hF3⟩
      simp only [asBool_bool]
      rw [wp_bif]
      cases hb : bigV n x with
      | true =>
        rw [if_pos rfl, wp_ret]
        simp only [T6k0, sw_same, asCons_cons, asBool_bool, asNil_nil]
        rw [wp_ret]
        simp only [T6k1, sw_re, sw_same, asCons_cons, asInt_int, asBool_bool, asNil_nil]
        rw [wp_ret]
        refine ⟨_, rfl, ?_, (hF1.seq hF2).seq hF3⟩
        rw [hb] at hat
        rw [any_of_take hat]
      | false =>
        rw [if_neg (by simp), wp_ret]
        simp only [T6k0, sw_nr, sw_same, asCons_cons, asBool_bool, asNil_nil]
        rw [wp_ret, ej]
        exact ⟨rfl, hF2.seq hF3, hat.trans hb⟩
    · rintro st σ2 ⟨rfl, hF2, hm⟩
      have hS2 := hF2.stN hS1
      simp only [T6b0, asCons_cons, asInt_int, asBool_bool, asNil_nil]
      rw [wp_ldF hS2 rfl, asSlice_slice, wp_bif, if_neg (by simp), wp_ret]
      simp only [T6k1, sw_same, asCons_cons, asInt_int, asBool_bool, asNil_nil]
      rw [wp_ret]
      rw [List.take_length] at hm
      exact ⟨_, rfl, by rw [hm], hF1.seq hF2⟩
theorem wp_small {Y : Nat → Prop} : ∀ (n : Nat) (_ : n ≤ 7) (σ : AHeap) (cs : List Value) (t : Tr TA), VIn L4 σ Y n cs t → Ret 8 [.agg cs.toArray, .int .i64 (lev n)] σ (.bool (!bigT n t)) := by
  intro n
  induction n with
  | zero =>
    rintro _ σ cs ⟨a, args⟩ ⟨_, e, p, cap, rfl⟩
    refine WpF.of (T8_eq _ _ _ _ _ _ _) rfl ?_
    rw [T8]
    refine wp_newQ fun σ1 hF1 hn1 hS1 => ?_
    rw [wp_join, wp_bif, if_neg (by simp [lev]), wp_ret]
    simp only [T8k2, sw_same, asCons_cons, asBool_bool, asNil_nil]
    rw [wp_bif, if_pos (by rfl), wp_ret]
    exact ⟨_, rfl, rfl, hF1⟩
  | succ n ih =>
    rintro hn7 σ cs ⟨a, args⟩ ⟨_, e, p, cap, rfl, hr⟩
    simp only [Tr.a, Tr.args] at hr ⊢
    refine WpF.of (T8_eq _ _ _ _ _ _ _) rfl ?_
    rw [T8]
    refine wp_newQ fun σ1 hF1 hn1 hS1 => ?_
    rw [wp_join, wp_bif, lev_pos, if_pos (by rfl), wp_ldF hS1 rfl, asSlice_slice, wp_bif]
    by_cases h4 : ((args.length : Nat) : Int) > 4
    · rw [decide_eq_true h4, if_neg (by simp), wp_ret]
      simp only [T8k2, sw_same, asCons_cons, asBool_bool, asNil_nil]
      rw [wp_bif, if_pos (by rfl), wp_ret]
      exact ⟨_, rfl, by simp [bigM, Tr.args, show args.length > 4 by omega], hF1⟩
    rw [decide_eq_false h4, if_pos (by rfl), wp_ldF hS1 rfl, asStr_str, wp_ret]
    simp only [T8k2, sw_same, asCons_cons, asBool_bool, asNil_nil]
    rw [wp_bif]
    by_cases h60 : ((a.name.size : Nat) : Int) > 60
    · rw [if_pos (decide_eq_true h60), wp_ret]
      exact ⟨_, rfl, by simp [bigM, Tr.a, show a.name.size > 60 by omega], hF1⟩
    rw [if_neg (by rw [decide_eq_false h60]; simp)]
    have e4 : decide (args.length > 4) = false := decide_eq_false (by omega)
    have e60 : decide (a.name.size > 60) = false := decide_eq_false (by omega)
    have eM : bigT (n + 1) (.mk a args) = args.any (bigT n) := by
      show (decide (args.length > 4) || decide (a.name.size > 60) || args.any (bigT n)) = _
      rw [e4, e60]
      rfl
    rw [eM]
    have hl4 : args.length ≤ 4 := by omega
    refine Wp.count args.length (fun j st σ' => st = [.int .i64 ((j : Nat) : Int), .bool false] ∧ Frm σ1 σ' NoB ∧ (args.take j).any (bigT n) = false) ⟨rfl, Frm.refl _ _, by simp⟩ ?_ ?_
    · rintro j st σ2 hj ⟨rfl, hF2, hm⟩
      have ej : wi64 ((j : Int) + 1) = ((j + 1 : Nat) : Int) := by rw [wi64_in (by omega)]; omega
      have hS2 := hF2.stN hS1
      have hr2 := (hr.frm hF1).frm hF2
      simp only [T8b0, asCons_cons, asInt_int, asBool_bool, asNil_nil]
      rw [wp_ldF hS2 rfl, asSlice_slice, wp_bif, if_pos (by simp; omega), wp_join, wp_ldF hS2 rfl, asSlice_slice]
      refine wp_rowOf hr2 hj rfl fun cs hV => ?_
      have hrec := ih (by omega) σ2 cs _ hV
      have hat := any_take (bigT n) args j hj hm
      generalize args[j] = x at hV hrec hat
      obtain ⟨_, e', p', cap', rfl⟩ := hV.cells
      simp only [asAgg_agg, asCons_cons, asInt_int, asStr_str, asSlice_slice, asNil_nil]
      rw [wp_call, lev_half n (by omega)]
      refine WpF.mono hrec ?_
      rintro _ σ3 ⟨rfl, hF3⟩
      simp only [asBool_bool]
      rw [wp_bif]
      cases hb : bigT n x with
      | true =>
        rw [if_pos (by rfl), wp_ret]
        simp only [T8k0, sw_same, asCons_cons, asBool_bool, asNil_nil]
        rw [wp_ret]
        simp only [T8k1, sw_re, sw_same, asCons_cons, asInt_int, asBool_bool, asNil_nil]
        rw [wp_ret]
        refine ⟨_, rfl, ?_, (hF1.seq hF2).seq hF3⟩
        rw [hb] at hat
        rw [any_of_take hat]
        rfl
      | false =>
        rw [if_neg (by simp), wp_ret]
        simp only [T8k0, sw_nr, sw_same, asCons_cons, asBool_bool, asNil_nil]
        rw [wp_ret, ej]
        exact ⟨rfl, hF2.seq hF3, hat.trans hb⟩
    · rintro st σ2 ⟨rfl, hF2, hm⟩
      have hS2 := hF2.stN hS1
      simp only [T8b0, asCons_cons, asInt_int, asBool_bool, asNil_nil]
      rw [wp_ldF hS2 rfl, asSlice_slice, wp_bif, if_neg (by simp), wp_ret]
      simp only [T8k1, sw_same, asCons_cons, asInt_int, asBool_bool, asNil_nil]
      rw [wp_ret]
      rw [List.take_length] at hm
      exact ⟨_, rfl, by rw [hm]; rfl, hF1.seq hF2⟩
end Go.Pg
