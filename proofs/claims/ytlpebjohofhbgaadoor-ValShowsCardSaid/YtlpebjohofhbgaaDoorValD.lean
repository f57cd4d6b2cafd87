/- Layer 9: when two values are alike: the program's answer, the document's; how large a type is. -/
import Derived.Test.YtlpebjohofhbgaaDoorValC
namespace Go.Pg
open Go.Proofs

def headEq (a b : VA) : Bool := a.kind == b.kind && (a.n == b.n && (a.name.toList == b.name.toList && (a.node == b.node && a.loc == b.loc)))
/-- When two values are alike. -/
def sameM : Nat → Tr VA → Tr VA → Bool
  | 0, _, _ => true
  | n + 1, s, t => headEq s.a t.a && (decide (s.args.length = t.args.length) && (s.args.zip t.args).all fun x => sameM n x.1 x.2)

theorem all_take {α : Type} (f : α → Bool) (l : List α) (j : Nat) (hj : j < l.length) (h : (l.take j).all f = true) : (l.take (j + 1)).all f = f l[j] := by
  rw [List.take_succ_eq_append_getElem hj, List.all_append, h]
  simp
theorem all_of_take {α : Type} {f : α → Bool} {l : List α} {j : Nat} (h : (l.take j).all f = false) : l.all f = false := by
  rw [← List.take_append_drop j l, List.all_append, h]
  rfl


theorem wp_same {Y Z : Nat → Prop} : ∀ (n : Nat) (σ : AHeap) (cs ds : List Value) (s t : Tr VA), VIn L7 σ Y n cs s → VIn L7 σ Z n ds t → fitV n s → fitV n t → Ret 13 [.agg cs.toArray, .agg ds.toArray] σ (.bool (sameM n s t)) := by
  intro n
  induction n with
  | zero => intro σ cs ds s t _ _ h; exact h.elim
  | succ n ih =>
    rintro σ cs ds ⟨a, args⟩ ⟨a', args'⟩ ⟨_, e, p, cap, rfl, hr⟩ ⟨_, e', p', cap', rfl, hr'⟩ ⟨hl4, _, hfit⟩ ⟨_, _, hfit'⟩
    simp only [Tr.a, Tr.args] at hr hr' hl4 hfit hfit' ⊢
    have eM : sameM (n + 1) (.mk a args) (.mk a' args') = (headEq a a' && (decide (args.length = args'.length) && (args.zip args').all fun x => sameM n x.1 x.2)) := rfl
    refine WpF.of (T13_eq _ _ _ _ _ _ _ _ _ _ _ _ _ _ _ _ _ _) rfl ?_
    rw [T13]
    refine wp_newQ fun σ1 hF1 hn1 hS1 => ?_
    refine wp_newQ fun σ2 hF2 hn2 hS2 => ?_
    have hS1 := hF2.stN hS1
    have hF := hF1.seq hF2
    have hr := hr.frm hF
    have hr' := hr'.frm hF
    rw [wp_join]
    rw [wp_ldF hS1 rfl, asInt_int, wp_ldF hS2 rfl, asInt_int, wp_bif]
    by_cases h_kind : a.kind = a'.kind
    case neg =>
      rw [if_neg (by simp [h_kind]), wp_ret]
      simp only [T13k2, sw_same, asCons_cons, asBool_bool, asNil_nil]
      rw [wp_bif, if_pos (by rfl), wp_ret]
      exact ⟨_, rfl, by rw [eM, show headEq a a' = false by simp [headEq, h_kind]]; rfl, hF⟩
    rw [if_pos (by simp [h_kind])]
    rw [wp_ldF hS1 rfl, asInt_int, wp_ldF hS2 rfl, asInt_int, wp_bif]
    by_cases h_n : a.n = a'.n
    case neg =>
      rw [if_neg (by simp [h_n]), wp_ret]
      simp only [T13k2, sw_same, asCons_cons, asBool_bool, asNil_nil]
      rw [wp_bif, if_pos (by rfl), wp_ret]
      exact ⟨_, rfl, by rw [eM, show headEq a a' = false by simp [headEq, h_n]]; rfl, hF⟩
    rw [if_pos (by simp [h_n])]
    rw [wp_ldF hS1 rfl, asStr_str, wp_ldF hS2 rfl, asStr_str, wp_bif]
    by_cases h_name : a.name.toList = a'.name.toList
    case neg =>
      rw [if_neg (by simp [h_name]), wp_ret]
      simp only [T13k2, sw_same, asCons_cons, asBool_bool, asNil_nil]
      rw [wp_bif, if_pos (by rfl), wp_ret]
      exact ⟨_, rfl, by rw [eM, show headEq a a' = false by simp [headEq, h_name]]; rfl, hF⟩
    rw [if_pos (by simp [h_name])]
    rw [wp_ldF hS1 rfl, asInt_int, wp_ldF hS2 rfl, asInt_int, wp_bif]
    by_cases h_node : a.node = a'.node
    case neg =>
      rw [if_neg (by simp [h_node]), wp_ret]
      simp only [T13k2, sw_same, asCons_cons, asBool_bool, asNil_nil]
      rw [wp_bif, if_pos (by rfl), wp_ret]
      exact ⟨_, rfl, by rw [eM, show headEq a a' = false by simp [headEq, h_node]]; rfl, hF⟩
    rw [if_pos (by simp [h_node])]
    rw [wp_ldF hS1 rfl, asInt_int, wp_ldF hS2 rfl, asInt_int, wp_bif]
    by_cases h_loc : a.loc = a'.loc
    case neg =>
      rw [if_neg (by simp [h_loc]), wp_ret]
      simp only [T13k2, sw_same, asCons_cons, asBool_bool, asNil_nil]
      rw [wp_bif, if_pos (by rfl), wp_ret]
      exact ⟨_, rfl, by rw [eM, show headEq a a' = false by simp [headEq, h_loc]]; rfl, hF⟩
    rw [if_pos (by simp [h_loc])]
    have hh : headEq a a' = true := by simp [headEq, h_kind, h_n, h_name, h_node, h_loc]
    rw [wp_ldF hS1 rfl, asSlice_slice, wp_ldF hS2 rfl, asSlice_slice, wp_ret]
    simp only [T13k2, sw_same, asCons_cons, asBool_bool, asNil_nil]
    rw [wp_bif]
    by_cases hlen : args.length = args'.length
    case neg =>
      rw [if_pos (by simp; omega), wp_ret]
      exact ⟨_, rfl, by rw [eM, hh, decide_eq_false hlen]; rfl, hF⟩
    rw [if_neg (by simp [hlen])]
    rw [wp_ldF hS1 rfl, asSlice_slice]
    have hz : (args.zip args').length = args.length := by rw [List.length_zip, ← hlen, Nat.min_self]
    rw [hh, decide_eq_true hlen, Bool.true_and, Bool.true_and] at eM
    rw [eM]
    refine Wp.count args.length (fun j st σ' => st = [.int .i64 ((j : Nat) : Int), .bool false] ∧ Frm σ2 σ' NoB ∧ ((args.zip args').take j).all (fun x => sameM n x.1 x.2) = true) ⟨rfl, Frm.refl _ _, by simp⟩ ?_ ?_
    · rintro j st σ3 hj ⟨rfl, hF3, hm⟩
      have ej : wi64 ((j : Int) + 1) = ((j + 1 : Nat) : Int) := by rw [wi64_in (by omega)]; omega
      have hS1 := hF3.stN hS1
      have hS2 := hF3.stN hS2
      have hr := hr.frm hF3
      have hr' := hr'.frm hF3
      simp only [T13b0, asCons_cons, asInt_int, asBool_bool, asNil_nil]
      rw [wp_bif, if_pos (by simp; omega), wp_join, wp_ldF hS1 rfl, asSlice_slice]
      refine wp_rowOf hr hj rfl fun cs hV => ?_
      have hat := all_take (fun x => sameM n x.1 x.2) (args.zip args') j (by omega) hm
      rw [List.getElem_zip] at hat
      have hfx := hfit _ (List.getElem_mem hj)
      have hfy := hfit' _ (List.getElem_mem (show j < args'.length by omega))
      have hrow := @wp_rowOf _ _ _ PROG ovD _ _ _ _ hr' j args'.length (by omega) rfl
      generalize args[j] = x at hV hat hfx
      generalize args'[j] = y at hat hfy hrow
      obtain ⟨_, e1, p1, cap1, rfl⟩ := hV.cells
      simp only [asAgg_agg, asCons_cons, asInt_int, asStr_str, asSlice_slice, asPtr_ptr, asNil_nil]
      rw [wp_ldF hS2 rfl, asSlice_slice]
      refine hrow fun ds hW => ?_
      obtain ⟨_, e2, p2, cap2, rfl⟩ := hW.cells
      simp only [asAgg_agg, asCons_cons, asInt_int, asStr_str, asSlice_slice, asPtr_ptr, asNil_nil]
      rw [wp_call]
      refine WpF.mono (ih σ3 _ _ _ _ hV hW hfx hfy) ?_
      rintro _ σ4 ⟨rfl, hF4⟩
      simp only [asBool_bool]
      rw [wp_bif]
      cases hb : sameM n x y with
      | false =>
        rw [if_pos (by rfl), wp_ret]
        simp only [T13k0, sw_same, asCons_cons, asBool_bool, asNil_nil]
        rw [wp_ret]
        simp only [T13k1, sw_re, sw_same, asCons_cons, asInt_int, asBool_bool, asNil_nil]
        rw [wp_ret]
        refine ⟨_, rfl, ?_, (hF.seq hF3).seq hF4⟩
        rw [all_of_take (hat.trans hb)]
      | true =>
        rw [if_neg (by simp), wp_ret]
        simp only [T13k0, sw_nr, sw_same, asCons_cons, asBool_bool, asNil_nil]
        rw [wp_ret, ej]
        exact ⟨rfl, hF3.seq hF4, hat.trans hb⟩
    · rintro st σ3 ⟨rfl, hF3, hm⟩
      have hS1 := hF3.stN hS1
      simp only [T13b0, asCons_cons, asInt_int, asBool_bool, asNil_nil]
      rw [wp_bif, if_neg (by simp), wp_ret]
      simp only [T13k1, sw_same, asCons_cons, asInt_int, asBool_bool, asNil_nil]
      rw [wp_ret]
      rw [← hz, List.take_length] at hm
      exact ⟨_, rfl, by rw [hm], hF.seq hF3⟩

theorem wp_sameR {Y Z : Nat → Prop} : ∀ (n : Nat) (σ : AHeap) (cs ds : List Value) (s t : Tr VA), VIn L8 σ Y n cs s → VIn L8 σ Z n ds t → fitV n s → fitV n t → Ret 14 [.agg cs.toArray, .agg ds.toArray] σ (.bool (sameM n s t)) := by
  intro n
  induction n with
  | zero => intro σ cs ds s t _ _ h; exact h.elim
  | succ n ih =>
    rintro σ cs ds ⟨a, args⟩ ⟨a', args'⟩ ⟨_, e, p, cap, rfl, hr⟩ ⟨_, e', p', cap', rfl, hr'⟩ ⟨hl4, _, hfit⟩ ⟨_, _, hfit'⟩
    simp only [Tr.a, Tr.args] at hr hr' hl4 hfit hfit' ⊢
    have eM : sameM (n + 1) (.mk a args) (.mk a' args') = (headEq a a' && (decide (args.length = args'.length) && (args.zip args').all fun x => sameM n x.1 x.2)) := rfl
    refine WpF.of (T14_eq _ _ _ _ _ _ _ _ _ _ _ _ _ _ _ _ _ _ _ _) rfl ?_
    rw [T14]
    refine wp_newQ fun σ1 hF1 hn1 hS1 => ?_
    refine wp_newQ fun σ2 hF2 hn2 hS2 => ?_
    have hS1 := hF2.stN hS1
    have hF := hF1.seq hF2
    have hr := hr.frm hF
    have hr' := hr'.frm hF
    rw [wp_join]
    rw [wp_ldF hS1 rfl, asInt_int, wp_ldF hS2 rfl, asInt_int, wp_bif]
    by_cases h_kind : a.kind = a'.kind
    case neg =>
      rw [if_neg (by simp [h_kind]), wp_ret]
      simp only [T14k2, sw_same, asCons_cons, asBool_bool, asNil_nil]
      rw [wp_bif, if_pos (by rfl), wp_ret]
      exact ⟨_, rfl, by rw [eM, show headEq a a' = false by simp [headEq, h_kind]]; rfl, hF⟩
    rw [if_pos (by simp [h_kind])]
    rw [wp_ldF hS1 rfl, asInt_int, wp_ldF hS2 rfl, asInt_int, wp_bif]
    by_cases h_n : a.n = a'.n
    case neg =>
      rw [if_neg (by simp [h_n]), wp_ret]
      simp only [T14k2, sw_same, asCons_cons, asBool_bool, asNil_nil]
      rw [wp_bif, if_pos (by rfl), wp_ret]
      exact ⟨_, rfl, by rw [eM, show headEq a a' = false by simp [headEq, h_n]]; rfl, hF⟩
    rw [if_pos (by simp [h_n])]
    rw [wp_ldF hS1 rfl, asStr_str, wp_ldF hS2 rfl, asStr_str, wp_bif]
    by_cases h_name : a.name.toList = a'.name.toList
    case neg =>
      rw [if_neg (by simp [h_name]), wp_ret]
      simp only [T14k2, sw_same, asCons_cons, asBool_bool, asNil_nil]
      rw [wp_bif, if_pos (by rfl), wp_ret]
      exact ⟨_, rfl, by rw [eM, show headEq a a' = false by simp [headEq, h_name]]; rfl, hF⟩
    rw [if_pos (by simp [h_name])]
    rw [wp_ldF hS1 rfl, asInt_int, wp_ldF hS2 rfl, asInt_int, wp_bif]
    by_cases h_node : a.node = a'.node
    case neg =>
      rw [if_neg (by simp [h_node]), wp_ret]
      simp only [T14k2, sw_same, asCons_cons, asBool_bool, asNil_nil]
      rw [wp_bif, if_pos (by rfl), wp_ret]
      exact ⟨_, rfl, by rw [eM, show headEq a a' = false by simp [headEq, h_node]]; rfl, hF⟩
    rw [if_pos (by simp [h_node])]
    rw [wp_ldF hS1 rfl, asInt_int, wp_ldF hS2 rfl, asInt_int, wp_bif]
    by_cases h_loc : a.loc = a'.loc
    case neg =>
      rw [if_neg (by simp [h_loc]), wp_ret]
      simp only [T14k2, sw_same, asCons_cons, asBool_bool, asNil_nil]
      rw [wp_bif, if_pos (by rfl), wp_ret]
      exact ⟨_, rfl, by rw [eM, show headEq a a' = false by simp [headEq, h_loc]]; rfl, hF⟩
    rw [if_pos (by simp [h_loc])]
    have hh : headEq a a' = true := by simp [headEq, h_kind, h_n, h_name, h_node, h_loc]
    rw [wp_ldF hS1 rfl, asSlice_slice, wp_ldF hS2 rfl, asSlice_slice, wp_ret]
    simp only [T14k2, sw_same, asCons_cons, asBool_bool, asNil_nil]
    rw [wp_bif]
    by_cases hlen : args.length = args'.length
    case neg =>
      rw [if_pos (by simp; omega), wp_ret]
      exact ⟨_, rfl, by rw [eM, hh, decide_eq_false hlen]; rfl, hF⟩
    rw [if_neg (by simp [hlen])]
    have hz : (args.zip args').length = args.length := by rw [List.length_zip, ← hlen, Nat.min_self]
    rw [hh, decide_eq_true hlen, Bool.true_and, Bool.true_and] at eM
    rw [eM]
    refine Wp.count args.length (fun j st σ' => st = [.int .i64 ((j : Nat) : Int), .bool false] ∧ Frm σ2 σ' NoB ∧ ((args.zip args').take j).all (fun x => sameM n x.1 x.2) = true) ⟨rfl, Frm.refl _ _, by simp⟩ ?_ ?_
    · rintro j st σ3 hj ⟨rfl, hF3, hm⟩
      have ej : wi64 ((j : Int) + 1) = ((j + 1 : Nat) : Int) := by rw [wi64_in (by omega)]; omega
      have hS1 := hF3.stN hS1
      have hS2 := hF3.stN hS2
      have hr := hr.frm hF3
      have hr' := hr'.frm hF3
      simp only [T14b0, asCons_cons, asInt_int, asBool_bool, asNil_nil]
      rw [wp_ldF hS1 rfl, asSlice_slice]
      rw [wp_bif, if_pos (by simp; omega), wp_join, wp_ldF hS1 rfl, asSlice_slice]
      refine wp_rowOf hr hj rfl fun cs hV => ?_
      have hat := all_take (fun x => sameM n x.1 x.2) (args.zip args') j (by omega) hm
      rw [List.getElem_zip] at hat
      have hfx := hfit _ (List.getElem_mem hj)
      have hfy := hfit' _ (List.getElem_mem (show j < args'.length by omega))
      have hrow := @wp_rowOf _ _ _ PROG ovD _ _ _ _ hr' j args'.length (by omega) rfl
      generalize args[j] = x at hV hat hfx
      generalize args'[j] = y at hat hfy hrow
      obtain ⟨_, e1, p1, cap1, rfl⟩ := hV.cells
      simp only [asAgg_agg, asCons_cons, asInt_int, asStr_str, asSlice_slice, asPtr_ptr, asNil_nil]
      rw [wp_ldF hS2 rfl, asSlice_slice]
      refine hrow fun ds hW => ?_
      obtain ⟨_, e2, p2, cap2, rfl⟩ := hW.cells
      simp only [asAgg_agg, asCons_cons, asInt_int, asStr_str, asSlice_slice, asPtr_ptr, asNil_nil]
      rw [wp_call]
      refine WpF.mono (ih σ3 _ _ _ _ hV hW hfx hfy) ?_
      rintro _ σ4 ⟨rfl, hF4⟩
      simp only [asBool_bool]
      rw [wp_bif]
      cases hb : sameM n x y with
      | false =>
        rw [if_pos (by rfl), wp_ret]
        simp only [T14k0, sw_same, asCons_cons, asBool_bool, asNil_nil]
        rw [wp_ret]
        simp only [T14k1, sw_re, sw_same, asCons_cons, asInt_int, asBool_bool, asNil_nil]
        rw [wp_ret]
        refine ⟨_, rfl, ?_, (hF.seq hF3).seq hF4⟩
        rw [all_of_take (hat.trans hb)]
      | true =>
        rw [if_neg (by simp), wp_ret]
        simp only [T14k0, sw_nr, sw_same, asCons_cons, asBool_bool, asNil_nil]
        rw [wp_ret, ej]
        exact ⟨rfl, hF3.seq hF4, hat.trans hb⟩
    · rintro st σ3 ⟨rfl, hF3, hm⟩
      have hS1 := hF3.stN hS1
      simp only [T14b0, asCons_cons, asInt_int, asBool_bool, asNil_nil]
      rw [wp_ldF hS1 rfl, asSlice_slice]
      rw [wp_bif, if_neg (by simp), wp_ret]
      simp only [T14k1, sw_same, asCons_cons, asInt_int, asBool_bool, asNil_nil]
      rw [wp_ret]
      rw [← hz, List.take_length] at hm
      exact ⟨_, rfl, by rw [hm], hF.seq hF3⟩

theorem wp_size {Y : Nat → Prop} : ∀ (n : Nat) (σ : AHeap) (cs : List Value) (t : Tr TA), VIn L4 σ Y n cs t → fitT n t → WpF PROG ovD 15 [.agg cs.toArray] σ fun v σ' => Frm σ σ' NoB ∧ ∃ m : Int, v = .int .i64 m ∧ 0 < m ∧ m ≤ 501 := by
  intro n
  induction n with
  | zero => intro σ cs t _ h; exact h.elim
  | succ n ih =>
    rintro σ cs ⟨a, args⟩ ⟨_, e, p, cap, rfl, hr⟩ ⟨hl4, _, hfit⟩
    simp only [Tr.a, Tr.args] at hr hl4 hfit ⊢
    refine WpF.of (T15_eq _ _ _ _ _ _) rfl ?_
    rw [T15]
    refine wp_newQ fun σ1 hF1 hn1 hS1 => ?_
    have fin : ∀ (j : Nat) (m : Int) (σ2 : AHeap), Frm σ1 σ2 NoB → 0 < m → Wp PROG ovD (T15k1 (.exit 0) [.int .i64 (j : Int), .int .i64 m]) σ2 fun _ vs σ' => ∃ v, vs = [v] ∧ (Frm σ σ' NoB ∧ ∃ m : Int, v = .int .i64 m ∧ 0 < m ∧ m ≤ 501) := fun j m σ2 hF2 h0 => by
      simp only [T15k1, sw_same, asCons_cons, asInt_int, asNil_nil]
      rw [wp_bif]
      by_cases hm : m > 501
      · rw [if_pos (decide_eq_true hm), wp_ret]
        exact ⟨_, rfl, hF1.seq hF2, 501, rfl, by decide, by decide⟩
      · rw [if_neg (by rw [decide_eq_false hm]; simp), wp_ret]
        exact ⟨_, rfl, hF1.seq hF2, m, rfl, h0, by omega⟩
    refine Wp.count args.length (fun j st σ' => ∃ m : Int, st = [.int .i64 ((j : Nat) : Int), .int .i64 m] ∧ Frm σ1 σ' NoB ∧ 0 < m ∧ m ≤ 1010) ⟨1, rfl, Frm.refl _ _, by decide, by decide⟩ ?_ ?_
    · rintro j st σ2 hj ⟨m, rfl, hF2, h0, h1⟩
      have ej : wi64 ((j : Int) + 1) = ((j + 1 : Nat) : Int) := by rw [wi64_in (by omega)]; omega
      have hS2 := hF2.stN hS1
      have hr2 := (hr.frm hF1).frm hF2
      simp only [T15b0, asCons_cons, asInt_int, asNil_nil]
      rw [wp_ldF hS2 rfl, asSlice_slice, wp_bif]
      by_cases h500 : m ≤ 500
      case neg =>
        rw [if_neg (by simp; omega), wp_ret]
        exact fin j m σ2 hF2 h0
      rw [if_pos (by simp; omega), wp_join, wp_ldF hS2 rfl, asSlice_slice]
      refine wp_rowOf hr2 hj rfl fun cs hV => ?_
      have hrec := ih σ2 cs _ hV (hfit _ (List.getElem_mem hj))
      generalize args[j] = x at hV hrec
      obtain ⟨_, e', p', cap', rfl⟩ := hV.cells
      simp only [asAgg_agg, asCons_cons, asInt_int, asStr_str, asSlice_slice, asNil_nil]
      rw [wp_call]
      refine WpF.mono hrec ?_
      rintro _ σ3 ⟨hF3, k, rfl, k0, k1⟩
      simp only [asInt_int]
      rw [wp_ret]
      simp only [T15k0, sw_same, asCons_cons, asInt_int, asNil_nil]
      rw [wp_ret, ej, wi64_in (by omega)]
      exact ⟨_, rfl, hF2.seq hF3, by omega, by omega⟩
    · rintro st σ2 ⟨m, rfl, hF2, h0, h1⟩
      have hS2 := hF2.stN hS1
      simp only [T15b0, asCons_cons, asInt_int, asNil_nil]
      rw [wp_ldF hS2 rfl, asSlice_slice, wp_bif, if_neg (by simp), wp_ret]
      exact fin _ m σ2 hF2 h0
end Go.Pg
