/- Layer 9: the document's renderer, the rest. -/
import Derived.Test.YtlpebjohofhbgaaDoorValI
namespace Go.Pg
open Go.Proofs Go.Lib

section
variable {Y : Nat → Prop} {pc pk : Option Addr} {cc ck : Nat} {cells : List (Tr VA)} {cons : ConsL}

set_option maxHeartbeats 1000000 in
theorem wp_ref (hB : RB cells cons) : ∀ k, RefOK Y pc pk cc ck cells cons k := by
  intro k
  induction k with
  | zero =>
    intro w n m σ cs ct v t hw hn hm hV hv hT ht hR
    obtain ⟨_, e, p, cap, rfl⟩ := hV.cells
    obtain ⟨_, e', p', cap', rfl⟩ := hT.cells
    refine WpF.of (T19_eq _ _ _ _ _ _ _ _ _ _ _ _ _ _ _ _ _ _ _ _ _ _ _) rfl ?_
    rw [T19]
    refine wp_newQ fun σ1 hF1 hn1 hS1 => ?_
    refine wp_newQ fun σ2 hF2 hn2 hS2 => ?_
    rw [wp_bif, if_pos (by simp; omega), wp_ret]
    exact ⟨_, rfl, rfl, hF1.seq hF2⟩
  | succ k ih =>
    intro w n m σ cs ct v t hw hn hm hV hv hT ht hR
    have hVi := hV
    have hTi := hT
    have hin := hV.inR (fun _ h => h)
    obtain ⟨hok, e, p, cap, rfl⟩ := hV.cells
    obtain ⟨_, e', p', cap', rfl⟩ := hT.cells
    have hc6 := hB.nCells
    refine WpF.of (T19_eq _ _ _ _ _ _ _ _ _ _ _ _ _ _ _ _ _ _ _ _ _ _ _) rfl ?_
    rw [T19]
    refine wp_newQ fun σ1 hF1 hn1 hS1 => ?_
    refine wp_newQ fun σ2 hF2 hn2 hS2 => ?_
    have hS1 := hF2.stN hS1
    have hF := hF1.seq hF2
    clear hF1 hF2
    have eM : renM cells cons (k + 1) v t = (if t.a.kind = 7 then [60, 112, 111, 108, 121, 62] else if v.a.kind ≠ fitsM t.a.kind then [63]
        else if v.a.kind = 1 then itoa v.a.n else if v.a.kind = 2 then (if v.a.n = 1 then [116, 114, 117, 101] else [102, 97, 108, 115, 101])
        else if v.a.kind = 3 then [40, 41] else if v.a.kind = 5 then [60, 102, 117, 110, 62]
        else if v.a.kind = 6 then [114, 101, 102, 32] ++ (match t.args with
          | [u] => if h : 0 ≤ v.a.loc ∧ v.a.loc < cells.length then renM cells cons k (cells[v.a.loc.toNat]'(by omega)) u else [63]
          | _ => [63])
        else if v.a.kind = 4 then (if 0 < v.args.length then v.a.name.data.toList ++ [32, 40] ++ join (argL (renM cells cons k) v.args (consOf cons v.a.name)) [44, 32] ++ [41] else v.a.name.data.toList)
        else [63]) := rfl
    -- what is told at once
    have r7 : ∀ (s : List UInt8) (σ' : AHeap) (Q : Post), Q .ret [.string (bs s)] σ' → Wp PROG ovD (T19k8 .ret [.string (bs s)]) σ' Q := fun s σ' Q h => by
      simp only [T19k8, sw_same, asCons_cons, asStr_str, asNil_nil]
      rw [wp_ret]
      exact h
    have n7 : ∀ (s : List UInt8) (σ' : AHeap) (Q : Post), Q .ret [.string (bs [63])] σ' → Wp PROG ovD (T19k8 .normal [.string (bs s)]) σ' Q := fun s σ' Q h => by
      simp only [T19k8, sw_nr, sw_same, asCons_cons, asStr_str, asNil_nil]
      rw [wp_ret]
      exact h
    have fin : ∀ (s : List UInt8) (σ' : AHeap), Frm σ σ' NoB → s = renM cells cons (k + 1) v t → ∃ v', [Value.string (bs s)] = [v'] ∧ v' = .string (bs (renM cells cons (k + 1) v t)) ∧ Frm σ σ' NoB := fun s σ' hF' h => by
      subst h
      exact ⟨_, rfl, rfl, hF'⟩
    rw [wp_bif, if_neg (by simp; omega), wp_ldF hS2 rfl, asInt_int, wp_join, wp_bif]
    by_cases h7 : t.a.kind = 7
    · rw [if_pos (by simp [h7]), wp_ret]
      exact r7 _ σ2 _ (fin _ σ2 hF (by rw [eM, if_pos h7]))
    rw [if_neg (by simp [h7]), wp_join, wp_bif]
    rw [if_neg h7] at eM
    by_cases t1 : t.a.kind = 1
    · have ef : fitsM t.a.kind = 1 := by rw [t1]; rfl
      rw [if_pos (by simp [t1]), wp_ldF hS1 rfl, asInt_int, wp_bif]
      by_cases h1 : v.a.kind = 1
      · rw [if_pos (by simp [h1]), wp_ldF hS1 rfl, asInt_int, wp_call]
        refine WpF.mono (wp_dig hok σ2) ?_
        rintro _ σ3 ⟨rfl, hF3⟩
        rw [asStr_str, wp_ret]
        simp only [T19k7, sw_same, asCons_cons, asStr_str, asNil_nil]
        rw [wp_ret]
        exact r7 _ σ3 _ (fin _ σ3 (hF.seq hF3) (by rw [eM, if_neg (by rw [ef]; exact fun h => h h1), if_pos h1]))
      · rw [if_neg (by simp [h1]), wp_ret]
        simp only [T19k7, sw_nr, sw_same, asCons_cons, asStr_str, asNil_nil]
        rw [wp_ret]
        exact n7 _ σ2 _ (fin _ σ2 hF (by rw [eM, if_pos (by rw [ef]; exact h1)]))
    rw [if_neg (by simp [t1]), wp_join, wp_bif]
    have r6 : ∀ (s : List UInt8) (σ' : AHeap), Frm σ σ' NoB → s = renM cells cons (k + 1) v t → Wp PROG ovD (T19k7 .ret [.string (bs s)]) σ' fun e vs σ' => Wp PROG ovD (T19k8 e vs) σ' fun _ vs σ' => ∃ v', vs = [v'] ∧ v' = .string (bs (renM cells cons (k + 1) v t)) ∧ Frm σ σ' NoB := fun s σ' hF' h => by
      simp only [T19k7, sw_same, asCons_cons, asStr_str, asNil_nil]
      rw [wp_ret]
      exact r7 _ σ' _ (fin _ σ' hF' h)
    have n6 : ∀ (s : List UInt8) (σ' : AHeap), Frm σ σ' NoB → [63] = renM cells cons (k + 1) v t → Wp PROG ovD (T19k7 .normal [.string (bs s)]) σ' fun e vs σ' => Wp PROG ovD (T19k8 e vs) σ' fun _ vs σ' => ∃ v', vs = [v'] ∧ v' = .string (bs (renM cells cons (k + 1) v t)) ∧ Frm σ σ' NoB := fun s σ' hF' h => by
      simp only [T19k7, sw_nr, sw_same, asCons_cons, asStr_str, asNil_nil]
      rw [wp_ret]
      exact n7 _ σ' _ (fin _ σ' hF' h)
    by_cases t2 : t.a.kind = 2
    · have ef : fitsM t.a.kind = 2 := by rw [t2]; rfl
      rw [if_pos (by simp [t2]), wp_join, wp_ldF hS1 rfl, asInt_int, wp_bif]
      by_cases h2 : v.a.kind = 2
      · have eM2 : renM cells cons (k + 1) v t = if v.a.n = 1 then [116, 114, 117, 101] else [102, 97, 108, 115, 101] := by
          rw [eM, if_neg (by rw [ef]; exact fun h => h h2), if_neg (by omega), if_pos h2]
        rw [if_pos (by simp [h2]), wp_ldF hS1 rfl, asInt_int, wp_ret]
        simp only [T19k0, sw_same, asCons_cons, asBool_bool, asNil_nil]
        rw [wp_bif]
        by_cases hn1 : v.a.n = 1
        · rw [if_pos (by simp [hn1]), wp_ret]
          simp only [T19k6, sw_same, asCons_cons, asStr_str, asNil_nil]
          rw [wp_ret]
          exact r6 _ σ2 hF (by rw [eM2, if_pos hn1])
        · rw [if_neg (by simp [hn1]), wp_ldF hS1 rfl, asInt_int, wp_bif, if_pos (by simp [h2]), wp_ret]
          simp only [T19k6, sw_same, asCons_cons, asStr_str, asNil_nil]
          rw [wp_ret]
          exact r6 _ σ2 hF (by rw [eM2, if_neg hn1])
      · rw [if_neg (by simp [h2]), wp_ret]
        simp only [T19k0, sw_same, asCons_cons, asBool_bool, asNil_nil]
        rw [wp_bif, if_neg (by simp), wp_ldF hS1 rfl, asInt_int, wp_bif, if_neg (by simp [h2]), wp_ret]
        simp only [T19k6, sw_nr, sw_same, asCons_cons, asStr_str, asNil_nil]
        rw [wp_ret]
        exact n6 _ σ2 hF (by rw [eM, if_pos (by rw [ef]; exact h2)])
    rw [if_neg (by simp [t2]), wp_join, wp_bif]
    have r5 : ∀ (s : List UInt8) (σ' : AHeap), Frm σ σ' NoB → s = renM cells cons (k + 1) v t → Wp PROG ovD (T19k6 .ret [.string (bs s)]) σ' fun e vs σ' => Wp PROG ovD (T19k7 e vs) σ' fun e vs σ' => Wp PROG ovD (T19k8 e vs) σ' fun _ vs σ' => ∃ v', vs = [v'] ∧ v' = .string (bs (renM cells cons (k + 1) v t)) ∧ Frm σ σ' NoB := fun s σ' hF' h => by
      simp only [T19k6, sw_same, asCons_cons, asStr_str, asNil_nil]
      rw [wp_ret]
      exact r6 _ σ' hF' h
    have n5 : ∀ (s : List UInt8) (σ' : AHeap), Frm σ σ' NoB → [63] = renM cells cons (k + 1) v t → Wp PROG ovD (T19k6 .normal [.string (bs s)]) σ' fun e vs σ' => Wp PROG ovD (T19k7 e vs) σ' fun e vs σ' => Wp PROG ovD (T19k8 e vs) σ' fun _ vs σ' => ∃ v', vs = [v'] ∧ v' = .string (bs (renM cells cons (k + 1) v t)) ∧ Frm σ σ' NoB := fun s σ' hF' h => by
      simp only [T19k6, sw_nr, sw_same, asCons_cons, asStr_str, asNil_nil]
      rw [wp_ret]
      exact n6 _ σ' hF' h
    by_cases t3 : t.a.kind = 3
    · have ef : fitsM t.a.kind = 3 := by rw [t3]; rfl
      rw [if_pos (by simp [t3]), wp_ldF hS1 rfl, asInt_int, wp_bif]
      by_cases h3 : v.a.kind = 3
      · rw [if_pos (by simp [h3]), wp_ret]
        simp only [T19k5, sw_same, asCons_cons, asStr_str, asNil_nil]
        rw [wp_ret]
        exact r5 _ σ2 hF (by rw [eM, if_neg (by rw [ef]; exact fun h => h h3), if_neg (by omega), if_neg (by omega), if_pos h3])
      · rw [if_neg (by simp [h3]), wp_ret]
        simp only [T19k5, sw_nr, sw_same, asCons_cons, asStr_str, asNil_nil]
        rw [wp_ret]
        exact n5 _ σ2 hF (by rw [eM, if_pos (by rw [ef]; exact h3)])
    rw [if_neg (by simp [t3]), wp_join, wp_bif]
    have r4 : ∀ (s : List UInt8) (σ' : AHeap), Frm σ σ' NoB → s = renM cells cons (k + 1) v t → Wp PROG ovD (T19k5 .ret [.string (bs s)]) σ' fun e vs σ' => Wp PROG ovD (T19k6 e vs) σ' fun e vs σ' => Wp PROG ovD (T19k7 e vs) σ' fun e vs σ' => Wp PROG ovD (T19k8 e vs) σ' fun _ vs σ' => ∃ v', vs = [v'] ∧ v' = .string (bs (renM cells cons (k + 1) v t)) ∧ Frm σ σ' NoB := fun s σ' hF' h => by
      simp only [T19k5, sw_same, asCons_cons, asStr_str, asNil_nil]
      rw [wp_ret]
      exact r5 _ σ' hF' h
    have n4 : ∀ (s : List UInt8) (σ' : AHeap), Frm σ σ' NoB → [63] = renM cells cons (k + 1) v t → Wp PROG ovD (T19k5 .normal [.string (bs s)]) σ' fun e vs σ' => Wp PROG ovD (T19k6 e vs) σ' fun e vs σ' => Wp PROG ovD (T19k7 e vs) σ' fun e vs σ' => Wp PROG ovD (T19k8 e vs) σ' fun _ vs σ' => ∃ v', vs = [v'] ∧ v' = .string (bs (renM cells cons (k + 1) v t)) ∧ Frm σ σ' NoB := fun s σ' hF' h => by
      simp only [T19k5, sw_nr, sw_same, asCons_cons, asStr_str, asNil_nil]
      rw [wp_ret]
      exact n5 _ σ' hF' h
    by_cases t5 : t.a.kind = 5
    · have ef : fitsM t.a.kind = 5 := by rw [t5]; rfl
      rw [if_pos (by simp [t5]), wp_ldF hS1 rfl, asInt_int, wp_bif]
      by_cases h5 : v.a.kind = 5
      · rw [if_pos (by simp [h5]), wp_ret]
        simp only [T19k4, sw_same, asCons_cons, asStr_str, asNil_nil]
        rw [wp_ret]
        exact r4 _ σ2 hF (by rw [eM, if_neg (by rw [ef]; exact fun h => h h5), if_neg (by omega), if_neg (by omega), if_neg (by omega), if_pos h5])
      · rw [if_neg (by simp [h5]), wp_ret]
        simp only [T19k4, sw_nr, sw_same, asCons_cons, asStr_str, asNil_nil]
        rw [wp_ret]
        exact n4 _ σ2 hF (by rw [eM, if_pos (by rw [ef]; exact h5)])
    rw [if_neg (by simp [t5]), wp_join, wp_bif]
    have r3 : ∀ (s : List UInt8) (σ' : AHeap), Frm σ σ' NoB → s = renM cells cons (k + 1) v t → Wp PROG ovD (T19k4 .ret [.string (bs s)]) σ' fun e vs σ' => Wp PROG ovD (T19k5 e vs) σ' fun e vs σ' => Wp PROG ovD (T19k6 e vs) σ' fun e vs σ' => Wp PROG ovD (T19k7 e vs) σ' fun e vs σ' => Wp PROG ovD (T19k8 e vs) σ' fun _ vs σ' => ∃ v', vs = [v'] ∧ v' = .string (bs (renM cells cons (k + 1) v t)) ∧ Frm σ σ' NoB := fun s σ' hF' h => by
      simp only [T19k4, sw_same, asCons_cons, asStr_str, asNil_nil]
      rw [wp_ret]
      exact r4 _ σ' hF' h
    have n3 : ∀ (s : List UInt8) (σ' : AHeap), Frm σ σ' NoB → [63] = renM cells cons (k + 1) v t → Wp PROG ovD (T19k4 .normal [.string (bs s)]) σ' fun e vs σ' => Wp PROG ovD (T19k5 e vs) σ' fun e vs σ' => Wp PROG ovD (T19k6 e vs) σ' fun e vs σ' => Wp PROG ovD (T19k7 e vs) σ' fun e vs σ' => Wp PROG ovD (T19k8 e vs) σ' fun _ vs σ' => ∃ v', vs = [v'] ∧ v' = .string (bs (renM cells cons (k + 1) v t)) ∧ Frm σ σ' NoB := fun s σ' hF' h => by
      simp only [T19k4, sw_nr, sw_same, asCons_cons, asStr_str, asNil_nil]
      rw [wp_ret]
      exact n4 _ σ' hF' h
    by_cases t6 : t.a.kind = 6
    · have ef : fitsM t.a.kind = 6 := by rw [t6]; rfl
      rw [if_pos (by simp [t6]), wp_ldF hS1 rfl, asInt_int, wp_bif]
      by_cases h6 : v.a.kind = 6
      case neg =>
        rw [if_neg (by simp [h6]), wp_ret]
        simp only [T19k3, sw_nr, sw_same, asCons_cons, asStr_str, asNil_nil]
        rw [wp_ret]
        exact n3 _ σ2 hF (by rw [eM, if_pos (by rw [ef]; exact h6)])
      rw [if_neg (by rw [ef]; exact fun h => h h6), if_neg (by omega), if_neg (by omega), if_neg (by omega), if_neg (by omega), if_pos h6] at eM
      rw [if_pos (by simp [h6]), wp_join]
      have none : ([63] : List UInt8) = (match t.args with
          | [u] => if h : 0 ≤ v.a.loc ∧ v.a.loc < cells.length then renM cells cons k (cells[v.a.loc.toNat]'(by omega)) u else [63]
          | _ => [63]) → Wp PROG ovD (T19k1 ⟨σ.n, 0, some 0⟩ pc cells.length ⟨σ1.n, 0, some 0⟩ cc pk cons.length ck (w : Nat) .normal [.bool true]) σ2 fun e vs σ' => Wp PROG ovD (T19k3 e vs) σ' fun e vs σ' => Wp PROG ovD (T19k4 e vs) σ' fun e vs σ' => Wp PROG ovD (T19k5 e vs) σ' fun e vs σ' => Wp PROG ovD (T19k6 e vs) σ' fun e vs σ' => Wp PROG ovD (T19k7 e vs) σ' fun e vs σ' => Wp PROG ovD (T19k8 e vs) σ' fun _ vs σ' => ∃ v', vs = [v'] ∧ v' = .string (bs (renM cells cons (k + 1) v t)) ∧ Frm σ σ' NoB := fun h => by
        simp only [T19k1, sw_same, asCons_cons, asBool_bool, asNil_nil]
        rw [wp_bif, if_pos (by rfl), wp_ret]
        simp only [T19k3, sw_same, asCons_cons, asStr_str, asNil_nil]
        rw [wp_ret]
        exact r3 _ σ2 hF (by rw [eM, ← h]; rfl)
      rw [wp_ldF hS1 rfl, asInt_int, wp_bif]
      by_cases h0 : v.a.loc < 0
      · rw [if_neg (by simp; omega), wp_ret]
        refine none ?_
        split
        · rw [dif_neg (by omega)]
        · rfl
      rw [if_pos (by simp; omega), wp_ldF hS1 rfl, asInt_int, wp_bif]
      by_cases h1 : v.a.loc ≥ (cells.length : Nat)
      · rw [if_neg (by simp; omega), wp_ret]
        refine none ?_
        split
        · rw [dif_neg (by omega)]
        · rfl
      rw [if_pos (by simp; omega), wp_ldF hS2 rfl, asSlice_slice, wp_ret]
      by_cases h2 : t.args.length = 1
      case neg =>
        have e1 : (((t.args.length : Nat) : Int) != 1) = true := by simp; omega
        rw [e1]
        refine none ?_
        split
        · rename_i u hu
          rw [hu] at h2
          simp at h2
        · rfl
      have e1 : (((t.args.length : Nat) : Int) != 1) = false := by simp; omega
      obtain ⟨u, hu⟩ : ∃ u, t.args = [u] := List.length_eq_one_iff.1 h2
      rw [e1]
      simp only [T19k1, sw_same, asCons_cons, asBool_bool, asNil_nil]
      rw [wp_bif, if_neg (by simp), wp_ldF hS1 rfl, asInt_int]
      obtain ⟨i, hi⟩ : ∃ i : Nat, v.a.loc = (i : Int) := ⟨v.a.loc.toNat, by omega⟩
      have hil : i < cells.length := by omega
      have hR3 := hR.frm hF
      have e2 : (match t.args with
          | [u] => if h : 0 ≤ v.a.loc ∧ v.a.loc < cells.length then renM cells cons k (cells[v.a.loc.toNat]'(by omega)) u else [63]
          | _ => [63]) = renM cells cons k cells[i] u := by
        rw [hu]
        dsimp only
        rw [dif_pos (by omega)]
        congr 2
        omega
      rw [hi]
      refine wp_rowOf hR3.cells hil rfl fun cs hC => ?_
      have hCi := hC
      have hfc := hB.fit _ (List.getElem_mem hil)
      have hir : Go.Pg.inR 7 cells[i] := VIn.inR (fun _ h => h) hC
      generalize cells[i] = c at hC hCi hfc hir e2
      obtain ⟨_, ec, pc', capc, rfl⟩ := hC.cells
      simp only [asAgg_agg, asCons_cons, asInt_int, asStr_str, asSlice_slice, asPtr_ptr, asNil_nil]
      rw [wp_ldF hS2 rfl, asSlice_slice]
      have hT3 := hTi.frm hF
      cases m with
      | zero =>
        rcases ht with ht | ht
        · rw [hu] at ht; cases ht
        · exact ht.elim
      | succ m =>
        obtain ⟨_, _, q, qc, hq, hrow⟩ := hT3
        simp only [List.cons.injEq, Value.slice.injEq, and_true, true_and] at hq
        obtain ⟨rfl, rfl⟩ := hq
        have htu : tyOK m u := by
          rcases ht with ht | ht
          · rw [hu] at ht; cases ht
          · exact .inr (ht.2.2 u (by rw [hu]; simp))
        obtain ⟨x, cu, rfl, hx1, hx2⟩ := hrow.ldN (i := 0) (by rw [h2]; decide)
        have hu0 : t.args[0] = u := by simp [hu]
        rw [hu0] at hx2
        rw [h2]
        simp only [asSome_some]
        rw [wp_grd]
        refine ⟨by decide, ?_⟩
        rw [wp_act, show aadd x 0 = aadd x (0 * 4) from rfl, hx1]
        have hx3 := hx2
        obtain ⟨_, eu, pu, capu, rfl⟩ := hx2.cells
        simp only [asAgg_agg, asCons_cons, asInt_int, asStr_str, asSlice_slice, asNil_nil]
        rw [wp_call, show wi64 ((w : Int) + 1) = ((w + 1 : Nat) : Int) by rw [wi64_in (by omega)]; omega]
        refine WpF.mono (ih (w + 1) 7 m σ2 _ _ c u (by omega) (Nat.le_refl _) (by omega) hCi hfc hx3 htu hR3) ?_
        rintro _ σ4 ⟨rfl, hF4⟩
        have hle := ren_leR hB hR (k := k) (Nat.le_refl 7) (show m ≤ 7 by omega) hfc hir htu
        rw [asStr_str, wp_grd]
        refine ⟨by rw [Nat.ble_eq, bs_size]; omega, ?_⟩
        rw [bs_app, wp_ret]
        simp only [T19k3, sw_same, asCons_cons, asStr_str, asNil_nil]
        rw [wp_ret]
        exact r3 _ σ4 (hF.seq hF4) (by rw [eM, ← e2])
    rw [if_neg (by simp [t6]), wp_join, wp_bif]
    by_cases t4 : t.a.kind = 4
    · have ef : fitsM t.a.kind = 4 := by rw [t4]; rfl
      rw [if_pos (by simp [t4]), wp_ldF hS1 rfl, asInt_int, wp_bif]
      by_cases h4 : v.a.kind = 4
      case neg =>
        rw [if_neg (by simp [h4]), wp_ret]
        simp only [T19k2, sw_nr, sw_same, asCons_cons, asStr_str, asNil_nil]
        rw [wp_ret]
        simp only [T19k3, sw_nr, sw_same, asCons_cons, asStr_str, asNil_nil]
        rw [wp_ret]
        exact n3 _ σ2 hF (by rw [eM, if_pos (by rw [ef]; exact h4)])
      rw [if_neg (by rw [ef]; exact fun h => h h4), if_neg (by omega), if_neg (by omega), if_neg (by omega), if_neg (by omega), if_neg (by omega), if_pos h4] at eM
      rw [if_pos (by simp [h4]), wp_ldF hS1 rfl, asStr_str, wp_ldAll hS1 8 rfl]
      simp only [asAgg_agg, asCons_cons, asInt_int, asStr_str, asSlice_slice, asPtr_ptr, asNil_nil]
      rw [wp_call]
      cases n with
      | zero => exact hv.elim
      | succ n =>
        have hle := ren_leR hB hR (k := k + 1) hn hm hv hin ht
        refine WpF.mono (wp_argsR hB ih (by omega) (by omega) (hVi.frm hF) hv (hR.frm hF)) ?_
        rintro _ σ4 ⟨rfl, hF4⟩
        have e3 : renM cells cons (k + 1) v t = v.a.name.data.toList ++ (if 0 < v.args.length then [32, 40] ++ join (argL (renM cells cons k) v.args (consOf cons v.a.name)) [44, 32] ++ [41] else []) := by
          rw [eM]
          split <;> simp
        generalize (if 0 < v.args.length then [32, 40] ++ join (argL (renM cells cons k) v.args (consOf cons v.a.name)) [44, 32] ++ [41] else []) = r at e3
        rw [asStr_str, wp_get, wp_grd]
        refine ⟨chks_one ((hF4.stN hS1).ldF rfl), ?_⟩
        rw [wp_grd]
        refine ⟨?_, ?_⟩
        · rw [e3, List.length_append] at hle
          have : v.a.name.data.toList.length = v.a.name.size := by simp
          rw [Nat.ble_eq, bs_size]
          omega
        rw [show v.a.name ++ bs r = bs (v.a.name.data.toList ++ r) by rw [← bs_app, bs_self], wp_ret]
        simp only [T19k2, sw_same, asCons_cons, asStr_str, asNil_nil]
        rw [wp_ret]
        simp only [T19k3, sw_same, asCons_cons, asStr_str, asNil_nil]
        rw [wp_ret]
        exact r3 _ σ4 (hF.seq hF4) e3.symm
    rw [if_neg (by simp [t4]), wp_ret]
    simp only [T19k2, sw_nr, sw_same, asCons_cons, asStr_str, asNil_nil]
    rw [wp_ret]
    simp only [T19k3, sw_nr, sw_same, asCons_cons, asStr_str, asNil_nil]
    rw [wp_ret]
    refine n3 _ σ2 hF ?_
    have ef : fitsM t.a.kind = 0 := by
      unfold fitsM
      rw [if_neg t1, if_neg t2, if_neg t3, if_neg t4, if_neg t5, if_neg t6]
    rw [eM, ef]
    by_cases h0 : v.a.kind = 0
    · rw [if_neg (fun h => h h0), if_neg (by omega), if_neg (by omega), if_neg (by omega), if_neg (by omega), if_neg (by omega), if_neg (by omega)]
    · rw [if_pos h0]

theorem wp_renderR (hB : RB cells cons) {n m : Nat} {σ : AHeap} {cs ct : List Value} {v : Tr VA} {t : Tr TA} (hn : n ≤ 7) (hm : m ≤ 7) (hV : VIn L8 σ Y n cs v) (hv : fitV n v) (hT : VIn L4 σ Y m ct t) (ht : tyOK m t) (hR : RCR Y pc pk cells cons σ) :
    Ret 9 [.agg cs.toArray, .agg ct.toArray, .slice pc cells.length cc, .slice pk cons.length ck] σ (.string (bs (renM cells cons 50 v t))) := by
  have hVi := hV
  have hTi := hT
  obtain ⟨hok, e, p, cap, rfl⟩ := hV.cells
  obtain ⟨_, e', p', cap', rfl⟩ := hT.cells
  refine WpF.of (T9_eq _ _ _ _ _ _ _ _ _ _ _ _ _ _ _ _ _ _ _ _ _ _) rfl ?_
  rw [T9]
  refine wp_newQ fun σ1 hF1 hn1 hS1 => ?_
  refine wp_newQ fun σ2 hF2 hn2 hS2 => ?_
  have hS1 := hF2.stN hS1
  have hF := hF1.seq hF2
  rw [wp_ldAll hS1 8 rfl]
  simp only [asAgg_agg, asCons_cons, asInt_int, asStr_str, asSlice_slice, asPtr_ptr, asNil_nil]
  rw [wp_ldAll hS2 4 rfl]
  simp only [asAgg_agg, asCons_cons, asInt_int, asStr_str, asSlice_slice, asNil_nil]
  rw [wp_call]
  refine WpF.mono (wp_ref hB 50 0 n m σ2 _ _ v t rfl hn hm (hVi.frm hF) hv (hTi.frm hF) ht (hR.frm hF)) ?_
  rintro _ σ4 ⟨rfl, hF4⟩
  rw [asStr_str, wp_ret]
  exact ⟨_, rfl, rfl, hF.seq hF4⟩
end
end Go.Pg
