/- Layer 18: rows that are given; TapeAgain. -/
import Derived.Test.YteelimkplbfiiaaDoorTape2
import Derived.Test.YteelimkplbfiiaaDoorTAwake
namespace Go.Pg
open Go.Proofs Go.Lib

theorem vr_spot {B n c : Nat} {v : Value} {p : Option Addr} (h : VR noInj B (.slice p n c) v) : ∀ q, p = some q → q.spot = none := by
  intro q hq
  cases h with
  | sliceNil => cases hq
  | sliceZero _ _ hl =>
    cases hq
    cases hs : q.spot with
    | none => rfl
    | some v =>
      obtain ⟨i, hi⟩ := hl v hs
      cases hi
  | sliceOld =>
    cases hq
    assumption
  | sliceNew h => cases h

theorem Cl.old {old : Addr → Option Value} {a : Addr} {v : Value} (h : Cl old a v) : a.spot = none ∧ old ⟨a.block, a.off, none⟩ = some v := by
  have h1 := h (startH old) rfl
  obtain ⟨b, o, s⟩ := a
  unfold ld1 AHeap.rdN at h1
  cases s with
  | none =>
    simp only [oldN] at h1
    have e : (startH old).old = old := rfl
    rw [e] at h1
    cases ho : old ⟨b, o, none⟩ with
    | none => rw [ho] at h1; cases h1
    | some u =>
      rw [ho] at h1
      simp only [Option.some.injEq, Prod.mk.injEq, and_true] at h1
      exact ⟨rfl, by rw [h1]⟩
  | some s =>
    have e : (startH old).get b = none := by
      unfold startH AHeap.get
      exact Tri.bnd_ok _ _ (Nat.zero_le _)
    simp only [e] at h1
    cases h1

theorem oldN_all {old : Addr → Option Value} {b : Nat} : ∀ (vs : List Value) (o : Nat), (∀ i v, vs[i]? = some v → old ⟨b, o + i, none⟩ = some v) → oldN old b o vs.length = some vs
  | [], o, _ => rfl
  | v :: vs, o, h => by
    have h0 : old ⟨b, o, none⟩ = some v := by simpa using h 0 v rfl
    have ih := oldN_all vs (o + 1) fun i w hw => by
      have := h (i + 1) w hw
      rw [show o + 1 + i = o + (i + 1) by omega]
      exact this
    rw [List.length_cons, oldN, h0]
    simp only [ih]

/-- A row of numbers that is given, read whole. -/
theorem given_fst {old : Addr → Option Value} {p : Option Addr} {c : Nat} {l : List Int} (h : RdR old 1 (Sh.int IntKind.i64) p l) (sp : ∀ q, p = some q → q.spot = none) {σ : AHeap} (hσ : σ.old = old) : firstOf 1 l.length σ (.slice p l.length c) = some (ints .i64 l) := by
  cases p with
  | none =>
    cases l with
    | nil => rfl
    | cons x l =>
      obtain ⟨y, hy, _⟩ := h 0 (by simp)
      cases hy
  | some q =>
    have hs := sp _ rfl
    obtain ⟨b, o, s⟩ := q
    simp only at hs
    subst hs
    unfold firstOf AHeap.rdN
    simp only [Nat.mul_one, hσ]
    have := oldN_all (old := old) (b := b) (Go.Pg.ints .i64 l) o fun i v hv => by
      have hi : i < l.length := by
        have := (List.getElem?_eq_some_iff.1 hv).1
        simpa using this
      obtain ⟨x, hx, h1⟩ := h i hi
      cases hx
      have h2 := (Cl.old h1).2
      simp only [aadd, Nat.mul_one] at h2
      rw [h2]
      rw [ints_get hi] at hv
      simp only [Option.some.injEq] at hv
      rw [← hv]
      simp [List.getD, hi]
    simpa using this
theorem given_nil {old : Addr → Option Value} {p : Option Addr} {l : List Int} (h : RdR old 1 (Sh.int IntKind.i64) p l) (hp : p = none) : l = [] := by
  cases l with
  | nil => rfl
  | cons x l =>
    obtain ⟨y, hy, _⟩ := h 0 (by simp)
    rw [hp] at hy
    cases hy
theorem ok_r64 {l : List Int} (h : (Sh.row 1 (Sh.int IntKind.i64)).ok l) : ∀ z ∈ l, r64 z := fun z hz => by
  have := h.2 z hz
  have h2 : (Lit.int .i64 z).wf = true := this
  simpa [Lit.wf, IntKind.min, IntKind.max, IntKind.signed, IntKind.bits, r64] using h2

/-- What n reads give. -/
def readsL (inp : List Int) (n : Nat) : List Int := (List.range n).map fun j => inp.getD j 0
theorem readsL_succ (inp : List Int) (n : Nat) : readsL inp (n + 1) = readsL inp n ++ [inp.getD n 0] := by simp [readsL, List.range_succ]
theorem readsL_len (inp : List Int) (n : Nat) : (readsL inp n).length = n := by simp [readsL]
theorem readsL_get (inp : List Int) {n i : Nat} (h : i < n) : (readsL inp n).getD i 0 = inp.getD i 0 := by simp [readsL, List.getD, h]
theorem getD_min (inp : List Int) (i : Nat) : inp.getD (min i inp.length) 0 = inp.getD i 0 := by
  by_cases h : i ≤ inp.length
  · rw [Nat.min_eq_left h]
  · rw [Nat.min_eq_right (by omega)]
    simp [List.getD, List.getElem?_eq_none (show inp.length ≤ i by omega)]

theorem tapeAgain_law (p0 : Option Addr) (c0 : Nat) (l0 : List Int) (n : Int) (wn : (Lit.int .i64 n).wf = true) (m : Int) (wm : (Lit.int .i64 m).wf = true) (p3 : Option Addr) (c3 : Nat) (l3 : List Int) (old0 : Addr → Option Value)
    (rd0 : RdR (unO tabsD old0) 1 (Sh.int IntKind.i64) p0 l0) (ok0 : (Sh.row 1 (Sh.int IntKind.i64)).ok l0) (sp0 : ∀ q, p0 = some q → q.spot = none) (rd3 : RdR (unO tabsD old0) 1 (Sh.int IntKind.i64) p3 l3) (ok3 : (Sh.row 1 (Sh.int IntKind.i64)).ok l3) (_ : ∀ q, p3 = some q → q.spot = none) :
    WpF PROG ovD 4 [.slice p0 l0.length c0, .int .i64 n, .int .i64 m, .slice p3 l3.length c3] (startH (unO tabsD old0)) fun v _ => v = .bool true := by
  refine WpF.of (T4_eq _ _ _ _ _ _ _ _) rfl ?_
  rw [T4, wp_call]
  refine (awake18 _).mono ?_
  rintro v σ ⟨rfl, hold, _⟩
  rw [asBool_bool, wp_bif, if_neg (by simp), wp_join]
  have hl0 := ok0.1
  have hr3 := ok_r64 ok3
  have key : ∀ c : Bool, (c = false → l0.length ≤ 50 ∧ l3.length ≤ 30 ∧ 0 ≤ n ∧ n ≤ 60 ∧ 0 ≤ m ∧ m ≤ (l3.length : Int)) → Wp PROG ovD (T4k9 p0 l0.length c0 n l3.length p3 m .normal [.bool c]) σ fun e vs σ' => ∃ v, vs = [v] ∧ v = .bool true := by
    intro c hc
    rw [T4k9, sw_same, asCons_cons, asBool_bool, asNil_nil, wp_bif]
    cases c with
    | true =>
      rw [if_pos rfl, wp_ret]
      exact ⟨_, rfl, rfl⟩
    | false =>
      obtain ⟨k1, k2, k3, k4, k5, k6⟩ := hc rfl
      obtain ⟨N, rfl⟩ : ∃ N : Nat, n = (N : Int) := ⟨n.toNat, by omega⟩
      obtain ⟨M, rfl⟩ : ∃ M : Nat, m = (M : Int) := ⟨m.toNat, by omega⟩
      rw [if_neg (by simp), wp_call]
      refine wp_new (l := l0) rfl (given_nil rd0) (fun σ' h1 _ => given_fst rd0 sp0 (h1.trans hold)) (by omega) (fun h => by omega) fun _ σ1 b hF1 hT1 => ?_
      have hO1 : σ1.old = unO tabsD old0 := hF1.old.trans hold
      simp only [asTuple_tuple, asCons_cons, asPtr_ptr, asInt_int, asNil_nil]
      rw [wp_bif, if_neg (by simp)]
      -- what is read
      refine Wp.count N (fun j st σ' => σ'.old = unO tabsD old0 ∧ ∃ bf pf cf, st = [.int .i64 (j : Nat), .slice pf (readsL l0 j).length cf] ∧ SlV σ' bf pf cf (ints .i64 (readsL l0 j)) ∧ TP σ' b (fun i => pf ≠ none ∧ i = bf) l0 [] (min j l0.length))
        ⟨hO1, 0, none, 0, rfl, .inl ⟨rfl, rfl, rfl⟩, hT1.step (Frm.refl σ1 NoB) (fun _ h => h.elim) fun j h => absurd rfl h.1⟩ ?_ ?_
      · rintro j st σ2 hj ⟨hO2, bf, pf, cf, rfl, hR2, hT2⟩
        simp only [T4b0, asCons_cons, asInt_int, asSlice_slice, asNil_nil]
        rw [wp_bif, if_pos (by simp; omega), wp_join, wp_call]
        refine wp_read hT2 fun σ3 rd' hF3 hT3 hrd => ?_
        simp only [asTuple_tuple, asCons_cons, asInt_int, asBool_bool, asNil_nil]
        have hR3 := hR2.frm hF3 fun hp h => h ⟨hp, rfl⟩
        have hlen := readsL_len l0 j
        refine wp_app1 hR3 (by simp) rfl (by omega) (by omega) fun σ4 b' off s cap' hF4 hb' hR4 => ?_
        rw [wp_ret]
        simp only [T4k0, sw_same, asCons_cons, asSlice_slice, asNil_nil]
        rw [wp_ret]
        have e1 : wi64 ((j : Int) + 1) = ((j + 1 : Nat) : Int) := by rw [wi64_in (by omega)]; omega
        refine ⟨hF4.old.trans (hF3.old.trans hO2), b', some ⟨b', off, some s⟩, cap', by rw [e1, hlen, readsL_len], .inr ⟨off, s, rfl, ?_⟩, ?_⟩
        · rw [readsL_succ, show ints .i64 (readsL l0 j ++ [l0.getD j 0]) = ints .i64 (readsL l0 j) ++ [.int .i64 (l0.getD j 0)] by simp [ints]]
          rw [getD_min] at hR4
          exact hR4
        · have hm : rd' = min (j + 1) l0.length := by
            rw [hrd]
            split <;> omega
          rw [← hm]
          refine hT3.step hF4 (fun _ h => h) fun i hi => ?_
          obtain ⟨_, rfl⟩ := hi
          have := hR4.lt
          rcases hb' with ⟨hp, rfl⟩ | h
          · exact ⟨.inl ⟨hp, rfl⟩, this⟩
          · exact ⟨.inr h, this⟩
      rintro st σ2 ⟨hO2, bf, pf, cf, rfl, hR2, hT2⟩
      simp only [T4b0, asCons_cons, asInt_int, asSlice_slice, asNil_nil]
      rw [wp_bif, if_neg (by simp), wp_ret]
      simp only [T4k8, sw_same, asCons_cons, asInt_int, asSlice_slice, asNil_nil]
      -- what is printed
      refine Wp.count l3.length (fun j st σ' => σ'.old = unO tabsD old0 ∧ st = [.int .i64 (j : Nat)] ∧ SlV σ' bf pf cf (ints .i64 (readsL l0 N)) ∧ TP σ' b (fun i => pf ≠ none ∧ i = bf) l0 (l3.take j) (min N l0.length))
        ⟨hO2, rfl, hR2, by simpa using hT2⟩ ?_ ?_
      · rintro j st σ3 hj ⟨hO3, rfl, hR3, hT3⟩
        simp only [T4b1, asCons_cons, asInt_int, asNil_nil]
        rw [wp_bif, if_pos (by simp; omega), wp_join, wp_rdI (RdR.ints rd3 _ hO3) (by omega) (by omega), wp_call, Int.toNat_natCast]
        have hg : l3.getD j 0 = l3[j] := by simp [List.getD, hj]
        rw [hg]
        refine wp_print hT3 (hr3 _ (List.getElem_mem hj)) (by rw [List.length_take]; omega) fun σ4 hF4 hT4 => ?_
        rw [asTuple_tuple, asNil_nil, wp_ret]
        simp only [T4k1, sw_same, asNil_nil]
        rw [wp_ret]
        have e1 : wi64 ((j : Int) + 1) = ((j + 1 : Nat) : Int) := by rw [wi64_in (by omega)]; omega
        refine ⟨hF4.old.trans hO3, by rw [e1], hR3.frm hF4 fun hp h => h ⟨hp, rfl⟩, ?_⟩
        rw [List.take_succ_eq_append_getElem hj]
        exact hT4
      rintro st σ3 ⟨hO3, rfl, hR3, hT3⟩
      simp only [T4b1, asCons_cons, asInt_int, asNil_nil]
      rw [wp_bif, if_neg (by simp), wp_ret]
      simp only [T4k7, sw_same, asCons_cons, asInt_int, asNil_nil]
      rw [wp_call, WpF.eq (ev_text hT3), asStr_str, wp_call]
      have hmay : mayB (min N l0.length) (l3.take l3.length).length 0 (M : Int) = true := by simp [mayB]; omega
      refine wp_back hT3 0 M (fun _ σ4 hF4 hT4 => ?_) (fun h => by rw [hmay] at h; cases h)
      have hO4 := hF4.old.trans hO3
      have hR4 := hR3.frm hF4 fun hp h => h ⟨hp, rfl⟩
      rw [asInt_int, wp_bif, if_neg (by simp)]
      rw [List.take_length] at hT4
      simp only [Int.toNat_natCast, Int.toNat_zero] at hT4
      -- read again
      refine Wp.count N (fun j st σ' => σ'.old = unO tabsD old0 ∧ st = [.int .i64 (j : Nat), .bool false] ∧ SlV σ' bf pf cf (ints .i64 (readsL l0 N)) ∧ TP σ' b (fun i => pf ≠ none ∧ i = bf) l0 (l3.take M) (min j l0.length))
        ⟨hO4, rfl, hR4, by simpa using hT4⟩ ?_ ?_
      · rintro j st σ5 hj ⟨hO5, rfl, hR5, hT5⟩
        simp only [T4b2, asCons_cons, asInt_int, asBool_bool, asNil_nil]
        rw [wp_bif, if_pos (by simp; omega), wp_join, wp_call]
        refine wp_read hT5 fun σ6 rd' hF6 hT6 hrd => ?_
        simp only [asTuple_tuple, asCons_cons, asInt_int, asBool_bool, asNil_nil]
        have hR6 := hR5.frm hF6 fun hp h => h ⟨hp, rfl⟩
        rw [wp_rdI hR6.rdB.rd (by omega) (by rw [readsL_len]; omega), Int.toNat_natCast, readsL_get _ hj, getD_min, wp_bif, if_neg (by simp), wp_ret]
        simp only [T4k2]
        rw [show ∀ (p q : Pg), sw Ex.normal Ex.ret p q = q from fun _ _ => rfl, sw_same]
        simp only [asCons_cons, asBool_bool, asNil_nil]
        rw [wp_ret]
        have e1 : wi64 ((j : Int) + 1) = ((j + 1 : Nat) : Int) := by rw [wi64_in (by omega)]; omega
        have hm : rd' = min (j + 1) l0.length := by
          rw [hrd]
          split <;> omega
        refine ⟨hF6.old.trans hO5, by rw [e1], hR6, ?_⟩
        rw [← hm]
        exact hT6.step (Frm.refl σ6 NoB) (fun _ h => h.elim) fun i hi => ⟨.inl hi, by obtain ⟨hp, rfl⟩ := hi; exact hR6.lt' hp⟩
      rintro st σ5 ⟨hO5, rfl, hR5, hT5⟩
      simp only [T4b2, asCons_cons, asInt_int, asBool_bool, asNil_nil]
      rw [wp_bif, if_neg (by simp), wp_ret]
      simp only [T4k6, sw_same, asCons_cons, asInt_int, asBool_bool, asNil_nil]
      -- printed again
      refine Wp.count (l3.length - M) (fun j st σ' => σ'.old = unO tabsD old0 ∧ st = [.int .i64 ((M + j : Nat) : Int)] ∧ TP σ' b (fun i => pf ≠ none ∧ i = bf) l0 (l3.take (M + j)) (min N l0.length))
        ⟨hO5, rfl, by simpa using hT5⟩ ?_ ?_
      · rintro j st σ6 hj ⟨hO6, rfl, hT6⟩
        have hj' : M + j < l3.length := by omega
        simp only [T4b3, asCons_cons, asInt_int, asNil_nil]
        rw [wp_bif, if_pos (by simp; omega), wp_join, wp_rdI (RdR.ints rd3 _ hO6) (by omega) (by omega), wp_call, Int.toNat_natCast]
        have hg : l3.getD (M + j) 0 = l3[M + j] := by simp [List.getD, hj']
        rw [hg]
        refine wp_print hT6 (hr3 _ (List.getElem_mem hj')) (by rw [List.length_take]; omega) fun σ7 hF7 hT7 => ?_
        rw [asTuple_tuple, asNil_nil, wp_ret]
        simp only [T4k3, sw_same, asNil_nil]
        rw [wp_ret]
        have e1 : wi64 (((M + j : Nat) : Int) + 1) = ((M + (j + 1) : Nat) : Int) := by rw [wi64_in (by omega)]; omega
        refine ⟨hF7.old.trans hO6, by rw [e1], ?_⟩
        rw [← Nat.add_assoc, List.take_succ_eq_append_getElem hj']
        exact hT7
      rintro st σ6 ⟨hO6, rfl, hT6⟩
      have hM : M + (l3.length - M) = l3.length := by omega
      rw [hM] at hT6 ⊢
      simp only [T4b3, asCons_cons, asInt_int, asNil_nil]
      rw [wp_bif, if_neg (by simp), wp_ret]
      simp only [T4k5, sw_same, asCons_cons, asInt_int, asNil_nil]
      rw [wp_call]
      refine wp_marks hT6 ?_
      simp only [asTuple_tuple, asCons_cons, asInt_int, asNil_nil]
      rw [wp_join, wp_call, WpF.eq (ev_text hT6), asStr_str, wp_bif, if_pos (by simp), wp_bif, if_pos (by simp), wp_ret]
      simp only [T4k4, sw_same, asCons_cons, asBool_bool, asNil_nil]
      rw [wp_ret]
      refine ⟨_, rfl, ?_⟩
      simp
      omega
  rw [wp_bif]
  by_cases c1 : l0.length ≤ 50
  · rw [if_pos (by simp; omega), wp_bif]
    by_cases c2 : ((((l3.length : Int) ≤ 30 ∧ 0 ≤ n) ∧ n ≤ 60) ∧ 0 ≤ m)
    · rw [if_pos (by simp; omega), wp_ret]
      exact key _ fun h => by simp at h; omega
    · rw [if_neg (by simp; omega), wp_ret]
      exact key _ fun h => by cases h
  · rw [if_neg (by simp; omega), wp_ret]
    exact key _ fun h => by cases h
end Go.Pg
