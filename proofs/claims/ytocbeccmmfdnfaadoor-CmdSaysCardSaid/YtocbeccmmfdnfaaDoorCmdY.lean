/- Layer 24: Parse, Show, Forward: the program's functions, each by what it computes. -/
import Derived.Test.YtocbeccmmfdnfaaDoorCmdX
namespace Go.Pg
open Go.Proofs Go.Utf8 Go.Lib

def cv (k n : Int) (t : List UInt8) : Value := .agg #[.int .i64 k, .int .i64 n, .string (mkB t)]
def ccs (k n : Int) (t : List UInt8) : List Value := [.int .i64 k, .int .i64 n, .string (mkB t)]

section
variable {σ : AHeap}
theorem wp_row0 {b off s cap : Nat} {l : List (List UInt8)} {t : List UInt8} {r : List (List UInt8)} (hR : Row σ b off s cap 1 (strs l)) (hl : l = t :: r) (g : Value → Pg) (Q : Post) :
    Wp PROG ovD (.act (ld1 (aadd ⟨b, off, some s⟩ 0)) g) σ Q = Wp PROG ovD (g (.string (mkB t))) σ Q := by
  have := wp_rowR (P := PROG) (ov := ovD) hR (i := 0) (v := .string (mkB t)) (by rw [hl]; rfl) g Q
  exact this

theorem wp_filled (k : Int) {l : List (List UInt8)} {b off s cap : Nat} (hR : Row σ b off s cap 1 (strs l)) (hsz : ∀ t ∈ l, t.length ≤ 1000000) (c : Nat) {Q : Value → AHeap → Prop}
    (hQ : ∀ σ' (v : Int × Int × List UInt8), Frm σ σ' NoB → (∀ r, argK k l = some r → v = (k, r.1, r.2)) → Q (.tuple #[cv v.1 v.2.1 v.2.2, .bool (argK k l).isSome]) σ') :
    WpF PROG ovD 14 [.int .i64 k, .slice (some ⟨b, off, some s⟩) l.length c] σ Q := by
  refine WpF.of (T14_eq _ _ _ _) rfl ?_
  rw [T14]
  refine wp_newQ fun σ1 hF1 hn1 hS1 => ?_
  refine wp_newQ fun σ2 hF2 hn2 hS2 => ?_
  have hS1' := hF2.stN hS1
  generalize hA : σ1.n = A at hS2
  have hA1 : σ.n < A := by omega
  refine wp_stQ (vs := ccs k 0 []) hS2 rfl rfl fun σ3 hF3 hn3 hS3 => ?_
  have hS3' := hF3.st hS1' (by omega)
  have hF03 : Frm σ σ3 NoB := (hF1.seq hF2).fresh hF3 fun j hj e => by omega
  have hR3 := hF03.rowN hR
  rw [wp_call, WpF.eq (ev_counted k)]
  simp only [asTuple_tuple, asCons_cons, asInt_int, asBool_bool, asNil_nil]
  rw [wp_join, wp_join]
  -- what comes back
  have back : ∀ (σ4 : AHeap) (k' n' : Int) (t' : List UInt8) (ok : Bool), Frm σ σ4 NoB → St σ4 σ.n (ccs k' n' t') → ok = (argK k l).isSome → (∀ r, argK k l = some r → (k', n', t') = (k, r.1, r.2)) →
      Wp PROG ovD (.act (ldN 3 ⟨σ.n, 0, some 0⟩) fun v => .ret .ret [.tuple #[v, .bool ok]]) σ4 fun _ vs σ' => ∃ v, vs = [v] ∧ Q v σ' := by
    intro σ4 k' n' t' ok hF4 hS4 hok hr
    rw [wp_ldAll hS4 3 rfl, wp_ret]
    subst hok
    exact ⟨_, rfl, hQ σ4 (k', n', t') hF4 hr⟩
  have set6 : ∀ (σ4 : AHeap) (k' n' : Int) (t' : List UInt8) (cs : List Value) (p : Pg) (R : Post), cs.length = 3 → Frm σ σ4 NoB → St σ4 σ.n cs → (∀ σ5, Frm σ σ5 NoB → St σ5 σ.n (ccs k' n' t') → Frm σ4 σ5 (· = σ.n) → Wp PROG ovD p σ5 R) →
      Wp PROG ovD (.act (stC ⟨σ.n, 0, some 0⟩ [.int .i64 k', .int .i64 n', .string (mkB t')]) fun v => asTuple v fun l => asNil l p) σ4 R := by
    intro σ4 k' n' t' cs p R hcs hF4 hS4 h
    refine wp_stQ (vs := ccs k' n' t') hS4 (by rw [hcs]; rfl) rfl fun σ5 hF5 hn5 hS5 => h σ5 (hF4.fresh hF5 fun j hj e => by omega) hS5 hF5
  -- the end of the text
  have tail : ∀ σ4, Frm σ σ4 NoB → St σ4 A (ccs k 0 []) → St σ4 σ.n [.int .i64 0, .int .i64 0, .string (bs [])] → (isNum k = true ∨ isNam k = true → argK k l = none) → (isNum k = false → isNam k = false → argK k l = if l = [] then some (0, []) else none) →
      Wp PROG ovD (T14k4 ⟨σ.n, 0, some 0⟩ ⟨A, 0, some 0⟩ (isNum k) k l.length .normal [.bool false]) σ4 fun _ vs σ' => ∃ v, vs = [v] ∧ Q v σ' := by
    intro σ4 hF4 hS4 hS4' hno hyes
    simp only [T14k4, sw_nr, sw_same, asCons_cons, asBool_bool, asNil_nil]
    rw [wp_join, wp_ldAll hS4 3 rfl]
    simp only [ccs, asAgg_agg, asCons_cons, asInt_int, asStr_str, asNil_nil]
    have ld := hS4.ldAll 3 rfl
    cases hnum : isNum k with
    | true =>
      rw [wp_bif, if_neg (by simp)]
      refine set6 σ4 k 0 [] _ _ _ rfl hF4 hS4' fun σ5 hF5 hS5 _ => ?_
      rw [wp_ret]
      simp only [T14k3, sw_same, asCons_cons, asBool_bool, asNil_nil]
      have := hno (.inl hnum)
      exact back σ5 k 0 [] false hF5 hS5 (by rw [this]; rfl) (fun r hr => by rw [this] at hr; cases hr)
    | false =>
      rw [wp_bif, if_pos (by rfl), wp_call, WpF.eq (ev_named k), asBool_bool, wp_get, wp_grd]
      refine ⟨chks_one ld, ?_⟩
      cases hnam : isNam k with
      | true =>
        rw [wp_bif, if_neg (by simp)]
        refine set6 σ4 k 0 [] _ _ _ rfl hF4 hS4' fun σ5 hF5 hS5 _ => ?_
        rw [wp_ret]
        simp only [T14k3, sw_same, asCons_cons, asBool_bool, asNil_nil]
        have := hno (.inr hnam)
        exact back σ5 k 0 [] false hF5 hS5 (by rw [this]; rfl) (fun r hr => by rw [this] at hr; cases hr)
      | false =>
        rw [wp_bif, if_pos (by rfl)]
        refine set6 σ4 k 0 [] _ _ _ rfl hF4 hS4' fun σ5 hF5 hS5 _ => ?_
        rw [wp_ret]
        simp only [T14k3, sw_same, asCons_cons, asBool_bool, asNil_nil]
        have := hyes hnum hnam
        refine back σ5 k 0 [] _ hF5 hS5 ?_ (fun r hr => ?_)
        · rw [this]
          cases l with
          | nil => rfl
          | cons t r => simp; omega
        · rw [this] at hr
          split at hr
          · cases hr; rfl
          · cases hr
  have arg : argK k l = if isNum k = true then
      (match l with
        | [] => if mayNot k = true then some (1, []) else none
        | [t] => match numL t with
          | some n => if leastK k ≤ n then some (n, []) else none
          | none => none
        | _ => none)
    else if isNam k = true then
      (match l with
        | [t] => if nmL t = true then some (0, t) else none
        | _ => none)
    else if l = [] then some (0, []) else none := rfl
  rw [wp_bif]
  by_cases hnum : isNum k = true
  · have hnam : isNam k = false := by
      simp only [isNum, Bool.or_eq_true, beq_iff_eq] at hnum
      rw [Bool.eq_false_iff]
      simp only [isNam, ne_eq, Bool.or_eq_true, beq_iff_eq]
      omega
    rw [if_pos hnum] at arg
    -- no: neither none nor one
    have no : argK k l = none → l.length ≠ 1 → ∀ σ4, Frm σ σ4 NoB → St σ4 A (ccs k 0 []) → St σ4 σ.n [.int .i64 0, .int .i64 0, .string (bs [])] →
        Wp PROG ovD (T14k2 ⟨A, 0, some 0⟩ ⟨σ.n, 0, some 0⟩ (isNum k) l.length (some ⟨b, off, some s⟩) (leastK k) k .normal [.bool false]) σ4 fun e vs σ' => Wp PROG ovD (T14k4 ⟨σ.n, 0, some 0⟩ ⟨A, 0, some 0⟩ (isNum k) k l.length e vs) σ' fun _ vs σ' => ∃ v, vs = [v] ∧ Q v σ' := by
      intro ha h1 σ4 hF4 hS4 hS4'
      have e1 : (((l.length : Nat) : Int) == 1) = false := by simp; omega
      simp only [T14k2, sw_same, asCons_cons, asBool_bool, asNil_nil]
      rw [wp_bif, if_neg (by simp), wp_join, wp_bif, if_pos (by simp [hnum]), wp_ret, e1]
      simp only [T14k1, sw_same, asCons_cons, asBool_bool, asNil_nil]
      rw [wp_bif, if_neg (by simp), wp_join, wp_call, WpF.eq (ev_named k), asBool_bool, hnam, wp_bif, if_neg (by simp), wp_ret]
      simp only [T14k0, sw_same, asCons_cons, asBool_bool, asNil_nil]
      rw [wp_bif, if_neg (by simp), wp_ret]
      exact tail σ4 hF4 hS4 hS4' (fun _ => ha) (fun h _ => by rw [hnum] at h; cases h)
    cases l with
    | nil =>
      by_cases hmay : mayNot k = true
      · rw [if_pos (by simp [hnum, hmay]), wp_ret]
        simp only [hmay, if_true] at arg
        simp only [T14k2, sw_same, asCons_cons, asBool_bool, asNil_nil, List.length_nil]
        rw [wp_bif, if_pos (by rfl)]
        refine wp_st1Q hS3 (by simp [ccs]) rfl fun σ4 hF4 hn4 hS4 => ?_
        have hS4' := hF4.st hS3' (by omega)
        have hF04 : Frm σ σ4 NoB := hF03.fresh hF4 fun j hj e => by omega
        rw [wp_ldAll hS4 3 rfl]
        simp only [ccs, List.set_cons_succ, List.set_cons_zero, asAgg_agg, asCons_cons, asInt_int, asStr_str, asNil_nil]
        refine set6 σ4 k 1 [] _ _ _ rfl hF04 hS4' fun σ5 hF5 hS5 _ => ?_
        rw [wp_ret]
        simp only [T14k4, sw_same, asCons_cons, asBool_bool, asNil_nil]
        exact back σ5 k 1 [] true hF5 hS5 (by rw [arg]; rfl) (fun r hr => by rw [arg] at hr; cases hr; rfl)
      · rw [if_neg (by simp [hmay]), wp_ret]
        simp only [hmay, Bool.false_eq_true, if_false] at arg
        exact no arg (by simp) σ3 hF03 hS3 hS3'
    | cons t r =>
      have e0 : ((((t :: r).length : Nat) : Int) == 0) = false := by simp; omega
      have e0' : ∀ (σ4 : AHeap) (R : Post), (R .normal [.bool false] σ4) → (if (isNum k && mayNot k) = true then Wp PROG ovD (.ret .normal [.bool (((((t :: r).length : Nat) : Int)) == 0)]) σ4 R else Wp PROG ovD (.ret .normal [.bool false]) σ4 R) := by
        intro σ4 R h
        split
        · rw [wp_ret, e0]; exact h
        · rw [wp_ret]; exact h
      cases r with
      | cons t2 r2 =>
        simp only [beq_true]
        refine e0' σ3 _ ?_
        exact no arg (by simp) σ3 hF03 hS3 hS3'
      | nil =>
        simp only [beq_true]
        refine e0' σ3 _ ?_
        simp only [T14k2, sw_same, asCons_cons, asBool_bool, asNil_nil]
        rw [wp_bif, if_neg (by simp), wp_join, wp_bif, if_pos (by simp [hnum]), wp_ret]
        have e1 : (((([t] : List (List UInt8)).length : Nat) : Int) == 1) = true := rfl
        rw [e1]
        simp only [T14k1, sw_same, asCons_cons, asBool_bool, asNil_nil]
        rw [wp_bif, if_pos rfl, asSome_some, wp_grd]
        refine ⟨by simp, ?_⟩
        rw [wp_row0 hR3 rfl, asStr_str, wp_call]
        refine wp_number t fun σ4 hF4 => ?_
        have hF04 := hF03.seq hF4
        simp only [asTuple_tuple, asCons_cons, asInt_int, asBool_bool, asNil_nil]
        refine wp_st1Q (hF4.stN hS3) (by simp [ccs]) rfl fun σ5 hF5 hn5 hS5 => ?_
        have hS5' := hF5.st (hF4.stN hS3') (by omega)
        have hF05 : Frm σ σ5 NoB := hF04.fresh hF5 fun j hj e => by omega
        rw [wp_ldAll hS5 3 rfl]
        simp only [ccs, List.set_cons_succ, List.set_cons_zero, asAgg_agg, asCons_cons, asInt_int, asStr_str, asNil_nil]
        refine set6 σ5 k _ [] _ _ _ rfl hF05 hS5' fun σ6 hF6 hS6 _ => ?_
        rw [wp_ret]
        simp only [T14k4, sw_same, asCons_cons, asBool_bool, asNil_nil]
        have arg1 : argK k [t] = (match numL t with
          | some n => if leastK k ≤ n then some (n, ([] : List UInt8)) else none
          | none => none) := arg
        refine back σ6 k ((numL t).getD 0) [] _ hF6 hS6 ?_ (fun r hr => ?_)
        · rw [arg1]
          cases numL t with
          | none => rfl
          | some n =>
            simp only [Option.isSome_some, Bool.true_and, Option.getD_some]
            by_cases h : leastK k ≤ n
            · rw [if_pos h]; simpa using h
            · rw [if_neg h]; simpa using h
        · rw [arg1] at hr
          cases hn : numL t with
          | none => rw [hn] at hr; cases hr
          | some n =>
            rw [hn] at hr
            simp only at hr
            split at hr
            · cases hr; rfl
            · cases hr
  · have hnum' : isNum k = false := by simpa using hnum
    rw [if_neg (by simp [hnum']), wp_ret]
    rw [if_neg hnum] at arg
    simp only [T14k2, sw_same, asCons_cons, asBool_bool, asNil_nil]
    rw [wp_bif, if_neg (by simp), wp_join, wp_bif, if_neg (by simp [hnum']), wp_ret]
    simp only [T14k1, sw_same, asCons_cons, asBool_bool, asNil_nil]
    rw [wp_bif, if_neg (by simp), wp_join, wp_call, WpF.eq (ev_named k), asBool_bool, wp_bif]
    by_cases hnam : isNam k = true
    · rw [if_pos hnam] at arg
      rw [if_pos (by simp [hnam]), wp_ret]
      have no : argK k l = none → Wp PROG ovD (T14k0 (some ⟨b, off, some s⟩) l.length ⟨A, 0, some 0⟩ ⟨σ.n, 0, some 0⟩ .normal [.bool false]) σ3 fun e vs σ' => Wp PROG ovD (T14k4 ⟨σ.n, 0, some 0⟩ ⟨A, 0, some 0⟩ (isNum k) k l.length e vs) σ' fun _ vs σ' => ∃ v, vs = [v] ∧ Q v σ' := by
        intro ha
        simp only [T14k0, sw_same, asCons_cons, asBool_bool, asNil_nil]
        rw [wp_bif, if_neg (by simp), wp_ret]
        exact tail σ3 hF03 hS3 hS3' (fun _ => ha) (fun _ h => by rw [hnam] at h; cases h)
      match l, hR3, hsz, arg, no, tail, back with
      | [], _, _, arg, no, _, _ => exact no arg
      | _ :: _ :: _, _, _, arg, no, _, _ =>
        have e1 : ∀ n : Nat, (((n + 2 : Nat) : Int) == 1) = false := fun n => by simp; omega
        simp only [List.length_cons]
        rw [e1]
        exact no arg
      | [t], hR3, hsz, arg, _, _, back =>
        have e1 : (((([t] : List (List UInt8)).length : Nat) : Int) == 1) = true := rfl
        rw [e1]
        simp only [T14k0, sw_same, asCons_cons, asBool_bool, asNil_nil]
        rw [wp_bif, if_pos rfl, asSome_some, wp_grd]
        refine ⟨by simp, ?_⟩
        rw [wp_row0 hR3 rfl, asStr_str]
        refine wp_st1Q hS3 (by simp [ccs]) rfl fun σ4 hF4 hn4 hS4 => ?_
        have hS4' := hF4.st hS3' (by omega)
        have hF04 : Frm σ σ4 NoB := hF03.fresh hF4 fun j hj e => by omega
        rw [wp_ldAll hS4 3 rfl]
        simp only [ccs, List.set_cons_succ, List.set_cons_zero, asAgg_agg, asCons_cons, asInt_int, asStr_str, asNil_nil, asSome_some]
        rw [wp_grd]
        refine ⟨by simp, ?_⟩
        have hR4 := hF04.rowN hR
        rw [wp_row0 hR4 rfl, asStr_str, wp_call]
        refine wp_name t (hsz t (by simp)) fun σ5 hF5 => ?_
        rw [asBool_bool, wp_get, wp_grd]
        refine ⟨chks_one ((hF5.stN hS4).ldAll 3 rfl), ?_⟩
        refine set6 σ5 k 0 t _ _ _ rfl (hF04.seq hF5) (hF5.stN hS4') fun σ6 hF6 hS6 _ => ?_
        rw [wp_ret]
        simp only [T14k4, sw_same, asCons_cons, asBool_bool, asNil_nil]
        have arg1 : argK k [t] = if nmL t = true then some (0, t) else none := arg
        refine back σ6 k 0 t _ hF6 hS6 ?_ (fun r hr => ?_)
        · rw [arg1]
          cases nmL t <;> rfl
        · rw [arg1] at hr
          split at hr
          · cases hr; rfl
          · cases hr
    · have hnam' : isNam k = false := by simpa using hnam
      rw [if_neg hnam] at arg
      rw [if_neg (by simp [hnam']), wp_ret]
      simp only [T14k0, sw_same, asCons_cons, asBool_bool, asNil_nil]
      rw [wp_bif, if_neg (by simp), wp_ret]
      exact tail σ3 hF03 hS3 hS3' (fun h => by rw [hnum', hnam'] at h; simp at h) (fun _ _ => arg)

/-- Parse's answer. -/
def pv (r : Option (Int × Int × List UInt8)) : Value := match r with
  | some (k, n, t) => .tuple #[cv k n t, .int .i64 0]
  | none => .tuple #[cv 0 0 [], .int .i64 13]

theorem flds_len : ∀ (n : Nat) (L cur : List UInt8), L.length ≤ n → (∀ t ∈ fld L cur, t.length ≤ cur.length + L.length) ∧ (fld L cur).length ≤ L.length + 1
  | n, L, cur, h => by
    by_cases hL : L = []
    · subst hL
      rw [fld_nil]
      split <;> simp
    · have hw := decL_width hL
      have hl := List.length_pos_iff.2 hL
      rw [fld_step hL]
      cases n with
      | zero => omega
      | succ n =>
        have i1 := flds_len n (L.drop (decL L).2) [] (by rw [List.length_drop]; omega)
        have i2 := flds_len n (L.drop (decL L).2) (cur ++ L.take (decL L).2) (by rw [List.length_drop]; omega)
        simp only [List.length_drop, List.length_nil, List.length_append, List.length_take] at i1 i2
        unfold flds
        split
        · split
          · refine ⟨fun t ht => ?_, ?_⟩
            · have := i1.1 t ht; omega
            · omega
          · refine ⟨fun t ht => ?_, ?_⟩
            · rcases List.mem_cons.1 ht with rfl | ht
              · omega
              · have := i1.1 t ht; omega
            · simp only [List.length_cons]; omega
        · refine ⟨fun t ht => ?_, ?_⟩
          · have := i2.1 t ht; omega
          · omega

theorem wp_parse (L : List UInt8) (hl : L.length ≤ 1000) {Q : Value → AHeap → Prop} (hQ : ∀ σ', Frm σ σ' NoB → Q (pv (parseL L)) σ') : WpF PROG ovD 7 [.string (mkB L)] σ Q := by
  refine WpF.of (T7_eq _) rfl ?_
  rw [T7]
  refine wp_newQ fun σ1 hF1 hn1 hS1 => ?_
  rw [wp_call]
  refine wp_words L hl fun σ2 b hF2 hb hR2 => ?_
  have hS2 := hF2.stN hS1
  have hF02 := hF1.seq hF2
  have hfl := flds_len _ L [] (Nat.le_refl _)
  rw [asSlice_slice]
  unfold parseL at hQ
  have hfe : fld L [] = flds L := rfl
  rw [hfe] at hfl
  generalize flds L = ws at hQ hR2 hfl ⊢
  have done : ∀ (σ4 : AHeap) (k n : Int) (t : List UInt8) (e : Int) (cs : List Value), cs.length = 3 → Frm σ σ4 NoB → St σ4 σ.n cs → pv (parseW ws) = .tuple #[cv k n t, .int .i64 e] →
      Wp PROG ovD (.act (stC ⟨σ.n, 0, some 0⟩ [.int .i64 k, .int .i64 n, .string (mkB t)]) fun v => asTuple v fun l => asNil l (.act (ldN 3 ⟨σ.n, 0, some 0⟩) fun v10 => .ret .ret [(.tuple #[v10, (.int .i64 e)])])) σ4 fun _ vs σ' => ∃ v, vs = [v] ∧ Q v σ' := by
    intro σ4 k n t e cs hcs hF4 hS4 he
    refine wp_stQ (vs := ccs k n t) hS4 (by rw [hcs]; rfl) rfl fun σ5 hF5 hn5 hS5 => ?_
    rw [wp_ldAll hS5 3 rfl, wp_ret]
    have := hQ σ5 (hF4.fresh hF5 fun j hj e => by omega)
    rw [he] at this
    exact ⟨_, rfl, this⟩
  cases ws with
  | nil =>
    rw [wp_bif, if_pos (by rfl)]
    exact done σ2 0 0 [] 13 _ rfl hF02 hS2 rfl
  | cons w l =>
    have hwl : w.length ≤ 1000 := by
      have := hfl.1 w (by simp)
      simp at this
      omega
    rw [wp_bif, if_neg (by simp; omega), asSome_some, wp_grd]
    refine ⟨by simp, ?_⟩
    rw [wp_row0 hR2 rfl, asStr_str, wp_call, WpF.eq (ev_find w), asInt_int, wp_grd]
    refine ⟨?_, ?_⟩
    · have hm : mayCut (some ⟨b, 0, some 1⟩) 1 = true := rfl
      rw [hm]
      simp
      omega
    have hR3 := hR2.drop 1 (by simp [strs])
    have hds : (strs (w :: l)).drop (1 * 1) = strs l := rfl
    rw [hds] at hR3
    have hcs : cutS (some ⟨b, 0, some 1⟩) 1 = some ⟨b, 0 + 1 * 1, some 1⟩ := rfl
    rw [hcs, show (w :: l).length - 1 = l.length by simp, wp_call]
    refine wp_filled _ hR3 (fun t ht => ?_) _ fun σ3 v hF3 hv => ?_
    · have := hfl.1 t (by simp [ht])
      simp at this
      omega
    have hS3 := hF3.stN hS2
    have hF03 := hF02.seq hF3
    obtain ⟨k', n', t'⟩ := v
    simp only [cv, asTuple_tuple, asAgg_agg, asCons_cons, asInt_int, asStr_str, asBool_bool, asNil_nil]
    refine wp_newQ fun σ4 hF4 hn4 hS4 => ?_
    generalize hA : σ3.n = A at hS4
    have hAn : σ.n < A := by
      have := hF2.n
      have := hF3.n
      omega
    refine wp_stQ (vs := ccs k' n' t') hS4 rfl rfl fun σ5 hF5 hn5 hS5 => ?_
    have hS5' := hF5.st (hF4.stN hS3) (by omega)
    have hF05 : Frm σ σ5 NoB := (hF03.seq hF4).fresh hF5 fun j hj e => by omega
    rw [wp_bif]
    have hp : parseW (w :: l) = if findK w = 0 then none else (argK (findK w) l).map fun x => ((findK w : Int), x.1, x.2) := rfl
    by_cases hbad : findK w = 0 ∨ argK (findK w) l = none
    · have e : pv (parseW (w :: l)) = .tuple #[cv 0 0 [], .int .i64 13] := by
        rw [hp]
        rcases hbad with h | h
        · rw [if_pos h]; rfl
        · split
          · rfl
          · rw [h]; rfl
      rw [if_pos (by rcases hbad with h | h <;> simp [h])]
      exact done σ5 0 0 [] 13 _ rfl hF05 hS5' e
    · have h1 : findK w ≠ 0 := fun h => hbad (.inl h)
      obtain ⟨r, hr⟩ : ∃ r, argK (findK w) l = some r := by
        cases hX : argK (findK w) l with
        | none => exact absurd (.inr hX) hbad
        | some r => exact ⟨r, rfl⟩
      have hv' := hv r hr
      simp only [Prod.mk.injEq] at hv'
      obtain ⟨rfl, rfl, rfl⟩ := hv'
      have e : pv (parseW (w :: l)) = .tuple #[cv (findK w) r.1 r.2, .int .i64 0] := by
        rw [hp, if_neg h1, hr]
        rfl
      rw [if_neg (by simp [hr, h1]), wp_ldAll hS5 3 rfl]
      simp only [ccs, asAgg_agg, asCons_cons, asInt_int, asStr_str, asNil_nil]
      exact done σ5 _ _ _ 0 _ rfl hF05 hS5' e
end
end Go.Pg
