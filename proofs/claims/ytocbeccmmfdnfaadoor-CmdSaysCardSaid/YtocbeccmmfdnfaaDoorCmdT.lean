/- Layer 24: the document's ParseCmd and ShowCmd, by what they compute. -/
import Derived.Test.YtocbeccmmfdnfaaDoorCmdS
namespace Go.Pg
open Go.Proofs Go.Utf8 Go.Lib

theorem beh_cases : ∀ j : Fin 17, (behL.getD (j.val + 1) 0 = 0 ∧ isNum ((j.val : Int) + 1) = false ∧ isNam ((j.val : Int) + 1) = false) ∨ (behL.getD (j.val + 1) 0 = 2 ∧ isNum ((j.val : Int) + 1) = false ∧ isNam ((j.val : Int) + 1) = true) ∨
    ((behL.getD (j.val + 1) 0 = 1 ∨ behL.getD (j.val + 1) 0 = 3) ∧ isNum ((j.val : Int) + 1) = true ∧ isNam ((j.val : Int) + 1) = false ∧ mayNot ((j.val : Int) + 1) = (behL.getD (j.val + 1) 0 == 3) ∧ leastK ((j.val : Int) + 1) = if (j.val : Int) + 1 = 10 then 0 else 1) := by decide

/-- ParseCmd's answer. -/
def rv (r : Option (Int × Int × List UInt8)) : Value := match r with
  | some (k, n, t) => .tuple #[cv k n t, .bool true]
  | none => .tuple #[cv 0 0 [], .bool false]

section
variable {σ : AHeap}
theorem wp_row1 {b off s cap : Nat} {l : List (List UInt8)} {w t : List UInt8} {r : List (List UInt8)} (hR : Row σ b off s cap 1 (strs l)) (hl : l = w :: t :: r) (g : Value → Pg) (Q : Post) :
    Wp PROG ovD (.act (ld1 (aadd ⟨b, off, some s⟩ 1)) g) σ Q = Wp PROG ovD (g (.string (mkB t))) σ Q := by
  have := wp_rowR (P := PROG) (ov := ovD) hR (i := 1) (v := .string (mkB t)) (by rw [hl]; rfl) g Q
  exact this

theorem wp_parseR (L : List UInt8) (hl : L.length ≤ 1000) {Q : Value → AHeap → Prop} (hQ : ∀ σ', Frm σ σ' NoB → Q (rv (parseL L)) σ') : WpF PROG ovD 8 [.string (mkB L)] σ Q := by
  refine WpF.of (T8_eq _) rfl ?_
  rw [T8]
  refine wp_newQ fun σ1 hF1 hn1 hS1 => ?_
  rw [wp_call]
  refine wp_cut L hl fun σ2 b q c hF2 hR2 hb => ?_
  have hS2 := hF2.stN hS1
  have hF02 := hF1.seq hF2
  have hfl := flds_len _ L [] (Nat.le_refl _)
  have hfe : fld L [] = flds L := rfl
  rw [hfe] at hfl
  rw [asSlice_slice]
  unfold parseL at hQ
  generalize flds L = ws at hQ hR2 hfl ⊢
  have done : ∀ (σ4 : AHeap) (k n : Int) (t : List UInt8) (ok : Bool) (cs : List Value), cs.length = 3 → Frm σ σ4 NoB → St σ4 σ.n cs → rv (parseW ws) = .tuple #[cv k n t, .bool ok] →
      Wp PROG ovD (.act (stC ⟨σ.n, 0, some 0⟩ [.int .i64 k, .int .i64 n, .string (mkB t)]) fun v => asTuple v fun l => asNil l (.act (ldN 3 ⟨σ.n, 0, some 0⟩) fun v10 => .ret .ret [(.tuple #[v10, (.bool ok)])])) σ4 fun _ vs σ' => ∃ v, vs = [v] ∧ Q v σ' := by
    intro σ4 k n t ok cs hcs hF4 hS4 he
    refine wp_stQ (vs := ccs k n t) hS4 (by rw [hcs]; rfl) rfl fun σ5 hF5 hn5 hS5 => ?_
    rw [wp_ldAll hS5 3 rfl, wp_ret]
    have := hQ σ5 (hF4.fresh hF5 fun j hj e => by omega)
    rw [he] at this
    exact ⟨_, rfl, this⟩
  have bad : parseW ws = none → Wp PROG ovD (T8k5 ⟨σ.n, 0, some 0⟩ q ws.length .normal [.bool true]) σ2 fun _ vs σ' => ∃ v, vs = [v] ∧ Q v σ' := by
    intro h
    simp only [T8k5, sw_same, asCons_cons, asBool_bool, asNil_nil]
    rw [wp_bif, if_pos rfl]
    exact done σ2 0 0 [] false _ rfl hF02 hS2 (by rw [h]; rfl)
  rw [wp_join, wp_bif]
  have hcase : ws = [] ∨ (∃ w t1 t2 r, ws = w :: t1 :: t2 :: r) ∨ ∃ w l, ws = w :: l ∧ l.length ≤ 1 := by
    match ws with
    | [] => exact .inl rfl
    | [w] => exact .inr (.inr ⟨w, [], rfl, by simp⟩)
    | [w, t] => exact .inr (.inr ⟨w, [t], rfl, by simp⟩)
    | w :: t1 :: t2 :: r => exact .inr (.inl ⟨w, t1, t2, r, rfl⟩)
  rcases hcase with rfl | ⟨w, t1, t2, r, rfl⟩ | ⟨w, l, rfl, hl1⟩
  · rw [if_neg (by simp), wp_ret]
    exact bad rfl
  · have e : decide ((((w :: t1 :: t2 :: r).length : Nat) : Int) > 2) = true := by simp; omega
    rw [if_pos (by simp; omega), wp_ret, e]
    refine bad ?_
    unfold parseW
    simp only
    split
    · rfl
    · have : argK (findK w : Int) (t1 :: t2 :: r) = none := by
        unfold argK
        split
        · rfl
        · split
          · rfl
          · rw [if_neg (by simp)]
      rw [this]
      rfl
  · have e : decide ((((w :: l).length : Nat) : Int) > 2) = false := by simp; omega
    rw [if_pos (by simp; omega), wp_ret, e]
    simp only [T8k5, sw_same, asCons_cons, asBool_bool, asNil_nil]
    rw [wp_bif, if_neg (by simp), wp_call]
    refine wp_kinds fun σ3 b1 b2 hF3 hRa hRb => ?_
    have hS3 := hF3.stN hS2
    have hF03 := hF02.seq hF3
    have hR3 := hR2.frm hF3 fun _ h => h
    obtain ⟨off, s, rfl, hRw⟩ : ∃ off s, q = some ⟨b, off, some s⟩ ∧ Row σ3 b off s c 1 (strs (w :: l)) := by
      rcases hR3 with ⟨_, _, h⟩ | h
      · simp [strs] at h
      · exact h
    have hpw : parseW (w :: l) = if findK w = 0 then none else (argK (findK w) l).map fun x => ((findK w : Int), x.1, x.2) := rfl
    simp only [asTuple_tuple, asCons_cons, asSlice_slice, asNil_nil]
    refine Wp.count 17 (fun j st σ' => σ' = σ3 ∧ st = [.int .i64 ((j : Int) + 1), .bool false] ∧ ∀ i, (hi : i < j) → (hj : i < 17) → kwords[i]'hj ≠ w) ⟨rfl, rfl, fun i hi => by omega⟩ ?_ ?_
    · rintro j st σ4 hj ⟨rfl, rfl, hall⟩
      have ej : wi64 ((j : Int) + 1 + 1) = ((j + 1 : Nat) : Int) + 1 := by rw [wi64_in (by omega)]; omega
      have tj : ((j : Int) + 1).toNat = j + 1 := by omega
      have gj : (decide (0 ≤ (j : Int) + 1) && decide ((j : Int) + 1 < ((18 : Nat) : Int))) = true := by simp; omega
      -- what comes back
      have back : ∀ (σ5 : AHeap) (k n : Int) (t : List UInt8) (ok : Bool), Frm σ σ5 NoB → St σ5 σ.n (ccs k n t) → rv (parseW (w :: l)) = .tuple #[cv k n t, .bool ok] →
          Wp PROG ovD (T8k3 ((j : Int) + 1) .ret [.bool ok]) σ5 fun e st' σ' => match e with
            | .normal => σ' = σ4 ∧ st' = [.int .i64 (((j + 1 : Nat) : Int) + 1), .bool false] ∧ ∀ i, (hi : i < j + 1) → (hj : i < 17) → kwords[i]'hj ≠ w
            | e => Wp PROG ovD (T8k4 ⟨σ.n, 0, some 0⟩ e st') σ' fun _ vs σ' => ∃ v, vs = [v] ∧ Q v σ' := by
        intro σ5 k n t ok hF5 hS5 he
        simp only [T8k3, sw_same, asCons_cons, asBool_bool, asNil_nil]
        rw [wp_ret]
        simp only [T8k4, sw_re, sw_same, asCons_cons, asInt_int, asBool_bool, asNil_nil]
        rw [wp_ldAll hS5 3 rfl, wp_ret]
        have := hQ σ5 hF5
        rw [he] at this
        exact ⟨_, rfl, this⟩
      simp only [T8b0, asCons_cons, asInt_int, asBool_bool, asNil_nil, asSome_some]
      rw [wp_bif, if_pos (by simp; omega), wp_join, wp_grd, gj]
      refine ⟨rfl, ?_⟩
      rw [tj, wp_rowR hRa (v := .string (mkB (kwords[j]'hj))) (by rw [strs_get _ _ (by show j + 1 < 18; omega)]; rfl), asStr_str, wp_grd]
      refine ⟨by simp, ?_⟩
      rw [wp_row0 hRw rfl, asStr_str, tl_mkB, tl_mkB, wp_bif]
      by_cases hkw : ¬ kwords[j]'hj = w
      · rw [if_pos (by simpa using hkw), wp_ret]
        simp only [T8k3, sw_nr, sw_same, asCons_cons, asBool_bool, asNil_nil]
        rw [wp_ret, ej]
        refine ⟨rfl, rfl, fun i hi hj' => ?_⟩
        by_cases hij : i = j
        · subst hij; exact hkw
        · exact hall i (by omega) hj'
      rw [Decidable.not_not] at hkw
      have hfk : findK w = j + 1 := by
        unfold findK
        rw [idxOf_first kwords j hj hkw (fun i hi => hall i hi (by omega)), if_pos hj]
      have hfi : ((findK w : Nat) : Int) = (j : Int) + 1 := by rw [hfk]; omega
      rw [if_neg (by omega), hfi] at hpw
      have hbeh := beh_cases ⟨j, hj⟩
      simp only at hbeh
      rw [if_neg (by simp [hkw])]
      refine wp_newQ fun σ5 hF5 hn5 hS5 => ?_
      have hS5' := hF5.stN hS3
      have hA3 := hS3.1
      generalize hA : σ4.n = A at hS5
      refine wp_stQ (vs := ccs ((j : Int) + 1) 0 []) hS5 rfl rfl fun σ6 hF6 hn6 hS6 => ?_
      have hS6' := hF6.st hS5' (by omega)
      have hF46 : Frm σ4 σ6 NoB := hF5.fresh hF6 fun j hj e => by omega
      have hF06 : Frm σ σ6 NoB := hF03.seq hF46
      have hR6 := hF46.rowN hRw
      have hRb6 := hF46.rowN hRb
      have set3 : ∀ (σ7 : AHeap) (k n : Int) (t : List UInt8) (cs : List Value) (p : Pg) (R : Post), cs.length = 3 → Frm σ σ7 NoB → St σ7 σ.n cs → (∀ σ8, Frm σ σ8 NoB → St σ8 σ.n (ccs k n t) → Wp PROG ovD p σ8 R) →
          Wp PROG ovD (.act (stC ⟨σ.n, 0, some 0⟩ [.int .i64 k, .int .i64 n, .string (mkB t)]) fun v => asTuple v fun l => asNil l p) σ7 R := by
        intro σ7 k n t cs p R hcs hF7 hS7 h
        refine wp_stQ (vs := ccs k n t) hS7 (by rw [hcs]; rfl) rfl fun σ8 hF8 hn8 hS8 => h σ8 (hF7.fresh hF8 fun j hj e => by omega) hS8
      have zero : argK ((j : Int) + 1) l = none → ∀ (σ7 : AHeap) (R : Post), Frm σ σ7 NoB → St σ7 σ.n [.int .i64 0, .int .i64 0, .string (bs [])] → (∀ σ8, Frm σ σ8 NoB → St σ8 σ.n (ccs 0 0 []) → rv (parseW (w :: l)) = .tuple #[cv 0 0 [], .bool false] → R .ret [.bool false] σ8) →
          Wp PROG ovD (.act (stC ⟨σ.n, 0, some 0⟩ [.int .i64 0, .int .i64 0, .string (bs [])]) fun v => asTuple v fun l => asNil l (.ret .ret [.bool false])) σ7 R := by
        intro ha σ7 R hF7 hS7 h
        refine set3 σ7 0 0 [] _ _ _ rfl hF7 hS7 fun σ8 hF8 hS8 => ?_
        rw [wp_ret]
        exact h σ8 hF8 hS8 (by rw [hpw, ha]; rfl)
      have yes : ∀ (n : Int) (t : List UInt8), argK ((j : Int) + 1) l = some (n, t) → ∀ (σ7 : AHeap) (R : Post), Frm σ σ7 NoB → St σ7 A (ccs ((j : Int) + 1) n t) → St σ7 σ.n [.int .i64 0, .int .i64 0, .string (bs [])] → (∀ σ8, Frm σ σ8 NoB → St σ8 σ.n (ccs ((j : Int) + 1) n t) → rv (parseW (w :: l)) = .tuple #[cv ((j : Int) + 1) n t, .bool true] → R .ret [.bool true] σ8) →
          Wp PROG ovD (.act (ldN 3 ⟨A, 0, some 0⟩) fun v51 => asAgg v51 fun l52 => asCons l52 fun v53 l54 => asInt .i64 v53 fun i55 => asCons l54 fun v56 l57 => asInt .i64 v56 fun i58 => asCons l57 fun v59 l60 => asStr v59 fun s61 => asNil l60 (.act (stC ⟨σ.n, 0, some 0⟩ [.int .i64 i55, .int .i64 i58, .string s61]) fun v62 => asTuple v62 fun l63 => asNil l63 (.ret .ret [(.bool true)]))) σ7 R := by
        intro n t ha σ7 R hF7 hS7 hS7' h
        rw [wp_ldAll hS7 3 rfl]
        simp only [ccs, asAgg_agg, asCons_cons, asInt_int, asStr_str, asNil_nil]
        refine set3 σ7 _ n t _ _ _ rfl hF7 hS7' fun σ8 hF8 hS8 => ?_
        rw [wp_ret]
        exact h σ8 hF8 hS8 (by rw [hpw, ha]; rfl)
      rw [wp_grd]
      refine ⟨rfl, ?_⟩
      have hrb := ints_get (k := .i64) (l := behL) (i := j + 1) (by show j + 1 < 18; omega)
      rw [wp_rowR hRb6 hrb, asInt_int, wp_join, wp_bif]
      rcases hbeh with ⟨hb0, hnum, hnam⟩ | ⟨hb0, hnum, hnam⟩ | ⟨hb0, hnum, hnam, hmay, hlst⟩
      · -- nothing
        have harg : argK ((j : Int) + 1) l = if l = [] then some (0, []) else none := by
          unfold argK
          rw [if_neg (by simp [hnum]), if_neg (by simp [hnam])]
        rw [hb0, if_pos (by rfl), wp_bif]
        by_cases hl0 : l = []
        · subst hl0
          rw [if_pos rfl] at harg
          rw [if_neg (by simp)]
          refine yes 0 [] harg σ6 _ hF06 hS6 hS6' fun σ8 hF8 hS8 he => ?_
          simp only [T8k2, sw_same, asCons_cons, asBool_bool, asNil_nil]
          rw [wp_ret]
          exact back σ8 _ _ _ _ hF8 hS8 he
        · rw [if_neg hl0] at harg
          have hlen := List.length_pos_iff.2 hl0
          rw [if_pos (by simp; omega)]
          refine zero harg σ6 _ hF06 hS6' fun σ8 hF8 hS8 he => ?_
          simp only [T8k2, sw_same, asCons_cons, asBool_bool, asNil_nil]
          rw [wp_ret]
          exact back σ8 _ _ _ _ hF8 hS8 he
      · -- a name
        rw [hb0, if_neg (by decide), wp_bif, if_pos (by rfl), wp_join, wp_bif]
        cases l with
        | nil =>
          have harg : argK ((j : Int) + 1) [] = none := by
            unfold argK
            rw [if_neg (by simp [hnum]), if_pos hnam]
          rw [if_neg (by simp), wp_ret]
          simp only [T8k0, sw_same, asCons_cons, asBool_bool, asNil_nil]
          rw [wp_bif, if_pos rfl]
          refine zero harg σ6 _ hF06 hS6' fun σ8 hF8 hS8 he => ?_
          simp only [T8k2, sw_same, asCons_cons, asBool_bool, asNil_nil]
          rw [wp_ret]
          exact back σ8 _ _ _ _ hF8 hS8 he
        | cons t r =>
          obtain rfl : r = [] := List.eq_nil_of_length_eq_zero (by simpa using hl1)
          have harg : argK ((j : Int) + 1) [t] = if nmL t = true then some (0, t) else none := by
            unfold argK
            rw [if_neg (by simp [hnum]), if_pos hnam]
          have htl := hfl.1 t (by simp)
          simp only [List.length_nil, Nat.zero_add] at htl
          rw [if_pos (by simp), wp_grd]
          refine ⟨by simp, ?_⟩
          rw [wp_row1 hR6 rfl, asStr_str, wp_call]
          refine wp_namedR t (by omega) fun σ7 hF7 => ?_
          have hF07 := hF06.seq hF7
          rw [asBool_bool, wp_ret]
          simp only [T8k0, sw_same, asCons_cons, asBool_bool, asNil_nil, asSome_some]
          rw [wp_bif]
          by_cases hm : nmL t = true
          · rw [if_pos hm] at harg
            rw [if_neg (by simp [hm]), wp_grd]
            refine ⟨by simp, ?_⟩
            rw [wp_row1 (hF7.rowN hR6) rfl, asStr_str]
            refine wp_st1Q (hF7.stN hS6) (by simp [ccs]) rfl fun σ8 hF8 hn8 hS8 => ?_
            refine yes 0 t harg σ8 _ (hF07.fresh hF8 fun j hj e => by omega) hS8 (hF8.st (hF7.stN hS6') (by omega)) fun σ9 hF9 hS9 he => ?_
            simp only [T8k2, sw_same, asCons_cons, asBool_bool, asNil_nil]
            rw [wp_ret]
            exact back σ9 _ _ _ _ hF9 hS9 he
          · rw [if_neg hm] at harg
            rw [if_pos (by simp [hm])]
            refine zero harg σ7 _ hF07 (hF7.stN hS6') fun σ8 hF8 hS8 he => ?_
            simp only [T8k2, sw_same, asCons_cons, asBool_bool, asNil_nil]
            rw [wp_ret]
            exact back σ8 _ _ _ _ hF8 hS8 he
      · -- a number
        have hb2 : (behL.getD (j + 1) 0 == 0) = false ∧ (behL.getD (j + 1) 0 == 2) = false := by rcases hb0 with h | h <;> rw [h] <;> decide
        rw [if_neg (by rw [hb2.1]; simp), wp_bif, if_neg (by rw [hb2.2]; simp), wp_ret]
        simp only [T8k2, sw_nr, sw_same, asCons_cons, asBool_bool, asNil_nil, asSome_some]
        rw [wp_bif]
        cases l with
        | nil =>
          have harg : argK ((j : Int) + 1) [] = if mayNot ((j : Int) + 1) = true then some (1, []) else none := by
            unfold argK
            rw [if_pos hnum]
          rw [if_pos (by rfl), wp_grd]
          refine ⟨gj, ?_⟩
          rw [tj, wp_rowR hRb6 hrb, asInt_int, wp_bif]
          by_cases h3 : behL.getD (j + 1) 0 = 3
          · rw [hmay, h3, if_pos (by rfl)] at harg
            rw [h3, if_neg (by decide)]
            refine wp_st1Q hS6 (by simp [ccs]) rfl fun σ8 hF8 hn8 hS8 => ?_
            refine yes 1 [] harg σ8 _ (hF06.fresh hF8 fun j hj e => by omega) hS8 (hF8.st hS6' (by omega)) fun σ9 hF9 hS9 he => ?_
            exact back σ9 _ _ _ _ hF9 hS9 he
          · rw [hmay, if_neg (by simpa using h3)] at harg
            rw [if_pos (by simpa using h3)]
            refine zero harg σ6 _ hF06 hS6' fun σ8 hF8 hS8 he => ?_
            exact back σ8 _ _ _ _ hF8 hS8 he
        | cons t r =>
          obtain rfl : r = [] := List.eq_nil_of_length_eq_zero (by simpa using hl1)
          have harg : argK ((j : Int) + 1) [t] = (match numL t with
            | some n => if leastK ((j : Int) + 1) ≤ n then some (n, ([] : List UInt8)) else none
            | none => none) := by
            unfold argK
            rw [if_pos hnum]
            rfl
          rw [if_neg (by simp), wp_grd]
          refine ⟨by simp, ?_⟩
          rw [wp_row1 hR6 rfl, asStr_str, wp_call, WpF.eq (ev_count t), asInt_int]
          refine wp_st1Q hS6 (by simp [ccs]) rfl fun σ8 hF8 hn8 hS8 => ?_
          have hF08 : Frm σ σ8 NoB := hF06.fresh hF8 fun j hj e => by omega
          have hS8' := hF8.st hS6' (by omega)
          have ldn := fun (g : Value → Pg) (Q : Post) => wp_ldF (P := PROG) (ov := ovD) hS8 (i := 1) (v := .int .i64 ((numL t).getD (-1))) rfl g Q
          rw [wp_join, ldn, asInt_int, wp_bif]
          have no : argK ((j : Int) + 1) [t] = none → Wp PROG ovD (T8k1 ⟨σ.n, 0, some 0⟩ ⟨A, 0, some 0⟩ .normal [.bool true]) σ8 fun e vs σ' => Wp PROG ovD (T8k3 ((j : Int) + 1) e vs) σ' fun e st' σ' => match e with
              | .normal => σ' = σ4 ∧ st' = [.int .i64 (((j + 1 : Nat) : Int) + 1), .bool false] ∧ ∀ i, (hi : i < j + 1) → (hj : i < 17) → kwords[i]'hj ≠ w
              | e => Wp PROG ovD (T8k4 ⟨σ.n, 0, some 0⟩ e st') σ' fun _ vs σ' => ∃ v, vs = [v] ∧ Q v σ' := by
            intro ha
            simp only [T8k1, sw_same, asCons_cons, asBool_bool, asNil_nil]
            rw [wp_bif, if_pos rfl]
            refine zero ha σ8 _ hF08 hS8' fun σ9 hF9 hS9 he => ?_
            exact back σ9 _ _ _ _ hF9 hS9 he
          cases hn : numL t with
          | none =>
            rw [hn] at harg
            rw [if_neg (by simp), wp_ret]
            exact no harg
          | some n =>
            rw [hn] at harg hS8 ldn
            simp only [Option.getD_some] at hS8 ldn ⊢
            have hnb := numL_bound hn
            rw [if_pos (by simp; omega), ldn, asInt_int, wp_ret]
            by_cases hbad : n = 0 ∧ (j : Int) + 1 ≠ 10
            · have e1 : ((n == 0) && ((j : Int) + 1 != 10)) = true := by simp; exact hbad
              rw [e1]
              refine no ?_
              rw [harg]
              simp only
              rw [hlst, if_neg hbad.2, if_neg (by omega)]
            · have e1 : ((n == 0) && ((j : Int) + 1 != 10)) = false := by
                rw [Bool.eq_false_iff]
                intro h
                simp at h
                exact hbad ⟨h.1, by omega⟩
              have harg2 : argK ((j : Int) + 1) [t] = some (n, []) := by
                rw [harg]
                simp only
                rw [hlst, if_pos]
                split
                · omega
                · rename_i h10
                  by_cases h0 : n = 0
                  · exact absurd ⟨h0, h10⟩ hbad
                  · omega
              rw [e1]
              simp only [T8k1, sw_same, asCons_cons, asBool_bool, asNil_nil]
              rw [wp_bif, if_neg (by simp)]
              refine yes n [] harg2 σ8 _ hF08 hS8 hS8' fun σ9 hF9 hS9 he => ?_
              exact back σ9 _ _ _ _ hF9 hS9 he
    · rintro st σ4 ⟨rfl, rfl, hall⟩
      have e0 : findK w = 0 := by
        unfold findK
        rw [if_neg]
        intro hlt
        have h2 : kwords.idxOf w < kwords.length := hlt
        exact hall _ hlt hlt (List.getElem_idxOf h2)
      simp only [T8b0, asCons_cons, asInt_int, asBool_bool, asNil_nil]
      rw [wp_bif, if_neg (by simp), wp_ret]
      simp only [T8k4, sw_same, asCons_cons, asInt_int, asBool_bool, asNil_nil]
      exact done σ4 0 0 [] false _ rfl hF03 hS3 (by rw [hpw, if_pos e0]; rfl)

theorem wordK_beh (j : Nat) (hj : j < 17) : (strs ([] :: kwords))[j + 1]? = some (.string (mkB (wordK ((j : Int) + 1)))) := by
  rw [wordK_at j hj, strs_get _ _ (by show j + 1 < 18; omega)]
  rfl
theorem past_one {h : Act} {v : Value} {σ τ : AHeap} (e : h σ = some (v, τ)) : past h v [σ] = true := by simp [past, chkAt, e, eqv_same]
theorem chks_two {h1 h2 : Act} {v1 v2 : Value} {σ τ1 τ2 : AHeap} (e1 : h1 σ = some (v1, τ1)) (e2 : h2 σ = some (v2, τ2)) : chks [(h1, v1), (h2, v2)] σ = true := by simp [chks, chkAt, e1, e2, eqv_same]
theorem Row.ldJ {σ : AHeap} {b off s cap i : Nat} {xs : List Value} {v : Value} (h : Row σ b off s cap 1 xs) (hv : xs[i]? = some v) : ld1 (aadd ⟨b, off, some s⟩ (i * 1)) σ = some (v, σ) := by
  have e := h.ld hv
  rw [Nat.mul_one]
  exact e

theorem wp_showR (k n : Int) (t : List UInt8) (hl : t.length ≤ 1000000) {Q : Value → AHeap → Prop} (hQ : ∀ σ', Frm σ σ' NoB → Q (.string (mkB (showL k n t))) σ') : WpF PROG ovD 10 [cv k n t] σ Q := by
  refine WpF.of (T10_eq _ _ _) rfl ?_
  have hwl := wordK_len k
  rw [T10]
  refine wp_newQ (cs := ccs k n t) fun σ1 hF1 hn1 hS1 => ?_
  have ldk := fun (σ' : AHeap) (h : St σ' σ.n (ccs k n t)) (g : Value → Pg) (Q : Post) => wp_ldF (P := PROG) (ov := ovD) h (i := 0) (v := .int .i64 k) rfl g Q
  have ldn := fun (σ' : AHeap) (h : St σ' σ.n (ccs k n t)) (g : Value → Pg) (Q : Post) => wp_ldF (P := PROG) (ov := ovD) h (i := 1) (v := .int .i64 n) rfl g Q
  have ldt := fun (σ' : AHeap) (h : St σ' σ.n (ccs k n t)) (g : Value → Pg) (Q : Post) => wp_ldF (P := PROG) (ov := ovD) h (i := 2) (v := .string (mkB t)) rfl g Q
  have bad : ¬ (1 ≤ k ∧ k ≤ 17) → Wp PROG ovD (T10k4 ⟨σ.n, 0, some 0⟩ .normal [.bool true]) σ1 fun _ vs σ' => ∃ v, vs = [v] ∧ Q v σ' := by
    intro h
    have hq := hQ σ1 hF1
    rw [show showL k n t = [] by unfold showL; rw [if_pos (.inl (wordK_no h))]] at hq
    simp only [T10k4, sw_same, asCons_cons, asBool_bool, asNil_nil]
    rw [wp_bif, if_pos rfl, wp_ret]
    exact ⟨_, rfl, hq⟩
  rw [wp_join, ldk σ1 hS1, asInt_int, wp_bif]
  by_cases h1 : k < 1
  · rw [if_neg (by simp [h1]), wp_ret]
    exact bad (by omega)
  rw [if_pos (by simpa using h1), ldk σ1 hS1, asInt_int, wp_ret]
  by_cases h17 : 17 < k
  · have e : decide (k > 17) = true := by simpa using h17
    rw [e]
    exact bad (by omega)
  have e : decide (k > 17) = false := by simpa using h17
  obtain ⟨j, hj, rfl⟩ : ∃ j : Nat, j < 17 ∧ k = (j : Int) + 1 := ⟨(k - 1).toNat, by omega, by omega⟩
  have tj : ((j : Int) + 1).toNat = j + 1 := by omega
  have gj : (decide (0 ≤ (j : Int) + 1) && decide ((j : Int) + 1 < ((18 : Nat) : Int))) = true := by simp; omega
  have hbeh := beh_cases ⟨j, hj⟩
  simp only at hbeh
  have hwne : wordK ((j : Int) + 1) ≠ [] := by
    rw [wordK_at j hj]
    exact (kword_ok _ (List.getElem_mem hj)).1
  have hsh : showL ((j : Int) + 1) n t = if (isNam ((j : Int) + 1) = false ∧ t ≠ []) ∨ (isNum ((j : Int) + 1) = false ∧ n ≠ 0) then []
      else if isNum ((j : Int) + 1) = true then (if n < leastK ((j : Int) + 1) ∨ 999999999 < n then [] else wordK ((j : Int) + 1) ++ 32 :: itoa n)
      else if isNam ((j : Int) + 1) = true then (if nmL t = true then wordK ((j : Int) + 1) ++ 32 :: t else []) else wordK ((j : Int) + 1) := by
    unfold showL
    simp only [hwne, false_or]
  rw [e]
  simp only [T10k4, sw_same, asCons_cons, asBool_bool, asNil_nil]
  rw [wp_bif, if_neg (by simp), wp_call]
  refine wp_kinds fun σ2 b1 b2 hF2 hRa hRb => ?_
  have hS2 := hF2.stN hS1
  have hF02 := hF1.seq hF2
  have hrb := ints_get (k := .i64) (l := behL) (i := j + 1) (by show j + 1 < 18; omega)
  have hra := wordK_beh j hj
  simp only [asTuple_tuple, asCons_cons, asSlice_slice, asNil_nil, asSome_some]
  rw [ldk σ2 hS2, asInt_int, wp_grd]
  refine ⟨gj, ?_⟩
  rw [tj, wp_rowR hRb hrb, asInt_int, wp_join, wp_bif]
  -- what comes back out of a branch
  have out : ∀ (σ3 : AHeap) (x : List UInt8), Frm σ σ3 NoB → showL ((j : Int) + 1) n t = x → Wp PROG ovD (T10k3 ⟨σ.n, 0, some 0⟩ (some ⟨b1, 0, some 1⟩) 18 .ret [.string (mkB x)]) σ3 fun _ vs σ' => ∃ v, vs = [v] ∧ Q v σ' := by
    intro σ3 x hF3 hx
    simp only [T10k3, sw_same, asCons_cons, asStr_str, asNil_nil]
    rw [wp_ret]
    have := hQ σ3 hF3
    rw [hx] at this
    exact ⟨_, rfl, this⟩
  rcases hbeh with ⟨hb0, hnum, hnam⟩ | ⟨hb0, hnum, hnam⟩ | ⟨hb0, hnum, hnam, hmay, hlst⟩
  · rw [hnum, hnam] at hsh
    simp only [true_and, Bool.false_eq_true, if_false] at hsh
    rw [hb0, if_pos (by rfl), wp_join, ldn σ2 hS2, asInt_int, wp_bif]
    have none1 : (t ≠ [] ∨ n ≠ 0) → Wp PROG ovD (T10k0 ⟨σ.n, 0, some 0⟩ (some ⟨b1, 0, some 1⟩) 18 .normal [.bool true]) σ2 fun e vs σ' => Wp PROG ovD (T10k3 ⟨σ.n, 0, some 0⟩ (some ⟨b1, 0, some 1⟩) 18 e vs) σ' fun _ vs σ' => ∃ v, vs = [v] ∧ Q v σ' := by
      intro h
      rw [if_pos h] at hsh
      simp only [T10k0, sw_same, asCons_cons, asBool_bool, asNil_nil]
      rw [wp_bif, if_pos rfl, wp_ret]
      exact out σ2 [] hF02 hsh
    by_cases h0 : n = 0
    · rw [if_pos (by simp [h0]), ldt σ2 hS2, asStr_str, wp_ret, tl_mkB, tl_bs]
      by_cases ht : t = []
      · have e2 : (!(t == [])) = false := by simp [ht]
        rw [if_neg (by simp [h0, ht])] at hsh
        rw [e2]
        simp only [T10k0, sw_same, asCons_cons, asBool_bool, asNil_nil, asSome_some]
        rw [wp_bif, if_neg (by simp), ldk σ2 hS2, asInt_int, wp_grd]
        refine ⟨gj, ?_⟩
        rw [tj, wp_rowR hRa hra, asStr_str, wp_ret]
        exact out σ2 _ hF02 hsh
      · have e2 : (!(t == [])) = true := by simpa using ht
        rw [e2]
        exact none1 (.inl ht)
    · rw [if_neg (by simpa using h0), wp_ret]
      exact none1 (.inr h0)
  · rw [hnum, hnam] at hsh
    simp only [true_and, Bool.false_eq_true, if_false, if_true, Bool.true_eq_false, false_and, false_or] at hsh
    rw [hb0, if_neg (by decide), wp_bif, if_pos (by rfl), wp_join, ldn σ2 hS2, asInt_int, wp_bif]
    have none1 : ∀ σ3, Frm σ σ3 NoB → showL ((j : Int) + 1) n t = [] → Wp PROG ovD (T10k1 ⟨σ.n, 0, some 0⟩ (some ⟨b1, 0, some 1⟩) 18 .normal [.bool true]) σ3 fun e vs σ' => Wp PROG ovD (T10k3 ⟨σ.n, 0, some 0⟩ (some ⟨b1, 0, some 1⟩) 18 e vs) σ' fun _ vs σ' => ∃ v, vs = [v] ∧ Q v σ' := by
      intro σ3 hF3 h
      simp only [T10k1, sw_same, asCons_cons, asBool_bool, asNil_nil]
      rw [wp_bif, if_pos rfl, wp_ret]
      exact out σ3 [] hF3 h
    by_cases h0 : n = 0
    · rw [if_neg (by simp [h0])] at hsh
      rw [if_pos (by simp [h0]), ldt σ2 hS2, asStr_str, wp_call]
      refine wp_namedR t hl fun σ3 hF3 => ?_
      have hF03 := hF02.seq hF3
      have hS3 := hF3.stN hS2
      rw [asBool_bool, wp_ret]
      by_cases hm : nmL t = true
      · rw [if_pos hm] at hsh
        rw [hm]
        simp only [T10k1, sw_same, asCons_cons, asBool_bool, asNil_nil, asSome_some, Bool.not_true]
        rw [wp_bif, if_neg (by simp), ldk σ3 hS3, asInt_int, wp_grd]
        refine ⟨gj, ?_⟩
        rw [tj, wp_rowR (hF3.rowN hRa) hra, asStr_str, wp_grd]
        refine ⟨by rw [Nat.ble_eq, mkB_size]; omega, ?_⟩
        rw [ldt σ3 hS3, asStr_str, show bs [32] = mkB [32] from rfl, app_mkB, app_mkB, wp_grd]
        refine ⟨by rw [Nat.ble_eq, mkB_size, mkB_size]; simp; omega, ?_⟩
        rw [wp_ret]
        exact out σ3 _ hF03 (by rw [hsh]; simp)
      · rw [if_neg hm] at hsh
        have e2 : nmL t = false := by simpa using hm
        rw [e2]
        exact none1 σ3 hF03 hsh
    · rw [if_pos h0] at hsh
      rw [if_neg (by simpa using h0), wp_ret]
      exact none1 σ2 hF02 hsh
  · rw [hnum, hnam] at hsh
    simp only [true_and, if_true, Bool.true_eq_false, false_and, or_false] at hsh
    have hb2 : (behL.getD (j + 1) 0 == 0) = false ∧ (behL.getD (j + 1) 0 == 2) = false := by rcases hb0 with h | h <;> rw [h] <;> decide
    rw [if_neg (by rw [hb2.1]; simp), wp_bif, if_neg (by rw [hb2.2]; simp), wp_ret]
    simp only [T10k3, sw_nr, sw_same, asCons_cons, asStr_str, asNil_nil]
    rw [wp_join, ldn σ2 hS2, asInt_int, wp_bif]
    have none1 : showL ((j : Int) + 1) n t = [] → Wp PROG ovD (T10k2 ⟨σ.n, 0, some 0⟩ (some ⟨b1, 0, some 1⟩) 18 .normal [.bool true]) σ2 fun _ vs σ' => ∃ v, vs = [v] ∧ Q v σ' := by
      intro h
      simp only [T10k2, sw_same, asCons_cons, asBool_bool, asNil_nil]
      rw [wp_bif, if_pos rfl, wp_ret]
      have := hQ σ2 hF02
      rw [h] at this
      exact ⟨_, rfl, this⟩
    have none2 : (t ≠ [] ∨ n < leastK ((j : Int) + 1) ∨ 999999999 < n) → showL ((j : Int) + 1) n t = [] := by
      intro h
      rw [hsh]
      by_cases ht : t = []
      · rw [if_neg (by simp [ht])]
        rcases h with h | h
        · exact absurd ht h
        · rw [if_pos h]
      · rw [if_pos ht]
    have rest : leastK ((j : Int) + 1) ≤ n → Wp PROG ovD (.act (ld1 (aadd ⟨σ.n, 0, some 0⟩ 1)) fun v78 => asInt .i64 v78 fun i79 => bif (decide (i79 > 999999999)) == false then (.act (ld1 (aadd ⟨σ.n, 0, some 0⟩ 2)) fun v80 => asStr v80 fun s81 => .ret .normal [(.bool (!(s81.toList == (bs []).toList)))]) else (.ret .normal [(.bool true)])) σ2
        fun e vs σ' => Wp PROG ovD (T10k2 ⟨σ.n, 0, some 0⟩ (some ⟨b1, 0, some 1⟩) 18 e vs) σ' fun _ vs σ' => ∃ v, vs = [v] ∧ Q v σ' := by
      intro hle
      rw [ldn σ2 hS2, asInt_int, wp_bif]
      by_cases hgt : 999999999 < n
      · rw [if_neg (by simpa using hgt), wp_ret]
        exact none1 (none2 (.inr (.inr hgt)))
      · rw [if_pos (by simpa using hgt), ldt σ2 hS2, asStr_str, wp_ret, tl_mkB, tl_bs]
        by_cases ht : t = []
        · have e2 : (!(t == [])) = false := by simp [ht]
          have h0 : 0 ≤ n := by
            have : 0 ≤ leastK ((j : Int) + 1) := by unfold leastK; split <;> decide
            omega
          rw [if_neg (by simp [ht]), if_neg (by omega)] at hsh
          obtain ⟨u, rfl⟩ : ∃ u : Nat, n = (u : Int) := ⟨n.toNat, by omega⟩
          rw [itoa_nonneg] at hsh
          have hdl := dec_len 8 u (by omega)
          rw [e2]
          simp only [T10k2, sw_same, asCons_cons, asBool_bool, asNil_nil, asSome_some]
          rw [wp_bif, if_neg (by simp), ldk σ2 hS2, asInt_int, wp_grd]
          refine ⟨gj, ?_⟩
          rw [tj, wp_rowR hRa hra, asStr_str, wp_grd]
          refine ⟨by rw [Nat.ble_eq, mkB_size]; omega, ?_⟩
          rw [ldn σ2 hS2, asInt_int, wp_call]
          refine wp_digits u u (Nat.le_refl _) (by omega) σ2 fun σ3 hF3 => ?_
          have hS3 := hF3.stN hS2
          rw [asStr_str, wp_get, wp_grd]
          refine ⟨chks_two ((hF3.rowN hRa).ldJ hra) (hS3.ldF (i := 0) rfl), ?_⟩
          rw [show bs [32] = mkB [32] from rfl, app_mkB, app_mkB, wp_grd]
          refine ⟨by rw [Nat.ble_eq, mkB_size, mkB_size]; simp; omega, ?_⟩
          rw [wp_ret]
          have := hQ σ3 (hF02.seq hF3)
          rw [hsh] at this
          rw [show wordK ((j : Int) + 1) ++ [32] ++ decDigits u = wordK ((j : Int) + 1) ++ 32 :: decDigits u by simp]
          exact ⟨_, rfl, this⟩
        · have e2 : (!(t == [])) = true := by simpa using ht
          rw [e2]
          exact none1 (none2 (.inl ht))
    by_cases hneg : n < 0
    · rw [if_neg (by simp [hneg]), wp_ret]
      refine none1 (none2 (.inr (.inl ?_)))
      rw [hlst]
      split <;> omega
    · rw [if_pos (by simpa using hneg), ldn σ2 hS2, asInt_int, wp_bif]
      by_cases h0 : n = 0
      · rw [if_pos (by simp [h0]), ldk σ2 hS2, asInt_int, wp_bif]
        by_cases h10 : (j : Int) + 1 = 10
        · rw [if_pos (by simp [h10])]
          exact rest (by rw [hlst, if_pos h10]; omega)
        · rw [if_neg (by simpa using h10), wp_ret]
          exact none1 (none2 (.inr (.inl (by rw [hlst, if_neg h10]; omega))))
      · rw [if_neg (by simpa using h0)]
        exact rest (by rw [hlst]; split <;> omega)
end
end Go.Pg
