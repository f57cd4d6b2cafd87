/- Layer 5: the law TyFresh. -/
import Derived.Test.YtoilldfibaeokabDoorUniD
namespace Go.Pg
open Go.Proofs

theorem wp_at {P : Program} {ov : Ov} {σ : AHeap} {x : Addr} {i n c : Nat} {v : Value} {f : Addr → Value → Pg} {Q : Post} (hi : i < n) (hl : ldN c (aadd x (i * c)) σ = some (v, σ)) :
    Wp P ov (asSome (some x) fun a => grd (decide (0 ≤ ((i : Nat) : Int)) && decide (((i : Nat) : Int) < ((n : Nat) : Int))) (.act (ldN c (aadd a (Int.toNat ((i : Nat) : Int) * c))) (f a))) σ Q = Wp P ov (f x v) σ Q := by
  have e : (decide (0 ≤ ((i : Nat) : Int)) && decide (((i : Nat) : Int) < ((n : Nat) : Int))) = true := by simp; omega
  simp only [asSome_some]
  rw [wp_grd, e, Int.toNat_natCast, wp_act, hl]
  simp
theorem cnt_fit : ∀ (n : Nat) (t : AT), Fits nmA n t → cntM t ≤ 5 ^ n := by
  intro n
  induction n with
  | zero => intro t h; exact h.elim
  | succ n ih =>
    rintro ⟨d, l⟩ ⟨h1, _, h3⟩
    have key : ∀ m : List AT, (∀ x ∈ m, Fits nmA n x) → cntL m ≤ m.length * 5 ^ n := by
      intro m
      induction m with
      | nil => intro _; rw [cntL]; simp
      | cons a m ih' =>
        intro h
        rw [cntL, List.length_cons]
        have e1 := ih' fun x hx => h x (by simp [hx])
        have e2 := ih a (h a (by simp))
        have : ((m.length + 1 : Nat) : Int) * 5 ^ n = m.length * 5 ^ n + 5 ^ n := by
          rw [Int.natCast_add, Int.add_mul]
          simp
        rw [this]
        omega
    have e1 := key l h3
    have hp : (1 : Int) ≤ 5 ^ n := Int.pow_pos (by decide)
    have h1 : l.length ≤ 4 := h1
    have e2 : (l.length : Int) * 5 ^ n ≤ 4 * 5 ^ n := Int.mul_le_mul_of_nonneg_right (by omega) (by omega)
    rw [cntM, Int.pow_succ]
    omega
theorem cnt_fit7 {t : AT} (h : Fits nmA 7 t) : cntM t ≤ 1000000 := Int.le_trans (cnt_fit 7 t h) (by decide)
/-- An element of a row that a law is given. -/
theorem row_given {σB : AHeap} {p0 : Option Addr} {ts : List (Tr TA)} (hrow : RowOf σB NoB 4 (VIn L4 σB NoB 7) p0 ts) {i : Nat} (hi : i < ts.length) : ∃ x cs, p0 = some x ∧ VIn L4 σB NoB 7 cs ts[i] ∧ ∀ σ', Frm σB σ' NoB → ldN 4 (aadd x (i * 4)) σ' = some (.agg cs.toArray, σ') := by
  obtain ⟨x, cs, q1, q2, q3, q4⟩ := hrow i hi
  refine ⟨x, cs, q1, q4, fun σ' f => ?_⟩
  unfold ldN
  rw [rdN_keep (S := NoB) f q2 (fun _ _ h => h.elim), q3]
mutual
theorem same_self : ∀ t : AT, sameM t t = true
  | .mk d l => by
    rw [sameM, headEq]
    have := same_selfL l
    simp only [Tr.a, Tr.args, beq_self_eq_true, Bool.and_self, Bool.true_and]
    exact this
theorem same_selfL : ∀ l : List AT, sameL l l = true
  | [] => by rw [sameL]
  | a :: l => by rw [sameL, same_self a, same_selfL l]; rfl
end
theorem same_strip {t u : AT} (h : strip t = strip u) : sameM t u = true := by
  rw [sameM_strip t u u u h rfl]
  exact same_self u
theorem awake5 (old : Addr → Option Value) : WpF PROG ovL 4 [] (startH (unO tabsD old)) fun v σ' => v = .bool true ∧ σ'.old = unO tabsD old ∧ Fresh σ' :=
  WpF.tabQ TAB_ok 100000 (by kernel_rfl) (by kernel_rfl)
theorem good_var {n : Int} (h : 0 ≤ n ∧ n ≤ 1999) : goodM (varT n) = true := by
  have ho := Ok.varT h
  unfold goodM
  rw [ho.al, measM_cnt _ 0 (by omega) (by omega)]
  have := ho.le
  simp only [Bool.and_true, decide_eq_true_eq]
  have h2 : cntM (varT n) = 1 := by
    unfold varT
    rw [cntM, cntL]
    rfl
  rw [h2]
  decide
abbrev varTr (n : Int) : Tr TA := .mk ⟨7, bs [], n⟩ []
theorem strip_var (n : Int) : strip (varT n) = varTr n := by
  unfold varT
  rw [strip, stripL]
theorem app_var (n : Int) : appM 2 [] (varT n) = some (varTr n) := by
  unfold appM headM
  rw [if_pos (show (varT n).k = 7 from rfl)]
  rfl
theorem NW_var (n : Int) : NW (varTr n) := by
  rw [← strip_var]
  exact NA.varT n
theorem var_c (n : Int) : (varT n).c = [.int .i64 7, .string (bs []), .int .i64 n, .slice none 0 0] := rfl

section
variable {ov : Ov} {σ : AHeap} {b r : Nat} {nx : Int} {S : SubL}
theorem wp_v (hO : OvT ov) (σ : AHeap) (n : Int) : WpF PROG ov 8 [.int .i64 n] σ fun v σ' => v = .agg (varT n).c.toArray ∧ Frm σ σ' NoB := by
  refine WpF.of (T8_eq _) (hO _ (by decide) (by decide) (by decide)) ?_
  rw [T8]
  refine wp_newQ fun σ1 hF1 hn1 hS1 => ?_
  refine wp_stQ hS1 rfl rfl fun σ2 hF2 hn2 hS2 => ?_
  rw [wp_ldAll hS2 4 rfl, wp_ret]
  exact ⟨_, rfl, rfl, hF1.fresh hF2 fun i hi h => by omega⟩
theorem wp_Fresh (hO : OvT ov) (h : SubW σ b r nx S) : WpF PROG ov 6 [.pointer (some ⟨b, 0, some 0⟩)] σ fun v σ' => v = .agg (varT nx).c.toArray ∧ Frm σ σ' (· = b) ∧ SubW σ' b r (minV (wi64 (nx + 1)) 1999) S := by
  have hb := h.st.1
  refine WpF.of (T6_eq _) (hO _ (by decide) (by decide) (by decide)) ?_
  rw [T6]
  refine wp_newQ fun σ1 hF1 hn1 hS1 => ?_
  have h1 := h.frm hF1
  rw [asSome_some, wp_ldF h1.st rfl, asInt_int]
  refine wp_newQ fun σ2 hF2 hn2 hS2 => ?_
  refine wp_stQ hS2 rfl rfl fun σ3 hF3 hn3 hS3 => ?_
  have hF13 : Frm σ1 σ3 NoB := hF2.fresh hF3 fun i hi e => by omega
  have h3 := h1.frm hF13
  have hS13 := hF13.stN hS1
  rw [asSome_some, wp_ldF h3.st rfl, asInt_int, asSome_some]
  refine wp_st1Q h3.st (by simp) rfl fun σ4 hF4 hn4 hS4 => ?_
  have hS34 := hF4.st hS3 (by omega)
  rw [wp_ldAll hS34 4 rfl]
  simp only [asAgg_agg, asCons_cons, asInt_int, asStr_str, asSlice_slice, asNil_nil]
  refine wp_stQ (hF4.st hS13 (by omega)) rfl rfl fun σ5 hF5 hn5 hS5 => ?_
  rw [wp_ldAll hS5 4 rfl, wp_ret]
  have hr4 : σ4.get r = some (.map (esOf S)) := by
    have hlt := h3.lt
    rw [hF4.get r hlt fun e => by have := h3.ne; exact this e.symm]
    exact h3.map
  have e1 : Frm σ σ3 NoB := hF1.seq hF13
  have e2 : Frm σ σ4 (· = b) := e1.no.seq hF4
  have e3 : Frm σ σ5 (· = b) := e2.trans hF5 (fun _ _ h => h) fun j hj e => by omega
  have hlt := h.lt
  have hr5 : σ5.get r = some (.map (esOf S)) := by
    rw [hF5.get r (by have := h3.lt; omega) fun e => by omega]
    exact hr4
  have hst : St σ5 b [.int .i64 (minV (wi64 (nx + 1)) 1999), .map (some r)] := hF5.st (by simpa using hS4) (by omega)
  exact ⟨_, rfl, rfl, e3, SubW.of hst (by have := h3.lt; omega) hr5 fun p hp => (h.full p hp).step4 e3 h.only⟩
end

set_option maxHeartbeats 1000000 in
set_option maxRecDepth 100000 in
theorem tyFresh_law (p0 : Option Addr) (c0 : Nat) (l0 : List (tySh 7).D) (n : Int) (_wn : (Lit.int .i64 n).wf = true) (old0 : Addr → Option Value) (rd0 : RdR (unO tabsD old0) 4 (tySh 7) p0 l0) (ok0 : (Sh.row 4 (tySh 7)).ok l0) :
    WpF PROG ovL 3 [.slice p0 l0.length c0, .int .i64 n] (startH (unO tabsD old0)) fun v _ => v = .bool true := by
  have hO := ovL_T
  have hU : ovL 11 = some unifyG := rfl
  have hR0 : ∀ σ : AHeap, σ.old = unO tabsD old0 → RowOf σ NoB 4 (VIn L4 σ NoB 7) p0 (l0.map (cT 7)) := fun σ hσ => row_T hσ 7 rd0 ok0
  have hll : l0.length = (l0.map (cT 7)).length := by simp
  rw [hll]
  generalize l0.map (cT 7) = ts at hR0
  refine WpF.of (T3_eq _ _ _ _) (hO _ (by decide) (by decide) (by decide)) ?_
  rw [T3, wp_call]
  refine WpF.mono (awake5 old0) ?_
  rintro _ σ1 ⟨rfl, ho1, _⟩
  have hrow := hR0 σ1 ho1
  rw [asBool_bool, wp_bif, if_neg (by simp), wp_bif]
  by_cases hc : ts.length ≤ 12 ∧ 0 ≤ n ∧ n ≤ 50
  case neg =>
    rw [if_pos (by
      simp only [Bool.or_eq_true, decide_eq_true_eq]
      omega), wp_ret]
    exact ⟨_, rfl, rfl⟩
  obtain ⟨h12, hn0, hn50⟩ := hc
  rw [if_neg (by
    simp only [Bool.or_eq_true, decide_eq_true_eq]
    omega), wp_call]
  refine WpF.mono (wp_New hO σ1) ?_
  rintro _ σ2 ⟨rfl, hF2, hW2⟩
  rw [asPtr_ptr]
  obtain ⟨k, rfl⟩ : ∃ k : Nat, n = (k : Int) := ⟨n.toNat, by omega⟩
  have hk : k ≤ 50 := by omega
  have hb1 : σ1.n ≤ σ1.n + 1 := by omega
  generalize σ1.n + 1 = b1 at hW2 hb1 ⊢
  generalize σ1.n = r1 at hW2
  refine Wp.count k (fun j st σ' => st = [.int .i64 ((j : Nat) : Int), .bool false] ∧ Frm σ1 σ' NoB ∧ SubW σ' b1 r1 j []) ⟨rfl, hF2, hW2⟩ ?_ ?_
  · rintro j st σ3 hj ⟨rfl, hF3, hW3⟩
    have ej : wi64 ((j : Int) + 1) = ((j + 1 : Nat) : Int) := by rw [wi64_in (by omega)]; omega
    simp only [T3b0, asCons_cons, asInt_int, asBool_bool, asNil_nil]
    rw [wp_bif, if_pos (by simp; omega), wp_join, wp_call]
    refine WpF.mono (wp_Fresh hO hW3) ?_
    rintro _ σ4 ⟨rfl, hF4, hW4⟩
    have hF14 : Frm σ1 σ4 NoB := hF3.fresh hF4 fun i hi e => by omega
    have hmin : minV (wi64 ((j : Int) + 1)) 1999 = ((j + 1 : Nat) : Int) := by
      rw [ej, minV_eq]
      omega
    rw [hmin] at hW4
    rw [var_c]
    simp only [asAgg_agg, asCons_cons, asInt_int, asStr_str, asSlice_slice, asNil_nil]
    refine wp_newQ fun σ5 hF5 hn5 hS5 => ?_
    refine wp_stQ hS5 rfl rfl fun σ6 hF6 hn6 hS6 => ?_
    have hF46 : Frm σ4 σ6 NoB := hF5.fresh hF6 fun i hi e => by omega
    rw [wp_join, wp_ldAll hS6 4 rfl]
    simp only [asAgg_agg, asCons_cons, asInt_int, asStr_str, asSlice_slice, asNil_nil]
    rw [wp_call]
    refine WpF.mono (wp_v hO σ6 (j : Int)) ?_
    rintro _ σ7 ⟨rfl, hF7⟩
    rw [var_c]
    simp only [asAgg_agg, asCons_cons, asInt_int, asStr_str, asSlice_slice, asNil_nil]
    have hS7 := hF7.stN hS6
    have hF47 := hF46.seq hF7
    rw [wp_get, wp_grd]
    refine ⟨chks_one (hS7.ldAll 4 rfl), ?_⟩
    have kS := wp_Same hO _ σ7 (varT (j : Int)) (varT (j : Int)) (Nat.le_refl _) (varT_full _ _) (varT_full _ _)
    rw [same_self, var_c] at kS
    rw [wp_call]
    refine WpF.mono kS ?_
    rintro _ σ8 ⟨rfl, hF8⟩
    have hF48 := hF47.seq hF8
    have hS8 := hF8.stN hS7
    rw [asBool_bool, wp_bif, if_pos (by decide), wp_ldAll hS8 4 rfl]
    simp only [asAgg_agg, asCons_cons, asInt_int, asStr_str, asSlice_slice, asNil_nil]
    have kA := wp_Apply hO (hW4.frm hF48).sub (varT_full σ8 (j : Int)) (good_var (by omega)) (app_var (j : Int)) (NW_var (j : Int))
    rw [var_c] at kA
    rw [wp_get, wp_call]
    refine WpF.mono kA ?_
    rintro _ σ9 ⟨hF9, u, rfl, hu, hus⟩
    obtain ⟨pu, cu, huc⟩ := hu.cells
    have kS2 := wp_Same hO _ σ9 u (varT (j : Int)) (Nat.le_refl _) hu (varT_full _ _)
    rw [same_strip (t := u) (u := varT (j : Int)) (by rw [hus, strip_var]), var_c, huc] at kS2
    rw [huc]
    simp only [asAgg_agg, asCons_cons, asInt_int, asStr_str, asSlice_slice, asNil_nil]
    rw [wp_ldAll (hF9.stN hS8) 4 rfl, wp_grd]
    refine ⟨past_ok (hS8.ldAll 4 rfl), ?_⟩
    simp only [asAgg_agg, asCons_cons, asInt_int, asStr_str, asSlice_slice, asNil_nil]
    rw [wp_call]
    refine WpF.mono kS2 ?_
    rintro _ σ10 ⟨rfl, hF10⟩
    rw [asBool_bool, wp_ret]
    simp only [T3k0, sw_same, asCons_cons, asBool_bool, asNil_nil, Bool.not_true]
    rw [wp_bif, if_neg (by simp), wp_ret]
    simp only [T3k1, sw_nr, sw_same, asCons_cons, asBool_bool, asNil_nil]
    rw [wp_ret, ej]
    have hF410 := (hF48.seq hF9).seq hF10
    exact ⟨rfl, hF14.seq hF410, hW4.frm hF410⟩
  · rintro st σ3 ⟨rfl, hF3, hW3⟩
    simp only [T3b0, asCons_cons, asInt_int, asBool_bool, asNil_nil]
    rw [wp_bif, if_neg (by simp), wp_ret]
    simp only [T3k5, sw_same, asCons_cons, asInt_int, asBool_bool, asNil_nil]
    refine Wp.loop (fun m st σ' => ∃ (i r : Nat) (S : SubL), m = ts.length + 2 - i ∧ i ≤ ts.length + 1 ∧ st = [.int .i64 ((i : Nat) : Int), .bool false] ∧ Frm σ1 σ' NoB ∧ SubW σ' b1 r k S ∧ Inv S) (ts.length + 2) ⟨0, r1, [], by omega, by omega, rfl, hF3, hW3, Inv.nil⟩ ?_
    rintro m st σ4 ⟨i, r, S, rfl, hi, rfl, hF4, hW4, hI4⟩
    have e1 : wi64 (((i : Nat) : Int) + 1) = ((i + 1 : Nat) : Int) := by rw [wi64_in (by omega)]; omega
    have e2 : wi64 (((i : Nat) : Int) + 2) = ((i + 2 : Nat) : Int) := by rw [wi64_in (by omega)]; omega
    simp only [T3b1, asCons_cons, asInt_int, asBool_bool, asNil_nil, e1]
    rw [wp_bif]
    by_cases hlt : i + 1 < ts.length
    case neg =>
      rw [if_neg (by rw [decide_eq_false (by omega)]; simp), wp_ret]
      simp only [T3k4, sw_same, asCons_cons, asInt_int, asBool_bool, asNil_nil]
      rw [wp_call]
      refine WpF.mono (wp_Fresh hO hW4) ?_
      rintro _ σ5 ⟨rfl, hF5, _⟩
      rw [var_c]
      simp only [asAgg_agg, asCons_cons, asInt_int, asStr_str, asSlice_slice, asNil_nil]
      rw [wp_call]
      refine WpF.mono (wp_v hO σ5 (k : Int)) ?_
      rintro _ σ6 ⟨rfl, hF6⟩
      rw [var_c]
      simp only [asAgg_agg, asCons_cons, asInt_int, asStr_str, asSlice_slice, asNil_nil]
      have kS := wp_Same hO _ σ6 (varT (k : Int)) (varT (k : Int)) (Nat.le_refl _) (varT_full _ _) (varT_full _ _)
      rw [same_self, var_c] at kS
      rw [wp_call]
      refine WpF.mono kS ?_
      rintro _ σ7 ⟨rfl, hF7⟩
      rw [asBool_bool, wp_ret]
      exact ⟨_, rfl, rfl⟩
    rw [if_pos (by rw [decide_eq_true (by omega)]), wp_join, wp_join]
    have hi0 : i < ts.length := by omega
    have bad : ∀ (p0 : Option Addr) (σ' : AHeap), Wp PROG ovL (T3k2 p0 ((i : Nat) : Int) ts.length (some ⟨b1, 0, some 0⟩) false .normal [.bool true]) σ' fun e vs σ' => Wp PROG ovL (T3k3 ((i : Nat) : Int) e vs) σ' fun e st' σ' => match e with
        | .normal => ∃ m', m' < ts.length + 2 - i ∧ ∃ (j r : Nat) (S : SubL), m' = ts.length + 2 - j ∧ j ≤ ts.length + 1 ∧ st' = [.int .i64 ((j : Nat) : Int), .bool false] ∧ Frm σ1 σ' NoB ∧ SubW σ' b1 r k S ∧ Inv S
        | e => Wp PROG ovL (T3k4 (some ⟨b1, 0, some 0⟩) ((k : Nat) : Int) e st') σ' fun _ vs _ => ∃ v, vs = [v] ∧ v = .bool true := fun p0 σ' => by
      simp only [T3k2, sw_same, asCons_cons, asBool_bool, asNil_nil]
      rw [wp_bif, if_pos rfl, wp_ret]
      simp only [T3k3, sw_same, asCons_cons, asBool_bool, asNil_nil]
      rw [wp_ret]
      simp only [T3k4, sw_re, sw_same, asCons_cons, asInt_int, asBool_bool, asNil_nil]
      rw [wp_ret]
      exact ⟨_, rfl, rfl⟩
    obtain ⟨x, cs, hp0, hVx, hlx⟩ := row_given hrow hi0
    obtain ⟨x', cs', hp0', hVy, hly⟩ := row_given hrow hlt
    have hxx : x' = x := Option.some.inj (hp0'.symm.trans hp0)
    subst hxx
    rw [hp0]
    generalize hX : ts[i] = X at hVx
    generalize hY : ts[i + 1] = Y at hVy
    obtain ⟨_, ex, px, cx, rfl⟩ := hVx.cells
    obtain ⟨_, ey, py, cy, rfl⟩ := hVy.cells
    rw [wp_at hi0 (hlx σ4 hF4)]
    simp only [asAgg_agg, asCons_cons, asInt_int, asStr_str, asSlice_slice, asNil_nil]
    rw [wp_call]
    have hsm0 := wp_small hO 7 (Nat.le_refl _) σ4 _ _ (hVx.frm hF4)
    rw [lev7] at hsm0
    refine WpF.mono hsm0 ?_
    rintro _ σ5 ⟨rfl, hF5⟩
    rw [asBool_bool, wp_bif]
    cases hb0 : bigT 7 X with
    | true =>
      rw [if_neg (by simp), wp_ret]
      exact bad _ σ5
    | false =>
    rw [if_pos (by simp)]
    have hF15 := hF4.seq hF5
    rw [wp_at hlt (hly σ5 hF15)]
    simp only [asAgg_agg, asCons_cons, asInt_int, asStr_str, asSlice_slice, asNil_nil]
    rw [wp_call]
    have hsm1 := wp_small hO 7 (Nat.le_refl _) σ5 _ _ (hVy.frm hF15)
    rw [lev7] at hsm1
    refine WpF.mono hsm1 ?_
    rintro _ σ6 ⟨rfl, hF6⟩
    rw [asBool_bool, wp_ret]
    cases hb1' : bigT 7 Y with
    | true => exact bad _ σ6
    | false =>
    have hF16 := hF15.seq hF6
    have hfx := bigM_fits hb0
    have hfy := bigM_fits hb1'
    obtain ⟨u, huc, hUu, hus⟩ := full_of 7 _ _ (hVx.frm hF16) hfx
    obtain ⟨w, hwc, hUw, hws⟩ := full_of 7 _ _ (hVy.frm hF16) hfy
    have hfu : Fits nmA 7 u := fits_strip 7 u (by rw [hus]; exact hfx)
    have hfw : Fits nmA 7 w := fits_strip 7 w (by rw [hws]; exact hfy)
    simp only [T3k2, sw_same, asCons_cons, asBool_bool, asNil_nil, Bool.not_false, e1]
    rw [wp_bif, if_neg (by simp), wp_at hi0 (hlx σ6 hF16)]
    simp only [asAgg_agg, asCons_cons, asInt_int, asStr_str, asSlice_slice, asNil_nil]
    rw [wp_at hlt (hly σ6 hF16)]
    simp only [asAgg_agg, asCons_cons, asInt_int, asStr_str, asSlice_slice, asNil_nil]
    have kU := wp_Unify hU (hW4.frm (hF5.seq hF6)) hI4 hUu hUw (cnt_fit7 hfu) (cnt_fit7 hfw)
    rw [huc, hwc] at kU
    rw [wp_call]
    refine WpF.mono kU ?_
    rintro _ σ7 ⟨rfl, hF7, r', hW7, _⟩
    rw [asInt_int, wp_ret]
    simp only [T3k3, sw_nr, sw_same, asCons_cons, asBool_bool, asNil_nil]
    rw [wp_ret, e2]
    exact ⟨ts.length + 2 - (i + 2), by omega, i + 2, r', _, rfl, by omega, rfl, hF16.fresh hF7 fun j hj e => by omega, hW7, unifyM_inv hI4⟩
end Go.Pg
