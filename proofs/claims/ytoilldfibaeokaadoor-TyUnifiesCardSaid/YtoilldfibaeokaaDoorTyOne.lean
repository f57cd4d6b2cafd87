/- Layer 5: the law TyOne. -/
import Derived.Test.YtoilldfibaeokaaDoorTyOne1
namespace Go.Pg
open Go.Proofs Go.Lib

theorem past_ok2 {h : Act} {v : Value} {σ τ σ' τ' : AHeap} (e : h σ = some (v, τ)) (e' : h σ' = some (v, τ')) : past h v [σ, σ'] = true := by
  simp [past, chkAt, e, e', eqv_same]

section
variable {σB σ : AHeap} {b1 cap : Nat} {q : Option Addr} {ws : List AT} {S : SubL}
/-- Apply, of what is good. -/
theorem OneI.apply (h : OneI σB σ b1 q cap ws S) {t : AT} {T : Tr TA} (ht : AFull σ t) (hg : goodM t = true) (hN : NA t) (hT : ap S t = some T) :
    WpF PROG ovL 17 [.pointer (some ⟨b1, 0, some 0⟩), .agg t.c.toArray] σ fun v σ' => Frm σ σ' NoB ∧ ∃ u : AT, v = .agg u.c.toArray ∧ strip u = T ∧ Stays σ' σ.n u := by
  obtain ⟨r, b, h1, h2, h3⟩ := h.heap
  exact wp_ApplyK ovL_T h1.sub ht hg hT (app_NW h.na CF t T hN hT)
end

/-- What has been made one, looked through. -/
theorem wp_done {σB σ : AHeap} {b1 cap : Nat} {q : Option Addr} {ws : List AT} {S : SubL} (h : OneI σB σ b1 q cap ws S) {c0 : Bool} {k : Ex → List Value → Pg} {Q : Post} (hws : ws.length ≤ 1000)
    (K : ∀ σ' i, Frm σ σ' NoB → Wp PROG ovL (k (.exit 2) [.int .i64 i, .bool c0]) σ' Q) :
    Wp PROG ovL (.loop [.int .i64 0, .bool c0] (T6b1 ws.length q (some ⟨b1, 0, some 0⟩)) k) σ Q := by
  obtain ⟨r, b, h1, h2, h3⟩ := h.heap
  have hrow := done_row h2 fun w hw => (h.good w hw).1
  have he := h.pairs.even
  refine Wp.loop (fun m st σ' => ∃ i : Nat, m = ws.length + 2 - 2 * i ∧ 2 * i ≤ ws.length ∧ st = [.int .i64 ((2 * i : Nat) : Int), .bool c0] ∧ Frm σ σ' NoB) (ws.length + 2) ⟨0, by omega, by omega, rfl, Frm.refl _ _⟩ ?_
  rintro m st σ4 ⟨i, rfl, hi, rfl, hF4⟩
  have e1 : wi64 (((2 * i : Nat) : Int) + 1) = ((2 * i + 1 : Nat) : Int) := by rw [wi64_in (by omega)]; omega
  have e2 : wi64 (((2 * i : Nat) : Int) + 2) = ((2 * (i + 1) : Nat) : Int) := by rw [wi64_in (by omega)]; omega
  simp only [T6b1, asCons_cons, asInt_int, asBool_bool, asNil_nil, e1]
  rw [wp_bif]
  by_cases hlt : 2 * i + 1 < ws.length
  case neg =>
    rw [if_neg (by rw [decide_eq_false (by omega)]; simp), wp_ret]
    exact K σ4 _ hF4
  rw [if_pos (by rw [decide_eq_true (by omega)]), wp_join]
  have hi0 : 2 * i < ws.length := by omega
  refine wp_rowOfB hrow hF4 hi0 rfl fun x cs hX _ => ?_
  have gx := h.good _ (List.getElem_mem hi0)
  have gy := h.good _ (List.getElem_mem hlt)
  have hxy := h.pairs.one i hlt
  obtain ⟨T, hT⟩ := ap_tot h.inv (ok_good gx.2.1)
  rw [hT] at hxy
  have kA := fun σ' (hF : Frm σ σ' NoB) => (h.step hF).apply ((gx.1.frm h.frm).frm hF) gx.2.1 gx.2.2 hT
  have kB := fun σ' (hF : Frm σ σ' NoB) => (h.step hF).apply ((gy.1.frm h.frm).frm hF) gy.2.1 gy.2.2 hxy.symm
  rw [hX]
  generalize ws[2 * i] = X at kA gx
  obtain ⟨px, cx, hxc⟩ := gx.1.cells
  rw [hxc] at kA ⊢
  simp only [asAgg_agg, asCons_cons, asInt_int, asStr_str, asSlice_slice, asNil_nil]
  rw [wp_get, wp_call]
  refine WpF.mono (kA σ4 hF4) ?_
  rintro _ σ5 ⟨hF5, u, rfl, hu, hSu⟩
  have hF05 := hF4.seq hF5
  have hUf := hSu.full
  obtain ⟨pu, cu, huc⟩ := hUf.cells
  rw [huc]
  simp only [asAgg_agg, asCons_cons, asInt_int, asStr_str, asSlice_slice, asNil_nil]
  refine wp_rowOfB hrow hF05 hlt rfl fun y cs' hY hly => ?_
  rw [wp_grd]
  refine ⟨by rw [Int.toNat_natCast]; exact past_ok (hly σ4 hF4), ?_⟩
  rw [hY]
  generalize ws[2 * i + 1] = Y at kB gy hY hly
  obtain ⟨py, cy, hyc⟩ := gy.1.cells
  rw [hyc] at kB ⊢
  simp only [asAgg_agg, asCons_cons, asInt_int, asStr_str, asSlice_slice, asNil_nil]
  rw [wp_call]
  refine WpF.mono (kB σ5 hF05) ?_
  rintro _ σ6 ⟨hF6, w, rfl, hw, hSw⟩
  have hF06 := hF05.seq hF6
  have hWf := hSw.full
  have kS := wp_Same ovL_T _ σ6 u w (Nat.le_refl _) (hUf.frm hF6) hWf
  rw [same_strip (t := u) (u := w) (by rw [hu, hw])] at kS
  obtain ⟨pw, cw, hwc⟩ := hWf.cells
  rw [huc, hwc] at kS
  rw [hwc]
  simp only [asAgg_agg, asCons_cons, asInt_int, asStr_str, asSlice_slice, asNil_nil]
  rw [wp_call]
  refine WpF.mono kS ?_
  rintro _ σ7 ⟨rfl, hF7⟩
  rw [asBool_bool, wp_bif, if_neg (by simp), wp_ret]
  simp only [T6k4, sw_nr, sw_same, asCons_cons, asBool_bool, asNil_nil]
  rw [wp_ret, e2]
  exact ⟨ws.length + 2 - 2 * (i + 1), by omega, i + 1, rfl, by omega, rfl, hF06.seq hF7⟩

theorem wp_at {P : Program} {ov : Ov} {σ : AHeap} {x : Addr} {i n c : Nat} {v : Value} {f : Addr → Value → Pg} {Q : Post} (hi : i < n) (hl : ldN c (aadd x (i * c)) σ = some (v, σ)) :
    Wp P ov (asSome (some x) fun a => grd (decide (0 ≤ ((i : Nat) : Int)) && decide (((i : Nat) : Int) < ((n : Nat) : Int))) (.act (ldN c (aadd a (Int.toNat ((i : Nat) : Int) * c))) (f a))) σ Q = Wp P ov (f x v) σ Q := by
  have e : (decide (0 ≤ ((i : Nat) : Int)) && decide (((i : Nat) : Int) < ((n : Nat) : Int))) = true := by simp; omega
  simp only [asSome_some]
  rw [wp_grd, e, Int.toNat_natCast, wp_act, hl]
  simp
theorem cnt_fit : ∀ (n : Nat) (t : AT), Fits nmA n t → cntM t ≤ 5 ^ n := by
  intro n
  induction n with
  | zero => intro t h; exact h.elim
  | succ n ih =>
    rintro ⟨d, l⟩ ⟨h1, _, h3⟩
    have key : ∀ m : List AT, (∀ x ∈ m, Fits nmA n x) → cntL m ≤ m.length * 5 ^ n := by
      intro m
      induction m with
      | nil => intro _; rw [cntL]; simp
      | cons a m ih' =>
        intro h
        rw [cntL, List.length_cons]
        have e1 := ih' fun x hx => h x (by simp [hx])
        have e2 := ih a (h a (by simp))
        have : ((m.length + 1 : Nat) : Int) * 5 ^ n = m.length * 5 ^ n + 5 ^ n := by
          rw [Int.natCast_add, Int.add_mul]
          simp
        rw [this]
        omega
    have e1 := key l h3
    have hp : (1 : Int) ≤ 5 ^ n := Int.pow_pos (by decide)
    have h1 : l.length ≤ 4 := h1
    have e2 : (l.length : Int) * 5 ^ n ≤ 4 * 5 ^ n := Int.mul_le_mul_of_nonneg_right (by omega) (by omega)
    rw [cntM, Int.pow_succ]
    omega
theorem cnt_fit7 {t : AT} (h : Fits nmA 7 t) : cntM t ≤ 1000000 := Int.le_trans (cnt_fit 7 t h) (by decide)
/-- An element of a row that a law is given. -/
theorem row_given {σB : AHeap} {p0 : Option Addr} {ts : List (Tr TA)} (hrow : RowOf σB NoB 4 (VIn L4 σB NoB 7) p0 ts) {i : Nat} (hi : i < ts.length) : ∃ x cs, p0 = some x ∧ VIn L4 σB NoB 7 cs ts[i] ∧ ∀ σ', Frm σB σ' NoB → ldN 4 (aadd x (i * 4)) σ' = some (.agg cs.toArray, σ') := by
  obtain ⟨x, cs, q1, q2, q3, q4⟩ := hrow i hi
  refine ⟨x, cs, q1, q4, fun σ' f => ?_⟩
  unfold ldN
  rw [rdN_keep (S := NoB) f q2 (fun _ _ h => h.elim), q3]

/-- Pair behind pair is made one. -/
theorem wp_make {σB σ : AHeap} {b1 : Nat} {p0 : Option Addr} {ts : List (Tr TA)} (h : OneI σB σ b1 none 0 [] []) (hb1 : σB.n ≤ b1) (hrow : RowOf σB NoB 4 (VIn L4 σB NoB 7) p0 ts) (hts : ts.length ≤ 12) {k : Ex → List Value → Pg} {Q : Post}
    (hret : ∀ σ' i q' n' c', Wp PROG ovL (k .ret [.int .i64 i, .slice q' n' c', .bool true]) σ' Q)
    (K : ∀ σ' i q cap ws S, ws.length ≤ 1000 → OneI σB σ' b1 q cap ws S → Wp PROG ovL (k (.exit 0) [.int .i64 i, .slice q ws.length cap, .bool false]) σ' Q) :
    Wp PROG ovL (.loop [.int .i64 0, .slice none 0 0, .bool false] (T6b0 ts.length p0 (some ⟨b1, 0, some 0⟩)) k) σ Q := by
  refine Wp.loop (fun m st σ' => ∃ (i : Nat) (q : Option Addr) (cap : Nat) (ws : List AT) (S : SubL), m = ts.length + 2 - i ∧ i ≤ ts.length + 1 ∧ st = [.int .i64 ((i : Nat) : Int), .slice q ws.length cap, .bool false] ∧ ws.length ≤ i ∧ OneI σB σ' b1 q cap ws S) (ts.length + 2) ⟨0, none, 0, [], [], by omega, by omega, rfl, by simp, h⟩ ?_
  rintro m st σ4 ⟨i, q, cap, ws, S, rfl, hi, rfl, hwl, hI⟩
  have e1 : wi64 (((i : Nat) : Int) + 1) = ((i + 1 : Nat) : Int) := by rw [wi64_in (by omega)]; omega
  have e2 : wi64 (((i : Nat) : Int) + 2) = ((i + 2 : Nat) : Int) := by rw [wi64_in (by omega)]; omega
  simp only [T6b0, asCons_cons, asInt_int, asBool_bool, asSlice_slice, asNil_nil, e1]
  rw [wp_bif]
  by_cases hlt : i + 1 < ts.length
  case neg =>
    rw [if_neg (by rw [decide_eq_false (by omega)]; simp), wp_ret]
    exact K σ4 _ q cap ws S (by omega) hI
  rw [if_pos (by rw [decide_eq_true (by omega)]), wp_join, wp_join]
  have hi0 : i < ts.length := by omega
  have bad : ∀ σ' : AHeap, Wp PROG ovL (T6k1 q ws.length cap p0 ((i : Nat) : Int) ts.length (some ⟨b1, 0, some 0⟩) false .normal [.bool true]) σ' fun e vs σ' => Wp PROG ovL (T6k2 ((i : Nat) : Int) e vs) σ' fun e st' σ' => match e with
      | .normal => ∃ m', m' < ts.length + 2 - i ∧ ∃ (j : Nat) (q : Option Addr) (cap : Nat) (ws : List AT) (S : SubL), m' = ts.length + 2 - j ∧ j ≤ ts.length + 1 ∧ st' = [.int .i64 ((j : Nat) : Int), .slice q ws.length cap, .bool false] ∧ ws.length ≤ j ∧ OneI σB σ' b1 q cap ws S
      | e => Wp PROG ovL (k e st') σ' Q := fun σ' => by
    simp only [T6k1, sw_same, asCons_cons, asBool_bool, asNil_nil]
    rw [wp_bif, if_pos rfl, wp_ret]
    simp only [T6k2, sw_same, asCons_cons, asSlice_slice, asBool_bool, asNil_nil]
    rw [wp_ret]
    exact hret _ _ _ _ _
  obtain ⟨x, cs, hp0, hVx, hlx⟩ := row_given hrow hi0
  obtain ⟨x', cs', hp0', hVy, hly⟩ := row_given hrow hlt
  have hxx : x' = x := Option.some.inj (hp0'.symm.trans hp0)
  subst hxx
  rw [hp0] at bad ⊢
  generalize hX : ts[i] = X at hVx
  generalize hY : ts[i + 1] = Y at hVy
  obtain ⟨_, ex, px, cx, rfl⟩ := hVx.cells
  obtain ⟨_, ey, py, cy, rfl⟩ := hVy.cells
  rw [wp_at hi0 (hlx σ4 hI.frm)]
  simp only [asAgg_agg, asCons_cons, asInt_int, asStr_str, asSlice_slice, asNil_nil]
  rw [wp_call]
  have hsm0 := wp_small ovL_T 7 (Nat.le_refl _) σ4 _ _ (hVx.frm hI.frm)
  rw [lev7] at hsm0
  refine WpF.mono hsm0 ?_
  rintro _ σ5 ⟨rfl, hF5⟩
  rw [asBool_bool, wp_bif]
  cases hb0 : bigT 7 X with
  | true =>
    rw [if_neg (by simp), wp_ret]
    exact bad σ5
  | false =>
  rw [if_pos (by simp)]
  have hI5 := hI.step hF5
  rw [wp_at hlt (hly σ5 hI5.frm)]
  simp only [asAgg_agg, asCons_cons, asInt_int, asStr_str, asSlice_slice, asNil_nil]
  rw [wp_call]
  have hsm1 := wp_small ovL_T 7 (Nat.le_refl _) σ5 _ _ (hVy.frm hI5.frm)
  rw [lev7] at hsm1
  refine WpF.mono hsm1 ?_
  rintro _ σ6 ⟨rfl, hF6⟩
  rw [asBool_bool, wp_ret]
  cases hb1' : bigT 7 Y with
  | true => exact bad σ6
  | false =>
  have hI6 := hI5.step hF6
  have hfx := bigM_fits hb0
  have hfy := bigM_fits hb1'
  obtain ⟨u, huc, hU, hus⟩ := full_of 7 _ _ hVx hfx
  obtain ⟨w, hwc, hW, hws⟩ := full_of 7 _ _ hVy hfy
  have hfu : Fits nmA 7 u := fits_strip 7 u (by rw [hus]; exact hfx)
  have hfw : Fits nmA 7 w := fits_strip 7 w (by rw [hws]; exact hfy)
  have nu : goodM u = true → NA u := fun hg => NA.of 7 u hfu (ok_good hg)
  have nw : goodM w = true → NA w := fun hg => NA.of 7 w hfw (ok_good hg)
  simp only [T6k1, sw_same, asCons_cons, asBool_bool, asNil_nil, Bool.not_false, e1]
  rw [wp_bif, if_neg (by simp), wp_at hi0 (hlx σ6 hI6.frm)]
  simp only [asAgg_agg, asCons_cons, asInt_int, asStr_str, asSlice_slice, asNil_nil]
  rw [wp_at hlt (hly σ6 hI6.frm)]
  simp only [asAgg_agg, asCons_cons, asInt_int, asStr_str, asSlice_slice, asNil_nil]
  have kU := hI6.unify hb1 hU hW nu nw (cnt_fit7 hfu) (cnt_fit7 hfw)
  rw [huc, hwc] at kU
  rw [wp_call]
  refine WpF.mono kU ?_
  rintro _ σ7 ⟨rfl, hF7, hI7, hgo⟩
  rw [asInt_int, wp_join, wp_bif]
  by_cases he : (unifyM S u w).1 = 0
  · obtain ⟨g1, g2, g3⟩ := hgo he
    rw [if_pos (by simpa using he), wp_at hi0 (hlx σ7 hI7.frm)]
    simp only [asAgg_agg, asCons_cons, asInt_int, asStr_str, asSlice_slice, asNil_nil]
    rw [wp_at hlt (hly σ7 hI7.frm)]
    simp only [asAgg_agg, asCons_cons, asInt_int, asStr_str, asSlice_slice, asNil_nil]
    have ha := fun Q => hI7.append (x := u) (y := w) ⟨hU, g1, nu g1⟩ ⟨hW, g2, nw g2⟩ g3 (by omega) (g := fun p232 n233 n234 => .ret .normal [(.slice p232 n233 n234)]) (Q := Q)
    rw [huc, hwc] at ha
    refine ha _ fun σ8 q8 cap8 _ hI8 => ?_
    rw [wp_ret]
    simp only [T6k0, sw_same, asCons_cons, asSlice_slice, asNil_nil]
    rw [wp_ret]
    simp only [T6k2, sw_nr, sw_same, asCons_cons, asSlice_slice, asBool_bool, asNil_nil]
    rw [wp_ret, e2]
    exact ⟨ts.length + 2 - (i + 2), by omega, i + 2, q8, cap8, ws ++ [u, w], _, rfl, by omega, by simp, by simp; omega, hI8⟩
  · rw [if_neg (by simpa using he), wp_ret]
    simp only [T6k0, sw_same, asCons_cons, asSlice_slice, asNil_nil]
    rw [wp_ret]
    simp only [T6k2, sw_nr, sw_same, asCons_cons, asSlice_slice, asBool_bool, asNil_nil]
    rw [wp_ret, e2]
    exact ⟨ts.length + 2 - (i + 2), by omega, i + 2, q, cap, ws, _, rfl, by omega, rfl, by omega, hI7⟩
end Go.Pg
