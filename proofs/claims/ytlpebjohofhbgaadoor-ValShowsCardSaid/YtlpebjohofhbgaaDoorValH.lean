/- Layer 9: the program's renderer, the rest: a constructor's value; any value. -/
import Derived.Test.YtlpebjohofhbgaaDoorValG
namespace Go.Pg
open Go.Proofs Go.Lib

theorem EvF.ov {P : Program} {ov : Ov} {f : FuncId} {g : List Value → Act} {args : List Value} {σ σ' : AHeap} {v : Value} (h : ov f = some g) (hg : g args σ = some (v, σ')) : EvF P ov f args σ v σ' :=
  ⟨1, fun n hn => by
    cases n with
    | zero => omega
    | succ n =>
      unfold execFn
      rw [h]
      exact hg⟩

theorem ev_format {n : Int} (h : i64r n) (σ : AHeap) : EvF PROG ovD 23 [.int .i64 n, .int .i64 10] σ (.string (bs (itoa n))) σ :=
  EvF.ov (g := ovPure formatG) rfl (by unfold ovPure formatG; simp [h.1, h.2]; rfl)

abbrev strs (ls : List (List UInt8)) : List Value := ls.map fun l => .string (bs l)

theorem ev_join {σ : AHeap} {b cap : Nat} {p : Option Addr} {xs : List (List UInt8)} (h : SlV σ b p cap (strs xs)) (hl : xs.length ≤ 140737488355328) (hj : (join xs [44, 32]).length ≤ 140737488355328) :
    EvF PROG ovD 34 [.slice p xs.length cap, .string (bs [44, 32])] σ (.string (bs (join xs [44, 32]))) σ := by
  refine EvF.ov (g := joinG) rfl ?_
  have hc := h.cap
  rw [List.length_map] at hc
  have hr : joinR σ p xs.length = some (xs.map bs) := by
    unfold joinR rowL
    cases h0 : Nat.beq xs.length 0 with
    | true =>
      have := Nat.eq_of_beq_eq_true h0
      have : xs = [] := List.length_eq_zero_iff.1 this
      subst this
      rfl
    | false =>
      have hne : xs ≠ [] := by
        rintro rfl
        cases h0
      cases p with
      | none =>
        rcases h with ⟨_, _, e⟩ | ⟨_, _, e, _⟩
        · simp at e
          exact absurd e hne
        · cases e
      | some a =>
        have := h.rdN (k := xs.length) (by simp)
        rw [List.take_of_length_le (by simp)] at this
        simp only [cond_false, this]
        rw [show strs xs = (xs.map bs).map Value.string by simp [strs]]
        exact strsL_of _
  have hm : (xs.map bs).map (·.data.toList) = xs := by
    rw [List.map_map]
    have : ((fun x : ByteArray => x.data.toList) ∘ bs) = id := by
      funext l
      rfl
    rw [this, List.map_id]
  unfold joinG
  simp only [hr, hm]
  have : (Nat.ble xs.length cap && Nat.ble xs.length 140737488355328 && Nat.ble (join xs (bs [44, 32]).data.toList).length 140737488355328) = true := by
    simp only [Bool.and_eq_true, Nat.ble_eq]
    exact ⟨⟨hc, hl⟩, hj⟩
  rw [this, cond_true]
  rfl

section
variable {Y : Nat → Prop} {pc pk : Option Addr} {cc ck : Nat} {cells : List (Tr VA)} {cons : ConsL}

theorem consOf_len (hB : RB cells cons) (nm : ByteArray) : (consOf cons nm).length ≤ 5 := by
  have key : ∀ l : ConsL, (∀ c ∈ l, c.2.length ≤ 5) → (consOf l nm).length ≤ 5 := by
    intro l
    induction l with
    | nil => intro _; simp [consOf]
    | cons c l ih =>
      intro h
      simp only [consOf]
      split
      · exact h c (by simp)
      · exact ih fun d hd => h d (by simp [hd])
  exact key cons hB.types

set_option maxHeartbeats 1000000 in
theorem wp_args {k w n : Nat} (hB : RB cells cons) (ih : ValOK Y pc pk cc ck cells cons k) (hw : w + k = 49) (hn : n ≤ 6) {σ : AHeap} {cs : List Value} {v : Tr VA} (hV : VIn L7 σ Y (n + 1) cs v) (hfit : fitV (n + 1) v) (hR : RC Y pc pk cells cons σ) :
    Ret 26 [.agg #[.slice pc cells.length cc, .slice pk cons.length ck], .agg cs.toArray, .int .i64 (w : Nat)] σ (.string (bs (v.a.name.data.toList ++ [32, 40] ++ join (argL (renM cells cons k) v.args (consOf cons v.a.name)) [44, 32] ++ [41]))) := by
  have hin := hV.inR (fun _ h => h)
  obtain ⟨_, e, p, cap, rfl, hr⟩ := hV
  obtain ⟨h4, h60, hfa⟩ := hfit
  refine WpF.of (T26_eq _ _ _ _ _ _ _ _ _ _ _ _ _ _ _ _) rfl ?_
  rw [T26]
  refine wp_newQ fun σ1 hF1 hn1 hS1 => ?_
  refine wp_newQ fun σ2 hF2 hn2 hS2 => ?_
  have hS1 := hF2.stN hS1
  have hF := hF1.seq hF2
  clear hF1 hF2
  rw [wp_ldF hS1 rfl, asSlice_slice, wp_call]
  refine WpF.mono (wp_idx (hR.frm hF).cons (by have := hB.nCons; omega) hS2 rfl ck) ?_
  rintro _ σ3 ⟨hF3, hx⟩
  have hS1 := hF3.stN hS1
  have hS2 := hF3.stN hS2
  have hF := hF.seq hF3
  clear hF3
  have hts := consOf_len hB v.a.name
  have hxl := argL_len (renM cells cons k) v.args (consOf cons v.a.name)
  have hxg := argL_get (renM cells cons k) v.args (consOf cons v.a.name)
  have hnm : v.a.name.data.toList.length ≤ 60 := by simpa using h60
  have hjl : (join (argL (renM cells cons k) v.args (consOf cons v.a.name)) [44, 32]).length ≤ 4 * 9000002 := by
    have h1 := join_le (argL_le (f := renM cells cons k) (b := 9000000) (by decide) v.args (consOf cons v.a.name) fun a ha s => ren_le (k := k) (n := n) (m := 1) hB hR (by omega) (by decide) (hfa a ha) (hin.2 a ha) (.inl (nmT_args s)))
    rw [hxl] at h1
    exact Nat.le_trans h1 (Nat.mul_le_mul_right _ h4)
  have body : ∀ q tc, StrRow σ3 Y q (consOf cons v.a.name) → Wp PROG ovD (T26k3 ⟨σ1.n, 0, some 0⟩ ⟨σ.n, 0, some 0⟩ (w : Nat) .normal [.slice q (consOf cons v.a.name).length tc]) σ3 fun _ vs σ' => ∃ v', vs = [v'] ∧ v' = .string (bs (v.a.name.data.toList ++ [32, 40] ++ join (argL (renM cells cons k) v.args (consOf cons v.a.name)) [44, 32] ++ [41])) ∧ Frm σ σ' NoB := by
    intro q tc hq
    generalize consOf cons v.a.name = ts at hq hts hxl hxg hjl
    generalize hX : argL (renM cells cons k) v.args ts = X at hxl hxg hjl
    simp only [T26k3, sw_same, asCons_cons, asSlice_slice, asNil_nil]
    rw [wp_ldF hS2 rfl, asSlice_slice]
    refine Wp.count v.args.length (fun j st σ' => ∃ b r c2, st = [.int .i64 ((j : Nat) : Int), .slice r j c2] ∧ Frm σ3 σ' NoB ∧ SlV σ' b r c2 (strs (X.take j)) ∧ (r ≠ none → σ3.n ≤ b)) ⟨0, none, 0, rfl, Frm.refl _ _, .inl ⟨rfl, rfl, rfl⟩, fun h => absurd rfl h⟩ ?_ ?_
    · rintro j st σ4 hj ⟨b, r, c2, rfl, hF4, hrow, hrb⟩
      have ej : wi64 ((j : Int) + 1) = ((j + 1 : Nat) : Int) := by rw [wi64_in (by omega)]; omega
      have hjX : j < X.length := by omega
      simp only [T26b0, asCons_cons, asInt_int, asSlice_slice, asNil_nil]
      rw [wp_bif, if_pos (by simp; omega), wp_join]
      have hF34 := hF.seq hF4
      refine wp_rowOf (hr.frm hF34) hj rfl fun cs hC => ?_
      have hCi := hC
      have hfx := hfa _ (List.getElem_mem hj)
      have hgx := hxg j hj
      generalize v.args[j] = x at hC hCi hfx hgx
      obtain ⟨_, e', p', cap', rfl⟩ := hC.cells
      simp only [asAgg_agg, asCons_cons, asInt_int, asStr_str, asSlice_slice, asPtr_ptr, asNil_nil]
      refine wp_newQ fun σ5 hF5 hn5 hS5 => ?_
      refine wp_stQ hS5 rfl rfl fun σ6 hF6 hn6 hS6 => ?_
      have hF46 : Frm σ4 σ6 NoB := hF5.fresh hF6 fun i hi h => by omega
      have tail : ∀ (s : List UInt8) (σ7 : AHeap), Frm σ4 σ7 NoB → X[j]? = some s → Wp PROG ovD (T26k0 r j c2 .normal [.string (bs s)]) σ7 fun e vs σ' => Wp PROG ovD (T26k1 (j : Int) e vs) σ' fun e st' σ' => match e with
          | .normal => ∃ b r c2, st' = [.int .i64 ((j + 1 : Nat) : Int), .slice r (j + 1) c2] ∧ Frm σ3 σ' NoB ∧ SlV σ' b r c2 (strs (X.take (j + 1))) ∧ (r ≠ none → σ3.n ≤ b)
          | e => Wp PROG ovD (T26k2 ⟨σ1.n, 0, some 0⟩ e st') σ' fun _ vs σ' => ∃ v', vs = [v'] ∧ v' = .string (bs (v.a.name.data.toList ++ [32, 40] ++ join X [44, 32] ++ [41])) ∧ Frm σ σ' NoB := fun s σ7 hF7 hs => by
        have hsX : X[j] = s := by
          rw [List.getElem?_eq_getElem hjX] at hs
          exact Option.some.inj hs
        simp only [T26k0, sw_same, asCons_cons, asStr_str, asNil_nil]
        have hrow7 : SlV σ7 b r c2 (strs (X.take j)) := hrow.frm hF7 fun _ h => h
        refine wp_app1 hrow7 (by simp; omega) rfl (by omega) (by omega) fun σ8 b' off s' c3 hF8 hb8 hR8 => ?_
        rw [wp_ret]
        simp only [T26k1, sw_same, asCons_cons, asSlice_slice, asNil_nil]
        rw [wp_ret, ej]
        have hF38 : Frm σ3 σ8 NoB := (hF4.seq hF7).fresh hF8 fun i hi h => by have := hrb h.1; omega
        refine ⟨b', _, c3, rfl, hF38, .inr ⟨off, s', rfl, ?_⟩, fun _ => ?_⟩
        · have : strs (X.take (j + 1)) = strs (X.take j) ++ [.string (bs s)] := by
            rw [List.take_succ_eq_append_getElem hjX, hsX]
            simp [strs]
          rw [this]
          exact hR8
        · rcases hb8 with ⟨h1, rfl⟩ | h1
          · exact hrb h1
          · have := (hF4.seq hF7).n
            omega
      rw [wp_join, wp_bif]
      by_cases hjt : j < ts.length
      · rw [if_pos (by simp; omega)]
        have hS16 := (hF4.seq hF46).stN hS1
        rw [wp_ldAll hS16 2 rfl]
        simp only [asAgg_agg, asCons_cons, asSlice_slice, asNil_nil]
        rw [wp_ldAll hS6 7 rfl]
        simp only [asAgg_agg, asCons_cons, asInt_int, asStr_str, asSlice_slice, asPtr_ptr, asNil_nil]
        refine wp_rowStr ((hq.frm hF4).frm hF46) hjt rfl ?_
        rw [List.getElem?_eq_getElem hjt] at hgx
        generalize ts[j] = s0 at hgx
        rw [wp_call]
        refine WpF.mono (wp_named s0 σ6) ?_
        rintro _ σ7 ⟨rfl, hF7⟩
        simp only [nmC, asAgg_agg, asCons_cons, asInt_int, asStr_str, asSlice_slice, asNil_nil]
        rw [wp_get, wp_grd]
        refine ⟨?_, ?_⟩
        · simp only [chks, chkAt]
          rw [(hF7.stN hS6).ldAll 7 rfl, (hF7.stN hS16).ldAll 2 rfl]
          simp only [eqv_same]
          rfl
        have hF47 := hF46.seq hF7
        rw [wp_call, show wi64 ((w : Int) + 1) = ((w + 1 : Nat) : Int) by rw [wi64_in (by omega)]; omega]
        refine WpF.mono (ih (w + 1) n 1 σ7 _ _ x (nmT s0) (by omega) (by omega) (by decide) (hCi.frm hF47) hfx (nmV s0 σ7 Y 1) (.inl (nmT_args s0)) (hR.frm (hF34.seq hF47))) ?_
        rintro _ σ8 ⟨rfl, hF8⟩
        rw [asStr_str, wp_ret]
        exact tail _ σ8 (hF47.seq hF8) hgx
      · rw [if_neg (by simp; omega), wp_ret]
        rw [show ts[j]? = none from List.getElem?_eq_none_iff.2 (by omega)] at hgx
        exact tail _ σ6 hF46 hgx
    · rintro st σ4 ⟨b, r, c2, rfl, hF4, hrow, hrb⟩
      simp only [T26b0, asCons_cons, asInt_int, asSlice_slice, asNil_nil]
      rw [wp_bif, if_neg (by simp), wp_ret]
      simp only [T26k2, sw_same, asCons_cons, asInt_int, asSlice_slice, asNil_nil]
      have hS24 := hF4.stN hS2
      rw [wp_ldF hS24 rfl, asStr_str, wp_grd]
      refine ⟨by rw [Nat.ble_eq]; have : v.a.name.size ≤ 60 := h60; omega, ?_⟩
      rw [← hxl, List.take_length] at hrow
      rw [wp_call, ← hxl, WpF.eq (ev_join hrow (by omega) (by omega)), asStr_str, wp_get, wp_grd]
      refine ⟨chks_one (hS24.ldF rfl), ?_⟩
      have hsz : v.a.name.size ≤ 60 := h60
      rw [show v.a.name ++ bs [32, 40] = bs (v.a.name.data.toList ++ [32, 40]) by rw [← bs_app, bs_self], bs_app, bs_app, wp_grd]
      refine ⟨by rw [Nat.ble_eq, bs_size, bs_size, List.length_append]; simp only [List.length_cons, List.length_nil]; omega, ?_⟩
      rw [wp_grd]
      refine ⟨by rw [Nat.ble_eq, bs_size, List.length_append, List.length_append]; simp only [List.length_cons, List.length_nil]; omega, ?_⟩
      rw [wp_ret]
      exact ⟨_, rfl, rfl, hF.seq hF4⟩
  rcases hx with ⟨i, hi, rfl, hc⟩ | ⟨rfl, hc⟩
  · rw [asInt_int, wp_join, wp_bif, if_pos (by simp), wp_ldF hS1 rfl, asSlice_slice]
    refine wp_rowOf1 (hR.frm hF).cons hi rfl (by decide) (fun cs u hcs hu => ?_) fun cs hcs => ?_
    · obtain ⟨q, tc, rfl, hq⟩ := hcs
      simp only [List.drop_succ_cons, List.drop_zero, List.take_succ_cons, List.take_zero, List.cons.injEq, and_true] at hu
      subst hu
      rw [asSlice_slice, wp_ret]
      rw [← hc] at hq ⊢
      exact body q tc hq
    · obtain ⟨q, tc, rfl, hq⟩ := hcs
      exact ⟨_, rfl⟩
  · rw [asInt_int, wp_join, wp_bif, if_neg (by simp), wp_ret]
    have := body none 0 (by rw [hc]; exact RowOf.nil)
    rw [hc] at this
    rw [hc]
    exact this

theorem wp_value (hB : RB cells cons) : ∀ k, ValOK Y pc pk cc ck cells cons k := by
  intro k
  induction k with
  | zero =>
    intro w n m σ cs ct v t hw hn hm hV hv hT ht hR
    obtain ⟨_, e, p, cap, rfl⟩ := hV.cells
    obtain ⟨_, e', p', cap', rfl⟩ := hT.cells
    refine WpF.of (T18_eq _ _ _ _ _ _ _ _ _ _ _ _ _ _ _ _ _ _ _ _ _ _) rfl ?_
    rw [T18]
    refine wp_newQ fun σ1 hF1 hn1 hS1 => ?_
    refine wp_newQ fun σ2 hF2 hn2 hS2 => ?_
    refine wp_newQ fun σ3 hF3 hn3 hS3 => ?_
    rw [wp_join, wp_bif, if_pos (by simp; omega), wp_ret]
    simp only [T18k1, sw_same, asCons_cons, asStr_str, asNil_nil]
    rw [wp_ret]
    exact ⟨_, rfl, rfl, (hF1.seq hF2).seq hF3⟩
  | succ k ih =>
    intro w n m σ cs ct v t hw hn hm hV hv hT ht hR
    have hVi := hV
    have hTi := hT
    have hin := hV.inR (fun _ h => h)
    obtain ⟨hok, e, p, cap, rfl⟩ := hV.cells
    obtain ⟨_, e', p', cap', rfl⟩ := hT.cells
    refine WpF.of (T18_eq _ _ _ _ _ _ _ _ _ _ _ _ _ _ _ _ _ _ _ _ _ _) rfl ?_
    rw [T18]
    refine wp_newQ fun σ1 hF1 hn1 hS1 => ?_
    refine wp_newQ fun σ2 hF2 hn2 hS2 => ?_
    refine wp_newQ fun σ3 hF3 hn3 hS3 => ?_
    have hS1 := hF3.stN (hF2.stN hS1)
    have hS2 := hF3.stN hS2
    have hF := (hF1.seq hF2).seq hF3
    clear hF1 hF2 hF3
    have fin1 : ∀ (s : List UInt8) (σ' : AHeap), Frm σ σ' NoB → s = renM cells cons (k + 1) v t → Wp PROG ovD (T18k1 ⟨σ1.n, 0, some 0⟩ ⟨σ.n, 0, some 0⟩ ⟨σ2.n, 0, some 0⟩ (w : Nat) .ret [.string (bs s)]) σ' fun _ vs σ' => ∃ v', vs = [v'] ∧ v' = .string (bs (renM cells cons (k + 1) v t)) ∧ Frm σ σ' NoB := fun s σ' hF' h => by
      subst h
      simp only [T18k1, sw_same, asCons_cons, asStr_str, asNil_nil]
      rw [wp_ret]
      exact ⟨_, rfl, rfl, hF'⟩
    have fin0 : ∀ (s : List UInt8) (σ' : AHeap), Frm σ σ' NoB → s = renM cells cons (k + 1) v t → Wp PROG ovD (T18k0 .ret [.string (bs s)]) σ' fun _ vs σ' => ∃ v', vs = [v'] ∧ v' = .string (bs (renM cells cons (k + 1) v t)) ∧ Frm σ σ' NoB := fun s σ' hF' h => by
      subst h
      simp only [T18k0, sw_same, asCons_cons, asStr_str, asNil_nil]
      rw [wp_ret]
      exact ⟨_, rfl, rfl, hF'⟩
    have eM : renM cells cons (k + 1) v t = (if t.a.kind = 7 then [60, 112, 111, 108, 121, 62] else if v.a.kind ≠ fitsM t.a.kind then [63]
        else if v.a.kind = 1 then itoa v.a.n else if v.a.kind = 2 then (if v.a.n = 1 then [116, 114, 117, 101] else [102, 97, 108, 115, 101])
        else if v.a.kind = 3 then [40, 41] else if v.a.kind = 5 then [60, 102, 117, 110, 62]
        else if v.a.kind = 6 then [114, 101, 102, 32] ++ (match t.args with
          | [u] => if h : 0 ≤ v.a.loc ∧ v.a.loc < cells.length then renM cells cons k (cells[v.a.loc.toNat]'(by omega)) u else [63]
          | _ => [63])
        else if v.a.kind = 4 then (if 0 < v.args.length then v.a.name.data.toList ++ [32, 40] ++ join (argL (renM cells cons k) v.args (consOf cons v.a.name)) [44, 32] ++ [41] else v.a.name.data.toList)
        else [63]) := rfl
    rw [wp_join, wp_bif, if_neg (by simp; omega), wp_ldF hS3 rfl, asInt_int, wp_bif]
    by_cases h7 : t.a.kind = 7
    · rw [if_pos (by simp [h7]), wp_ret]
      exact fin1 _ σ3 hF (by rw [eM, if_pos h7])
    rw [if_neg (by simp [h7])]
    rw [if_neg h7] at eM
    rw [wp_ldF hS2 rfl, asInt_int, wp_ldF hS3 rfl, asInt_int, wp_call, WpF.eq (ev_fits _ _), asInt_int, wp_get, wp_grd]
    refine ⟨chks_one (hS2.ldF rfl), ?_⟩
    rw [wp_bif]
    by_cases hfk : v.a.kind = fitsM t.a.kind
    case neg =>
      rw [if_pos (by simp [hfk]), wp_ret]
      exact fin1 _ σ3 hF (by rw [eM, if_pos hfk])
    rw [if_neg (by simp [← hfk]), wp_ret]
    rw [if_neg (fun h => h hfk)] at eM
    simp only [T18k1, sw_nr, sw_same, asCons_cons, asStr_str, asNil_nil]
    rw [wp_ldF hS2 rfl, asInt_int, wp_join, wp_bif]
    by_cases h1 : v.a.kind = 1
    · rw [if_pos (by simp [h1]), wp_ldF hS2 rfl, asInt_int, wp_call, WpF.eq (ev_format hok _), asStr_str, wp_ret]
      exact fin0 _ σ3 hF (by rw [eM, if_pos h1])
    rw [if_neg (by simp [h1]), wp_bif]
    rw [if_neg h1] at eM
    by_cases h2 : v.a.kind = 2
    · rw [if_pos (by simp [h2]), wp_ldF hS2 rfl, asInt_int, wp_call, WpF.eq (ev_fbool _ _), asStr_str, wp_ret]
      refine fin0 _ σ3 hF ?_
      rw [eM, if_pos h2]
      by_cases hn1 : v.a.n = 1
      · rw [if_pos hn1, if_pos (by simp [hn1])]
      · rw [if_neg hn1, if_neg (by simp [hn1])]
    rw [if_neg (by simp [h2]), wp_bif]
    rw [if_neg h2] at eM
    by_cases h3 : v.a.kind = 3
    · rw [if_pos (by simp [h3]), wp_ret]
      exact fin0 _ σ3 hF (by rw [eM, if_pos h3])
    rw [if_neg (by simp [h3]), wp_bif]
    rw [if_neg h3] at eM
    by_cases h5 : v.a.kind = 5
    · rw [if_pos (by simp [h5]), wp_ret]
      exact fin0 _ σ3 hF (by rw [eM, if_pos h5])
    rw [if_neg (by simp [h5]), wp_bif]
    rw [if_neg h5] at eM
    by_cases h6 : v.a.kind = 6
    · rw [if_pos (by simp [h6]), wp_ldAll hS1 2 rfl]
      simp only [asAgg_agg, asCons_cons, asSlice_slice, asNil_nil]
      rw [wp_ldAll hS2 7 rfl]
      simp only [asAgg_agg, asCons_cons, asInt_int, asStr_str, asSlice_slice, asPtr_ptr, asNil_nil]
      rw [wp_ldAll hS3 4 rfl]
      simp only [asAgg_agg, asCons_cons, asInt_int, asStr_str, asSlice_slice, asNil_nil]
      rw [wp_call]
      refine WpF.mono (wp_cell hB ih (by omega) hn hm (hVi.frm hF) (hTi.frm hF) ht (hR.frm hF)) ?_
      rintro _ σ4 ⟨rfl, hF4⟩
      rw [asStr_str, wp_ret]
      exact fin0 _ σ4 (hF.seq hF4) (by rw [eM, if_pos h6]; rfl)
    rw [if_neg (by simp [h6]), wp_bif]
    rw [if_neg h6] at eM
    by_cases h4 : v.a.kind = 4
    · rw [if_pos (by simp [h4]), wp_ldF hS2 rfl, asSlice_slice, wp_bif]
      rw [if_pos h4] at eM
      by_cases h0 : 0 < v.args.length
      · rw [if_pos (by simp; omega), wp_ldAll hS1 2 rfl]
        simp only [asAgg_agg, asCons_cons, asSlice_slice, asNil_nil]
        rw [wp_ldAll hS2 7 rfl]
        simp only [asAgg_agg, asCons_cons, asInt_int, asStr_str, asSlice_slice, asPtr_ptr, asNil_nil]
        rw [wp_call]
        cases n with
        | zero => exact hv.elim
        | succ n =>
          refine WpF.mono (wp_args hB ih (by omega) (by omega) (hVi.frm hF) hv (hR.frm hF)) ?_
          rintro _ σ4 ⟨rfl, hF4⟩
          rw [asStr_str, wp_ret]
          exact fin0 _ σ4 (hF.seq hF4) (by rw [eM, if_pos h0])
      · rw [if_neg (by simp only [decide_eq_true_eq]; omega), wp_ldF hS2 rfl, asStr_str, wp_ret]
        have := fin0 v.a.name.data.toList σ3 hF (by rw [eM, if_neg h0])
        rw [bs_self] at this
        exact this
    rw [if_neg (by simp [h4]), wp_ret]
    rw [if_neg h4] at eM
    simp only [T18k0, sw_nr, sw_same, asCons_cons, asStr_str, asNil_nil]
    rw [wp_ret, eM]
    exact ⟨_, rfl, rfl, hF⟩

theorem wp_render (hB : RB cells cons) {n m : Nat} {σ : AHeap} {cs ct : List Value} {v : Tr VA} {t : Tr TA} (hn : n ≤ 7) (hm : m ≤ 7) (hV : VIn L7 σ Y n cs v) (hv : fitV n v) (hT : VIn L4 σ Y m ct t) (ht : tyOK m t) (hR : RC Y pc pk cells cons σ) :
    Ret 7 [.agg cs.toArray, .agg ct.toArray, .slice pc cells.length cc, .slice pk cons.length ck] σ (.string (bs (renM cells cons 50 v t))) := by
  have hVi := hV
  have hTi := hT
  obtain ⟨hok, e, p, cap, rfl⟩ := hV.cells
  obtain ⟨_, e', p', cap', rfl⟩ := hT.cells
  refine WpF.of (T7_eq _ _ _ _ _ _ _ _ _ _ _ _ _ _ _ _ _ _ _ _ _) rfl ?_
  rw [T7]
  refine wp_newQ fun σ1 hF1 hn1 hS1 => ?_
  refine wp_newQ fun σ2 hF2 hn2 hS2 => ?_
  have hS1 := hF2.stN hS1
  have hF := hF1.seq hF2
  rw [wp_ldAll hS1 7 rfl]
  simp only [asAgg_agg, asCons_cons, asInt_int, asStr_str, asSlice_slice, asPtr_ptr, asNil_nil]
  rw [wp_ldAll hS2 4 rfl]
  simp only [asAgg_agg, asCons_cons, asInt_int, asStr_str, asSlice_slice, asNil_nil]
  rw [wp_call]
  refine WpF.mono (wp_value hB 50 0 n m σ2 _ _ v t rfl hn hm (hVi.frm hF) hv (hTi.frm hF) ht (hR.frm hF)) ?_
  rintro _ σ4 ⟨rfl, hF4⟩
  rw [asStr_str, wp_ret]
  exact ⟨_, rfl, rfl, hF.seq hF4⟩
end
end Go.Pg
