/- Layer 24: any text is a command, or none, any command is written, as the document says: the law's tree returns true. -/
import Derived.Test.YtocbeccmmfdnfaaDoorCmdT
import Derived.Test.YtocbeccmmfdnfaaDoorArgSt
namespace Go.Pg
open Go.Proofs Go.Utf8 Go.Lib

abbrev shCmd : Sh := .fld 0 (.int .i64) (.fld 1 (.int .i64) (.fld 2 .str .fin))

theorem show_step : showL 3 1 [] = [115, 116, 101, 112, 32, 49] := by
  have e : itoa 1 = [49] := by
    rw [show (1 : Int) = ((1 : Nat) : Int) from rfl, itoa_nonneg, decDigits, dif_pos (by decide)]
    rfl
  unfold showL
  rw [e]
  decide +kernel

section
variable {σ : AHeap}
theorem wp_awake6 {Q : Value → AHeap → Prop} (hQ : ∀ σ', Frm σ σ' NoB → Q (.bool true) σ') : WpF PROG ovD 6 [] σ Q := by
  refine WpF.of T6_eq rfl ?_
  have hp : parseL [32, 32, 115, 116, 101, 112] = some (3, 1, []) := by decide +kernel
  rw [T6, wp_call]
  refine wp_parse [32, 32, 115, 116, 101, 112] (by decide) fun σ1 hF1 => ?_
  rw [hp]
  simp only [pv, cv, asTuple_tuple, asAgg_agg, asCons_cons, asInt_int, asStr_str, asNil_nil]
  refine wp_newQ fun σ2 hF2 hn2 hS2 => ?_
  refine wp_stQ (vs := ccs 3 1 []) hS2 rfl rfl fun σ3 hF3 hn3 hS3 => ?_
  have hF13 : Frm σ1 σ3 NoB := hF2.fresh hF3 fun j hj e => by omega
  rw [wp_join, wp_bif, if_pos (by rfl), wp_ldAll hS3 3 rfl]
  simp only [ccs, asAgg_agg, asCons_cons, asInt_int, asStr_str, asNil_nil]
  rw [wp_bif, if_pos (by rw [tl_mkB, tl_bs]; rfl), wp_ldAll hS3 3 rfl]
  simp only [ccs, asAgg_agg, asCons_cons, asInt_int, asStr_str, asNil_nil]
  rw [wp_call]
  refine wp_show 3 1 [] (by decide) (by decide) (by simp) fun σ4 hF4 => ?_
  have hS4 := hF4.stN hS3
  rw [show_step, asStr_str, wp_bif, if_pos (by rw [tl_mkB, tl_bs]; rfl), wp_ldAll hS4 3 rfl]
  simp only [ccs, asAgg_agg, asCons_cons, asInt_int, asStr_str, asNil_nil]
  rw [wp_call]
  refine wp_forward 3 1 [] fun σ5 hF5 => ?_
  rw [asBool_bool, wp_ret]
  simp only [T6k0, sw_same, asCons_cons, asBool_bool, asNil_nil]
  rw [wp_ret]
  exact ⟨_, rfl, hQ σ5 (((hF1.seq hF13).seq hF4).seq hF5)⟩
end

theorem cmdSays_law (s0 : ByteArray) (_ : s0.size ≤ maxLen) (x : shCmd.D) (vs : List Value) (old0 : Addr → Option Value) (av : AV (unO tabsD old0) shCmd x vs) (okx : shCmd.ok x) :
    WpF PROG ovD 3 [.string s0, .agg vs.toArray] (startH (unO tabsD old0)) fun v _ => v = .bool true := by
  obtain ⟨k, n, ts, _⟩ := x
  obtain ⟨_, okn, _, _⟩ := okx
  obtain ⟨v1, r1, rfl, rfl, v2, r2, rfl, rfl, v3, r3, rfl, rfl, rfl⟩ := av
  have okn : (Lit.int .i64 n).wf = true := okn
  have hn : -9223372036854775808 ≤ n ∧ n ≤ 9223372036854775807 := by
    simpa [Lit.wf, IntKind.min, IntKind.max, IntKind.signed, IntKind.bits] using okn
  rw [← mkB_self s0, ← mkB_self ts]
  generalize s0.data.toList = S
  generalize ts.data.toList = t
  have hsz := mkB_size S
  have htz := mkB_size t
  refine WpF.of (T3_eq _ _ _ _) rfl ?_
  generalize startH (unO tabsD old0) = σ
  rw [T3]
  refine wp_newQ (cs := ccs k n t) fun σ1 hF1 hn1 hS1 => ?_
  rw [wp_call]
  refine wp_awake6 fun σ2 hF2 => ?_
  have hS2 := hF2.stN hS1
  generalize σ.n = A at hS2
  rw [asBool_bool, wp_bif, if_neg (by simp), wp_join, wp_bif]
  have big : Wp PROG ovD (T3k1 (mkB S) ⟨A, 0, some 0⟩ .normal [.bool true]) σ2 fun _ vs σ' => ∃ v, vs = [v] ∧ v = .bool true := by
    simp only [T3k1, sw_same, asCons_cons, asBool_bool, asNil_nil]
    rw [wp_bif, if_pos rfl, wp_ret]
    exact ⟨_, rfl, rfl⟩
  by_cases h0 : S.length > 200
  · rw [if_neg (by simp; omega), wp_ret]
    exact big
  rw [if_pos (by simp; omega), wp_ldF hS2 (i := 2) (v := .string (mkB t)) rfl, asStr_str, wp_ret]
  by_cases h1 : t.length > 200
  · have e : decide ((((mkB t).size : Nat) : Int) > 200) = true := by simp; omega
    rw [e]
    exact big
  have e : decide ((((mkB t).size : Nat) : Int) > 200) = false := by simp; omega
  rw [e]
  simp only [T3k1, sw_same, asCons_cons, asBool_bool, asNil_nil]
  rw [wp_bif, if_neg (by simp), wp_call]
  refine wp_parse S (by omega) fun σ3 hF3 => ?_
  have hS3 := hF3.stN hS2
  -- what is written, and whether it goes ahead
  have rest : ∀ σ4, St σ4 A (ccs k n t) → Wp PROG ovD (.act (ldN 3 ⟨A, 0, some 0⟩) fun v112 => asAgg v112 fun l113 => asCons l113 fun v114 l115 => asInt .i64 v114 fun i116 => asCons l115 fun v117 l118 => asInt .i64 v117 fun i119 => asCons l118 fun v120 l121 => asStr v120 fun s122 => asNil l121 (.get fun h124 => .call 9 [(.agg #[(.int .i64 i116), (.int .i64 i119), (.string s122)])] fun v123 => asStr v123 fun s125 => .act (ld1 (aadd ⟨A, 0, some 0⟩ 0)) fun v126 => grd (past (ld1 (aadd ⟨A, 0, some 0⟩ 0)) v126 [h124]) (asInt .i64 v126 fun i127 => .act (ld1 (aadd ⟨A, 0, some 0⟩ 1)) fun v128 => grd (past (ld1 (aadd ⟨A, 0, some 0⟩ 1)) v128 [h124]) (asInt .i64 v128 fun i129 => .act (ld1 (aadd ⟨A, 0, some 0⟩ 2)) fun v130 => grd (past (ld1 (aadd ⟨A, 0, some 0⟩ 2)) v130 [h124]) (asStr v130 fun s131 => .call 10 [(.agg #[(.int .i64 i127), (.int .i64 i129), (.string s131)])] fun v132 => asStr v132 fun s133 => bif (s125.toList == s133.toList) == true then (.act (ldN 3 ⟨A, 0, some 0⟩) fun v134 => asAgg v134 fun l135 => asCons l135 fun v136 l137 => asInt .i64 v136 fun i138 => asCons l137 fun v139 l140 => asInt .i64 v139 fun i141 => asCons l140 fun v142 l143 => asStr v142 fun s144 => asNil l143 (.get fun h146 => .call 11 [(.agg #[(.int .i64 i138), (.int .i64 i141), (.string s144)])] fun v145 => asBool v145 fun b147 => .act (ld1 (aadd ⟨A, 0, some 0⟩ 0)) fun v148 => grd (past (ld1 (aadd ⟨A, 0, some 0⟩ 0)) v148 [h146]) (asInt .i64 v148 fun i149 => bif (decide (i149 ≥ 3)) == true then (.act (ld1 (aadd ⟨A, 0, some 0⟩ 0)) fun v150 => asInt .i64 v150 fun i151 => .ret .normal [(.bool (b147 == (decide (i151 ≤ 6))))]) else (.ret .normal [(.bool (b147 == false))])))) else (.ret .normal [(.bool false)])))))) σ4
      fun e vs σ' => Wp PROG ovD (T3k0 e vs) σ' fun _ vs σ' => ∃ v, vs = [v] ∧ v = .bool true := by
    intro σ4 hS4
    rw [wp_ldAll hS4 3 rfl]
    simp only [ccs, asAgg_agg, asCons_cons, asInt_int, asStr_str, asNil_nil]
    rw [wp_get, wp_call]
    refine wp_show k n t hn.1 hn.2 (by omega) fun σ5 hF5 => ?_
    have hS5 := hF5.stN hS4
    have l0 := fun (σ' : AHeap) (h : St σ' A (ccs k n t)) (g : Value → Pg) (Q : Post) => wp_ldF (P := PROG) (ov := ovD) h (i := 0) (v := .int .i64 k) rfl g Q
    have l1 := fun (σ' : AHeap) (h : St σ' A (ccs k n t)) (g : Value → Pg) (Q : Post) => wp_ldF (P := PROG) (ov := ovD) h (i := 1) (v := .int .i64 n) rfl g Q
    have l2 := fun (σ' : AHeap) (h : St σ' A (ccs k n t)) (g : Value → Pg) (Q : Post) => wp_ldF (P := PROG) (ov := ovD) h (i := 2) (v := .string (mkB t)) rfl g Q
    rw [asStr_str, l0 σ5 hS5, wp_grd]
    refine ⟨past_one (hS4.ldF (i := 0) rfl), ?_⟩
    rw [asInt_int, l1 σ5 hS5, wp_grd]
    refine ⟨past_one (hS4.ldF (i := 1) rfl), ?_⟩
    rw [asInt_int, l2 σ5 hS5, wp_grd]
    refine ⟨past_one (hS4.ldF (i := 2) rfl), ?_⟩
    rw [asStr_str, wp_call]
    refine wp_showR k n t (by omega) fun σ6 hF6 => ?_
    have hS6 := hF6.stN hS5
    rw [asStr_str, wp_bif, if_pos (by simp), wp_ldAll hS6 3 rfl]
    simp only [ccs, asAgg_agg, asCons_cons, asInt_int, asStr_str, asNil_nil]
    rw [wp_get, wp_call]
    refine wp_forward k n t fun σ7 hF7 => ?_
    have hS7 := hF7.stN hS6
    rw [asBool_bool, l0 σ7 hS7, wp_grd]
    refine ⟨past_one (hS6.ldF (i := 0) rfl), ?_⟩
    rw [asInt_int, wp_bif]
    by_cases h3 : 3 ≤ k
    · rw [if_pos (by simpa using h3), l0 σ7 hS7, asInt_int, wp_ret]
      have e : ((decide (3 ≤ k) && decide (k ≤ 6)) == decide (k ≤ 6)) = true := by simp [h3]
      rw [e]
      simp only [T3k0, sw_same, asCons_cons, asBool_bool, asNil_nil]
      rw [wp_ret]
      exact ⟨_, rfl, rfl⟩
    · rw [if_neg (by simpa using h3), wp_ret]
      have e : ((decide (3 ≤ k) && decide (k ≤ 6)) == false) = true := by simp [h3]
      rw [e]
      simp only [T3k0, sw_same, asCons_cons, asBool_bool, asNil_nil]
      rw [wp_ret]
      exact ⟨_, rfl, rfl⟩
  have two : ∃ (k' n' : Int) (t' : List UInt8) (er : Int) (ok : Bool), pv (parseL S) = .tuple #[cv k' n' t', .int .i64 er] ∧ rv (parseL S) = .tuple #[cv k' n' t', .bool ok] ∧ ((er == 0) = ok) ∧ (ok = false → er = 13) := by
    cases parseL S with
    | none => exact ⟨0, 0, [], 13, false, rfl, rfl, rfl, fun _ => rfl⟩
    | some r => exact ⟨r.1, r.2.1, r.2.2, 0, true, rfl, rfl, rfl, fun h => by cases h⟩
  obtain ⟨k', n', t', er, ok, hpv, hrv, hok, her⟩ := two
  rw [hpv]
  simp only [cv, asTuple_tuple, asAgg_agg, asCons_cons, asInt_int, asStr_str, asNil_nil]
  refine wp_newQ fun σ4 hF4 hn4 hS4 => ?_
  have hA3 := hS3.1
  generalize hB : σ3.n = B at hS4
  refine wp_stQ (vs := ccs k' n' t') hS4 rfl rfl fun σ5 hF5 hn5 hS5 => ?_
  have hS5' := hF5.st (hF4.stN hS3) (by omega)
  rw [wp_call]
  refine wp_parseR S (by omega) fun σ6 hF6 => ?_
  rw [hrv]
  have hS6 := hF6.stN hS5
  have hS6' := hF6.stN hS5'
  simp only [cv, asTuple_tuple, asAgg_agg, asCons_cons, asInt_int, asStr_str, asBool_bool, asNil_nil]
  refine wp_newQ fun σ7 hF7 hn7 hS7 => ?_
  have hB6 := hS6.1
  have hA6 := hS6'.1
  generalize hC : σ6.n = C at hS7
  refine wp_stQ (vs := ccs k' n' t') hS7 rfl rfl fun σ8 hF8 hn8 hS8 => ?_
  have hS8p := hF8.st (hF7.stN hS6) (by omega)
  have hS8' := hF8.st (hF7.stN hS6') (by omega)
  rw [wp_join, wp_ldF hS8p (i := 0) (v := .int .i64 k') rfl, asInt_int, wp_ldF hS8 (i := 0) (v := .int .i64 k') rfl, asInt_int, wp_bif, if_pos (by simp),
    wp_ldF hS8p (i := 1) (v := .int .i64 n') rfl, asInt_int, wp_ldF hS8 (i := 1) (v := .int .i64 n') rfl, asInt_int, wp_bif, if_pos (by simp),
    wp_ldF hS8p (i := 2) (v := .string (mkB t')) rfl, asStr_str, wp_ldF hS8 (i := 2) (v := .string (mkB t')) rfl, asStr_str, wp_bif, if_pos (by simp), wp_bif, if_pos (by rw [hok]; simp), wp_bif]
  cases ok with
  | false =>
    rw [if_pos (by rfl), wp_bif, if_pos (by simp [her rfl])]
    exact rest σ8 hS8'
  | true =>
    rw [if_neg (by simp)]
    exact rest σ8 hS8'
end Go.Pg
