/- Layer 12: any bytes are a heap, or none, as the document's own answer says; a heap that is written goes on as it would: the law's tree returns true for all bytes, rows of acts, and acts. -/
import Derived.Test.YtndkndlfhmkkkaaHeapB
namespace Go.Pg
open Go.Proofs

theorem HP.frmN {σ σ' : AHeap} {S : Nat} {Y : Nat → Prop} {room tu : Int} {W : List Int} {H : List Bool} (h : HP σ S Y room tu W H) (k : Frm σ σ' NoB) : HP σ' S Y room tu W H :=
  h.step k (fun _ _ h => h.elim) fun i hi => ⟨Nat.lt_of_lt_of_le (h.1 i hi) k.n, .inl hi⟩

theorem rootsM_len (W : List Int) (H : List Bool) (s : CS) (rs : List Int) : (rootsM W H s rs).2.length = rs.length := by
  unfold rootsM
  have g : ∀ (rs : List Int) (a : CS × List Int), (rs.foldl (fun a r => ((moveM W H a.1 r).1, a.2 ++ [(moveM W H a.1 r).2])) a).2.length = a.2.length + rs.length := by
    intro rs
    induction rs with
    | nil => intro a; rfl
    | cons r rs ih =>
      intro a
      rw [List.foldl_cons, ih]
      simp
      omega
  rw [g]
  simp

theorem CInv.scan {W : List Int} {H : List Bool} {ts : List (Int × List Int)} (hW : W = wOf ts) (hH : H = hOf ts) (ht : ∀ t ∈ ts, splitOK t.1 = true ∧ (splitN t.1).toNat = t.2.length) (hb : ∀ x ∈ W, 0 ≤ x ∧ x < 18446744073709551616) : ∀ (f i : Nat) (s : CS), CInv W H ts s → CInv W H ts (scanM W H f i s)
  | 0, _, _, h => h
  | f + 1, i, s, h => by
    unfold scanM
    by_cases hi : i < s.w.length
    · rw [if_pos hi]
      exact CInv.scan hW hH ht hb f (i + 1) _ (h.step hW hH ht hb i hi)
    · rw [if_neg hi]
      exact h
theorem CInv.roots1 {W : List Int} {H : List Bool} {ts : List (Int × List Int)} (hW : W = wOf ts) (hH : H = hOf ts) (ht : ∀ t ∈ ts, splitOK t.1 = true ∧ (splitN t.1).toNat = t.2.length) (hb : ∀ x ∈ W, 0 ≤ x ∧ x < 18446744073709551616) (r : Int) (hr : 0 ≤ r ∧ r < 18446744073709551616) : CInv W H ts (rootsM W H ⟨[], [], []⟩ [r]).1 := by
  have h0 : CInv W H ts ⟨[], [], []⟩ := ⟨rfl, by simp [remF_nil, ← hW], (fun x hx => by cases hx), fun x hx => by cases hx⟩
  exact (h0.move hW hH ht hb r hr).1

theorem heapBytes_law (p0 : Option Addr) (n2 : Nat) (l : List Int) (p3 : Option Addr) (n5 : Nat) (la : List shAct.D) (x : shAct.D) (vs : List Value) (old : Addr → Option Value)
    (rb : RdR old 1 (.int .u8) p0 l) (okb : (Sh.row 1 (.int .u8)).ok l) (cb : l.length ≤ n2) (sb : ∀ a, p0 = some a → a.spot = none) (ra : RdR old 7 shAct p3 la) (oka : (Sh.row 7 shAct).ok la) (av : AV old shAct x vs) (okx : shAct.ok x) :
    WpF PROG ov0 5 [.slice p0 l.length n2, .slice p3 la.length n5, .agg vs.toArray] (startH old) fun v _ => v = .bool true := by
  obtain ⟨op, kd, tg, ii, pp, xx, ws, _⟩ := x
  obtain ⟨_, _, _, _, _, _, okW, _⟩ := okx
  obtain ⟨v0, r0, rfl, rfl, v1, r1, rfl, rfl, v2, r2, rfl, rfl, v3, r3, rfl, rfl, v4, r4, rfl, rfl, v5, r5, rfl, rfl, v6, r6, rfl, ⟨xp, xc, rfl, rX⟩, rfl⟩ := av
  have hwX : ∀ w ∈ ws, 0 ≤ w ∧ w < 18446744073709551616 := fun w hw => u64_bnd w (okW.2 w hw)
  have hbl : ∀ y ∈ l, 0 ≤ y ∧ y ≤ 255 := fun y hy => u8_bnd y (okb.2 y hy)
  refine WpF.of (T5_eq p0 l.length n2 p3 la.length n5 op kd tg ii pp xx xp ws.length xc) rfl ?_
  rw [T5, wp_act, newC_eq]
  simp only [asPtr_ptr, asSome_some]
  rw [wp_call]
  refine WpF.mono (awake12b old _) ?_
  rintro v σ0 ⟨rfl, ho0, hf0, hX0⟩
  have hn00 : (startH old).n = 0 := rfl
  rw [hn00]
  simp only [asBool_bool]
  rw [wp_bif, if_neg (by simp), wp_join, wp_bif]
  have early : ∀ σ, Wp PROG ov0 (T5k4 p0 l.length n2 la.length p3 (PA 0) .normal [.bool true]) σ fun _ vs _ => ∃ v, vs = [v] ∧ v = .bool true := by
    intro σ
    simp only [T5k4, sw_same, asCons_cons, asBool_bool, asNil_nil]
    rw [wp_bif, if_pos (by rfl), wp_ret]
    exact ⟨_, rfl, rfl⟩
  by_cases h600 : l.length > 600
  · rw [if_neg (by simp; omega), wp_ret]
    exact early σ0
  rw [if_pos (by simp; omega), wp_bif]
  by_cases h20 : la.length > 20
  · rw [if_neg (by simp; omega), wp_ret]
    exact early σ0
  rw [if_pos (by simp; omega), wp_ldF hX0 rfl, asSlice_slice, wp_ret]
  by_cases h20w : ws.length > 20
  · rw [show decide (((ws.length : Nat) : Int) > 20) = true by simp; omega]
    exact early σ0
  rw [show decide (((ws.length : Nat) : Int) > 20) = false by simp; omega]
  simp only [T5k4, sw_same, asCons_cons, asBool_bool, asNil_nil]
  rw [wp_bif, if_neg (by simp), wp_call]
  have hX0l := hX0.1
  -- what is behind the two loads
  have rest : ∀ σ1, Frm σ0 σ1 NoB → Wp PROG ov0 (T5k3 la.length p3 (PA 0) .normal [.bool false]) σ1 fun _ vs _ => ∃ v, vs = [v] ∧ v = .bool true := by
    intro σ1 hF1
    have ho1 := hF1.old.trans ho0
    have hf1 := hF1.fr hf0
    have hX1 := hF1.stN hX0
    simp only [T5k3, sw_same, asCons_cons, asBool_bool, asNil_nil]
    rw [wp_bif, if_neg (by simp), wp_call]
    refine wp_newH (Y := fun i => i < σ1.n) 200 (by omega) (fun i hi => hi) fun σ2 hF2 h2 => ?_
    have ho2 := hF2.old.trans ho1
    have hf2 := hF2.fr hf1
    have hX2 := hF2.stN hX1
    have hX1l := hX1.1
    generalize hN1 : σ1.n = N1 at h2 hX1l
    simp only [asTuple_tuple, asCons_cons, asPtr_ptr, asInt_int, asNil_nil]
    refine Wp.count la.length (fun j st σ' => st = [.int .i64 ((j : Nat) : Int), .bool false] ∧ σ'.old = old ∧ Fresh σ' ∧ St σ' 0 _ ∧ MadeH σ' N1 (fun i => i < N1) 200) ⟨rfl, ho2, hf2, hX2, [], [], h2, VH.nil, by simp⟩ ?_ ?_
    · rintro j st σ3 hj ⟨rfl, ho3, hf3, hX3, h3⟩
      have ej : wi64 ((j : Int) + 1) = ((j + 1 : Nat) : Int) := by rw [wi64_in (by omega)]; omega
      have okj := oka.2 la[j] (List.getElem_mem hj)
      obtain ⟨y, rfl, _, q1, q2, _, _, _, q6, _⟩ := ra j hj
      obtain ⟨_, _, _, _, _, _, okV, _⟩ := okj
      generalize la[j] = d at q1 q2 q6 okV
      obtain ⟨op', kd', tg', ii', pp', xx', us, _⟩ := d
      simp only at q1 q2 q6 okV
      obtain ⟨wp', wc', q6, rW⟩ := q6
      have hwW : ∀ w ∈ us, 0 ≤ w ∧ w < 18446744073709551616 := fun w hw => u64_bnd w (okV.2 w hw)
      simp only [T5b0, asCons_cons, asInt_int, asBool_bool, asNil_nil, asSome_some]
      rw [wp_bif, if_pos (by simp; omega), wp_join, wp_grdJ hj, Int.toNat_natCast, wp_cl q6 ho3, asSlice_slice, wp_bif]
      by_cases h10 : us.length > 20
      · rw [if_pos (by simp; omega), wp_ret]
        simp only [T5k0, sw_same, asCons_cons, asBool_bool, asNil_nil]
        rw [wp_ret]
        simp only [T5k2, sw_re, sw_same, asCons_cons, asInt_int, asBool_bool, asNil_nil]
        rw [wp_ret]
        exact ⟨_, rfl, rfl⟩
      rw [if_neg (by simp; omega), wp_grdJ hj, wp_cl q1 ho3, asInt_int, wp_grdJ hj, wp_cl q2 ho3, asInt_int, wp_grdJ hj, wp_cl q6 ho3, asSlice_slice, wp_call]
      have hrdW : ∀ σ', Frm σ3 σ' NoB → RdI σ' .u64 wp' us := fun σ' hF => RdR.ints (old := old) rW σ' (hF.old.trans ho3)
      refine wp_back15 hrdW (by omega) wc' fun σ4 R p4 c4 hF4 hR4 hb4 => ?_
      have ho4 := hF4.old.trans ho3
      rw [asSlice_slice, wp_get, wp_grd]
      refine ⟨chks_cl2 q2 q1 ho4, ?_⟩
      rw [wp_call]
      obtain ⟨words, heads, hH, hV, hL⟩ := h3
      have h4 : MadeH σ4 N1 (fun i => i < N1 ∨ (p4 ≠ none ∧ i = R)) 200 := ⟨words, heads, hH.step hF4 (fun i _ h => h.elim) fun i hi => by
        rcases hi with hi | hi
        · exact ⟨Nat.lt_of_lt_of_le (hH.1 i hi) hF4.n, .inl hi⟩
        · cases p4 with
          | none => exact absurd rfl hi.1
          | some a => rw [hi.2]; exact ⟨hR4.lt, .inr (hb4 (by simp))⟩, hV, hL⟩
      refine wp_makeV h4 hR4 (fun hp => .inr ⟨hp, rfl⟩) hwW (by omega) (by omega) kd' tg' fun σ5 a e hF5 h5 => ?_
      simp only [asTuple_tuple, asCons_cons, asInt_int, asNil_nil]
      rw [wp_ret]
      simp only [T5k0, sw_nr, sw_same, asCons_cons, asBool_bool, asNil_nil]
      rw [wp_ret, ej]
      obtain ⟨words5, heads5, hH5, hV5, hL5⟩ := h5
      exact ⟨rfl, hF5.old.trans ho4, hF5.fr (hF4.fr hf3), hF5.st (hF4.stN hX3) fun hn => hn (.inl hX1l), words5, heads5, hH5.step (Frm.refl σ5 NoB) (fun i _ h => h.elim) (fun i hi => ⟨hH5.1 i (.inl hi), .inl (.inl hi)⟩), hV5, hL5⟩
    · rintro st σ3 ⟨rfl, ho3, hf3, hX3, words, heads, h3, hV, hL⟩
      simp only [T5b0, asCons_cons, asInt_int, asBool_bool, asNil_nil]
      rw [wp_bif, if_neg (by simp), wp_ret]
      simp only [T5k2, sw_same, asCons_cons, asInt_int, asBool_bool, asNil_nil]
      rw [wp_call]
      refine wp_putB h3 (by omega) fun σ4 b p4 c4 hF4 hR4 hb4 => ?_
      have hload := loadR_putB hV 200 0 (by omega) (by omega) hL
      have hlen := putB_len 200 0 words
      have hbyte := putB_byte 200 0 words
      obtain ⟨xs, hxs⟩ : ∃ xs, xs = putB 200 0 words := ⟨_, rfl⟩
      rw [← hxs] at hR4 hload hlen hbyte ⊢
      rw [asSlice_slice, wp_call]
      have h4 := h3.frmN hF4
      refine wp_loadB hR4.src hbyte (by omega) (fun hn => absurd ⟨_, _, _, _, hload⟩ hn) ?_
      intro room turns ws' heads' hL' σ5 Z hF5 hZ h5
      obtain ⟨e1, e2, e3, e4⟩ := hL'.uniq hload
      subst e1 e2 e3 e4
      simp only [asTuple_tuple, asCons_cons, asPtr_ptr, asInt_int, asNil_nil]
      rw [wp_bif, if_neg (by simp)]
      have hn5 := hF5.n
      have htwo : Two σ5 N1 Z (fun i => i < N1 ∨ (σ4.n ≤ i ∧ i < σ5.n)) (fun i => i < σ4.n) 200 0 0 ws' heads' ws' heads' := by
        refine ⟨h4.step hF5 (fun i _ h => h.elim) fun i hi => ?_, h5, fun i hi hn => ?_⟩
        · rcases hi with hi | hi
          · exact ⟨Nat.lt_of_lt_of_le (h4.1 i hi) hn5, .inl hi⟩
          · exact ⟨hi.2, .inr hi.1⟩
        · by_cases hlt : i < σ4.n
          · exact hlt
          · exact absurd (.inr ⟨by omega, hi⟩) hn
      have hX5 := hF5.stN (hF4.stN hX3)
      have ho5 := hF5.old.trans (hF4.old.trans ho3)
      have hf5 := hF5.fr (hF4.fr hf3)
      have hex : ∃ Yp Yq : Nat → Prop, Two σ5 N1 Z Yp Yq 200 0 0 ws' heads' ws' heads' ∧ Yp 0 ∧ Yq 0 := ⟨_, _, htwo, .inl hX1l, (hF4.stN hX3).1⟩
      clear htwo
      obtain ⟨Yp, Yq, htwo, hXp, _⟩ := hex
      have chkX : ∀ σ, St σ 0 [.int .i64 op, .int .i64 kd, .int .i64 tg, .int .i64 ii, .int .u64 pp, .int .u64 xx, .slice xp ws.length xc] → chks [(ld1 (aadd (PA 0) 2), .int .i64 tg), (ld1 (aadd (PA 0) 1), .int .i64 kd)] σ = true := by
        intro σ hX
        have e1 : ld1 (aadd (PA 0) 2) σ = some (.int .i64 tg, σ) := hX.ldF rfl
        have e2 : ld1 (aadd (PA 0) 1) σ = some (.int .i64 kd, σ) := hX.ldF rfl
        simp only [chks, chkAt, e1, e2, eqv_same, Bool.and_true]
      have hrdX : ∀ σ σ', σ.old = old → Frm σ σ' NoB → RdI σ' .u64 xp ws := fun σ σ' ho hF => RdR.ints (old := old) rX σ' (hF.old.trans ho)
      rw [wp_ldF hX5 rfl, asInt_int, wp_ldF hX5 rfl, asInt_int, wp_ldF hX5 rfl, asSlice_slice, wp_call]
      refine wp_back15 (fun σ' hF => hrdX σ5 σ' ho5 hF) (by omega) xc fun σ6 R6 p6 c6 hF6 hR6 hb6 => ?_
      have hX6 := hF6.stN hX5
      have ho6 := hF6.old.trans ho5
      have t6 := htwo.neutral hF6
      rw [asSlice_slice, wp_get, wp_grd]
      refine ⟨chkX σ6 hX6, ?_⟩
      rw [wp_call]
      have hlt6 : p6 ≠ none → σ5.n ≤ R6 ∧ R6 < σ6.n := fun hp => by
        cases p6 with
        | none => exact absurd rfl hp
        | some a => exact ⟨hb6 hp, hR6.lt⟩
      refine wp_makeF t6.p hR6 (fun hp => .inr (hlt6 hp)) (fun w h => (hwX w h).1) (by omega) (by omega) (by omega) kd tg fun σ7 hF7 h7 => ?_
      have t7 := t6.opP hF7 h7
      have hX7 := hF7.st hX6 fun hn => hn (.inl hXp)
      have ho7 := hF7.old.trans ho6
      simp only [asTuple_tuple, asCons_cons, asInt_int, asNil_nil]
      rw [wp_ldF hX7 rfl, asInt_int, wp_ldF hX7 rfl, asInt_int, wp_ldF hX7 rfl, asSlice_slice, wp_call]
      refine wp_back15 (fun σ' hF => hrdX σ7 σ' ho7 hF) (by omega) xc fun σ8 R8 p8 c8 hF8 hR8 hb8 => ?_
      have hX8 := hF8.stN hX7
      have ho8 := hF8.old.trans ho7
      have t8 := t7.neutral hF8
      rw [asSlice_slice, wp_get, wp_grd]
      refine ⟨chkX σ8 hX8, ?_⟩
      rw [wp_call]
      have hlt8 : p8 ≠ none → σ7.n ≤ R8 ∧ R8 < σ8.n := fun hp => by
        cases p8 with
        | none => exact absurd rfl hp
        | some a => exact ⟨hb8 hp, hR8.lt⟩
      refine wp_makeF t8.q hR8 (fun hp => .inr (hlt8 hp)) (fun w h => (hwX w h).1) (by omega) (by omega) (by omega) kd tg fun σ9 hF9 h9 => ?_
      have t9 := t8.opQ hF9 h9
      have hf9 := hF9.fr (hF8.fr (hF7.fr (hF6.fr hf5)))
      simp only [asTuple_tuple, asCons_cons, asInt_int, asNil_nil]
      obtain ⟨mV, mL, mB⟩ := makeM_ok hV hL kd tg ws hwX
      generalize makeM 200 ws' heads' kd tg ws = M at t9 mV mL mB ⊢
      obtain ⟨ma, me, mW, mH⟩ := M
      simp only at t9 mV mL mB ⊢
      clear t6 t7 t8 htwo h7 h9
      obtain ⟨ts, hW, hH, hT, _, hBd⟩ := mV
      rw [wp_join, wp_get, wp_bif, if_pos (by simp), wp_bif, if_pos (by simp), wp_get, wp_grd]
      refine ⟨newN_ok (Nat.le_refl _) hf9 (fun b hb => by cases hb), ?_⟩
      rw [wp_act, bdSl_eq]
      simp only [asSlice_slice]
      have hF10 := Frm.new σ9 [.int .u64 ma] 1 NoB
      have hR10 := Row.new σ9 1 [.int .u64 ma] 1 (by decide) rfl (by intro x hx; simp at hx; subst hx; rfl)
      have hn10 : (σ9.newBlk [.int .u64 ma] 1).n = σ9.n + 1 := rfl
      generalize σ9.newBlk [.int .u64 ma] 1 = σ10 at hF10 hR10 hn10
      have hf10 := hF10.fr hf9
      rw [wp_get, wp_get, wp_grd]
      refine ⟨newN_ok hF10.n hf10 (fun b hb => by simp at hb; omega), ?_⟩
      rw [wp_act, bdSl_eq]
      simp only [asSlice_slice]
      have hF11 := Frm.new σ10 [.int .u64 ma] 1 NoB
      have hR11 := Row.new σ10 1 [.int .u64 ma] 1 (by decide) rfl (by intro x hx; simp at hx; subst hx; rfl)
      have hn11 : (σ10.newBlk [.int .u64 ma] 1).n = σ10.n + 1 := rfl
      generalize σ10.newBlk [.int .u64 ma] 1 = σ11 at hF11 hR11 hn11
      have hf11 := hF11.fr hf10
      have hR10' := hF11.rowN hR10
      have t11 := (t9.neutral hF10).neutral hF11
      rw [wp_get, wp_call]
      have hWl : mW.length ≤ 100000 := by omega
      refine wp_collectK (rs := [ma]) t11.p hf11 (by omega) hWl hW hH hT hBd (.inr ⟨0, 1, rfl, hR10'⟩) (fun x hx => by simp only [List.mem_singleton] at hx; rw [hx]; exact mB) (by simp) fun σ12 q12 ob12 qc12 hF12 hR12 hob12 h12 => ?_
      have h12' := h12.step (Frm.refl σ12 NoB) (fun i _ h => h.elim) fun i hi => ⟨h12.1 i (.inl hi), .inl (.inl hi)⟩
      have t12 := t11.opP hF12 h12'
      have hout := rootsM_len mW mH ⟨[], [], []⟩ [ma]
      rw [asSlice_slice, wp_get, wp_grd]
      have hg12 : σ12.get σ10.n = σ11.get σ10.n := hF12.get σ10.n (by omega) fun hn => hn (.inr ⟨Nat.le_refl _, by omega⟩)
      refine ⟨chkO_one hg12, ?_⟩
      rw [wp_call, ← hout]
      refine wp_words20 (fun σ' hF => (hR12.rdB.frm hF fun _ h => h).rd) (by rw [hout]; simp) qc12 fun σ13 b13 p13 c13 hF13 hR13 hb13 => ?_
      have t13 := t12.neutral hF13
      have hg13 : σ13.get σ10.n = σ11.get σ10.n := (hF13.get σ10.n (by have := hF12.n; omega) fun h => h).trans hg12
      rw [asSlice_slice, wp_get, wp_grd]
      refine ⟨chkO_one hg13, ?_⟩
      have hf13 := hF13.fr (hF12.fr hf11)
      have hR13r : Row σ13 σ10.n 0 1 1 1 [.int .u64 ma] := hF13.rowN (hF12.row hR11 fun hn => hn (.inr ⟨Nat.le_refl _, by omega⟩))
      rw [wp_call]
      refine wp_collectK (rs := [ma]) t13.q hf13 (by omega) hWl hW hH hT hBd (.inr ⟨0, 1, rfl, hR13r⟩) (fun x hx => by simp only [List.mem_singleton] at hx; rw [hx]; exact mB) (by simp) fun σ14 q14 ob14 qc14 hF14 hR14 hob14 h14 => ?_
      have h14' := h14.step (Frm.refl σ14 NoB) (fun i _ h => h.elim) fun i hi => ⟨h14.1 i (.inl hi), .inl (.inl hi)⟩
      rw [asSlice_slice, wp_call, ← hout]
      refine wp_words20 (fun σ' hF => (hR14.rdB.frm hF fun _ h => h).rd) (by rw [hout]; simp) qc14 fun σ15 b15 p15 c15 hF15 hR15 hb15 => ?_
      have hR13' := (hR13.frm hF14 fun hp hn => hn (.inr ⟨hb13 hp, by
        cases p13 with
        | none => exact absurd rfl hp
        | some a => exact hR13.lt⟩)).frm hF15 fun _ h => h
      rw [asSlice_slice, wp_call, WpF.eq (ev_same19 hR13'.rdB.rd hR15.rdB.rd (by rw [hout]; simp) c13 c15), asBool_bool, wp_bif, if_pos (by rfl), wp_call]
      have hp15 : HP σ15 N1 NoB 200 (0 + 1) (scanM mW mH mW.length 0 (rootsM mW mH ⟨[], [], []⟩ [ma]).1).w (scanM mW mH mW.length 0 (rootsM mW mH ⟨[], [], []⟩ [ma]).1).h :=
        ((t13.p.step hF14 (fun i hi hn => Classical.byContradiction fun hp => hn (t13.c i hi hp)) (fun i hi => ⟨Nat.lt_of_lt_of_le (t13.p.1 i hi) hF14.n, .inl hi⟩)).frmN hF15).step (Frm.refl σ15 NoB) (fun i _ h => h.elim) fun i hi => hi.elim
      have hq15 : HP σ15 Z NoB 200 (0 + 1) (scanM mW mH mW.length 0 (rootsM mW mH ⟨[], [], []⟩ [ma]).1).w (scanM mW mH mW.length 0 (rootsM mW mH ⟨[], [], []⟩ [ma]).1).h :=
        (h14'.frmN hF15).step (Frm.refl σ15 NoB) (fun i _ h => h.elim) fun i hi => hi.elim
      have hfl : (scanM mW mH mW.length 0 (rootsM mW mH ⟨[], [], []⟩ [ma]).1).w.length ≤ 100000 := by
        have := (CInv.scan hW hH hT hBd mW.length 0 _ (CInv.roots1 hW hH hT hBd ma mB)).rem
        omega
      refine wp_putB hp15 hfl fun σ16 b16 p16 c16 hF16 hR16 hb16 => ?_
      rw [asSlice_slice, wp_b2s hR16, asStr_str, wp_call]
      refine wp_putB (hq15.frmN hF16) hfl fun σ17 b17 p17 c17 hF17 hR17 hb17 => ?_
      have hR16' := hR16.frm hF17 fun _ h => h
      rw [asSlice_slice, wp_get, wp_grd]
      refine ⟨chks_one (b2s_act hR16'), ?_⟩
      rw [wp_b2s hR17, asStr_str, wp_ret]
      simp only [T5k1, sw_same, asCons_cons, asBool_bool, asNil_nil]
      rw [wp_ret]
      exact ⟨_, rfl, by simp⟩
  have hsrc := RdR.src rb cb sb ho0
  by_cases hL : ∃ room turns ws heads, LoadR l room turns ws heads
  · refine wp_loadB hsrc hbl (by omega) (fun hn => absurd hL hn) fun room turns ws1 heads1 hR1 σ1 S1 hF1 hS1 h1 => ?_
    simp only [asTuple_tuple, asCons_cons, asPtr_ptr, asInt_int, asNil_nil]
    rw [wp_call]
    refine wp_loadR (fun σ' _ hF => RdR.ints (old := old) rb σ' (hF.old.trans (hF1.old.trans ho0))) hbl (by omega) (fun hn => absurd hL hn) fun room2 turns2 ws2 heads2 hR2 σ2 S2 hF2 hS2 h2 => ?_
    obtain ⟨e1, e2, e3, e4⟩ := hR2.uniq hR1
    subst e1 e2 e3 e4
    have hfits := hR1.fits
    have hrmax := hR1.rmax
    simp only [asTuple_tuple, asCons_cons, asPtr_ptr, asBool_bool, asNil_nil]
    rw [wp_join, wp_bif, if_pos (by rfl), wp_bif, if_neg (by simp), wp_bif, if_pos (by rfl), wp_bif, if_pos (by rfl), wp_call]
    refine wp_putB (h1.frmN hF2) (by omega) fun σ3 b3 q3 c3 hF3 hR3 hb3 => ?_
    rw [asSlice_slice, wp_b2s hR3, asStr_str, wp_call]
    have h2' := h2.step (Y' := NoB) hF3 (fun i _ h => h.elim) (fun i hi => hi.elim)
    refine wp_putR h2' (by omega) fun σ4 b4 q4 c4 hF4 hR4 hb4 => ?_
    have hR3' := hR3.frm hF4 fun _ h => h
    rw [asSlice_slice, wp_get, wp_grd]
    refine ⟨chks_one (b2s_act hR3'), ?_⟩
    rw [wp_b2s hR4, asStr_str, wp_ret]
    have := rest σ4 (((hF1.seq hF2).seq hF3).seq hF4)
    simpa using this
  · refine wp_loadB hsrc hbl (by omega) (fun _ σ1 hF1 => ?_) (fun room turns ws1 heads1 hR1 => absurd ⟨_, _, _, _, hR1⟩ hL)
    simp only [asTuple_tuple, asCons_cons, asPtr_ptr, asInt_int, asNil_nil]
    rw [wp_call]
    refine wp_loadR (fun σ' _ hF => RdR.ints (old := old) rb σ' (hF.old.trans (hF1.old.trans ho0))) hbl (by omega) (fun _ σ2 hF2 => ?_) (fun room turns ws1 heads1 hR1 => absurd ⟨_, _, _, _, hR1⟩ hL)
    simp only [asTuple_tuple, asCons_cons, asPtr_ptr, asBool_bool, asNil_nil]
    rw [wp_join, wp_bif, if_pos (by rfl), wp_bif, if_pos (by rfl), wp_bif, if_pos (by rfl), wp_bif, if_pos (by rfl), wp_bif, if_neg (by simp), wp_ret]
    exact rest σ2 (hF1.seq hF2)
end Go.Pg
