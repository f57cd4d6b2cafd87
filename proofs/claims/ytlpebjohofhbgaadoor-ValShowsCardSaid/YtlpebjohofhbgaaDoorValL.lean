/- Layer 9: any value by any type is shown as the document says. -/
import Derived.Test.YtlpebjohofhbgaaDoorValK
namespace Go.Pg
open Go.Proofs Go.Lib

@[reducible] def argSh : Sh := .fld 0 .str (.fld 1 (.row 1 .str) .fin)
def cC (l : List argSh.D) : ConsL := l.map fun d => (d.1, d.2.1)

abbrev AllB : Nat → Prop := fun _ => True
theorem StrRow.all {σ σ' : AHeap} {S : Nat → Prop} {p : Option Addr} {l : List ByteArray} (f : Frm σ σ' S) (h : StrRow σ AllB p l) : StrRow σ' AllB p l := by
  unfold StrRow at h ⊢
  exact RowOf.step f (fun _ _ _ => trivial) (fun _ _ _ => trivial) (fun _ _ h => h) h
theorem StrRow.to {σ : AHeap} {Y : Nat → Prop} {p : Option Addr} {l : List ByteArray} (h : StrRow σ AllB p l) : StrRow σ Y p l := by
  unfold StrRow at h ⊢
  exact RowOf.step (S := NoB) (Frm.refl σ NoB) (fun _ _ h => h.elim) (fun _ _ _ => trivial) (fun _ _ h => h) h

theorem row_str {old : Addr → Option Value} {σ : AHeap} (ho : σ.old = old) {p : Option Addr} {l : List ByteArray} (h : ∀ i (h : i < l.length), ∃ x, p = some x ∧ Rd old .str (aadd x (i * 1)) l[i]) : StrRow σ AllB p l := by
  intro i hi
  obtain ⟨y, rfl, hy⟩ := h i hi
  obtain ⟨q1, q2⟩ := rdN_cl ho (a := aadd y (i * 1)) (vs := [.string l[i]]) (by simp) (by
    intro k v hv
    match k, hv with
    | 0, hv => cases hv; exact hy
    | k + 1, hv => simp at hv)
  exact ⟨y, _, rfl, .inl (by simpa [aadd] using q1), q2, rfl⟩

theorem row_cons {old : Addr → Option Value} {σ : AHeap} (ho : σ.old = old) {p : Option Addr} {l : List argSh.D} (h : RdR old 2 argSh p l) : RowOf σ NoB 2 (fun cs (c : ByteArray × List ByteArray) => ∃ q cap, cs = [Value.string c.1, .slice q c.2.length cap] ∧ StrRow σ AllB q c.2) p (cC l) := by
  intro i hi
  have hi' : i < l.length := by simpa [cC] using hi
  obtain ⟨y, rfl, h0, ⟨q, cap, h1, h2⟩, _⟩ := h i hi'
  obtain ⟨q1, q2⟩ := rdN_cl ho (a := aadd y (i * 2)) (vs := [.string l[i].1, .slice q l[i].2.1.length cap]) (by simp) (by
    intro k v hv
    match k, hv with
    | 0, hv => cases hv; exact h0
    | 1, hv => cases hv; exact h1
    | k + 2, hv => simp at hv)
  refine ⟨y, _, rfl, .inl (by simpa [aadd] using q1), q2, ?_⟩
  have e : (cC l)[i] = (l[i].1, l[i].2.1) := by simp [cC]
  rw [e]
  exact ⟨q, cap, rfl, row_str ho h2⟩

/-- A row of constructors whose types are given. -/
def ConsRowA (σ : AHeap) (Y : Nat → Prop) (p : Option Addr) (l : ConsL) : Prop := RowOf σ Y 2 (fun cs (c : ByteArray × List ByteArray) => ∃ q cap, cs = [Value.string c.1, .slice q c.2.length cap] ∧ StrRow σ AllB q c.2) p l
theorem ConsRowA.frm {σ σ' : AHeap} {Y : Nat → Prop} (f : Frm σ σ' NoB) {p : Option Addr} {l : ConsL} (h : ConsRowA σ Y p l) : ConsRowA σ' Y p l := by
  unfold ConsRowA at h ⊢
  exact RowOf.step (S := NoB) f (fun _ _ h => h.elim) (fun _ _ h => h) (fun _ _ ⟨q, cap, h1, h2⟩ => ⟨q, cap, h1, h2.all f⟩) h
theorem ConsRowA.to {σ : AHeap} {Y : Nat → Prop} {p : Option Addr} {l : ConsL} (h : ConsRowA σ Y p l) : ConsRow σ Y p l := by
  unfold ConsRowA at h
  unfold ConsRow
  exact RowOf.step (S := NoB) (Frm.refl σ NoB) (fun _ _ h => h.elim) (fun _ _ h => h) (fun _ _ ⟨q, cap, h1, h2⟩ => ⟨q, cap, h1, h2.to⟩) h

theorem awake9s (old : Addr → Option Value) (a b : VA) (t : TA) (e p e2 p2 p3 : Option Addr) (n c n2 c2 n3 c3 : Nat) :
    WpF PROG ovD 5 [] ((((startH (unO tabsD old)).newBlk (L7.cells a e (.slice p n c)) 0).newBlk (L7.cells b e2 (.slice p2 n2 c2)) 0).newBlk (L4.cells t none (.slice p3 n3 c3)) 0) fun v σ' => v = .bool true ∧ σ'.old = unO tabsD old ∧ (St σ' 0 (L7.cells a e (.slice p n c)) ∧ St σ' 1 (L7.cells b e2 (.slice p2 n2 c2)) ∧ St σ' 2 (L4.cells t none (.slice p3 n3 c3))) :=
  WpF.tabH TAB_ok 100000 (by kernel_rfl) (by kernel_rfl) ⟨⟨Nat.le_of_ble_eq_true (by kernel_rfl), by kernel_rfl⟩, ⟨Nat.le_of_ble_eq_true (by kernel_rfl), by kernel_rfl⟩, ⟨Nat.le_of_ble_eq_true (by kernel_rfl), by kernel_rfl⟩⟩

theorem past_two {h : Act} {v : Value} {σ1 σ2 τ1 τ2 : AHeap} (e1 : h σ1 = some (v, τ1)) (e2 : h σ2 = some (v, τ2)) : past h v [σ1, σ2] = true := by
  simp [past, chkAt, e1, e2, eqv_same]

set_option maxHeartbeats 2000000 in
set_option maxRecDepth 100000 in
/-- What the law says, all being little enough. -/
theorem shows_end {v u : Tr VA} {t : Tr TA} {cells : List (Tr VA)} {cons : ConsL} {e p e2 p2 p3 pc pk q : Option Addr} {c c2 c3 cc ck qc : Nat} {σ : AHeap} {e3 : Option Addr}
    (hB : RB cells cons) (hv : fitV 7 v) (hu : fitV 7 u) (ht : fitT 7 t) (hSv : St σ 0 (L7.cells v.a e (.slice p v.args.length c))) (hSu : St σ 1 (L7.cells u.a e2 (.slice p2 u.args.length c2))) (hSt : St σ 2 (L4.cells t.a e3 (.slice p3 t.args.length c3)))
    (hV : VIn L7 σ NoB 7 (L7.cells v.a e (.slice p v.args.length c)) v) (hU : VIn L7 σ NoB 7 (L7.cells u.a e2 (.slice p2 u.args.length c2)) u) (hT : VIn L4 σ NoB 7 (L4.cells t.a e3 (.slice p3 t.args.length c3)) t)
    (hC : RowOf σ NoB 7 (VIn L7 σ NoB 7) pc cells) (hK : ConsRow σ NoB pk cons) (hQ : ConsRow σ NoB q cons) (j : Int) :
    Wp PROG ovD (T4k4 ⟨0, 0, some 0⟩ ⟨2, 0, some 0⟩ pc cells.length cc pk cons.length ck q cons.length qc ⟨1, 0, some 0⟩ (.exit 2) [.int .i64 j, .bool false]) σ fun _ vs _ => ∃ v, vs = [v] ∧ v = .bool true := by
  have hc6 := hB.nCells
  simp only [T4k4, sw_same, asCons_cons, asInt_int, asBool_bool, asNil_nil]
  rw [wp_join, wp_ldAll hSv 7 rfl]
  simp only [asAgg_agg, asCons_cons, asInt_int, asStr_str, asSlice_slice, asPtr_ptr, asNil_nil]
  rw [wp_ldAll hSt 4 rfl]
  simp only [asAgg_agg, asCons_cons, asInt_int, asStr_str, asSlice_slice, asNil_nil]
  rw [wp_get, wp_call]
  refine WpF.mono (wp_render (cc := cc) (ck := ck) hB (Nat.le_refl 7) (Nat.le_refl 7) hV hv hT (.inr ht) ⟨hC, hK⟩) ?_
  rintro _ σ1 ⟨rfl, hF1⟩
  have hSv1 := hF1.stN hSv
  rw [asStr_str, wp_ldAll hSv1 7 rfl, wp_grd]
  refine ⟨past_ok (hSv.ldAll 7 rfl), ?_⟩
  simp only [asAgg_agg, asCons_cons, asInt_int, asStr_str, asSlice_slice, asPtr_ptr, asNil_nil]
  rw [wp_get, wp_call]
  refine WpF.mono (wp_vl 7 σ1 _ v (hV.frm hF1) hv) ?_
  rintro _ σ2 ⟨hF2, _, rfl, hV2⟩
  have hV2' := hV2
  obtain ⟨_, ev, pv, cv, rfl⟩ := hV2.cells
  simp only [asAgg_agg, asCons_cons, asInt_int, asStr_str, asSlice_slice, asPtr_ptr, asNil_nil]
  have hSt1 := hF1.stN hSt
  have hSt2 := hF2.stN hSt1
  rw [wp_ldAll hSt2 4 rfl, wp_grd]
  refine ⟨past_two (hSt1.ldAll 4 rfl) (hSt.ldAll 4 rfl), ?_⟩
  simp only [asAgg_agg, asCons_cons, asInt_int, asStr_str, asSlice_slice, asNil_nil]
  rw [wp_call]
  refine WpF.mono (wp_ty1 7 σ2 _ t ((hT.frm hF1).frm hF2) ht) ?_
  rintro _ σ3 ⟨hF3, _, rfl, hT3⟩
  have hT3' := hT3
  obtain ⟨_, et, pt, ct, rfl⟩ := hT3.cells
  simp only [asAgg_agg, asCons_cons, asInt_int, asStr_str, asSlice_slice, asNil_nil]
  rw [wp_call]
  refine WpF.mono (wp_vls (((hC.frm hF1).frm hF2).frm hF3) (by omega) hB.fit cc) ?_
  rintro _ σ4 ⟨hF4, qv, qcap, rfl, hC4⟩
  rw [asSlice_slice, wp_call]
  have low : ∀ {L : Lay VA} {n : Nat} {cs : List Value} {x : Tr VA} {Z : Nat → Prop} {σ : AHeap}, VIn L σ Z n cs x → VIn L σ (fun i => i < σ.n → Z i) n cs x := fun h => h.step (Frm.refl _ NoB) (fun _ _ h => h.elim) (fun i hi h => h hi)
  have toN : ∀ {L : Lay VA} {n : Nat} {cs : List Value} {x : Tr VA} {Z : Nat → Prop} {σ : AHeap}, VIn L σ Z n cs x → VIn L σ NoB n cs x := fun h => h.step (Frm.refl _ NoB) (fun _ _ h => h.elim) (fun i hi h => h.elim)
  have toNT : ∀ {L : Lay TA} {n : Nat} {cs : List Value} {x : Tr TA} {Z : Nat → Prop} {σ : AHeap}, VIn L σ Z n cs x → VIn L σ NoB n cs x := fun h => h.step (Frm.refl _ NoB) (fun _ _ h => h.elim) (fun i hi h => h.elim)
  have hC4' : RowOf σ4 NoB 8 (VIn L8 σ4 NoB 7) qv cells := hC4.step (S := NoB) (Frm.refl σ4 NoB) (fun _ _ h => h.elim) (fun _ _ h => h.elim) fun _ _ h => toN h
  refine WpF.mono (wp_renderR (cc := qcap) (ck := qc) hB (Nat.le_refl 7) (Nat.le_refl 7) (((toN hV2').frm hF3).frm hF4) hv ((toNT hT3').frm hF4) (.inr ht) ⟨hC4', (((hQ.frm hF1).frm hF2).frm hF3).frm hF4⟩) ?_
  rintro _ σ5 ⟨rfl, hF5⟩
  have hF15 : Frm σ σ5 NoB := (((hF1.seq hF2).seq hF3).seq hF4).seq hF5
  have done : ∀ σ' : AHeap, Wp PROG ovD (T4k3 .normal [.bool true]) σ' fun _ vs _ => ∃ v, vs = [v] ∧ v = .bool true := fun σ' => by
    simp only [T4k3, sw_same, asCons_cons, asBool_bool, asNil_nil]
    rw [wp_ret]
    exact ⟨_, rfl, rfl⟩
  have hSv5 := hF15.stN hSv
  have hSu5 := hF15.stN hSu
  have hSt5 := hF15.stN hSt
  have hV5 := hV.frm hF15
  have hU5 := hU.frm hF15
  have hT5 := hT.frm hF15
  clear hF1 hF2 hF3 hF4 hF5 hC4 hC4' hV2 hV2' hT3 hT3' hSv1 hSt1 hSt2 hSv hSu hSt
  rw [asStr_str, wp_bif, if_pos (by simp), wp_ldAll hSv5 7 rfl]
  simp only [asAgg_agg, asCons_cons, asInt_int, asStr_str, asSlice_slice, asPtr_ptr, asNil_nil]
  rw [wp_ldAll hSu5 7 rfl]
  simp only [asAgg_agg, asCons_cons, asInt_int, asStr_str, asSlice_slice, asPtr_ptr, asNil_nil]
  rw [wp_get, wp_call]
  refine WpF.mono (wp_same 7 σ5 _ _ v u hV5 hU5 hv hu) ?_
  rintro _ σ6 ⟨rfl, hF6⟩
  have hSv6 := hF6.stN hSv5
  rw [asBool_bool, wp_ldAll hSv6 7 rfl, wp_grd]
  refine ⟨past_ok (hSv5.ldAll 7 rfl), ?_⟩
  simp only [asAgg_agg, asCons_cons, asInt_int, asStr_str, asSlice_slice, asPtr_ptr, asNil_nil]
  rw [wp_get, wp_call]
  refine WpF.mono (wp_vl 7 σ6 _ v (hV5.frm hF6) hv) ?_
  rintro _ σ7 ⟨hF7, _, rfl, hV7⟩
  have hV7' := hV7
  obtain ⟨_, ev7, pv7, cv7, rfl⟩ := hV7.cells
  simp only [asAgg_agg, asCons_cons, asInt_int, asStr_str, asSlice_slice, asPtr_ptr, asNil_nil]
  have hSu6 := hF6.stN hSu5
  have hSu7 := hF7.stN hSu6
  rw [wp_ldAll hSu7 7 rfl, wp_grd]
  refine ⟨past_two (hSu6.ldAll 7 rfl) (hSu5.ldAll 7 rfl), ?_⟩
  simp only [asAgg_agg, asCons_cons, asInt_int, asStr_str, asSlice_slice, asPtr_ptr, asNil_nil]
  rw [wp_call]
  refine WpF.mono (wp_vl 7 σ7 _ u ((hU5.frm hF6).frm hF7) hu) ?_
  rintro _ σ8 ⟨hF8, _, rfl, hU8⟩
  have hU8' := hU8
  obtain ⟨_, eu8, pu8, cu8, rfl⟩ := hU8.cells
  simp only [asAgg_agg, asCons_cons, asInt_int, asStr_str, asSlice_slice, asPtr_ptr, asNil_nil]
  rw [wp_call]
  refine WpF.mono (wp_sameR 7 σ8 _ _ v u (hV7'.frm hF8) hU8' hv hu) ?_
  rintro _ σ9 ⟨rfl, hF9⟩
  have hF59 := ((hF6.seq hF7).seq hF8).seq hF9
  rw [asBool_bool, wp_bif, if_pos (by simp), wp_ldAll (hF59.stN hSt5) 4 rfl]
  simp only [asAgg_agg, asCons_cons, asInt_int, asStr_str, asSlice_slice, asNil_nil]
  rw [wp_call]
  refine WpF.mono (wp_ty1 7 σ9 _ t (hT5.frm hF59) ht) ?_
  rintro _ σa ⟨hFa, _, rfl, hTa⟩
  have hTa' := hTa
  obtain ⟨_, eta, pta, cta, rfl⟩ := hTa.cells
  simp only [asAgg_agg, asCons_cons, asInt_int, asStr_str, asSlice_slice, asNil_nil]
  rw [wp_call]
  refine WpF.mono (wp_size 7 σa _ t hTa' ht) ?_
  rintro _ σb ⟨hFb, k, rfl, k0, k1⟩
  rw [asInt_int, wp_ret, decide_eq_true k0]
  exact done σb

set_option maxHeartbeats 2000000 in
set_option maxRecDepth 100000 in
theorem valShows_law (x0 : (valSh 7).D) (vs0 : List Value) (x1 : (valSh 7).D) (vs1 : List Value) (x2 : (tySh 7).D) (vs2 : List Value) (p3 : Option Addr) (c3 : Nat) (l3 : List (valSh 7).D) (p4 : Option Addr) (c4 : Nat) (l4 : List argSh.D) (old0 : Addr → Option Value)
    (av0 : AV (unO tabsD old0) (valSh 7) x0 vs0) (ok0 : Sh.ok (valSh 7) x0) (av1 : AV (unO tabsD old0) (valSh 7) x1 vs1) (ok1 : Sh.ok (valSh 7) x1) (av2 : AV (unO tabsD old0) (tySh 7) x2 vs2) (ok2 : Sh.ok (tySh 7) x2)
    (rd3 : RdR (unO tabsD old0) 7 (valSh 7) p3 l3) (ok3 : (Sh.row 7 (valSh 7)).ok l3) (rd4 : RdR (unO tabsD old0) 2 argSh p4 l4) (_ok4 : (Sh.row 2 argSh).ok l4) :
    WpF PROG ovD 4 [.agg vs0.toArray, .agg vs1.toArray, .agg vs2.toArray, .slice p3 l3.length c3, .slice p4 l4.length c4] (startH (unO tabsD old0)) fun v _ => v = .bool true := by
  have hV0 : ∀ σ : AHeap, σ.old = unO tabsD old0 → VIn L7 σ NoB 7 vs0 (cV 7 x0) := fun σ hσ => av_V hσ 6 x0 vs0 av0 ok0
  have hU0 : ∀ σ : AHeap, σ.old = unO tabsD old0 → VIn L7 σ NoB 7 vs1 (cV 7 x1) := fun σ hσ => av_V hσ 6 x1 vs1 av1 ok1
  have hT0 : ∀ σ : AHeap, σ.old = unO tabsD old0 → VIn L4 σ NoB 7 vs2 (cT 7 x2) := fun σ hσ => av_T hσ 6 x2 vs2 av2 ok2
  have hC0 : ∀ σ : AHeap, σ.old = unO tabsD old0 → RowOf σ NoB 7 (VIn L7 σ NoB 7) p3 (l3.map (cV 7)) := fun σ hσ => row_V hσ 7 rd3 ok3
  have hK0 : ∀ σ : AHeap, σ.old = unO tabsD old0 → ConsRowA σ NoB p4 (cC l4) := fun σ hσ => row_cons hσ rd4
  rw [show l3.length = (l3.map (cV 7)).length by simp, show l4.length = (cC l4).length by simp [cC]]
  obtain ⟨_, e, p, cap, rfl⟩ := (hV0 (startH (unO tabsD old0)) rfl).cells
  obtain ⟨_, e1, p1, cap1, rfl⟩ := (hU0 (startH (unO tabsD old0)) rfl).cells
  obtain ⟨_, e2, p2, cap2, rfl⟩ := (hT0 (startH (unO tabsD old0)) rfl).cells
  generalize cV 7 x0 = v at hV0
  generalize cV 7 x1 = u at hU0
  generalize cT 7 x2 = t at hT0
  generalize l3.map (cV 7) = cells at hC0
  generalize cC l4 = cons at hK0
  clear av0 av1 av2 rd3 rd4 ok0 ok1 ok2 ok3
  refine WpF.of (T4_eq _ _ _ _ _ _ _ _ _ _ _ _ _ _ _ _ _ _ _ _ _ _ _ _ _ _ _ _ _ _) rfl ?_
  rw [T4, wp_act, newC_eq]
  simp only [asPtr_ptr, asSome_some]
  rw [wp_act, newC_eq]
  simp only [asPtr_ptr, asSome_some]
  rw [wp_act, newC_eq]
  simp only [asPtr_ptr, asSome_some]
  rw [wp_call]
  refine WpF.mono (awake9s old0 v.a u.a t.a e p e1 p1 p2 v.args.length cap u.args.length cap1 t.args.length cap2) ?_
  rintro _ σ1 ⟨rfl, ho1, hSv, hSu, hSt⟩
  have hV := hV0 σ1 ho1
  have hU := hU0 σ1 ho1
  have hT := hT0 σ1 ho1
  have hC := hC0 σ1 ho1
  have hK := hK0 σ1 ho1
  clear hV0 hU0 hT0 hC0 hK0
  simp only [newBlk_n, show (startH (unO tabsD old0)).n = 0 from rfl, Nat.reduceAdd]
  have hdone : ∀ σ' : AHeap, Wp PROG ovD (T4k6 cons.length p4 cells.length p3 ⟨0, 0, some 0⟩ ⟨2, 0, some 0⟩ c3 c4 ⟨1, 0, some 0⟩ .normal [.bool true]) σ' fun _ vs _ => ∃ v, vs = [v] ∧ v = .bool true := fun σ' => by
    simp only [T4k6, sw_same, asCons_cons, asBool_bool, asNil_nil]
    rw [wp_bif, if_pos (by rfl), wp_ret]
    exact ⟨_, rfl, rfl⟩
  rw [asBool_bool, wp_bif, if_neg (by simp), wp_join, wp_ldAll hSv 7 rfl]
  simp only [asAgg_agg, asCons_cons, asInt_int, asStr_str, asSlice_slice, asPtr_ptr, asNil_nil]
  rw [wp_call]
  have hb1 := wp_big 7 (Nat.le_refl _) σ1 _ v hV
  rw [lev7] at hb1
  refine WpF.mono hb1 ?_
  rintro _ σ2 ⟨rfl, hF2⟩
  clear hb1
  rw [asBool_bool, wp_bif]
  cases hv : bigV 7 v with
  | true =>
    rw [if_neg (by simp), wp_ret]
    exact hdone σ2
  | false =>
  rw [if_pos (by rfl), wp_ldAll (hF2.stN hSu) 7 rfl]
  simp only [asAgg_agg, asCons_cons, asInt_int, asStr_str, asSlice_slice, asPtr_ptr, asNil_nil]
  rw [wp_call]
  have hb2 := wp_big 7 (Nat.le_refl _) σ2 _ u (hU.frm hF2)
  rw [lev7] at hb2
  refine WpF.mono hb2 ?_
  rintro _ σ3 ⟨rfl, hF3⟩
  clear hb2
  rw [asBool_bool, wp_bif]
  cases hu : bigV 7 u with
  | true =>
    rw [if_neg (by simp), wp_ret]
    exact hdone σ3
  | false =>
  rw [if_pos (by rfl), wp_ldAll (hF3.stN (hF2.stN hSt)) 4 rfl]
  simp only [asAgg_agg, asCons_cons, asInt_int, asStr_str, asSlice_slice, asNil_nil]
  rw [wp_call]
  have hb3 := wp_small 7 (Nat.le_refl _) σ3 _ t ((hT.frm hF2).frm hF3)
  rw [lev7] at hb3
  refine WpF.mono hb3 ?_
  rintro _ σ4 ⟨rfl, hF4⟩
  clear hb3
  rw [asBool_bool, wp_bif]
  cases ht : bigT 7 t with
  | true =>
    rw [if_neg (by simp), wp_ret]
    exact hdone σ4
  | false =>
  rw [if_pos (by rfl), wp_bif]
  by_cases hc6 : cells.length > 6
  · rw [if_neg (by simp; omega), wp_ret]
    exact hdone σ4
  rw [if_pos (by simp; omega), wp_ret]
  by_cases hk6 : cons.length > 6
  · rw [show decide (((cons.length : Nat) : Int) > 6) = true from decide_eq_true (by omega)]
    exact hdone σ4
  rw [show decide (((cons.length : Nat) : Int) > 6) = false from decide_eq_false (by omega)]
  have hF14 : Frm σ1 σ4 NoB := (hF2.seq hF3).seq hF4
  simp only [T4k6, sw_same, asCons_cons, asBool_bool, asNil_nil]
  rw [wp_bif, if_neg (by simp)]
  -- the constructors
  have ret1 : ∀ (i : Nat) (q : Option Addr) (n c : Nat) (σ' : AHeap), Wp PROG ovD (T4k5 cells.length p3 ⟨0, 0, some 0⟩ ⟨2, 0, some 0⟩ c3 p4 cons.length c4 ⟨1, 0, some 0⟩ .ret [.int .i64 (i : Int), .slice q n c, .bool true]) σ' fun _ vs _ => ∃ v, vs = [v] ∧ v = .bool true := fun i q n c σ' => by
    simp only [T4k5, sw_re, sw_same, asCons_cons, asInt_int, asSlice_slice, asBool_bool, asNil_nil]
    rw [wp_ret]
    exact ⟨_, rfl, rfl⟩
  refine Wp.count cons.length (fun j st σ' => ∃ q c b css, st = [.int .i64 ((j : Nat) : Int), .slice q j c, .bool false] ∧ Frm σ4 σ' NoB ∧ SlE σ' b q c 2 css.flatten ∧ (q ≠ none → σ4.n ≤ b) ∧ Elts 2 (fun cs (c : ByteArray × List ByteArray) => ∃ q cap, cs = [Value.string c.1, .slice q c.2.length cap] ∧ StrRow σ' AllB q c.2) css (cons.take j) ∧ ∀ d ∈ cons.take j, d.2.length ≤ 5)
    ⟨none, 0, 0, [], rfl, Frm.refl _ _, .inl ⟨rfl, rfl, rfl⟩, fun h => absurd rfl h, Elts.nil, fun d h => by cases h⟩ ?_ ?_
  · rintro j st σ5 hj ⟨q, c, b, css, rfl, hF5, hQ, hqb, hE, h5⟩
    have ej : wi64 ((j : Int) + 1) = ((j + 1 : Nat) : Int) := by rw [wi64_in (by omega)]; omega
    have hK5 := (hK.frm hF14).frm hF5
    have htk := List.take_succ_eq_append_getElem hj
    simp only [T4b0, asCons_cons, asInt_int, asSlice_slice, asBool_bool, asNil_nil]
    rw [wp_bif, if_pos (by simp; omega), wp_join, wp_join]
    have tru : Wp PROG ovD (T4k0 q j c p4 (j : Int) cons.length false .normal [.bool true]) σ5 fun e vs σ' => Wp PROG ovD (T4k1 (j : Int) e vs) σ' fun e st' σ' => match e with
        | .normal => ∃ q c b css, st' = [.int .i64 ((j + 1 : Nat) : Int), .slice q (j + 1) c, .bool false] ∧ Frm σ4 σ' NoB ∧ SlE σ' b q c 2 css.flatten ∧ (q ≠ none → σ4.n ≤ b) ∧ Elts 2 (fun cs (c : ByteArray × List ByteArray) => ∃ q cap, cs = [Value.string c.1, .slice q c.2.length cap] ∧ StrRow σ' AllB q c.2) css (cons.take (j + 1)) ∧ ∀ d ∈ cons.take (j + 1), d.2.length ≤ 5
        | e => Wp PROG ovD (T4k5 cells.length p3 ⟨0, 0, some 0⟩ ⟨2, 0, some 0⟩ c3 p4 cons.length c4 ⟨1, 0, some 0⟩ e st') σ' fun _ vs _ => ∃ v, vs = [v] ∧ v = .bool true := by
      simp only [T4k0, sw_same, asCons_cons, asBool_bool, asNil_nil]
      rw [wp_bif, if_pos (by rfl), wp_ret]
      simp only [T4k1, sw_same, asCons_cons, asSlice_slice, asBool_bool, asNil_nil]
      rw [wp_ret]
      exact ret1 j q j c σ5
    refine wp_rowOf1 hK5 hj rfl (by decide) (fun cs w hcs hw => ?_) fun cs hcs => ?_
    case refine_2 =>
      obtain ⟨_, _, rfl, _⟩ := hcs
      exact ⟨_, rfl⟩
    obtain ⟨q1, c1, rfl, hq1⟩ := hcs
    simp only [List.drop_succ_cons, List.drop_zero, List.take_succ_cons, List.take_zero, List.cons.injEq, and_true] at hw
    subst hw
    rw [asSlice_slice, wp_bif]
    by_cases h55 : cons[j].2.length > 5
    · rw [if_neg (by simp; omega), wp_ret]
      exact tru
    rw [if_pos (by simp; omega)]
    refine wp_rowOf1 hK5 hj rfl (by decide) (fun cs w hcs hw => ?_) fun cs hcs => ?_
    case refine_2 =>
      obtain ⟨_, _, rfl, _⟩ := hcs
      exact ⟨_, rfl⟩
    obtain ⟨q2, c2, rfl, _⟩ := hcs
    simp only [List.drop_zero, List.take_succ_cons, List.take_zero, List.cons.injEq, and_true] at hw
    subst hw
    rw [asStr_str, wp_ret]
    by_cases h60 : ((cons[j].1.size : Nat) : Int) > 60
    · rw [decide_eq_true h60]
      exact tru
    rw [decide_eq_false h60]
    simp only [T4k0, sw_same, asCons_cons, asBool_bool, asNil_nil]
    rw [wp_bif, if_neg (by simp)]
    refine wp_rowOf1 hK5 hj rfl (by decide) (fun cs w hcs hw => ?_) fun cs hcs => ?_
    case refine_2 =>
      obtain ⟨_, _, rfl, _⟩ := hcs
      exact ⟨_, rfl⟩
    obtain ⟨q2, c2, rfl, _⟩ := hcs
    simp only [List.drop_zero, List.take_succ_cons, List.take_zero, List.cons.injEq, and_true] at hw
    subst hw
    rw [asStr_str]
    refine wp_rowOf1 hK5 hj rfl (by decide) (fun cs w hcs hw => ?_) fun cs hcs => ?_
    case refine_2 =>
      obtain ⟨_, _, rfl, _⟩ := hcs
      exact ⟨_, rfl⟩
    obtain ⟨q3, c3', rfl, hq3⟩ := hcs
    simp only [List.drop_succ_cons, List.drop_zero, List.take_succ_cons, List.take_zero, List.cons.injEq, and_true] at hw
    subst hw
    rw [asSlice_slice]
    have hjl : css.flatten.length = j * 2 := by
      rw [flat_len hE.2.1, hE.1, List.length_take, Nat.min_eq_left (by omega)]
    refine wp_appE hQ hjl (by decide) (by decide) rfl (by intro y hy; simp only [List.mem_cons, List.mem_nil_iff, or_false] at hy; rcases hy with rfl | rfl <;> rfl) (by omega) (by omega) fun σ6 b' off s c4' hF6 hb6 hR6 => ?_
    rw [wp_ret]
    simp only [T4k1, sw_nr, sw_same, asCons_cons, asSlice_slice, asBool_bool, asNil_nil]
    rw [wp_ret, ej]
    have hF46 : Frm σ4 σ6 NoB := hF5.fresh hF6 fun i hi h => by have := hqb h.1; omega
    refine ⟨_, c4', b', css ++ [[.string cons[j].1, .slice q3 cons[j].2.length c3']], rfl, hF46, .inr ⟨off, s, rfl, by simpa using hR6⟩, fun _ => ?_, ?_, fun d hd => ?_⟩
    · rcases hb6 with ⟨h1, rfl⟩ | h1
      · exact hqb h1
      · have := hF5.n
        omega
    · rw [htk]
      exact hE.snoc (fun cs t ⟨q, cap, h1, h2⟩ => ⟨q, cap, h1, h2.all hF6⟩) rfl ⟨q3, c3', rfl, hq3.all hF6⟩
    · rw [htk] at hd
      rcases List.mem_append.1 hd with hd | hd
      · exact h5 d hd
      · simp only [List.mem_singleton] at hd
        rw [hd]
        omega
  · rintro st σ5 ⟨q, c, b, css, rfl, hF5, hQ, hqb, hE, h5⟩
    rw [List.take_length] at hE h5
    have hF15 := hF14.seq hF5
    simp only [T4b0, asCons_cons, asInt_int, asSlice_slice, asBool_bool, asNil_nil]
    rw [wp_bif, if_neg (by simp), wp_ret]
    simp only [T4k5, sw_same, asCons_cons, asInt_int, asSlice_slice, asBool_bool, asNil_nil]
    have hQ5 : ConsRowA σ5 NoB q cons := SlE.rowOf hQ (fun _ h => h) (by decide) hE
    have hC5 := hC.frm hF15
    -- the cells
    refine Wp.count cells.length (fun j st σ' => st = [.int .i64 ((j : Nat) : Int), .bool false] ∧ Frm σ5 σ' NoB ∧ ∀ x ∈ cells.take j, fitV 7 x) ⟨rfl, Frm.refl _ _, fun x h => by cases h⟩ ?_ ?_
    · rintro j st σ6 hj ⟨rfl, hF6, hm⟩
      have ej : wi64 ((j : Int) + 1) = ((j + 1 : Nat) : Int) := by rw [wi64_in (by omega)]; omega
      have htk := List.take_succ_eq_append_getElem hj
      simp only [T4b1, asCons_cons, asInt_int, asBool_bool, asNil_nil]
      rw [wp_bif, if_pos (by simp; omega), wp_join]
      refine wp_rowOf (hC5.frm hF6) hj rfl fun cs hX => ?_
      have hXi := hX
      generalize cells[j] = x at hX hXi htk
      obtain ⟨_, e', p', cap', rfl⟩ := hX.cells
      simp only [asAgg_agg, asCons_cons, asInt_int, asStr_str, asSlice_slice, asPtr_ptr, asNil_nil]
      rw [wp_call]
      have hb1 := wp_big 7 (Nat.le_refl _) σ6 _ x hXi
      rw [lev7] at hb1
      refine WpF.mono hb1 ?_
      rintro _ σ7 ⟨rfl, hF7⟩
      rw [asBool_bool, wp_bif]
      cases hx : bigV 7 x with
      | true =>
        rw [if_pos rfl, wp_ret]
        simp only [T4k2, sw_same, asCons_cons, asBool_bool, asNil_nil]
        rw [wp_ret]
        simp only [T4k4, sw_re, sw_same, asCons_cons, asInt_int, asBool_bool, asNil_nil]
        rw [wp_ret]
        exact ⟨_, rfl, rfl⟩
      | false =>
        rw [if_neg (by simp), wp_ret]
        simp only [T4k2, sw_nr, sw_same, asCons_cons, asBool_bool, asNil_nil]
        rw [wp_ret, ej]
        refine ⟨rfl, hF6.seq hF7, fun y hy => ?_⟩
        rw [htk] at hy
        rcases List.mem_append.1 hy with hy | hy
        · exact hm y hy
        · simp only [List.mem_singleton] at hy
          rw [hy]
          exact bigM_fits hx
    · rintro st σ6 ⟨rfl, hF6, hm⟩
      rw [List.take_length] at hm
      simp only [T4b1, asCons_cons, asInt_int, asBool_bool, asNil_nil]
      rw [wp_bif, if_neg (by simp), wp_ret]
      have hF16 := hF15.seq hF6
      exact shows_end ⟨by omega, hm, by omega, h5⟩ (bigM_fits hv) (bigM_fits hu) (bigM_fits ht) (hF16.stN hSv) (hF16.stN hSu) (hF16.stN hSt) (hV.frm hF16) (hU.frm hF16) (hT.frm hF16) (hC.frm hF16) (hK.frm hF16).to (hQ5.frm hF6).to _
end Go.Pg
