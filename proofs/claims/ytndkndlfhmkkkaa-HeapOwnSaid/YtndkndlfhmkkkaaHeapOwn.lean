/- Layer 12: what is read of a heap's bytes is a heap of its own: the law's tree returns true for all rows of acts. -/
import Derived.Test.YtndkndlfhmkkkaaHeap6
import Derived.Test.YtndkndlfhmkkkaaHAwake
namespace Go.Pg
open Go.Proofs

abbrev shAct : Sh := .fld 0 (.int .i64) (.fld 1 (.int .i64) (.fld 2 (.int .i64) (.fld 3 (.int .i64) (.fld 4 (.int .u64) (.fld 5 (.int .u64) (.fld 6 (.row 1 (.int .u64)) .fin))))))

theorem u64_bnd (w : Int) (h : (Lit.int .u64 w).wf = true) : 0 ≤ w ∧ w < 18446744073709551616 := by
  simp [Lit.wf, IntKind.min, IntKind.max, IntKind.signed, IntKind.bits] at h
  omega

theorem wp_cl {P : Program} {ov : Ov} {old : Addr → Option Value} {a : Addr} {v : Value} (h : Cl old a v) {σ : AHeap} (ho : σ.old = old) (g : Value → Pg) (Q : Post) : Wp P ov (.act (ld1 a) g) σ Q = Wp P ov (g v) σ Q := by
  rw [wp_act, h σ ho]
theorem wp_grdJ {P : Program} {ov : Ov} {σ : AHeap} {j n : Nat} (h : j < n) (p : Pg) (Q : Post) : Wp P ov (grd (decide (0 ≤ ((j : Nat) : Int)) && decide (((j : Nat) : Int) < ((n : Nat) : Int))) p) σ Q = Wp P ov p σ Q := by
  have e : (decide (0 ≤ ((j : Nat) : Int)) && decide (((j : Nat) : Int) < ((n : Nat) : Int))) = true := by simp; omega
  rw [wp_grd, e]
  simp
theorem chks_cl2 {old : Addr → Option Value} {a b : Addr} {v w : Value} (h : Cl old a v) (k : Cl old b w) {σ : AHeap} (ho : σ.old = old) : chks [(ld1 a, v), (ld1 b, w)] σ = true := by
  simp [chks, chkAt, h σ ho, k σ ho, eqv_same]

/-- A heap that is made of acts. -/
def MadeH (σ : AHeap) (S : Nat) (Y : Nat → Prop) (room : Int) : Prop := ∃ words heads, HP σ S Y room 0 words heads ∧ VH words heads ∧ (words.length : Int) ≤ room

theorem wp_makeV {σ : AHeap} {S R c : Nat} {Y : Nat → Prop} {room : Int} {p : Option Addr} {ws : List Int} (h : MadeH σ S Y room) (hr : SlV σ R p c (ints .u64 ws)) (hRY : p ≠ none → Y R) (hw : ∀ w ∈ ws, 0 ≤ w ∧ w < 18446744073709551616) (hrm : 0 ≤ room ∧ room ≤ 65536) (hl2 : ws.length ≤ 100000) (kind tag : Int) {Q : Value → AHeap → Prop}
    (hQ : ∀ σ' a e, Frm σ σ' (fun j => ¬ Y j) → MadeH σ' S Y room → Q (.tuple #[.int .u64 a, .int .i64 e]) σ') : WpF PROG ov0 12 [PV S, .int .i64 kind, .int .i64 tag, .slice p ws.length c] σ Q := by
  obtain ⟨words, heads, h1, h2, h3⟩ := h
  refine wp_makeH h1 hr hRY (fun w h => (hw w h).1) hrm (by omega) hl2 kind tag ?_ ?_ ?_
  · intro _ σ' hF hH
    exact hQ σ' _ _ hF ⟨words, heads, hH, h2, h3⟩
  · intro _ _ _ σ' hF hH
    exact hQ σ' _ _ hF ⟨words, heads, hH, h2, h3⟩
  · intro hB hm hfit σ' hF hH
    refine hQ σ' _ _ hF ⟨_, _, hH, h2.put kind tag ws hB hm hw, ?_⟩
    rw [List.length_append, List.length_cons]
    omega

theorem heapOwn_law (p0 : Option Addr) (n2 : Nat) (l : List shAct.D) (old : Addr → Option Value) (rd : RdR old 7 shAct p0 l) (ok : (Sh.row 7 shAct).ok l) :
    WpF PROG ov0 6 [.slice p0 l.length n2] (startH old) fun v _ => v = .bool true := by
  refine WpF.of (T6_eq _ _ _) rfl ?_
  rw [T6, wp_call]
  refine WpF.mono (awake12 old) ?_
  rintro v σ0 ⟨rfl, ho0, _⟩
  simp only [asBool_bool]
  rw [wp_bif, if_neg (by simp), wp_bif]
  by_cases h20 : l.length > 20
  · rw [if_pos (by simp; omega), wp_ret]
    exact ⟨_, rfl, rfl⟩
  rw [if_neg (by simp; omega), wp_call]
  refine wp_newH (Y := NoB) 500 (by omega) (fun i hi => hi.elim) fun σ1 hF1 h1 => ?_
  have ho1 := hF1.old.trans ho0
  generalize σ0.n = S at h1
  simp only [asTuple_tuple, asCons_cons, asPtr_ptr, asInt_int, asNil_nil]
  refine Wp.count l.length (fun j st σ' => st = [.int .i64 ((j : Nat) : Int), .bool false] ∧ σ'.old = old ∧ MadeH σ' S NoB 500) ⟨rfl, ho1, [], [], h1, VH.nil, by simp⟩ ?_ ?_
  · rintro j st σ2 hj ⟨rfl, ho2, h2⟩
    have ej : wi64 ((j : Int) + 1) = ((j + 1 : Nat) : Int) := by rw [wi64_in (by omega)]; omega
    have okj := ok.2 l[j] (List.getElem_mem hj)
    obtain ⟨x, rfl, _, r1, r2, _, _, _, r6, _⟩ := rd j hj
    obtain ⟨_, _, _, _, _, _, okW, _⟩ := okj
    generalize l[j] = d at r1 r2 r6 okW
    obtain ⟨op, kd, tg, ii, pp, xx, ws, _⟩ := d
    simp only at r1 r2 r6 okW
    obtain ⟨wp, wc, r6, rW⟩ := r6
    have hwW : ∀ w ∈ ws, 0 ≤ w ∧ w < 18446744073709551616 := fun w hw => u64_bnd w (okW.2 w hw)
    simp only [T6b0, asCons_cons, asInt_int, asBool_bool, asNil_nil, asSome_some]
    rw [wp_bif, if_pos (by simp; omega), wp_join, wp_grdJ hj, Int.toNat_natCast, wp_cl r6 ho2, asSlice_slice, wp_bif]
    by_cases h10 : ws.length > 10
    · rw [if_pos (by simp; omega), wp_ret]
      simp only [T6k0, sw_same, asCons_cons, asBool_bool, asNil_nil]
      rw [wp_ret]
      simp only [T6k4, sw_re, sw_same, asCons_cons, asInt_int, asBool_bool, asNil_nil]
      rw [wp_ret]
      exact ⟨_, rfl, rfl⟩
    rw [if_neg (by simp; omega), wp_grdJ hj, wp_cl r1 ho2, asInt_int, wp_grdJ hj, wp_cl r2 ho2, asInt_int, wp_grdJ hj, wp_cl r6 ho2, asSlice_slice, wp_call]
    have hrdW : ∀ σ', Frm σ2 σ' NoB → RdI σ' .u64 wp ws := fun σ' hF => RdR.ints (old := old) rW σ' (hF.old.trans ho2)
    refine wp_back15 hrdW (by omega) wc fun σ3 R p3 c3 hF3 hR3 hb3 => ?_
    have ho3 := hF3.old.trans ho2
    rw [asSlice_slice, wp_get, wp_grd]
    refine ⟨chks_cl2 r2 r1 ho3, ?_⟩
    rw [wp_call]
    obtain ⟨words, heads, hH, hV, hL⟩ := h2
    have h3 : MadeH σ3 S (fun i => p3 ≠ none ∧ i = R) 500 := ⟨words, heads, hH.step hF3 (fun i _ h => h.elim) fun i hi => by
      cases p3 with
      | none => exact absurd rfl hi.1
      | some a => rw [hi.2]; exact ⟨hR3.lt, .inr (hb3 (by simp))⟩, hV, hL⟩
    refine wp_makeV h3 hR3 (fun hp => ⟨hp, rfl⟩) hwW (by omega) (by omega) kd tg fun σ4 a e hF4 h4 => ?_
    simp only [asTuple_tuple, asCons_cons, asInt_int, asNil_nil]
    rw [wp_ret]
    simp only [T6k0, sw_nr, sw_same, asCons_cons, asBool_bool, asNil_nil]
    rw [wp_ret, ej]
    obtain ⟨words4, heads4, hH4, hV4, hL4⟩ := h4
    exact ⟨rfl, hF4.old.trans ho3, words4, heads4, hH4.step (Frm.refl σ4 NoB) (fun i _ h => h.elim) (fun i hi => hi.elim), hV4, hL4⟩
  · rintro st σ2 ⟨rfl, ho2, words, heads, h2, hV, hL⟩
    simp only [T6b0, asCons_cons, asInt_int, asBool_bool, asNil_nil]
    rw [wp_bif, if_neg (by simp), wp_ret]
    simp only [T6k4, sw_same, asCons_cons, asInt_int, asBool_bool, asNil_nil]
    rw [wp_call]
    refine wp_putB h2 (by omega) fun σ3 b p3 c3 hF3 hR3 hb3 => ?_
    have hload := loadR_putB hV 500 0 (by omega) (by omega) hL
    have hlen := putB_len 500 0 words
    have hbyte := putB_byte 500 0 words
    obtain ⟨xs, hxs⟩ : ∃ xs, xs = putB 500 0 words := ⟨_, rfl⟩
    rw [← hxs] at hR3 hload hlen hbyte ⊢
    rw [asSlice_slice, wp_b2s hR3, asStr_str, wp_call]
    obtain ⟨o3, s3, rfl, hRow3⟩ := hR3.rowOf (by intro e; have := congrArg List.length e; rw [List.length_map, hlen] at this; simp at this)
    have h3 := h2.step (Y' := fun i => i = b) hF3 (fun i _ h => h.elim) fun i hi => by rw [hi]; exact ⟨hRow3.lt, .inr hb3⟩
    refine wp_loadB hR3 hbyte (by omega) (fun hn => absurd ⟨_, _, _, _, hload⟩ hn) ?_
    intro room turns ws' heads' hL' σ4 S2 hF4 hS2 h4
    obtain ⟨e1, e2, e3, e4⟩ := hL'.uniq hload
    subst e1 e2 e3 e4
    simp only [asTuple_tuple, asCons_cons, asPtr_ptr, asInt_int, asNil_nil]
    rw [wp_bif, if_neg (by simp)]
    have hRow4 := hF4.rowN hRow3
    have h3a := h3.step (Y' := fun i => i = b ∨ (σ3.n ≤ i ∧ i < σ4.n)) hF4 (fun i _ h => h.elim) fun i hi => by
      rcases hi with rfl | hi
      · exact ⟨hRow4.lt, .inl rfl⟩
      · exact ⟨hi.2, .inr hi.1⟩
    have hn4 := hF4.n
    have hblt := hRow3.lt
    refine Wp.count xs.length (fun j st σ' => st = [.int .i64 ((j : Nat) : Int)] ∧ HP σ' S (fun i => i = b ∨ (σ3.n ≤ i ∧ i < σ4.n)) 500 0 ws' heads' ∧ HP σ' S2 (fun i => i < σ3.n) 500 0 ws' heads' ∧ σ'.n = σ4.n ∧ ∃ ys, ys.length = xs.length ∧ Row σ' b o3 s3 c3 1 (ints .u8 ys)) ⟨rfl, h3a, h4, rfl, xs, rfl, hRow4⟩ ?_ ?_
    · rintro j st σ5 hj ⟨rfl, h5, k5, hn5, ys, hyl, hR5⟩
      have ej : wi64 ((j : Int) + 1) = ((j + 1 : Nat) : Int) := by rw [wi64_in (by omega)]; omega
      simp only [T6b1, asCons_cons, asInt_int, asNil_nil, asSome_some]
      rw [wp_bif, if_pos (by simp; omega), wp_join, wp_grdJ hj, Int.toNat_natCast, wp_rowR (v := .int .u8 (ys.getD j 0)) hR5 (by simp [hyl, hj, List.getD]), asInt_int, wp_grdJ hj]
      refine wp_rowW hR5 (by simp; omega) rfl fun σ6 hF6 hn6 hR6 => ?_
      rw [wp_ret]
      simp only [T6k1, sw_same, asNil_nil]
      rw [wp_ret, ej]
      refine ⟨rfl, h5.step hF6 (fun i _ h => .inl h) (fun i hi => ⟨Nat.lt_of_lt_of_le (h5.1 i hi) hF6.n, .inl hi⟩), k5.step hF6 (fun i _ h => by rw [h]; exact hblt) (fun i hi => ⟨Nat.lt_of_lt_of_le (k5.1 i hi) hF6.n, .inl hi⟩), by omega, ys.set j (wu8 (ys.getD j 0 + 1)), by simp [hyl], ?_⟩
      have e : ints .u8 (ys.set j (wu8 (ys.getD j 0 + 1))) = (ints .u8 ys).set j (.int .u8 (wu8 (ys.getD j 0 + 1))) := by simp [ints, List.map_set]
      rw [e]
      exact hR6
    · rintro st σ5 ⟨rfl, h5, k5, hn5, ys, hyl, hR5⟩
      simp only [T6b1, asCons_cons, asInt_int, asNil_nil]
      rw [wp_bif, if_neg (by simp), wp_ret]
      simp only [T6k3, sw_same, asCons_cons, asInt_int, asNil_nil]
      rw [wp_call, WpF.eq (ev_num _), asInt_int, wp_act, bdSl_eq]
      simp only [asSlice_slice]
      have hF6 := Frm.new σ5 [.int .u64 (numW 5)] 1 NoB
      have hR6 := Row.new σ5 1 [.int .u64 (numW 5)] 1 (by decide) rfl (by intro x hx; simp at hx; subst hx; rfl)
      have hn6 : (σ5.newBlk [.int .u64 (numW 5)] 1).n = σ5.n + 1 := rfl
      generalize σ5.newBlk [.int .u64 (numW 5)] 1 = σ6 at hF6 hR6 hn6
      have h6 := h5.step (Y' := fun i => i = b ∨ (σ3.n ≤ i ∧ i < σ4.n)) hF6 (fun i _ h => h.elim) fun i hi => ⟨Nat.lt_of_lt_of_le (h5.1 i hi) hF6.n, .inl hi⟩
      have k6 := k5.step (Y' := fun i => i < σ3.n ∨ i = σ5.n) hF6 (fun i _ h => h.elim) fun i hi => by
        rcases hi with hi | hi
        · exact ⟨by omega, .inl hi⟩
        · exact ⟨by omega, .inr (by omega)⟩
      have hno : ∀ i, i < σ6.n → ¬ (i < σ3.n ∨ i = σ5.n) → i = b ∨ (σ3.n ≤ i ∧ i < σ4.n) := fun i hi hn => by omega
      have key : ∀ (σ7 : AHeap) (e : Int) (w2 : List Int) (h2' : List Bool), Frm σ6 σ7 (fun j => ¬ (j < σ3.n ∨ j = σ5.n)) → HP σ7 S2 (fun i => i < σ3.n ∨ i = σ5.n) 500 0 w2 h2' → (e = 8 ∨ (e = 0 ∧ w2.length = ws'.length + 2)) →
          Wp PROG ov0 (.join (.call 27 [.pointer (some (PA S))] fun v110 => asSlice v110 fun p111 n112 n113 => .act (bytesToStringAct (.slice p111 n112 n113)) fun v114 => asStr v114 fun s115 => bif ((s115.toList == (strB xs).toList) && ((e == 0) || (e == 8))) == true then (bif (e != 0) == false then (.call 13 [.pointer (some (PA S2))] fun v116 => asInt .i64 v116 fun i117 => .call 13 [.pointer (some (PA S))] fun v118 => asInt .i64 v118 fun i119 => .ret .normal [.bool (i117 == (wi64 (i119 + 2)))]) else (.ret .normal [.bool true])) else (.ret .normal [.bool false])) (T6k2)) σ7 fun _ vs _ => ∃ v, vs = [v] ∧ v = .bool true := by
        intro σ7 e w2 h2' hF7 k7 he
        have h7 := h6.step (Y' := NoB) hF7 hno (fun i hi => hi.elim)
        rw [wp_join, wp_call]
        refine wp_putB h7 (by omega) fun σ8 b8 p8 c8 hF8 hR8 hb8 => ?_
        rw [← hxs] at hR8 ⊢
        have k8 := k7.step (Y' := NoB) hF8 (fun i _ h => h.elim) (fun i hi => hi.elim)
        have h8 := h7.step (Y' := NoB) hF8 (fun i _ h => h.elim) (fun i hi => hi.elim)
        rw [asSlice_slice, wp_b2s hR8, asStr_str, wp_bif]
        have done : Wp PROG ov0 (T6k2 .normal [.bool true]) σ8 fun _ vs _ => ∃ v, vs = [v] ∧ v = .bool true := by
          simp only [T6k2, sw_same, asCons_cons, asBool_bool, asNil_nil]
          rw [wp_ret]
          exact ⟨_, rfl, rfl⟩
        rcases he with rfl | ⟨rfl, hw2⟩
        · rw [if_pos (by simp), wp_bif, if_neg (by simp), wp_ret]
          exact done
        · rw [if_pos (by simp), wp_bif, if_pos (by rfl), wp_call, WpF.eq (ev_used k8), asInt_int, wp_call, WpF.eq (ev_used h8), asInt_int, wp_ret]
          have ee : (((w2.length : Nat) : Int) == wi64 (((ws'.length : Nat) : Int) + 2)) = true := by
            rw [wi64_in (by omega), hw2]
            simp
          rw [ee]
          exact done
      have hodd : ∀ w ∈ [numW 5], mayB heads' w = true := fun w hw => by
        simp only [List.mem_singleton] at hw
        subst hw
        unfold mayB
        simp [numW]
      rw [wp_call]
      refine wp_makeH (ws := [numW 5]) k6 (.inr ⟨0, 1, rfl, hR6⟩) (fun _ => .inr rfl) (fun w hw => by simp only [List.mem_singleton] at hw; subst hw; decide) (by omega) (by omega) (by decide) 1 1 ?_ ?_ ?_
      · rintro (hb | ⟨w, hw, hb⟩)
        · cases hb
        · rw [hodd w hw] at hb; cases hb
      · intro _ _ _ σ7 hF7 k7
        simp only [asTuple_tuple, asCons_cons, asInt_int, asNil_nil]
        exact key σ7 8 _ _ hF7 k7 (.inl rfl)
      · intro _ _ _ σ7 hF7 k7
        simp only [asTuple_tuple, asCons_cons, asInt_int, asNil_nil]
        exact key σ7 0 _ _ hF7 k7 (.inr ⟨rfl, by simp⟩)
end Go.Pg
