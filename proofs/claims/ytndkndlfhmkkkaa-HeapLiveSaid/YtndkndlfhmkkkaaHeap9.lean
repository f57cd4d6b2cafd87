/- Layer 12: Collect: the heap behind it, and the roots, are what the plain text says. -/
import Derived.Test.YtndkndlfhmkkkaaHeap8
namespace Go.Pg
open Go.Proofs
theorem moveM_len (W : List Int) (H : List Bool) (s : CS) (w : Int) : s.w.length ≤ (moveM W H s w).1.w.length := by
  unfold moveM
  by_cases hp : plB H w = true
  · rw [if_pos hp]
    cases look s.m (atI w) with
    | some p => exact Nat.le_refl _
    | none => simp
  · rw [if_neg hp]
    exact Nat.le_refl _

section
variable {σ : AHeap} {S : Nat} {Y : Nat → Prop} {room turns : Int} {words : List Int} {heads : List Bool}

theorem Frm.newMap (σ : AHeap) (es : List (Value × Value)) (T : Nat → Prop) : Frm σ (σ.push (.map es)) T :=
  ⟨by simp [AHeap.push], rfl, fun _ hj _ => get_push_lt σ _ hj, fun f j hj => by
    simp only [AHeap.push] at hj
    rw [AHeap.get_push, if_neg (by omega)]
    exact f j (by omega)⟩
theorem newN_ok {n0 : Nat} {bs : List Nat} (hn : n0 ≤ σ.n) (hf : Fresh σ) (hb : ∀ b ∈ bs, b ≠ σ.n) : newN n0 σ bs = true := by
  unfold newN
  rw [hf σ.n (Nat.le_refl _)]
  simp only [noneB, Bool.and_true, Bool.and_eq_true, Nat.ble_eq, List.all_eq_true, Bool.not_eq_true']
  refine ⟨hn, fun b h => ?_⟩
  rw [Bool.eq_false_iff]
  intro e
  exact hb b h (Nat.eq_of_beq_eq_true e)

theorem HP.headAt (h : HP σ S Y room turns words heads) (k : Nat) (hk : k < words.length) (g : Bool → Pg) (Q : Post) :
    Wp PROG ov0 (.act (ld1 (aadd (PA S) 3)) fun v => asSlice v fun p n _ => asSome p fun a => grd ((decide (0 ≤ (k : Int))) && (decide ((k : Int) < ((n : Nat) : Int)))) (.act (ld1 (aadd a ((Int.toNat (k : Int)) * 1))) fun v => asBool v g)) σ Q = Wp PROG ov0 (g (heads.getD k false)) σ Q := by
  obtain ⟨h0, cw, ch, h1, h2⟩ := h
  obtain ⟨pw, capw, ph, caph, a1, a2, a3, a4, a5, a6⟩ := h1.blk
  have hl := h1.len
  obtain ⟨off, s, rfl, hR⟩ := a3.rowOf (by intro e; have := congrArg List.length e; simp at this; subst this; simp at hl; omega)
  rw [wp_ldF a1 rfl, asSlice_slice]
  simp only [asSome_some]
  have e : ((decide (0 ≤ (k : Int))) && (decide ((k : Int) < ((heads.length : Nat) : Int)))) = true := by simp; omega
  rw [wp_grd, e, Int.toNat_natCast, wp_rowR (v := .bool (heads.getD k false)) hR (by simp [hl, hk, List.getD]), asBool_bool]
  simp

theorem HP.setWord (h : HP σ S Y room turns words heads) (k : Nat) (hk : k < words.length) (w : Int) {p : Pg} {Q : Post}
    (K : ∀ σ', Frm σ σ' (fun j => ¬ Y j) → HP σ' S Y room turns (words.set k w) heads → Wp PROG ov0 p σ' Q) :
    Wp PROG ov0 (.act (ld1 (aadd (PA S) 2)) fun v => asSlice v fun q n _ => asSome q fun a => grd ((decide (0 ≤ (k : Int))) && (decide ((k : Int) < ((n : Nat) : Int)))) (.act (stC (aadd a ((Int.toNat (k : Int)) * 1)) [.int .u64 w]) fun v => asTuple v fun l => asNil l p)) σ Q := by
  obtain ⟨h0, cw, ch, h1, h2⟩ := h
  obtain ⟨pw, capw, ph, caph, a1, a2, a3, a4, a5, a6⟩ := h1.blk
  obtain ⟨off, s, rfl, hR⟩ := a2.rowOf (by intro e; have := congrArg List.length e; simp at this; subst this; simp at hk)
  rw [wp_ldF a1 rfl, asSlice_slice]
  simp only [asSome_some]
  rw [wp_grd]
  refine ⟨by simp; omega, ?_⟩
  rw [Int.toNat_natCast]
  refine wp_rowW hR (by simpa using hk) rfl fun σ1 hF1 hn1 hR1 => ?_
  have e : (ints .u64 words).set k (.int .u64 w) = ints .u64 (words.set k w) := by simp [ints, List.map_set]
  rw [e] at hR1
  refine K σ1 (hF1.mono fun j _ e hy => (h2 j hy).2.1 e) ⟨fun i hi => Nat.lt_of_lt_of_le (h0 i hi) hF1.n, cw, ch, ⟨⟨_, capw, ph, caph, ?_, .inr ⟨off, s, rfl, hR1⟩, a3.frm hF1 (fun hp e => a6 (by simp) hp e.symm), a4, a5, a6⟩, by rw [List.length_set]; exact h1.len, Nat.lt_of_lt_of_le h1.lw hF1.n, Nat.lt_of_lt_of_le h1.lh hF1.n⟩, h2⟩
  rw [List.length_set]
  exact hF1.st a1 fun e => a4 (by simp) e.symm

theorem wp_collectK (h : HP σ S Y room turns words heads) (hf : Fresh σ) (htu : 0 ≤ turns ∧ turns ≤ 100000) (hl : words.length ≤ 100000) {ts : List (Int × List Int)} (hW : words = wOf ts) (hH : heads = hOf ts) (ht : ∀ t ∈ ts, splitOK t.1 = true ∧ (splitN t.1).toNat = t.2.length) (hb : ∀ x ∈ words, 0 ≤ x ∧ x < 18446744073709551616)
    {R c : Nat} {p : Option Addr} {rs : List Int} (hr : SlV σ R p c (ints .u64 rs)) (hrs : ∀ x ∈ rs, 0 ≤ x ∧ x < 18446744073709551616) (hrl : rs.length ≤ 100000) {Q : Value → AHeap → Prop}
    (hQ : ∀ σ' q ob qc, Frm σ σ' (fun j => ¬ Y j) → SlV σ' ob q qc (ints .u64 (rootsM words heads ⟨[], [], []⟩ rs).2) → (q ≠ none → σ.n ≤ ob) → HP σ' S (fun i => Y i ∨ (q ≠ none ∧ i = ob)) room (turns + 1) (scanM words heads words.length 0 (rootsM words heads ⟨[], [], []⟩ rs).1).w (scanM words heads words.length 0 (rootsM words heads ⟨[], [], []⟩ rs).1).h → Q (.slice q rs.length qc) σ') :
    WpF PROG ov0 14 [PV S, .slice p rs.length c] σ Q := by
  have hS := h.lt
  obtain ⟨h0, cw, ch, h1, h2⟩ := id h
  obtain ⟨pw, capw, ph, caph, a1, a2, a3, a4, a5, a6⟩ := h1.blk
  refine WpF.of (T14_eq _ _ _ _) rfl ?_
  rw [T14, wp_get]
  simp only [asSome_some]
  rw [wp_ldF a1 rfl, asInt_int, wp_ldF a1 rfl, asInt_int, wp_get, wp_grd, wi64_in (by omega)]
  refine ⟨newN_ok (Nat.le_refl _) hf (fun b hb => by cases hb), ?_⟩
  refine wp_newQ fun σ1 hF1 hn1 hS1 => ?_
  rw [wp_get, wp_get, wp_grd]
  refine ⟨newN_ok hF1.n (hF1.fr hf) (fun b hb => by simp at hb; omega), ?_⟩
  rw [wp_act]
  unfold makeMapAct
  simp only [asMap_map]
  have hF2 := Frm.newMap σ1 [] NoB
  have hn2 : (σ1.push (.map [])).n = σ1.n + 1 := rfl
  have hm2 : (σ1.push (.map [])).get σ1.n = some (.map []) := get_push_same _ _
  generalize σ1.push (.map []) = σ2 at hF2 hn2 hm2
  rw [wp_get, wp_get, wp_grd]
  refine ⟨newN_ok (by omega) (hF2.fr (hF1.fr hf)) (fun b hb => by simp at hb; omega), ?_⟩
  refine wp_newQ fun σ3 hF3 hn3 hS3 => ?_
  have hFa : Frm σ σ3 NoB := (hF1.seq hF2).seq hF3
  have hto := (hF2.seq hF3).stN hS1
  have hm3 : σ3.get σ1.n = some (.map []) := (hF3.get σ1.n (by omega) fun h => h).trans hm2
  rw [wp_get]
  have hcol : Col σ3 σ.n S σ.n σ2.n σ1.n NoB room turns (turns + 1) words heads ⟨[], [], []⟩ := by
    refine ⟨hFa.n, h.step hFa (fun i _ h => h.elim) fun i hi => ⟨hi.2, .inr hi.1⟩, ⟨fun i hi => ?_, σ.n, σ.n, ⟨⟨none, 0, none, 0, hto, .inl ⟨rfl, rfl, rfl⟩, .inl ⟨rfl, rfl, rfl⟩, fun h => absurd rfl h, fun h => absurd rfl h, fun h => absurd rfl h⟩, rfl, by omega, by omega⟩, fun i hi => ?_⟩, hS3, hm3, ⟨by omega, by omega⟩, fun i hi => hi.elim⟩
    · rcases hi with hi | rfl | rfl | hi
      · omega
      · omega
      · omega
      · exact hi.elim
    · rcases hi with hi | rfl | rfl | hi
      · omega
      · omega
      · omega
      · exact hi.elim
  have hinv0 : CInv words heads ts ⟨[], [], []⟩ := ⟨rfl, by simp [remF_nil, ← hW], (fun x hx => by cases hx), fun x hx => by cases hx⟩
  have hr3 := hFa.n
  refine Wp.count rs.length (fun j st σ' => ∃ q qc ob, st = [.int .i64 ((j : Nat) : Int), .slice q j qc] ∧ Frm σ σ' NoB ∧ Col σ' σ.n S σ.n σ2.n σ1.n (fun i => q ≠ none ∧ i = ob) room turns (turns + 1) words heads (rootsM words heads ⟨[], [], []⟩ (rs.take j)).1 ∧ CInv words heads ts (rootsM words heads ⟨[], [], []⟩ (rs.take j)).1 ∧ SlV σ' ob q qc (ints .u64 (rootsM words heads ⟨[], [], []⟩ (rs.take j)).2) ∧ (rootsM words heads ⟨[], [], []⟩ (rs.take j)).2.length = j ∧ (q ≠ none → σ.n ≤ ob))
    ⟨none, 0, 0, rfl, hFa, hcol.step (Frm.refl _ NoB) (fun _ _ h => h) (fun i hi => absurd rfl hi.1), hinv0, .inl ⟨rfl, rfl, rfl⟩, rfl, fun h => absurd rfl h⟩ ?_ ?_
  · rintro j st σ4 hj ⟨q, qc, ob, rfl, hF4, hC, hI, hq, hol, hob⟩
    have ej : wi64 ((j : Int) + 1) = ((j + 1 : Nat) : Int) := by rw [wi64_in (by omega)]; omega
    have hr4 := hr.frm hF4 fun _ h => h
    have hrj := hrs rs[j] (List.getElem_mem hj)
    have e0 : rs.getD j 0 = rs[j] := by simp [List.getD, hj]
    have hsn : rootsM words heads ⟨[], [], []⟩ (rs.take (j + 1)) = ((moveM words heads (rootsM words heads ⟨[], [], []⟩ (rs.take j)).1 rs[j]).1, (rootsM words heads ⟨[], [], []⟩ (rs.take j)).2 ++ [(moveM words heads (rootsM words heads ⟨[], [], []⟩ (rs.take j)).1 rs[j]).2]) := by
      rw [List.take_succ_eq_append_getElem hj, rootsM_snoc]
    have hmv := hI.move hW hH ht hb rs[j] hrj
    rw [hsn]
    generalize rootsM words heads ⟨[], [], []⟩ (rs.take j) = sx at hC hI hq hol hmv ⊢
    simp only [T14b0, asCons_cons, asInt_int, asSlice_slice, asNil_nil]
    rw [wp_bif, if_pos (by simp; omega), wp_join, wp_rdJ hr4.rdB.rd hj, e0, wp_call]
    refine wp_moved hC hW hH ht hl hI rs[j] hrj.1 fun σ5 hF5 hC5 => ?_
    have hq5 := hq.frm hF5 fun hp hn => hn.2.2 ⟨hp, rfl⟩
    have hF45 : Frm σ σ5 NoB := hF4.fresh hF5 fun i hi h => by omega
    rw [asInt_int]
    refine wp_app1 hq5 (by simp [hol]) rfl (by omega) (by omega) fun σ6 b6 off s c6 hF6 hb6 hR6 => ?_
    have hb6' : σ.n ≤ b6 := by
      rcases hb6 with ⟨hp, rfl⟩ | hb6
      · exact hob hp
      · have := hF45.n
        omega
    rw [wp_ret]
    simp only [T14k0, sw_same, asCons_cons, asSlice_slice, asNil_nil]
    rw [wp_ret, ej]
    refine ⟨some ⟨b6, off, some s⟩, c6, b6, rfl, hF45.fresh hF6 fun i hi h => by have := hob h.1; omega, hC5.step hF6 (fun i _ h => h) fun i hi => ?_, hmv.1, .inr ⟨off, s, rfl, ?_⟩, by simp [hol], fun _ => hb6'⟩
    · rw [hi.2]
      refine ⟨hR6.lt, ?_⟩
      rcases hb6 with ⟨hp, rfl⟩ | hb6
      · exact .inl ⟨hp, rfl⟩
      · exact .inr hb6
    · have e : ints .u64 (sx.2 ++ [(moveM words heads sx.1 rs[j]).2]) = ints .u64 sx.2 ++ [.int .u64 (moveM words heads sx.1 rs[j]).2] := by simp [ints]
      rw [e]
      exact hR6
  · rintro st σ4 ⟨q, qc, ob, rfl, hF4, hC, hI, hq, hol, hob⟩
    rw [List.take_length] at hC hI hq hol
    generalize rootsM words heads ⟨[], [], []⟩ rs = sx at hC hI hq hol hQ
    simp only [T14b0, asCons_cons, asInt_int, asSlice_slice, asNil_nil]
    rw [wp_bif, if_neg (by simp), wp_ret]
    simp only [T14k4, sw_same, asCons_cons, asInt_int, asSlice_slice, asNil_nil]
    have fin : ∀ σ5 (j : Nat) s, Frm σ σ5 NoB → Col σ5 σ.n S σ.n σ2.n σ1.n (fun i => q ≠ none ∧ i = ob) room turns (turns + 1) words heads s → SlV σ5 ob q qc (ints .u64 sx.2) → scanM words heads words.length 0 sx.1 = s → Wp PROG ov0 (T14k3 (PA σ2.n) (some (PA S)) q rs.length qc (.exit 2) [.int .i64 (j : Int)]) σ5 fun _ vs σ' => ∃ v, vs = [v] ∧ Q v σ' := by
      intro σ5 j s hF5 hC5 hq5 hsc
      obtain ⟨t0, tcw, tch, t1, t2⟩ := hC5.to
      obtain ⟨tpw, tcapw, tph, tcaph, b1, b2, b3, b4, b5, b6⟩ := t1.blk
      obtain ⟨s0, scw, sch, s1, s2⟩ := hC5.src
      obtain ⟨spw, scapw, sph, scaph, d1, _⟩ := s1.blk
      simp only [T14k3, sw_same, asCons_cons, asInt_int, asNil_nil]
      rw [wp_ldF hC5.mv rfl, asPtr_ptr]
      simp only [asSome_some]
      rw [wp_ldAll b1 4 rfl]
      simp only [asAgg_agg, asCons_cons, asInt_int, asSlice_slice, asNil_nil]
      refine wp_stQ d1 rfl rfl fun σ6 hF6 hn6 hS6 => ?_
      rw [wp_ret]
      have hF : Frm σ σ6 (· = S) := hF5.trans hF6 (fun _ _ h => h.elim) fun _ _ h => h
      have hSt : S ≠ tcw ∧ S ≠ tch := by
        have := t2 S (.inl hS)
        exact ⟨this.2.1, this.2.2⟩
      rw [hsc] at hQ
      refine ⟨_, rfl, hQ σ6 q ob qc (hF.mono fun j _ e hy => (h2 j hy).1 e) (hq5.frm hF6 fun hp e => by have := hob hp; omega) hob ⟨fun i hi => ?_, tcw, tch, ⟨⟨tpw, tcapw, tph, tcaph, hS6, b2.frm hF6 (fun _ e => hSt.1 e.symm), b3.frm hF6 (fun _ e => hSt.2 e.symm), fun _ e => hSt.1 e.symm, fun _ e => hSt.2 e.symm, b6⟩, t1.len, Nat.lt_of_lt_of_le t1.lw hF6.n, Nat.lt_of_lt_of_le t1.lh hF6.n⟩, fun i hi => ?_⟩⟩
      · rcases hi with hi | hi
        · exact Nat.lt_of_lt_of_le (h0 i hi) hF.n
        · have := hC5.to.1 i (.inr (.inr (.inr hi)))
          have := hF6.n
          omega
      · rcases hi with hi | hi
        · have := t2 i (.inl (h0 i hi))
          exact ⟨(h2 i hi).1, this.2.1, this.2.2⟩
        · have hx := t2 i (.inr (.inr (.inr hi)))
          have := hob hi.1
          refine ⟨by rw [hi.2]; omega, hx.2.1, hx.2.2⟩
    refine Wp.count words.length (fun j st σ' => ∃ s, st = [.int .i64 ((j : Nat) : Int)] ∧ Frm σ σ' NoB ∧ Col σ' σ.n S σ.n σ2.n σ1.n (fun i => q ≠ none ∧ i = ob) room turns (turns + 1) words heads s ∧ CInv words heads ts s ∧ SlV σ' ob q qc (ints .u64 sx.2) ∧ scanM words heads words.length 0 sx.1 = scanM words heads (words.length - j) j s) ⟨sx.1, rfl, hF4, hC, hI, hq, rfl⟩ ?_ ?_
    · rintro j st σ5 hj ⟨s, rfl, hF5, hC5, hI5, hq5, hsc⟩
      have hrem := hI5.rem
      have ej : wi64 ((j : Int) + 1) = ((j + 1 : Nat) : Int) := by rw [wi64_in (by omega)]; omega
      obtain ⟨t0, tcw, tch, t1, t2⟩ := id hC5.to
      obtain ⟨tpw, tcapw, tph, tcaph, b1, _⟩ := t1.blk
      have ef : scanM words heads (words.length - j) j s = if j < s.w.length then scanM words heads (words.length - (j + 1)) (j + 1) (stepM words heads j s) else s := by
        rw [show words.length - j = (words.length - (j + 1)) + 1 by omega]
        rfl
      simp only [T14b1, asCons_cons, asInt_int, asNil_nil]
      rw [wp_ldF hC5.mv rfl, asPtr_ptr]
      simp only [asSome_some]
      rw [wp_ldF b1 rfl, asSlice_slice, wp_bif]
      by_cases hjl : j < s.w.length
      · rw [if_pos hjl] at ef
        rw [if_pos (by simp; omega), wp_join, wp_ldF hC5.mv rfl, asPtr_ptr]
        simp only [asSome_some]
        rw [HP.headAt hC5.to j hjl, wp_join, wp_bif]
        have hst := hI5.step hW hH ht hb j hjl
        unfold stepM at ef hst
        cases hh : s.h.getD j false with
        | true =>
          rw [hh, if_pos rfl] at ef hst
          rw [if_neg (by simp), wp_ret]
          simp only [T14k1, sw_same, asNil_nil]
          rw [wp_ret]
          simp only [T14k2, sw_same, asNil_nil]
          rw [wp_ret, ej]
          exact ⟨s, rfl, hF5, hC5, hI5, hq5, hsc.trans ef⟩
        | false =>
          rw [hh, if_neg (by simp)] at ef hst
          have ew : s.w.getD j 0 = s.w[j] := by simp [List.getD, hjl]
          have hwb := hI5.nn _ (List.getElem_mem hjl)
          have hmvI := hI5.move hW hH ht hb (s.w.getD j 0) (by rw [ew]; exact hwb)
          rw [if_pos (by rfl), wp_ldF hC5.mv rfl, asPtr_ptr]
          simp only [asSome_some]
          rw [HP.wordAt hC5.to j hjl, wp_call]
          refine wp_moved hC5 hW hH ht hl hI5 (s.w.getD j 0) (by rw [ew]; exact hwb.1) fun σ6 hF6 hC6 => ?_
          have hml := moveM_len words heads s (s.w.getD j 0)
          generalize moveM words heads s (s.w.getD j 0) = mx at hC6 ef hst hmvI hml
          have hjl6 : j < mx.1.w.length := by omega
          have hq6 := hq5.frm hF6 fun hp hn => hn.2.2 ⟨hp, rfl⟩
          have hF56 : Frm σ σ6 NoB := hF5.fresh hF6 fun i hi h => by omega
          rw [asInt_int, wp_ldF hC6.mv rfl, asPtr_ptr]
          simp only [asSome_some]
          refine HP.setWord hC6.to j hjl6 mx.2 fun σ7 hF7 h7 => ?_
          rw [wp_ret]
          simp only [T14k1, sw_same, asNil_nil]
          rw [wp_ret]
          simp only [T14k2, sw_same, asNil_nil]
          rw [wp_ret, ej]
          have hn0 : ∀ i, ¬ (i < σ.n ∨ i = σ2.n ∨ i = σ1.n ∨ (q ≠ none ∧ i = ob)) → σ.n ≤ i := fun i hn => by
            by_cases hlt : i < σ.n
            · exact absurd (.inl hlt) hn
            · omega
          have hC7 : Col σ7 σ.n S σ.n σ2.n σ1.n (fun i => q ≠ none ∧ i = ob) room turns (turns + 1) words heads ⟨mx.1.w.set j mx.2, mx.1.h, mx.1.m⟩ :=
            ⟨Nat.le_trans hC6.n0 hF7.n, hC6.src.step hF7 (fun i hi hn => ⟨hn0 i hn, hi⟩) fun i hi => ⟨hi.2, by have := hC6.n0; omega⟩, h7, hF7.st hC6.mv fun hn => hn (.inr (.inl rfl)), (hF7.get σ1.n hC6.mlt fun hn => hn (.inr (.inr (.inl rfl)))).trans hC6.mp, hC6.am, hC6.e⟩
          exact ⟨_, rfl, hF56.fresh hF7 (fun i hi hn => by have := hn0 i hn; omega), hC7, hst, hq6.frm hF7 (fun hp hn => hn (.inr (.inr (.inr ⟨hp, rfl⟩)))), hsc.trans ef⟩
      · rw [if_neg hjl] at ef
        rw [if_neg (by simp; omega), wp_ret]
        exact fin σ5 j s hF5 hC5 hq5 (hsc.trans ef)
    · rintro st σ5 ⟨s, rfl, hF5, hC5, hI5, hq5, hsc⟩
      have hrem := hI5.rem
      obtain ⟨t0, tcw, tch, t1, t2⟩ := id hC5.to
      obtain ⟨tpw, tcapw, tph, tcaph, b1, _⟩ := t1.blk
      simp only [T14b1, asCons_cons, asInt_int, asNil_nil]
      rw [wp_ldF hC5.mv rfl, asPtr_ptr]
      simp only [asSome_some]
      rw [wp_ldF b1 rfl, asSlice_slice, wp_bif, if_neg (by simp; omega), wp_ret]
      rw [Nat.sub_self] at hsc
      exact fin σ5 _ s hF5 hC5 hq5 hsc
end
end Go.Pg
