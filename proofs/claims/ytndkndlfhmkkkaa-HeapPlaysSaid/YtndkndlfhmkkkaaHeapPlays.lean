/- Layer 12: the heap plays as the document says: the law's tree returns true for each room, each row of acts, each place. -/
import Derived.Test.YtndkndlfhmkkkaaHeap17
import Derived.Test.YtndkndlfhmkkkaaHAwake
namespace Go.Pg
open Go.Proofs

/-- The rows in a law's cells are old. -/
theorem oldS_P (W : World) : OldP (oldS W) := by
  intro a q n c h
  unfold oldS at h
  split at h
  · rename_i v hv
    cases hd : decide (a.block < W.heap.size) with
    | false => rw [hd] at h; cases h
    | true =>
      rw [hd, cond_true] at h
      unfold plainO at h
      split at h
      · cases h; rfl
      · obtain ⟨hc, e⟩ := bif_some h
        cases e
        simp only [Bool.and_eq_true] at hc
        simpa using hc.1
      · rename_i hx
        obtain ⟨hc, e⟩ := bif_some h
        exact absurd e (hx _ _ _)
  · cases h

theorem wp_ld7 {P : Program} {ov : Ov} {old : Addr → Option Value} {σ : AHeap} (ho : σ.old = old) {a : Addr} {v0 : Value} {vs : List Value} (h : ∀ i v, (v0 :: vs)[i]? = some v → Cl old (aadd a i) v) (n : Nat) (hn : n = (v0 :: vs).length) (g : Value → Pg) (Q : Post) :
    Wp P ov (.act (ldN n a) g) σ Q = Wp P ov (g (.agg (v0 :: vs).toArray)) σ Q := by
  subst hn
  have hs : a.spot = none := (h 0 v0 rfl).old.1
  obtain ⟨b, o, s⟩ := a
  simp only at hs
  subst hs
  have e := oldN_all (old := old) (b := b) (v0 :: vs) o fun i v hv => (h i v hv).old.2
  have e2 : ldN (v0 :: vs).length ⟨b, o, none⟩ σ = some (.agg (v0 :: vs).toArray, σ) := by
    unfold ldN AHeap.rdN
    simp only [ho, e]
  rw [wp_act, e2]

theorem rootsM_len' (W : List Int) (H : List Bool) (s : CS) (rs : List Int) : (rootsM W H s rs).2.length = rs.length := by
  unfold rootsM
  have g : ∀ (rs : List Int) (a : CS × List Int), (rs.foldl (fun a r => ((moveM W H a.1 r).1, a.2 ++ [(moveM W H a.1 r).2])) a).2.length = a.2.length + rs.length := by
    intro rs
    induction rs with
    | nil => intro a; rfl
    | cons r rs ih =>
      intro a
      rw [List.foldl_cons, ih]
      simp
      omega
  have := g rs (s, [])
  simpa using this

theorem setM_VH {W : List Int} {H : List Bool} (h : VH W H) (p i w : Int) (hw : 0 ≤ w ∧ w < 18446744073709551616) : VH (setM W H p i w).2 H ∧ (setM W H p i w).2.length = W.length := by
  unfold setM
  by_cases hp : plB H p = true
  · rw [if_pos hp]
    by_cases hi : 0 ≤ i ∧ i < splitN (W.getD (atI p).toNat 0) ∧ mayB H w = true
    · rw [if_pos hi]
      obtain ⟨i1, i2, i3⟩ := hi
      exact ⟨h.set p hp i.toNat (by omega) w i3 hw, by simp⟩
    · rw [if_neg hi]
      exact ⟨h, rfl⟩
  · rw [if_neg hp]
    exact ⟨h, rfl⟩

/-- The heap and the document's, side by side. -/
structure Duo (σ : AHeap) (S Z : Nat) (Yp Yq : Nat → Prop) (room tp tq : Int) (W : List Int) (H : List Bool) (W3 : List Int) : Prop where
  p : HP σ S Yp room tp W H
  q : RP σ Z Yq room tq W3
  c : ∀ i, i < σ.n → ¬ Yp i → Yq i

section
variable {σ σ' : AHeap} {S Z : Nat} {Yp Yq : Nat → Prop} {room tp tq : Int} {W W3 : List Int} {H : List Bool}
theorem Duo.neutral (h : Duo σ S Z Yp Yq room tp tq W H W3) (k : Frm σ σ' NoB) : Duo σ' S Z (fun i => Yp i ∨ (σ.n ≤ i ∧ i < σ'.n)) (fun i => Yq i ∨ (σ.n ≤ i ∧ i < σ'.n)) room tp tq W H W3 := by
  have hn := k.n
  refine ⟨h.p.step k (fun i _ h => h.elim) fun i hi => ?_, h.q.step k (fun i _ h => h.elim) fun i hi => ?_, fun i hi hn => ?_⟩
  · rcases hi with hi | hi
    · exact ⟨Nat.lt_of_lt_of_le (h.p.1 i hi) hn, .inl hi⟩
    · exact ⟨hi.2, .inr hi.1⟩
  · rcases hi with hi | hi
    · exact ⟨Nat.lt_of_lt_of_le (h.q.1 i hi) hn, .inl hi⟩
    · exact ⟨hi.2, .inr hi.1⟩
  · by_cases hlt : i < σ.n
    · exact .inl (h.c i hlt fun hy => hn (.inl hy))
    · exact absurd (.inr ⟨by omega, hi⟩) hn
theorem Duo.opP {tp' : Int} {W' : List Int} {H' : List Bool} (h : Duo σ S Z Yp Yq room tp tq W H W3) (k : Frm σ σ' (fun j => ¬ Yp j)) (h' : HP σ' S Yp room tp' W' H') : Duo σ' S Z Yp (fun i => Yq i ∨ (σ.n ≤ i ∧ i < σ'.n)) room tp' tq W' H' W3 := by
  have hn := k.n
  refine ⟨h', h.q.step k (fun i hi hn => h.c i hi hn) fun i hi => ?_, fun i hi hn => ?_⟩
  · rcases hi with hi | hi
    · exact ⟨Nat.lt_of_lt_of_le (h.q.1 i hi) hn, .inl hi⟩
    · exact ⟨hi.2, .inr hi.1⟩
  · by_cases hlt : i < σ.n
    · exact .inl (h.c i hlt hn)
    · exact .inr ⟨by omega, hi⟩
theorem Duo.opQ {tq' : Int} {W' : List Int} (h : Duo σ S Z Yp Yq room tp tq W H W3) (k : Frm σ σ' (fun j => ¬ Yq j)) (h' : RP σ' Z Yq room tq' W') : Duo σ' S Z (fun i => Yp i ∨ (σ.n ≤ i ∧ i < σ'.n)) Yq room tp tq' W H W' := by
  have hn := k.n
  refine ⟨h.p.step k (fun i hi hn => ?_) fun i hi => ?_, h', fun i hi hn => ?_⟩
  · exact Classical.byContradiction fun hp => hn (h.c i hi hp)
  · rcases hi with hi | hi
    · exact ⟨Nat.lt_of_lt_of_le (h.p.1 i hi) hn, .inl hi⟩
    · exact ⟨hi.2, .inr hi.1⟩
  · by_cases hlt : i < σ.n
    · exact h.c i hlt fun hy => hn (.inl hy)
    · exact absurd (.inr ⟨by omega, hi⟩) hn

/-- What the law looks at behind each call. -/
theorem wp_k3 {tu : Int} (h : Duo σ S Z Yp Yq room tu tu W H W) (hV : VH W H) (hl : W.length ≤ 100000) (p at' : Int) (hp : 0 ≤ p ∧ p < 18446744073709551616) {Q : Post} (hQ : ∀ σ', Frm σ σ' NoB → Q .normal [.bool false] σ') :
    Wp PROG ov0 (T4k3 (some (PA S)) p at' (PA Z) false .normal [.bool true]) σ Q := by
  obtain ⟨ts, hW, hH, ht, hm, hb⟩ := hV
  obtain ⟨hP, hR, _⟩ := h
  obtain ⟨_, cw, pw, capw, a1, a2, a3, a4, a5⟩ := id hR
  have ld1e : ∀ v, [Value.int .i64 room, .slice pw W.length capw, .int .i64 tu][1]? = some v → ld1 (aadd (PA Z) 1) σ = some (v, σ) := fun v hv => a1.ldF hv
  have ld2e : ∀ v, [Value.int .i64 room, .slice pw W.length capw, .int .i64 tu][2]? = some v → ld1 (aadd (PA Z) 2) σ = some (v, σ) := fun v hv => a1.ldF hv
  simp only [T4k3, sw_same, asCons_cons, asBool_bool, asNil_nil]
  rw [wp_call, WpF.eq (ev_get22 hP hW hH ht hl p at' hp.1)]
  simp only [asTuple_tuple, asCons_cons, asInt_int, asNil_nil]
  rw [wp_call, WpF.eq (ev_get23 hR hW ht hl hb p at' hp), ← hH]
  simp only [asTuple_tuple, asCons_cons, asInt_int, asNil_nil]
  rw [wp_call, WpF.eq (ev_head24 hP hW hH ht p hp.1)]
  simp only [asTuple_tuple, asCons_cons, asInt_int, asNil_nil]
  rw [wp_call, WpF.eq (ev_head25 hR hW ht hl hb p hp), ← hH]
  simp only [asTuple_tuple, asCons_cons, asInt_int, asNil_nil]
  rw [wp_join, wp_bif, if_pos (by rfl), wp_bif, if_pos (by simp), wp_bif, if_pos (by simp), wp_bif, if_pos (by simp), wp_bif, if_pos (by simp), wp_bif, if_pos (by simp), wp_bif, if_pos (by simp)]
  rw [wp_get, wp_call, WpF.eq (ev_used hP), asInt_int, wp_ldF a1 rfl, wp_grd]
  refine ⟨past_ok (ld1e _ rfl), ?_⟩
  rw [asSlice_slice, wp_bif, if_pos (by simp), wp_get, wp_call, WpF.eq (ev_turns hP), asInt_int, wp_ldF a1 rfl, wp_grd]
  refine ⟨past_ok (ld2e _ rfl), ?_⟩
  rw [asInt_int, wp_bif, if_pos (by simp), wp_call]
  refine wp_putB hP hl fun σ1 b1 p1 c1 hF1 hR1 hb1 => ?_
  rw [asSlice_slice, wp_b2s hR1, asStr_str, wp_call]
  have hR' := hR.step (Y' := NoB) hF1 (fun i _ h => h.elim) (fun i hi => hi.elim)
  refine wp_putR hR' hl fun σ2 b2 p2 c2 hF2 hR2 hb2 => ?_
  have hR1' := hR1.frm hF2 fun _ h => h
  rw [asSlice_slice, wp_get, wp_grd]
  refine ⟨chks_one (b2s_act hR1'), ?_⟩
  rw [wp_b2s hR2, asStr_str, wp_ret]
  have e : (!((strB (putB room tu W)).toList == (strB (putB room tu W)).toList)) = false := by simp
  rw [e]
  simp only [T4k2, sw_same, asCons_cons, asBool_bool, asNil_nil]
  rw [wp_bif, if_neg (by simp), wp_ret]
  exact hQ σ2 (hF1.seq hF2)
end

/-- What stands behind each call. -/
def Plays (old : Addr → Option Value) (S Z : Nat) (room : Int) (j : Nat) (σ : AHeap) : Prop :=
  σ.old = old ∧ Fresh σ ∧ ∃ (W : List Int) (H : List Bool) (tu : Int) (Yp Yq : Nat → Prop), Duo σ S Z Yp Yq room tu tu W H W ∧ VH W H ∧ (W.length : Int) ≤ room ∧ 0 ≤ tu ∧ tu ≤ (j : Int)

theorem heapPlays_law (room : Int) (_ : (Lit.int .i64 room).wf = true) (p0 : Option Addr) (c0 : Nat) (l : List (Sh.D shAct)) (p : Int) (wp : (Lit.int .u64 p).wf = true) (at' : Int) (_ : (Lit.int .i64 at').wf = true) (old : Addr → Option Value) (rd : RdR old 7 shAct p0 l) (ok : (Sh.row 7 shAct).ok l) (hO : OldP old) :
    WpF PROG ov0 4 [.int .i64 room, .slice p0 l.length c0, .int .u64 p, .int .i64 at'] (startH old) fun v _ => v = .bool true := by
  have hp := u64_bnd p wp
  refine WpF.of (T4_eq _ _ _ _ _ _) rfl ?_
  rw [T4, wp_call]
  refine WpF.mono (awake12 old) ?_
  rintro v σ0 ⟨rfl, ho0, hf0⟩
  simp only [asBool_bool]
  rw [wp_bif, if_neg (by simp), wp_call]
  by_cases hr : room < 16 ∨ room > 65536
  · rw [WpF.eq (ev_new_no room hr)]
    simp only [asTuple_tuple, asCons_cons, asPtr_ptr, asInt_int, asNil_nil]
    rw [wp_bif, if_pos (by simp; omega), wp_ret]
    exact ⟨_, rfl, rfl⟩
  refine wp_newH (Y := fun i => i < σ0.n) room (by omega) (fun i hi => hi) fun σ1 hF1 h1 => ?_
  simp only [asTuple_tuple, asCons_cons, asPtr_ptr, asInt_int, asNil_nil]
  rw [wp_bif, if_neg (by simp; omega), wp_join, wp_bif, if_pos (by rfl), wp_ret]
  by_cases h40 : l.length > 40
  · rw [show decide (((l.length : Nat) : Int) > 40) = true by simp; omega]
    simp only [T4k6, sw_same, asCons_cons, asBool_bool, asNil_nil]
    rw [wp_bif, if_pos (by rfl), wp_ret]
    exact ⟨_, rfl, rfl⟩
  rw [show decide (((l.length : Nat) : Int) > 40) = false by simp; omega]
  simp only [T4k6, sw_same, asCons_cons, asBool_bool, asNil_nil]
  rw [wp_bif, if_neg (by simp)]
  refine wp_newQ fun σ2 hF2 hn2 hS2 => ?_
  have hn1 := hF1.n
  have start : Plays old σ0.n σ1.n room 0 σ2 := by
    refine ⟨hF2.old.trans (hF1.old.trans ho0), hF2.fr (hF1.fr hf0), [], [], 0, fun i => i < σ0.n ∨ i = σ1.n, fun i => i < σ1.n, ⟨h1.step hF2 (fun i _ h => h.elim) fun i hi => ?_, ⟨fun i hi => by omega, σ1.n, none, 0, hS2, .inl ⟨rfl, rfl, rfl⟩, fun h => absurd rfl h, by omega, fun i hi => by omega⟩, fun i hi hn => by omega⟩, VH.nil, by simp; omega, by omega, by omega⟩
    rcases hi with hi | hi
    · exact ⟨by omega, .inl hi⟩
    · exact ⟨by omega, .inr (by omega)⟩
  generalize σ0.n = S at start
  generalize σ1.n = Z at start
  refine Wp.count l.length (fun j st σ' => st = [.int .i64 ((j : Nat) : Int), .bool false] ∧ Plays old S Z room j σ') ⟨rfl, start⟩ ?_ ?_
  · rintro j st σ3 hj ⟨rfl, ho3, hf3, W, H, tu, Yp, Yq, hD, hV, hL, ht0, htj⟩
    have ej : wi64 ((j : Int) + 1) = ((j + 1 : Nat) : Int) := by rw [wi64_in (by omega)]; omega
    have okj := ok.2 l[j] (List.getElem_mem hj)
    obtain ⟨x, rfl, r0, r1, r2, r3, r4, r5, r6, _⟩ := rd j hj
    obtain ⟨_, _, _, _, ok4, ok5, okW, _⟩ := okj
    generalize l[j] = d at r0 r1 r2 r3 r4 r5 r6 ok4 ok5 okW
    obtain ⟨op, kd, tg, ii, pp, xx, ws, _⟩ := d
    simp only at r0 r1 r2 r3 r4 r5 r6 ok4 ok5 okW
    obtain ⟨xp, xc, r6, rW⟩ := r6
    have hwX : ∀ w ∈ ws, 0 ≤ w ∧ w < 18446744073709551616 := fun w hw => u64_bnd w (okW.2 w hw)
    have hpp := u64_bnd pp ok4
    have hxx := u64_bnd xx ok5
    have hOR : OldR old xp xc ws := RdR.oldR hO r6 rW
    simp only [T4b0, asCons_cons, asInt_int, asBool_bool, asNil_nil, asSome_some]
    rw [wp_bif, if_pos (by simp; omega), wp_join, wp_grdJ hj, Int.toNat_natCast]
    rw [wp_ld7 ho3 (v0 := .int .i64 op) (vs := [.int .i64 kd, .int .i64 tg, .int .i64 ii, .int .u64 pp, .int .u64 xx, .slice xp ws.length xc]) (fun i v hv => by
      match i, hv with
      | 0, hv => cases hv; exact r0
      | 1, hv => cases hv; exact r1
      | 2, hv => cases hv; exact r2
      | 3, hv => cases hv; exact r3
      | 4, hv => cases hv; exact r4
      | 5, hv => cases hv; exact r5
      | 6, hv => cases hv; exact r6
      | i + 7, hv => simp at hv) 7 rfl]
    simp only [asAgg_agg, asCons_cons, asInt_int, asSlice_slice, asNil_nil]
    refine wp_newQ fun σ4 hF4 hn4 hS4 => ?_
    refine wp_stQ hS4 rfl rfl fun σ5 hF5 hn5 hX5 => ?_
    have hF35 : Frm σ3 σ5 NoB := hF4.fresh hF5 fun i hi e => by omega
    have hf5 := hF35.fr hf3
    have ho5 := hF35.old.trans ho3
    have hd5 := hD.neutral hF35
    have hn35 : σ5.n = σ3.n + 1 := by omega
    have hex : ∃ Yp Yq : Nat → Prop, Duo σ5 S Z Yp Yq room tu tu W H W ∧ Yp σ3.n ∧ Yq σ3.n := ⟨_, _, hd5, .inr ⟨Nat.le_refl _, by omega⟩, .inr ⟨Nat.le_refl _, by omega⟩⟩
    clear hd5 hD hS4
    clear Yp Yq
    obtain ⟨Yp, Yq, hD, hBp, hBq⟩ := hex
    generalize σ3.n = B at hX5 hBp hBq
    rw [wp_ldF hX5 rfl, asSlice_slice, wp_bif]
    by_cases h20 : ws.length > 20
    · rw [if_pos (by simp; omega), wp_ret]
      simp only [T4k4, sw_same, asCons_cons, asBool_bool, asNil_nil]
      rw [wp_ret]
      simp only [T4k5, sw_re, sw_same, asCons_cons, asInt_int, asBool_bool, asNil_nil]
      rw [wp_ret]
      exact ⟨_, rfl, rfl⟩
    rw [if_neg (by simp; omega), wp_ldF hX5 rfl, asInt_int, wp_join]
    refine Wp.mono _ _ (fun e vs σ' => e = .normal ∧ vs = [.bool true] ∧ Plays old S Z room (j + 1) σ') _ ?_ ?_
    · rintro e vs σ6 ⟨rfl, rfl, ho6, hf6, W6, H6, tu6, Yp6, Yq6, hD6, hV6, hL6, ht6, htj6⟩
      refine wp_k3 hD6 hV6 (by omega) p at' hp fun σ7 hF7 => ?_
      simp only [T4k4, sw_nr, sw_same, asCons_cons, asBool_bool, asNil_nil]
      rw [wp_ret, ej]
      exact ⟨rfl, hF7.old.trans ho6, hF7.fr hf6, W6, H6, tu6, _, _, hD6.neutral hF7, hV6, hL6, ht6, htj6⟩
    have hrdX : ∀ σ σ', σ.old = old → Frm σ σ' NoB → RdI σ' .u64 xp ws := fun σ σ' ho hF => RdR.ints (old := old) rW σ' (hF.old.trans ho)
    obtain ⟨ts, hW, hH, hT, hMy, hBd⟩ := id hV
    rw [wp_join, wp_bif]
    by_cases h0 : op = 0
    · rw [if_pos (by simp [h0]), wp_ldF hX5 rfl, asInt_int, wp_ldF hX5 rfl, asInt_int, wp_ldF hX5 rfl, asSlice_slice, wp_call]
      refine wp_back15 (fun σ' hF => hrdX σ5 σ' ho5 hF) (by omega) xc fun σ6 R6 p6 c6 hF6 hR6 hb6 => ?_
      have hX6 := hF6.stN hX5
      have ho6 := hF6.old.trans ho5
      have t6 := hD.neutral hF6
      rw [asSlice_slice, wp_get, wp_grd]
      refine ⟨by
        have e1 : ld1 (aadd (PA B) 2) σ6 = some (.int .i64 tg, σ6) := hX6.ldF rfl
        have e2 : ld1 (aadd (PA B) 1) σ6 = some (.int .i64 kd, σ6) := hX6.ldF rfl
        simp only [chks, chkAt, e1, e2, eqv_same, Bool.and_true], ?_⟩
      rw [wp_call]
      have hlt6 : p6 ≠ none → σ5.n ≤ R6 ∧ R6 < σ6.n := fun hp => by
        cases p6 with
        | none => exact absurd rfl hp
        | some a => exact ⟨hb6 hp, hR6.lt⟩
      refine wp_makeF t6.p hR6 (fun hp => .inr (hlt6 hp)) (fun w h => (hwX w h).1) (by omega) (by omega) (by omega) kd tg fun σ7 hF7 h7 => ?_
      have t7 := t6.opP hF7 h7
      have hX7 := hF7.st hX6 fun hn => hn (.inl hBp)
      have ho7 := hF7.old.trans ho6
      simp only [asTuple_tuple, asCons_cons, asInt_int, asNil_nil]
      rw [wp_ldF hX7 rfl, asInt_int, wp_ldF hX7 rfl, asInt_int, wp_ldF hX7 rfl, asSlice_slice, wp_call]
      refine wp_makeR t7.q hW hT (by omega) hBd (by rw [ho7]; exact hOR) hwX (by omega) (by omega) kd tg fun σ8 hF8 h8 => ?_
      rw [← hH] at h8 ⊢
      have t8 := t7.opQ hF8 h8
      simp only [asTuple_tuple, asCons_cons, asInt_int, asNil_nil]
      obtain ⟨mV, mL, _⟩ := makeM_ok hV hL kd tg ws hwX
      rw [wp_ret]
      simp only [T4k1, sw_same, asCons_cons, asBool_bool, asNil_nil]
      rw [wp_ret]
      exact ⟨rfl, by simp, hF8.old.trans ho7, hF8.fr (hF7.fr (hF6.fr hf5)), _, _, tu, _, _, t8, mV, mL, ht0, by omega⟩
    rw [if_neg (by simp [h0]), wp_join, wp_bif]
    by_cases h1 : op = 1
    · rw [if_pos (by simp [h1]), wp_ldF hX5 rfl, asInt_int, wp_ldF hX5 rfl, asInt_int, wp_ldF hX5 rfl, asInt_int, wp_get, wp_call]
      refine wp_set17 hD.p hW hH hT (by omega) pp ii xx hpp.1 hxx.1 fun σ6 hF6 h6 => ?_
      have t6 := hD.opP hF6 h6
      have hX6 := hF6.st hX5 fun hn => hn hBp
      have ho6 := hF6.old.trans ho5
      rw [asInt_int, wp_ldF hX6 rfl, wp_grd]
      refine ⟨past_ok (hX5.ldF rfl), ?_⟩
      rw [asInt_int, wp_ldF hX6 rfl, wp_grd]
      refine ⟨past_ok (hX5.ldF rfl), ?_⟩
      rw [asInt_int, wp_ldF hX6 rfl, wp_grd]
      refine ⟨past_ok (hX5.ldF rfl), ?_⟩
      rw [asInt_int, wp_call]
      refine wp_set18 t6.q hW hT (by omega) hBd pp ii xx hpp hxx fun σ7 hF7 h7 => ?_
      rw [← hH] at h7 ⊢
      have t7 := t6.opQ hF7 h7
      obtain ⟨mV, mL⟩ := setM_VH hV pp ii xx hxx
      rw [asInt_int, wp_ret]
      simp only [T4k0, sw_same, asCons_cons, asBool_bool, asNil_nil]
      rw [wp_ret]
      simp only [T4k1, sw_same, asCons_cons, asBool_bool, asNil_nil]
      rw [wp_ret]
      exact ⟨rfl, by simp, hF7.old.trans ho6, hF7.fr (hF6.fr hf5), _, _, tu, _, _, t7, mV, by omega, ht0, by omega⟩
    rw [if_neg (by simp [h1]), wp_ldF hX5 rfl, asSlice_slice, wp_get, wp_call]
    refine wp_back15 (fun σ' hF => hrdX σ5 σ' ho5 hF) (by omega) xc fun σ6 R6 p6 c6 hF6 hR6 hb6 => ?_
    have hX6 := hF6.stN hX5
    have ho6 := hF6.old.trans ho5
    have hf6 := hF6.fr hf5
    have t6 := hD.neutral hF6
    rw [asSlice_slice, wp_get, wp_call]
    have hWl : W.length ≤ 100000 := by omega
    refine wp_collectK (rs := ws) t6.p hf6 (by omega) hWl hW hH hT hBd hR6 hwX (by omega) fun σ7 q7 ob7 qc7 hF7 hR7 hob7 h7 => ?_
    have h7' := h7.step (Y' := fun i => Yp i ∨ (σ5.n ≤ i ∧ i < σ6.n)) (Frm.refl σ7 NoB) (fun i _ h => h.elim) fun i hi => ⟨h7.1 i (.inl hi), .inl (.inl hi)⟩
    have t7 := t6.opP hF7 h7'
    have hX7 := hF7.st hX6 fun hn => hn (.inl hBp)
    have ho7 := hF7.old.trans ho6
    have hf7 := hF7.fr hf6
    have hout := rootsM_len' W H ⟨[], [], []⟩ ws
    rw [asSlice_slice, wp_get, wp_call, ← hout]
    refine wp_words20 (fun σ' hF => (hR7.rdB.frm hF fun _ h => h).rd) (by rw [hout]; omega) qc7 fun σ8 b8 p8 c8 hF8 hR8 hb8 => ?_
    have t8 := t7.neutral hF8
    have hX8 := hF8.stN hX7
    have ho8 := hF8.old.trans ho7
    rw [asSlice_slice, wp_ldF hX8 rfl, wp_grd]
    refine ⟨by
      have e1 : ld1 (aadd (PA B) 6) σ7 = some (.slice xp ws.length xc, σ7) := hX7.ldF rfl
      have e2 : ld1 (aadd (PA B) 6) σ6 = some (.slice xp ws.length xc, σ6) := hX6.ldF rfl
      have e3 : ld1 (aadd (PA B) 6) σ5 = some (.slice xp ws.length xc, σ5) := hX5.ldF rfl
      simp only [past, chkAt, e1, e2, e3, eqv_same, Bool.and_true], ?_⟩
    rw [asSlice_slice, wp_call]
    refine wp_collectR t8.q (hF8.fr hf7) (by omega) hWl hW hT hBd (by rw [ho8]; exact hOR) hwX (by omega) fun σ9 q9 ob9 qc9 hF9 hR9 hob9 h9 => ?_
    rw [← hH] at h9 hR9
    have h9'' := h9.step (Y' := fun i => ((Yq i ∨ (σ5.n ≤ i ∧ i < σ6.n)) ∨ (σ6.n ≤ i ∧ i < σ7.n)) ∨ (σ7.n ≤ i ∧ i < σ8.n)) (Frm.refl σ9 NoB) (fun i _ h => h.elim) fun i hi => ⟨h9.1 i (.inl hi), .inl (.inl hi)⟩
    have t9 := t8.opQ hF9 h9''
    have hR8' := hR8.frm hF9 fun hp hn => hn (.inr ⟨hb8 hp, by
      cases p8 with
      | none => exact absurd rfl hp
      | some a => exact hR8.lt⟩)
    rw [asSlice_slice, wp_call, ← hout, WpF.eq (ev_same19 hR8'.rdB.rd hR9.rdB.rd (by rw [hout]; omega) c8 qc9), asBool_bool, wp_ret]
    simp only [T4k0, sw_same, asCons_cons, asBool_bool, asNil_nil]
    rw [wp_ret]
    simp only [T4k1, sw_same, asCons_cons, asBool_bool, asNil_nil]
    rw [wp_ret]
    obtain ⟨cV, cL, _⟩ := collect_VH hW hH hT hMy hBd hWl ws hwX
    exact ⟨rfl, rfl, hF9.old.trans ho8, hF9.fr (hF8.fr hf7), _, _, tu + 1, _, _, t9, cV, by omega, by omega, by omega⟩
  · rintro st σ3 ⟨rfl, _⟩
    simp only [T4b0, asCons_cons, asInt_int, asBool_bool, asNil_nil]
    rw [wp_bif, if_neg (by simp), wp_ret]
    simp only [T4k5, sw_same, asCons_cons, asInt_int, asBool_bool, asNil_nil]
    rw [wp_ret]
    exact ⟨_, rfl, rfl⟩
end Go.Pg
