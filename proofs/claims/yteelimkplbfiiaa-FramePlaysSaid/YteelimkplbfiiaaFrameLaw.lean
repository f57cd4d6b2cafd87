/- Layer 17: FramePlays: the law. -/
import Derived.Test.YteelimkplbfiiaaFramePlays
namespace Go.Pg
open Go.Proofs

def PlO (old : Addr → Option Value) (S Z room : Nat) (σ : AHeap) : Prop := σ.old = old ∧ Fresh σ ∧ ∃ vs Yp Yq, Duo σ S Z room Yp Yq vs vs

theorem framePlays_law (room : Int) (_ : (Lit.int .i64 room).wf = true) (p1 : Option Addr) (c1 : Nat) (l : List shAct.D) (at' : Int) (_ : (Lit.int .i64 at').wf = true) (old : Addr → Option Value) (rd : RdR old 6 shAct p1 l) (_ : (Sh.row 6 shAct).ok l) (hO : ∀ a q n c, old a = some (.slice (some q) n c) → q.spot = none ∧ n ≤ c) :
    WpF PROG ov0 6 [.int .i64 room, .slice p1 l.length c1, .int .i64 at'] (startH old) fun v _ => v = .bool true := by
  refine WpF.of (T6_eq _ _ _ _ _) rfl ?_
  rw [T6, wp_call]
  refine wp_awake17 _ fun σ0 hF0 => ?_
  have ho0 : σ0.old = old := hF0.old
  have hf0 : Fresh σ0 := hF0.fr (Fresh.start old)
  simp only [asBool_bool]
  rw [wp_bif, if_neg (by simp), wp_call]
  by_cases hr : room < 16 ∨ room > 4096
  · refine WpF.of (T8_eq _) rfl ?_
    rw [T8, wp_bif, if_pos (by simp; omega), wp_ret]
    refine ⟨_, rfl, ?_⟩
    simp only [asTuple_tuple, asCons_cons, asPtr_ptr, asInt_int, asNil_nil]
    rw [wp_bif, if_pos (by simp; omega), wp_ret]
    exact ⟨_, rfl, rfl⟩
  obtain ⟨R, rfl⟩ : ∃ R : Nat, room = (R : Int) := ⟨room.toNat, by omega⟩
  refine wp_newK (Y := fun i => i < σ0.n) R (by omega) (fun i hi => hi) fun σ1 hF1 h1 => ?_
  simp only [asTuple_tuple, asCons_cons, asPtr_ptr, asInt_int, asNil_nil]
  rw [wp_bif, if_neg (by simp; omega), wp_join, wp_bif, if_pos (by rfl), wp_ret]
  simp only [T6k10, sw_same, asCons_cons, asBool_bool, asNil_nil]
  rw [wp_bif]
  by_cases h60 : 60 < l.length
  · rw [if_pos (by simp; omega), wp_ret]
    exact ⟨_, rfl, rfl⟩
  rw [if_neg (by simp; omega)]
  refine wp_newQ fun σ2 hF2 hn2 hS2 => ?_
  have hn1 := hF1.n
  have hSlt : σ0.n < σ1.n := by
    obtain ⟨c, hS⟩ := h1.nil
    exact hS.lt
  have start : PlO old σ0.n σ1.n R σ2 := by
    refine ⟨hF2.old.trans (hF1.old.trans ho0), hF2.fr (hF1.fr hf0), [], fun i => i < σ0.n ∨ i = σ1.n, fun i => i < σ1.n, ⟨h1.step hF2 (fun i _ h => h.elim) fun i hi => ?_, ⟨fun i hi => by omega, Nat.zero_le _, by omega, σ1.n, none, 0, 0, [], ⟨hS2, .inl ⟨rfl, rfl, rfl⟩, Nat.le_refl _, fun h => absurd rfl h, (fun f hf => by cases hf), (fun f hf => by cases hf), .nil, fun f hf => by cases hf⟩, rfl, fun h => by omega, fun h => absurd rfl h, fun f hf => by cases hf⟩, fun i hi hn => ?_⟩⟩
    · rcases hi with hi | hi
      · exact ⟨by omega, .inl hi⟩
      · exact ⟨by omega, .inr (by omega)⟩
    · by_cases he : i = σ1.n
      · exact absurd (.inr he) hn
      · omega
  generalize σ0.n = S at start
  generalize σ1.n = Z at start
  refine Wp.count l.length (fun j st σ' => st = [.int .i64 ((j : Nat) : Int), .bool false] ∧ PlO old S Z R σ') ⟨rfl, start⟩ ?_ ?_
  · rintro j st σ3 hj ⟨rfl, ho3, hf3, vs, Yp, Yq, hD⟩
    have ej : wi64 ((j : Int) + 1) = ((j + 1 : Nat) : Int) := by rw [wi64_in (by omega)]; omega
    obtain ⟨x, rfl, r0, r1, r2, r3, r4, r5, _⟩ := rd j hj
    generalize l[j] = d at r0 r1 r2 r3 r4 r5
    obtain ⟨op', a', b', n', w', L, _⟩ := d
    obtain ⟨op, rfl⟩ : ∃ x : Int, x = op' := ⟨_, rfl⟩
    obtain ⟨a, rfl⟩ : ∃ x : Int, x = a' := ⟨_, rfl⟩
    obtain ⟨b, rfl⟩ : ∃ x : Int, x = b' := ⟨_, rfl⟩
    obtain ⟨n, rfl⟩ : ∃ x : Int, x = n' := ⟨_, rfl⟩
    obtain ⟨w, rfl⟩ : ∃ x : Int, x = w' := ⟨_, rfl⟩
    obtain ⟨L, rfl⟩ : ∃ x : List Int, x = L := ⟨_, rfl⟩
    simp only at r0 r1 r2 r3 r4 r5
    obtain ⟨xp, xc, r5, rL⟩ := r5
    have hsp : ∀ q, xp = some q → q.spot = none ∧ L.length ≤ xc := by
      rintro q rfl
      exact hO _ _ _ _ r5.old.2
    have hsrc : Src old xp L := RdR.src (fun q hq => (hsp q hq).1) rL
    have hcapL : L.length ≤ xc := by
      cases xp with
      | none =>
        cases L with
        | nil => exact Nat.zero_le _
        | cons y L =>
          obtain ⟨z, hz, _⟩ := rL 0 (by simp)
          cases hz
      | some q => exact (hsp q rfl).2
    have e0 : (decide (0 ≤ ((j : Nat) : Int)) && decide (((j : Nat) : Int) < ((l.length : Nat) : Int))) = true := by simp; omega
    simp only [T6b0, asCons_cons, asInt_int, asBool_bool, asNil_nil, asSome_some]
    rw [wp_bif, if_pos (by simp; omega), wp_join, wp_grd, e0, Int.toNat_natCast]
    refine ⟨rfl, ?_⟩
    rw [wp_ldG ho3 (v0 := .int .i64 op) (vs := [.int .i64 a, .int .i64 b, .int .i64 n, .int .u64 w, .slice xp L.length xc]) (fun i v hv => by
      match i, hv with
      | 0, hv => cases hv; exact r0
      | 1, hv => cases hv; exact r1
      | 2, hv => cases hv; exact r2
      | 3, hv => cases hv; exact r3
      | 4, hv => cases hv; exact r4
      | 5, hv => cases hv; exact r5
      | i + 6, hv => simp at hv) 6 rfl]
    simp only [asAgg_agg, asCons_cons, asInt_int, asSlice_slice, asNil_nil]
    refine wp_newQ fun σ4 hF4 hn4 hS4 => ?_
    refine wp_stQ hS4 rfl rfl fun σ5 hF5 hn5 hX5 => ?_
    have hF35 : Frm σ3 σ5 NoB := hF4.fresh hF5 fun i hi e => by omega
    have hf5 := hF35.fr hf3
    have ho5 := hF35.old.trans ho3
    have hd5 := hD.N hF35
    have hBp : upY σ3 σ5 Yp σ3.n := ⟨.inr (Nat.le_refl _), by omega⟩
    have hBq : upY σ3 σ5 Yq σ3.n := ⟨.inr (Nat.le_refl _), by omega⟩
    generalize upY σ3 σ5 Yp = Yp at hd5 hBp
    generalize upY σ3 σ5 Yq = Yq at hd5 hBq
    clear hD hS4 hF4 hF5
    generalize σ3.n = B at hX5 hBp hBq
    rw [wp_ldF hX5 rfl, asSlice_slice, wp_bif]
    by_cases h60 : L.length > 60
    · rw [if_pos (by simp; omega), wp_ret]
      simp only [T6k8, sw_same, asCons_cons, asBool_bool, asNil_nil]
      rw [wp_ret]
      simp only [T6k9, sw_re, sw_same, asCons_cons, asInt_int, asBool_bool, asNil_nil]
      rw [wp_ret]
      exact ⟨_, rfl, rfl⟩
    rw [if_neg (by simp; omega), wp_ldF hX5 rfl, asInt_int, wp_join]
    refine Wp.mono _ _ (fun e vs σ' => e = .normal ∧ vs = [.bool true] ∧ PlO old S Z R σ') _ ?_ ?_
    · rintro e us σ6 ⟨rfl, rfl, ho6, hf6, vs6, Yp6, Yq6, hD6⟩
      refine wp_look hD6 at' fun σ7 hF7 => ?_
      simp only [T6k8, sw_nr, sw_same, asCons_cons, asBool_bool, asNil_nil]
      rw [wp_ret, ej]
      exact ⟨rfl, hF7.old.trans ho6, hF7.fr hf6, vs6, _, _, hD6.N hF7⟩
    have q5 : ∀ σ', PlO old S Z R σ' → Wp PROG ov0 (T6k5 .normal [.bool true]) σ' fun e vs σ' => e = .normal ∧ vs = [.bool true] ∧ PlO old S Z R σ' := fun σ' h => by
      simp only [T6k5, sw_same, asCons_cons, asBool_bool, asNil_nil]
      rw [wp_ret]
      exact ⟨rfl, rfl, h⟩
    have done : ∀ (σ6 σ7 : AHeap) us Yp' Yq', σ6.old = old → Fresh σ6 → Frm σ6 σ7 (fun _ => True) → Duo σ7 S Z R Yp' Yq' us us → PlO old S Z R σ7 := fun σ6 σ7 us Yp' Yq' h1 h2 h3 h4 => ⟨h3.old.trans h1, h3.fr h2, us, Yp', Yq', h4⟩
    have eX : ∀ (σ' : AHeap) (i : Nat) (v : Value), St σ' B [.int .i64 op, .int .i64 a, .int .i64 b, .int .i64 n, .int .u64 w, .slice xp L.length xc] → [Value.int .i64 op, .int .i64 a, .int .i64 b, .int .i64 n, .int .u64 w, .slice xp L.length xc][i]? = some v → ld1 (aadd ⟨B, 0, some 0⟩ i) σ' = some (v, σ') := fun σ' i v h hv => h.ldF hv
    rw [wp_join, wp_bif]
    by_cases h0 : op = 0
    · rw [if_pos (by simp [h0]), wp_ldF hX5 rfl, asInt_int, wp_ldF hX5 rfl, asInt_int, wp_ldF hX5 rfl, asInt_int, wp_get, wp_call]
      have cont : ∀ (σ6 : AHeap) (r : Int) us, Frm σ5 σ6 (fun j => ¬ Yp j) → Stk σ6 S R Yp us → (∀ {Q' : Value → AHeap → Prop}, (∀ σ', Frm σ6 σ' (fun j => ¬ upY σ5 σ6 Yq j) → RK σ' Z R (upY σ5 σ6 Yq) us → Q' (.int .i64 r) σ') → WpF PROG ov0 26 [PV Z, .int .i64 a, .int .i64 b, .int .i64 n] σ6 Q') →
          Wp PROG ov0 (.act (ld1 (aadd ⟨B, 0, some 0⟩ 1)) fun v73 => grd (past (ld1 (aadd ⟨B, 0, some 0⟩ 1)) v73 [σ5]) (asInt .i64 v73 fun i74 => .act (ld1 (aadd ⟨B, 0, some 0⟩ 2)) fun v75 => grd (past (ld1 (aadd ⟨B, 0, some 0⟩ 2)) v75 [σ5]) (asInt .i64 v75 fun i76 => .act (ld1 (aadd ⟨B, 0, some 0⟩ 3)) fun v77 => grd (past (ld1 (aadd ⟨B, 0, some 0⟩ 3)) v77 [σ5]) (asInt .i64 v77 fun i78 => .call 26 [(.pointer (some ⟨Z, 0, some 0⟩)), (.int .i64 i74), (.int .i64 i76), (.int .i64 i78)] fun v79 => asInt .i64 v79 fun i80 => .ret .normal [(.bool (r == i80))])))) σ6
            fun e vs σ' => Wp PROG ov0 (T6k5 e vs) σ' fun e vs σ' => e = .normal ∧ vs = [.bool true] ∧ PlO old S Z R σ' := by
        intro σ6 r us hF6 hS6 hcall
        have hX6 := hF6.st hX5 fun h => h hBp
        have hD6 := hd5.P hF6 hS6
        rw [wp_act, eX σ6 1 _ hX6 rfl]
        simp only
        rw [wp_grd]
        refine ⟨past_ok (eX σ5 1 _ hX5 rfl), ?_⟩
        rw [asInt_int, wp_act, eX σ6 2 _ hX6 rfl]
        simp only
        rw [wp_grd]
        refine ⟨past_ok (eX σ5 2 _ hX5 rfl), ?_⟩
        rw [asInt_int, wp_act, eX σ6 3 _ hX6 rfl]
        simp only
        rw [wp_grd]
        refine ⟨past_ok (eX σ5 3 _ hX5 rfl), ?_⟩
        rw [asInt_int, wp_call]
        refine hcall fun σ7 hF7 hQ7 => ?_
        rw [asInt_int, wp_ret, show (r == r) = true by simp]
        exact q5 _ (done σ6 σ7 us _ _ (hF6.old.trans ho5) (hF6.fr hf5) (hF7.any fun _ _ => trivial) (hD6.Q hF7 hQ7))
      have hn5p := hF35.n
      by_cases hneg : n < 0
      · rw [WpF.eq (ev_push_neg S a b n hneg), asInt_int]
        exact cont σ5 1 vs (Frm.refl _ _) hd5.p fun hQ' => by
          rw [WpF.eq (ev_pushR_neg Z a b n hneg)]
          exact hQ' σ5 (Frm.refl _ _) (hd5.P (Frm.refl _ _) hd5.p).q
      · obtain ⟨N, rfl⟩ : ∃ N : Nat, n = (N : Int) := ⟨n.toNat, by omega⟩
        by_cases hfit : tot vs + 2 + N ≤ R
        · refine wp_pushK hd5.p a b N hfit fun σ6 hF6 hS6 => ?_
          rw [asInt_int]
          have hD6 := hd5.P hF6 hS6
          exact cont σ6 0 _ hF6 hS6 fun hQ' => wp_pushR hD6.q (hF6.fr hf5) a b N hfit hQ'
        · rw [WpF.eq (ev_push_full hd5.p a b N hfit), asInt_int]
          exact cont σ5 9 vs (Frm.refl _ _) hd5.p fun hQ' => wp_pushR_full (hd5.P (Frm.refl _ _) hd5.p).q a b N hfit (hQ' σ5 (Frm.refl _ _) (hd5.P (Frm.refl _ _) hd5.p).q)
    rw [if_neg (by simp [h0]), wp_join, wp_bif]
    have q4 : ∀ σ', PlO old S Z R σ' → Wp PROG ov0 (T6k4 .normal [.bool true]) σ' fun e vs σ' => Wp PROG ov0 (T6k5 e vs) σ' fun e vs σ' => e = .normal ∧ vs = [.bool true] ∧ PlO old S Z R σ' := fun σ' h => by
      simp only [T6k4, sw_same, asCons_cons, asBool_bool, asNil_nil]
      rw [wp_ret]
      exact q5 _ h
    -- what both come to
    have both : ∀ (σ6 σ7 : AHeap) us, Frm σ5 σ6 (fun j => ¬ Yp j) → Stk σ6 S R Yp us → Frm σ6 σ7 (fun j => ¬ upY σ5 σ6 Yq j) → RK σ7 Z R (upY σ5 σ6 Yq) us → PlO old S Z R σ7 := fun σ6 σ7 us h1 h2 h3 h4 =>
      done σ6 σ7 us _ _ (h1.old.trans ho5) (h1.fr hf5) (h3.any fun _ _ => trivial) ((hd5.P h1 h2).Q h3 h4)
    have same5 := hd5.P (Frm.refl _ _) hd5.p
    have none5 : PlO old S Z R σ5 := ⟨ho5, hf5, vs, _, _, hd5⟩
    by_cases h1 : op = 1
    · rw [if_pos (by simp [h1]), wp_call]
      rcases snoc_cases vs with rfl | ⟨us, v, rfl⟩
      · rw [WpF.eq (ev_pop_none hd5.p)]
        simp only [asTuple_tuple, asCons_cons, asInt_int, asNil_nil]
        rw [wp_call, WpF.eq (ev_popR_none hd5.q)]
        simp only [asTuple_tuple, asCons_cons, asInt_int, asNil_nil]
        rw [wp_ret]
        exact q4 _ none5
      · refine wp_popK hd5.p fun σ6 hF6 hS6 => ?_
        simp only [asTuple_tuple, asCons_cons, asInt_int, asNil_nil]
        rw [wp_call]
        refine wp_popR (hd5.P hF6 hS6).q fun σ7 hF7 hQ7 => ?_
        simp only [asTuple_tuple, asCons_cons, asInt_int, asNil_nil]
        rw [wp_ret, show ((v.back == v.back && v.call == v.call) && (0 : Int) == 0) = true by simp]
        exact q4 _ (both σ6 σ7 us hF6 hS6 hF7 hQ7)
    rw [if_neg (by simp [h1]), wp_join, wp_bif]
    have q3 : ∀ σ', PlO old S Z R σ' → Wp PROG ov0 (T6k3 .normal [.bool true]) σ' fun e vs σ' => Wp PROG ov0 (T6k4 e vs) σ' fun e vs σ' => Wp PROG ov0 (T6k5 e vs) σ' fun e vs σ' => e = .normal ∧ vs = [.bool true] ∧ PlO old S Z R σ' := fun σ' h => by
      simp only [T6k3, sw_same, asCons_cons, asBool_bool, asNil_nil]
      rw [wp_ret]
      exact q4 _ h
    by_cases h2 : op = 2
    · rw [if_pos (by simp [h2]), wp_ldF hX5 rfl, asInt_int, wp_ldF hX5 rfl, asInt_int, wp_get, wp_call]
      have cont : ∀ (σ6 : AHeap) (r : Int) us, Frm σ5 σ6 (fun j => ¬ Yp j) → Stk σ6 S R Yp us → (∀ {Q' : Value → AHeap → Prop}, (∀ σ', Frm σ6 σ' (fun j => ¬ upY σ5 σ6 Yq j) → RK σ' Z R (upY σ5 σ6 Yq) us → Q' (.int .i64 r) σ') → WpF PROG ov0 28 [PV Z, .int .i64 n, .int .u64 w] σ6 Q') →
          Wp PROG ov0 (.act (ld1 (aadd ⟨B, 0, some 0⟩ 3)) fun v110 => grd (past (ld1 (aadd ⟨B, 0, some 0⟩ 3)) v110 [σ5]) (asInt .i64 v110 fun i111 => .act (ld1 (aadd ⟨B, 0, some 0⟩ 4)) fun v112 => grd (past (ld1 (aadd ⟨B, 0, some 0⟩ 4)) v112 [σ5]) (asInt .u64 v112 fun i113 => .call 28 [(.pointer (some ⟨Z, 0, some 0⟩)), (.int .i64 i111), (.int .u64 i113)] fun v114 => asInt .i64 v114 fun i115 => .ret .normal [(.bool (r == i115))]))) σ6
            fun e vs σ' => Wp PROG ov0 (T6k3 e vs) σ' fun e vs σ' => Wp PROG ov0 (T6k4 e vs) σ' fun e vs σ' => Wp PROG ov0 (T6k5 e vs) σ' fun e vs σ' => e = .normal ∧ vs = [.bool true] ∧ PlO old S Z R σ' := by
        intro σ6 r us hF6 hS6 hcall
        have hX6 := hF6.st hX5 fun h => h hBp
        rw [wp_act, eX σ6 3 _ hX6 rfl]
        simp only
        rw [wp_grd]
        refine ⟨past_ok (eX σ5 3 _ hX5 rfl), ?_⟩
        rw [asInt_int, wp_act, eX σ6 4 _ hX6 rfl]
        simp only
        rw [wp_grd]
        refine ⟨past_ok (eX σ5 4 _ hX5 rfl), ?_⟩
        rw [asInt_int, wp_call]
        refine hcall fun σ7 hF7 hQ7 => ?_
        rw [asInt_int, wp_ret, show (r == r) = true by simp]
        exact q3 _ (both σ6 σ7 us hF6 hS6 hF7 hQ7)
      rcases snoc_cases vs with rfl | ⟨us, v, rfl⟩
      · rw [WpF.eq (ev_set_none hd5.p n w), asInt_int]
        exact cont σ5 4 [] (Frm.refl _ _) hd5.p fun hQ' => by
          rw [WpF.eq (wp_setR_none same5.q n w)]
          exact hQ' σ5 (Frm.refl _ _) same5.q
      · by_cases hi : 0 ≤ n ∧ n < (v.sl.length : Nat)
        · obtain ⟨N, rfl⟩ : ∃ N : Nat, n = (N : Int) := ⟨n.toNat, by omega⟩
          refine wp_setK hd5.p N w (by omega) fun σ6 hF6 hS6 => ?_
          rw [asInt_int]
          exact cont σ6 0 _ hF6 hS6 fun hQ' => wp_setR (hd5.P hF6 hS6).q N w (by omega) hQ'
        · rw [WpF.eq (ev_set_out hd5.p n w hi), asInt_int]
          exact cont σ5 1 _ (Frm.refl _ _) hd5.p fun hQ' => by
            rw [WpF.eq (wp_setR_out same5.q n w hi)]
            exact hQ' σ5 (Frm.refl _ _) same5.q
    rw [if_neg (by simp [h2]), wp_join, wp_bif]
    have q2 : ∀ σ', PlO old S Z R σ' → Wp PROG ov0 (T6k2 .normal [.bool true]) σ' fun e vs σ' => Wp PROG ov0 (T6k3 e vs) σ' fun e vs σ' => Wp PROG ov0 (T6k4 e vs) σ' fun e vs σ' => Wp PROG ov0 (T6k5 e vs) σ' fun e vs σ' => e = .normal ∧ vs = [.bool true] ∧ PlO old S Z R σ' := fun σ' h => by
      simp only [T6k2, sw_same, asCons_cons, asBool_bool, asNil_nil]
      rw [wp_ret]
      exact q3 _ h
    by_cases h3 : op = 3
    · rw [if_pos (by simp [h3]), wp_ldF hX5 rfl, asInt_int, wp_get, wp_call]
      have cont : ∀ (σ6 : AHeap) (r : Int) us, Frm σ5 σ6 (fun j => ¬ Yp j) → Stk σ6 S R Yp us → (∀ {Q' : Value → AHeap → Prop}, (∀ σ', Frm σ6 σ' (fun j => ¬ upY σ5 σ6 Yq j) → RK σ' Z R (upY σ5 σ6 Yq) us → Q' (.int .i64 r) σ') → WpF PROG ov0 29 [PV Z, .int .u64 w] σ6 Q') →
          Wp PROG ov0 (.act (ld1 (aadd ⟨B, 0, some 0⟩ 4)) fun v121 => grd (past (ld1 (aadd ⟨B, 0, some 0⟩ 4)) v121 [σ5]) (asInt .u64 v121 fun i122 => .call 29 [(.pointer (some ⟨Z, 0, some 0⟩)), (.int .u64 i122)] fun v123 => asInt .i64 v123 fun i124 => .ret .normal [(.bool (r == i124))])) σ6
            fun e vs σ' => Wp PROG ov0 (T6k2 e vs) σ' fun e vs σ' => Wp PROG ov0 (T6k3 e vs) σ' fun e vs σ' => Wp PROG ov0 (T6k4 e vs) σ' fun e vs σ' => Wp PROG ov0 (T6k5 e vs) σ' fun e vs σ' => e = .normal ∧ vs = [.bool true] ∧ PlO old S Z R σ' := by
        intro σ6 r us hF6 hS6 hcall
        have hX6 := hF6.st hX5 fun h => h hBp
        rw [wp_act, eX σ6 4 _ hX6 rfl]
        simp only
        rw [wp_grd]
        refine ⟨past_ok (eX σ5 4 _ hX5 rfl), ?_⟩
        rw [asInt_int, wp_call]
        refine hcall fun σ7 hF7 hQ7 => ?_
        rw [asInt_int, wp_ret, show (r == r) = true by simp]
        exact q2 _ (both σ6 σ7 us hF6 hS6 hF7 hQ7)
      rcases snoc_cases vs with rfl | ⟨us, v, rfl⟩
      · rw [WpF.eq (ev_add_none hd5.p w), asInt_int]
        exact cont σ5 4 [] (Frm.refl _ _) hd5.p fun hQ' => by
          rw [WpF.eq (ev_addR_none same5.q w)]
          exact hQ' σ5 (Frm.refl _ _) same5.q
      · by_cases hi : tot (us ++ [v]) < R
        · refine wp_addK hd5.p hi w fun σ6 hF6 hS6 => ?_
          rw [asInt_int]
          exact cont σ6 0 _ hF6 hS6 fun hQ' => wp_addR (hd5.P hF6 hS6).q (hF6.fr hf5) hi w hQ'
        · rw [WpF.eq (ev_add_full hd5.p hi w), asInt_int]
          exact cont σ5 9 _ (Frm.refl _ _) hd5.p fun hQ' => by
            rw [WpF.eq (ev_addR_full same5.q hi w)]
            exact hQ' σ5 (Frm.refl _ _) same5.q
    rw [if_neg (by simp [h3]), wp_join, wp_bif]
    have q1 : ∀ σ', PlO old S Z R σ' → Wp PROG ov0 (T6k1 .normal [.bool true]) σ' fun e vs σ' => Wp PROG ov0 (T6k2 e vs) σ' fun e vs σ' => Wp PROG ov0 (T6k3 e vs) σ' fun e vs σ' => Wp PROG ov0 (T6k4 e vs) σ' fun e vs σ' => Wp PROG ov0 (T6k5 e vs) σ' fun e vs σ' => e = .normal ∧ vs = [.bool true] ∧ PlO old S Z R σ' := fun σ' h => by
      simp only [T6k1, sw_same, asCons_cons, asBool_bool, asNil_nil]
      rw [wp_ret]
      exact q2 _ h
    by_cases h4 : op = 4
    · rw [if_pos (by simp [h4]), wp_call]
      rcases snoc_cases vs with rfl | ⟨us, v, rfl⟩
      · rw [WpF.eq (ev_take_none hd5.p)]
        simp only [asTuple_tuple, asCons_cons, asInt_int, asNil_nil]
        rw [wp_call, WpF.eq (ev_takeR_none hd5.q)]
        simp only [asTuple_tuple, asCons_cons, asInt_int, asNil_nil]
        rw [wp_ret]
        exact q1 _ none5
      · rcases snoc_cases v.ad with ha | ⟨ll, y, ha⟩
        · rw [WpF.eq (ev_take_emp hd5.p ha)]
          simp only [asTuple_tuple, asCons_cons, asInt_int, asNil_nil]
          rw [wp_call, WpF.eq (ev_takeR_out hd5.q ha)]
          simp only [asTuple_tuple, asCons_cons, asInt_int, asNil_nil]
          rw [wp_ret]
          exact q1 _ none5
        · refine wp_takeK hd5.p ha fun σ6 hF6 hS6 => ?_
          simp only [asTuple_tuple, asCons_cons, asInt_int, asNil_nil]
          rw [wp_call]
          refine wp_takeR (hd5.P hF6 hS6).q ha fun σ7 hF7 hQ7 => ?_
          simp only [asTuple_tuple, asCons_cons, asInt_int, asNil_nil]
          rw [wp_ret, show ((y == y) && (0 : Int) == 0) = true by simp]
          exact q1 _ (both σ6 σ7 _ hF6 hS6 hF7 hQ7)
    rw [if_neg (by simp [h4]), wp_join, wp_bif]
    have q0 : ∀ σ', PlO old S Z R σ' → Wp PROG ov0 (T6k0 .normal [.bool true]) σ' fun e vs σ' => Wp PROG ov0 (T6k1 e vs) σ' fun e vs σ' => Wp PROG ov0 (T6k2 e vs) σ' fun e vs σ' => Wp PROG ov0 (T6k3 e vs) σ' fun e vs σ' => Wp PROG ov0 (T6k4 e vs) σ' fun e vs σ' => Wp PROG ov0 (T6k5 e vs) σ' fun e vs σ' => e = .normal ∧ vs = [.bool true] ∧ PlO old S Z R σ' := fun σ' h => by
      simp only [T6k0, sw_same, asCons_cons, asBool_bool, asNil_nil]
      rw [wp_ret]
      exact q1 _ h
    by_cases h5 : op = 5
    · rw [if_pos (by simp [h5]), wp_ldF hX5 rfl, asInt_int, wp_ldF hX5 rfl, asInt_int, wp_get, wp_call]
      have cont : ∀ (σ6 : AHeap) (r : Int) us, Frm σ5 σ6 (fun j => ¬ Yp j) → Stk σ6 S R Yp us → (∀ {Q' : Value → AHeap → Prop}, (∀ σ', Frm σ6 σ' (fun j => ¬ upY σ5 σ6 Yq j) → RK σ' Z R (upY σ5 σ6 Yq) us → Q' (.int .i64 r) σ') → WpF PROG ov0 31 [PV Z, .int .i64 a, .int .i64 b] σ6 Q') →
          Wp PROG ov0 (.act (ld1 (aadd ⟨B, 0, some 0⟩ 1)) fun v148 => grd (past (ld1 (aadd ⟨B, 0, some 0⟩ 1)) v148 [σ5]) (asInt .i64 v148 fun i149 => .act (ld1 (aadd ⟨B, 0, some 0⟩ 2)) fun v150 => grd (past (ld1 (aadd ⟨B, 0, some 0⟩ 2)) v150 [σ5]) (asInt .i64 v150 fun i151 => .call 31 [(.pointer (some ⟨Z, 0, some 0⟩)), (.int .i64 i149), (.int .i64 i151)] fun v152 => asInt .i64 v152 fun i153 => .ret .normal [(.bool (r == i153))]))) σ6
            fun e vs σ' => Wp PROG ov0 (T6k0 e vs) σ' fun e vs σ' => Wp PROG ov0 (T6k1 e vs) σ' fun e vs σ' => Wp PROG ov0 (T6k2 e vs) σ' fun e vs σ' => Wp PROG ov0 (T6k3 e vs) σ' fun e vs σ' => Wp PROG ov0 (T6k4 e vs) σ' fun e vs σ' => Wp PROG ov0 (T6k5 e vs) σ' fun e vs σ' => e = .normal ∧ vs = [.bool true] ∧ PlO old S Z R σ' := by
        intro σ6 r us hF6 hS6 hcall
        have hX6 := hF6.st hX5 fun h => h hBp
        rw [wp_act, eX σ6 1 _ hX6 rfl]
        simp only
        rw [wp_grd]
        refine ⟨past_ok (eX σ5 1 _ hX5 rfl), ?_⟩
        rw [asInt_int, wp_act, eX σ6 2 _ hX6 rfl]
        simp only
        rw [wp_grd]
        refine ⟨past_ok (eX σ5 2 _ hX5 rfl), ?_⟩
        rw [asInt_int, wp_call]
        refine hcall fun σ7 hF7 hQ7 => ?_
        rw [asInt_int, wp_ret, show (r == r) = true by simp]
        exact q0 _ (both σ6 σ7 us hF6 hS6 hF7 hQ7)
      refine wp_cutK hd5.p a b (fun hm => ?_) fun hm σ6 hF6 hS6 => ?_
      · rw [asInt_int]
        exact cont σ5 1 _ (Frm.refl _ _) hd5.p fun hQ' => wp_cutR same5.q a b (fun _ => hQ' σ5 (Frm.refl _ _) same5.q) fun hm' => by rw [hm] at hm'; cases hm'
      · rw [asInt_int]
        refine cont σ6 0 _ hF6 hS6 fun hQ' => ?_
        have hq6 : RK σ6 Z R (upY σ5 σ6 Yq) vs := (hd5.P hF6 hS6).q
        exact wp_cutR hq6 a b (fun hm' => by rw [hm] at hm'; cases hm') fun _ σ7 hF7 hQ7 => hQ' σ7 hF7 hQ7
    rw [if_neg (by simp [h5]), wp_ldF hX5 rfl, asSlice_slice, wp_get, wp_call]
    have hst : ∀ σ', Frm σ5 σ' NoB → RdI σ' .u64 xp L := fun σ' hF => RdR.ints rL σ' (hF.old.trans ho5)
    refine wp_back19 hst (by omega) xc fun σ6 R6 p6 c6 hF6 hR6 hb6 => ?_
    have hX6 := hF6.stN hX5
    have ho6 := hF6.old.trans ho5
    have hf6 := hF6.fr hf5
    have hd6 := hd5.N hF6
    have hn6 := hF6.n
    have hB6 : upY σ5 σ6 Yp B := upY_B hn6 hBp hX5.1
    have hR6Y : p6 ≠ none → upY σ5 σ6 Yp R6 := fun hp => ⟨.inr (hb6 hp), SlE.lt (esz := 1) hR6 hp⟩
    rw [asSlice_slice, wp_get, wp_call]
    have cont : ∀ (σ7 : AHeap) (r : Int) us, Frm σ6 σ7 (fun j => ¬ upY σ5 σ6 Yp j) → Stk σ7 S R (upY σ5 σ6 Yp) us → (∀ {Q' : Value → AHeap → Prop}, (∀ σ' (_ : List Unit), Frm σ7 σ' (fun _ => True) → (∃ Yp' Yq', Duo σ' S Z R Yp' Yq' us us) → Q' (.int .i64 r) σ') → WpF PROG ov0 32 [PV Z, .slice xp L.length xc] σ7 Q') →
        Wp PROG ov0 (.act (ld1 (aadd ⟨B, 0, some 0⟩ 5)) fun v166 => grd (past (ld1 (aadd ⟨B, 0, some 0⟩ 5)) v166 [σ6, σ5]) (asSlice v166 fun p167 n168 n169 => .call 32 [(.pointer (some ⟨Z, 0, some 0⟩)), (.slice p167 n168 n169)] fun v170 => asInt .i64 v170 fun i171 => .ret .normal [(.bool (r == i171))])) σ7
          fun e vs σ' => Wp PROG ov0 (T6k0 e vs) σ' fun e vs σ' => Wp PROG ov0 (T6k1 e vs) σ' fun e vs σ' => Wp PROG ov0 (T6k2 e vs) σ' fun e vs σ' => Wp PROG ov0 (T6k3 e vs) σ' fun e vs σ' => Wp PROG ov0 (T6k4 e vs) σ' fun e vs σ' => Wp PROG ov0 (T6k5 e vs) σ' fun e vs σ' => e = .normal ∧ vs = [.bool true] ∧ PlO old S Z R σ' := by
      intro σ7 r us hF7 hS7 hcall
      have hX7 := hF7.st hX6 fun h => h hB6
      rw [wp_act, eX σ7 5 _ hX7 rfl]
      simp only
      rw [wp_grd]
      refine ⟨past_ok2 (eX σ6 5 _ hX6 rfl) (eX σ5 5 _ hX5 rfl), ?_⟩
      rw [asSlice_slice, wp_call]
      refine hcall fun σ8 _ hF8 hD8 => ?_
      rw [asInt_int, wp_ret, show (r == r) = true by simp]
      obtain ⟨Yp', Yq', hD8⟩ := hD8
      exact q0 _ (done σ7 σ8 us _ _ (hF7.old.trans ho6) (hF7.fr hf6) hF8 hD8)
    by_cases hlen : L.length = (flat vs).length
    · refine wp_renewS hd6.p hR6 hR6Y hlen fun σ7 vs' hF7 hS7 hfl7 _ hsh7 => ?_
      rw [asInt_int]
      refine cont σ7 0 vs' hF7 hS7 fun hQ' => ?_
      have hD7 := hd6.P hF7 hS7
      have ho7 : σ7.old = old := hF7.old.trans ho6
      refine wp_renewR hD7.q (by rw [ho7]; exact hsrc) hcapL hlen fun σ8 ws hF8 hQ8 hfl8 hsh8 => ?_
      have hw : ws = vs' := shp_uniq (hsh8.trans hsh7.symm) (hfl8.trans hfl7.symm)
      subst hw
      exact hQ' σ8 [] (hF8.any fun _ _ => trivial) ⟨_, _, hD7.Q hF8 hQ8⟩
    · rw [WpF.eq (ev_renew_no hd6.p (p := p6) (cap := c6) hlen), asInt_int]
      refine cont σ6 1 vs (Frm.refl _ _) hd6.p fun hQ' => ?_
      exact wp_renewR_no hd6.q hlen fun σ8 hF8 => hQ' σ8 [] (hF8.any fun _ h => h.elim) ⟨_, _, hd6.N hF8⟩
  · rintro st σ3 ⟨rfl, _⟩
    simp only [T6b0, asCons_cons, asInt_int, asBool_bool, asNil_nil]
    rw [wp_bif, if_neg (by simp), wp_ret]
    simp only [T6k9, sw_same, asCons_cons, asInt_int, asBool_bool, asNil_nil]
    rw [wp_ret]
    exact ⟨_, rfl, rfl⟩
end Go.Pg
