/- Layer 5: within, bind. -/
import Derived.Test.YtoilldfibaeokaaDoorTyB
namespace Go.Pg
open Go.Proofs

abbrev seenOf (l : List Int) : List (Value × Value) := l.map fun v => (.int .i64 v, .bool true)
structure Seen (σ : AHeap) (q : Nat) (l : List Int) : Prop where
  lt : q < σ.n
  map : σ.get q = some (.map (seenOf l))
theorem seen_find (v : Int) : ∀ l : List Int, mapFind (.int .i64) (.int .i64 v) (seenOf l) = some (if l.any (· == v) = true then some (.bool true) else none)
  | [] => rfl
  | k :: l => by
    simp only [seenOf, List.map_cons, mapFind, same_int_of, List.any_cons]
    by_cases h : v = k
    · subst h
      simp
    · have h1 : (v == k) = false := by simpa using h
      have h2 : (k == v) = false := by simpa using fun e : k = v => h e.symm
      simp only [h1, h2, Bool.false_or]
      exact seen_find v l
theorem seen_set (v : Int) : ∀ l : List Int, l.any (· == v) = false → mapSet (.int .i64) (.int .i64 v) (.bool true) (seenOf l) = some (seenOf (l ++ [v]))
  | [], _ => rfl
  | k :: l, h => by
    simp only [List.any_cons, Bool.or_eq_false_iff] at h
    have h1 : (v == k) = false := by
      have := h.1
      simp only [beq_eq_false_iff_ne, ne_eq] at this ⊢
      exact fun e => this e.symm
    have ih := seen_set v l h.2
    simp only [seenOf, List.map_cons, mapSet, same_int_of, h1, List.cons_append] at ih ⊢
    rw [ih]
section
variable {σ : AHeap} {b r q : Nat} {nx : Int} {S : SubL} {ov : Ov} {l : List Int}
theorem Seen.frm {σ' : AHeap} {T : Nat → Prop} (h : Seen σ q l) (f : Frm σ σ' T) (hT : ¬ T q) : Seen σ' q l := ⟨Nat.lt_of_lt_of_le h.lt f.n, by rw [f.get q h.lt hT]; exact h.map⟩
theorem Seen.maps (h : Seen σ q l) : Maps σ (· = q) := fun _j hj => ⟨_, hj ▸ h.map⟩
theorem Seen.find (h : Seen σ q l) (v : Int) : lkp (.int .i64) (.bool false) (some q) (.int .i64 v) false σ = some (.bool (l.any (· == v)), σ) := by
  unfold lkp AHeap.getMap
  simp only [h.map, Option.map_some, seen_find]
  cases l.any (· == v) <;> rfl
/-- A map is written. -/
theorem wp_mupR {kd : TypeDesc} {es es' : List (Value × Value)} {k v : Value} {p : Pg} {Q : Post} (hq : q < σ.n) (hm : σ.get q = some (.map es)) (hs : mapSet kd k v es = some es') (K : ∀ σ', Frm σ σ' (· = q) → σ'.n = σ.n → σ'.get q = some (.map es') → Wp PROG ov p σ' Q) :
    Wp PROG ov (.act (mup kd (some q) k v) fun x => asTuple x fun l => asNil l p) σ Q := by
  rw [wp_act]
  unfold mup AHeap.getMapW
  simp only [hm, hs, asTuple_tuple, asNil_nil]
  exact K _ (Frm.put σ q _ hq) rfl (get_put_same _ _ _)

abbrev withinF (k : Nat) (S : SubL) (v : Int) : Option (Bool × List Int) → AT → Option (Bool × List Int) := fun acc a => match acc with
  | none => none
  | some (true, sn) => some (true, sn)
  | some (false, sn) => withinM k S v a sn
theorem withinF_none (k : Nat) (S : SubL) (v : Int) : ∀ l : List AT, l.foldl (withinF k S v) none = none
  | [] => rfl
  | _a :: l => withinF_none k S v l
theorem withinF_true (k : Nat) (S : SubL) (v : Int) (sn : List Int) : ∀ l : List AT, l.foldl (withinF k S v) (some (true, sn)) = some (true, sn)
  | [] => rfl
  | _a :: l => withinF_true k S v sn l

theorem wp_within (hO : OvT ov) (v : Int) (hqr : q ≠ r) : ∀ (k : Nat) (σ : AHeap) (t : AT) (seen : List Int) (w : Bool) (seen' : List Int), SubIn σ b r nx S → AFull σ t → Seen σ q seen → withinM k S v t seen = some (w, seen') →
    WpF PROG ov 58 [.pointer (some ⟨b, 0, some 0⟩), .int .i64 v, .agg t.c.toArray, .map (some q)] σ fun x σ' => x = .bool w ∧ Frm σ σ' (· = q) ∧ Seen σ' q seen' := by
  intro k
  induction k with
  | zero => intro σ t seen w seen' _ _ _ h; cases h
  | succ k ih =>
    intro σ t seen w seen' hs ht hq hm
    obtain ⟨p, cap, hc, hrow⟩ := ht.row
    have hlen := ht.len
    rw [hc]
    refine WpF.of (T58_eq _ _ _ _ _ _ _ _ _) (hO _ (by decide) (by decide) (by decide)) ?_
    rw [T58]
    refine wp_newQ fun σ1 hF1 hn1 hS1 => ?_
    have hlt := hq.lt
    have hq1 := hq.frm hF1 fun h => h
    have hs1 := hs.frm hF1
    rw [wp_ldF hS1 rfl, asInt_int, wp_bif]
    unfold withinM at hm
    by_cases h7 : t.k = 7
    · rw [if_pos h7] at hm
      rw [if_pos (by simpa using h7), wp_ldF hS1 rfl, asInt_int, wp_act, hq1.find]
      simp only [asBool_bool]
      rw [wp_bif]
      by_cases hsn : seen.any (· == t.v) = true
      · rw [if_pos hsn] at hm ⊢
        cases hm
        rw [wp_ret]
        exact ⟨_, rfl, rfl, hF1.no, hq1⟩
      rw [if_neg hsn] at hm ⊢
      have hsf : seen.any (· == t.v) = false := Bool.not_eq_true _ ▸ hsn
      rw [wp_ldF hS1 rfl, asInt_int]
      refine wp_mupR hq1.lt hq1.map (seen_set _ _ hsf) fun σ2 hF2 hn2 hg2 => ?_
      have hq2 : Seen σ2 q (seen ++ [t.v]) := ⟨by have := hq1.lt; omega, hg2⟩
      have hs2 := hs1.stepM hF2 hq1.maps fun h => hqr h.symm
      have hF12 : Frm σ σ2 (· = q) := hF1.no.seq hF2
      have hS2 := hF2.st hS1 (by omega)
      rw [asSome_some, wp_ldF hs2.st rfl, asMap_map, wp_ldF hS2 rfl, asInt_int, wp_act, lkp_sub hs2.map]
      have hlk := lkp_sub hs2.map t.v
      have chk : ∀ (σ' : AHeap) (x : Value), Frm σ2 σ' NoB → lkp (.int .i64) zT (some r) (.int .i64 t.v) true σ2 = some (x, σ2) → chks [((lkp (.int .i64) (.agg #[(.int .i64 0), (.string (bs [])), (.int .i64 0), (.slice none 0 0)]) (some r) (.int .i64 t.v) true), x), ((ld1 (aadd ⟨σ.n, 0, some 0⟩ 2)), .int .i64 t.v), ((ld1 (aadd ⟨b, 0, some 0⟩ 1)), .map (some r))] σ' = true := fun σ' x hF' hl => by
        have e1 := lkp_sub (hs2.frm hF').map t.v
        rw [lkp_sub hs2.map] at hl
        simp only [Option.some.injEq, Prod.mk.injEq] at hl
        simp only [chks, chkAt]
        rw [show lkp (.int .i64) (.agg #[(.int .i64 0), (.string (bs [])), (.int .i64 0), (.slice none 0 0)]) (some r) (.int .i64 t.v) true σ' = _ from e1, (hF'.stN hS2).ldF rfl, (hs2.frm hF').st.ldF rfl, hl.1]
        simp only [eqv_same]
        rfl
      have fin : ∀ (σ' : AHeap) (u : Bool) (sn : List Int), Frm σ σ' (· = q) → Seen σ' q sn → Wp PROG ov (T58k0 .normal [.bool u]) σ' fun _ vs σ' => ∃ x, vs = [x] ∧ x = .bool u ∧ Frm σ σ' (· = q) ∧ Seen σ' q sn := fun σ' u sn hF' hq' => by
        simp only [T58k0, sw_same, asCons_cons, asBool_bool, asNil_nil]
        rw [wp_ret]
        exact ⟨_, rfl, rfl, hF', hq'⟩
      cases hlo : lookS S t.v with
      | none =>
        rw [hlo] at hm hlk
        simp only at hm hlk ⊢
        simp only [asTuple_tuple, asCons_cons, asAgg_agg, asInt_int, asStr_str, asSlice_slice, asNil_nil, asBool_bool]
        refine wp_newQ fun σ4 hF4 hn4 hS4 => ?_
        rw [wp_get, wp_grd]
        refine ⟨chk σ4 _ hF4 hlk, ?_⟩
        refine wp_stQ hS4 rfl rfl fun σ5 hF5 hn5 hS5 => ?_
        have hF25 : Frm σ2 σ5 NoB := hF4.fresh hF5 fun j hj h => by omega
        have hq5 := hq2.frm hF25 fun h => h
        rw [wp_join, wp_ldF (hF25.stN hS2) rfl, asInt_int, wp_bif]
        by_cases hv : t.v = v
        · rw [if_pos hv] at hm
          cases hm
          rw [if_neg (by simpa using hv), wp_ret]
          exact fin σ5 true _ (hF12.seq hF25.no) hq5
        · rw [if_neg hv] at hm
          cases hm
          rw [if_pos (by simpa using hv), wp_bif, if_neg (by simp), wp_ret]
          exact fin σ5 false _ (hF12.seq hF25.no) hq5
      | some x =>
        rw [hlo] at hm hlk
        simp only at hm hlk ⊢
        have hx : AFull σ2 x := hs2.full _ (lookS_mem hlo)
        have hxi := fun σ' (hF : Frm σ2 σ' NoB) => ih σ' x (seen ++ [t.v]) w seen' (hs2.frm hF) (hx.frm hF) (hq2.frm hF fun h => h)
        obtain ⟨xp, xc, hxc⟩ := hx.cells
        rw [hxc] at hlk hxi ⊢
        simp only [asTuple_tuple, asCons_cons, asAgg_agg, asInt_int, asStr_str, asSlice_slice, asNil_nil, asBool_bool]
        refine wp_newQ fun σ4 hF4 hn4 hS4 => ?_
        rw [wp_get, wp_grd]
        refine ⟨chk σ4 _ hF4 hlk, ?_⟩
        refine wp_stQ hS4 rfl rfl fun σ5 hF5 hn5 hS5 => ?_
        have hF25 : Frm σ2 σ5 NoB := hF4.fresh hF5 fun j hj h => by omega
        have hq5 := hq2.frm hF25 fun h => h
        rw [wp_join, wp_ldF (hF25.stN hS2) rfl, asInt_int, wp_bif]
        by_cases hv : t.v = v
        · rw [if_pos hv] at hm
          cases hm
          rw [if_neg (by simpa using hv), wp_ret]
          exact fin σ5 true _ (hF12.seq hF25.no) hq5
        · rw [if_neg hv] at hm
          rw [if_pos (by simpa using hv), wp_bif, if_pos (by simp), wp_ldAll hS5 4 rfl]
          simp only [asAgg_agg, asCons_cons, asInt_int, asStr_str, asSlice_slice, asNil_nil]
          rw [wp_call]
          refine WpF.mono (hxi σ5 hF25 hm) ?_
          rintro _ σ6 ⟨rfl, hF6, hq6⟩
          rw [asBool_bool, wp_ret]
          exact fin σ6 w _ ((hF12.seq hF25.no).seq hF6) hq6
    · rw [if_neg h7] at hm
      rw [if_neg (by simpa using h7), wp_ldF hS1 rfl, asSlice_slice]
      refine Wp.count t.args.length (fun j st σ' => ∃ (c : Bool) (sn : List Int), st = [.int .i64 ((j : Nat) : Int), .bool c] ∧ Frm σ σ' (· = q) ∧ Seen σ' q sn ∧ (t.args.drop j).foldl (withinF k S v) (some (false, sn)) = some (w, seen')) ⟨false, seen, rfl, hF1.no, hq1, hm⟩ ?_ ?_
      · rintro j st σ4 hj ⟨c, sn, rfl, hF4, hq4, hfo⟩
        have ej : wi64 ((j : Int) + 1) = ((j + 1 : Nat) : Int) := by rw [wi64_in (by omega)]; omega
        simp only [T58b0, asCons_cons, asInt_int, asBool_bool, asNil_nil]
        rw [wp_bif, if_pos (by simp; omega), wp_join]
        have hs4 := hs.stepM hF4 hq.maps fun h => hqr h.symm
        have hr4 := hrow.stepM hF4 hq.maps (R' := fun cs (u : AT) => cs = u.c ∧ AFull σ4 u) fun _ _ h => ⟨h.1, h.2.stepM hF4 hq.maps⟩
        refine wp_rowOf hr4 hj rfl fun cs hX => ?_
        rw [List.drop_eq_getElem_cons hj, List.foldl_cons] at hfo
        generalize t.args[j] = x at hX hfo
        obtain ⟨rfl, hx⟩ := hX
        have hxi := fun σ' (hF' : Frm σ4 σ' NoB) w' sn' (e : withinM k S v x sn = some (w', sn')) => ih σ' x sn w' sn' (hs4.frm hF') (hx.frm hF') (hq4.frm hF' fun h => h) e
        obtain ⟨xp, xc, hxc⟩ := hx.cells
        rw [hxc] at hxi ⊢
        simp only [asAgg_agg, asCons_cons, asInt_int, asStr_str, asSlice_slice, asNil_nil]
        refine wp_newQ fun σ5 hF5 hn5 hS5 => ?_
        refine wp_stQ hS5 rfl rfl fun σ6 hF6 hn6 hS6 => ?_
        have hF46 : Frm σ4 σ6 NoB := hF5.fresh hF6 fun j hj h => by omega
        rw [wp_ldAll hS6 4 rfl]
        simp only [asAgg_agg, asCons_cons, asInt_int, asStr_str, asSlice_slice, asNil_nil]
        cases hsz : withinM k S v x sn with
        | none =>
          rw [show withinF k S v (some (false, sn)) x = none from hsz, withinF_none] at hfo
          cases hfo
        | some o =>
          obtain ⟨w', sn'⟩ := o
          rw [show withinF k S v (some (false, sn)) x = some (w', sn') from hsz] at hfo
          rw [wp_call]
          refine WpF.mono (hxi σ6 hF46 w' sn' hsz) ?_
          rintro _ σ7 ⟨rfl, hF7, hq7⟩
          have hF47 : Frm σ σ7 (· = q) := (hF4.seq hF46.no).seq hF7
          rw [asBool_bool, wp_bif]
          cases w' with
          | true =>
            rw [withinF_true] at hfo
            cases hfo
            rw [if_pos rfl, wp_ret]
            simp only [T58k1, sw_same, asCons_cons, asBool_bool, asNil_nil]
            rw [wp_ret]
            simp only [T58k2, sw_re, sw_same, asCons_cons, asInt_int, asBool_bool, asNil_nil]
            rw [wp_ret]
            exact ⟨_, rfl, rfl, hF47, hq7⟩
          | false =>
            rw [if_neg (by simp), wp_ret]
            simp only [T58k1, sw_nr, sw_same, asCons_cons, asBool_bool, asNil_nil]
            rw [wp_ret, ej]
            exact ⟨c, sn', rfl, hF47, hq7, hfo⟩
      · rintro st σ4 ⟨c, sn, rfl, hF4, hq4, hfo⟩
        rw [List.drop_length] at hfo
        cases hfo
        simp only [T58b0, asCons_cons, asInt_int, asBool_bool, asNil_nil]
        rw [wp_bif, if_neg (by simp), wp_ret]
        simp only [T58k2, sw_same, asCons_cons, asInt_int, asBool_bool, asNil_nil]
        rw [wp_ret]
        exact ⟨_, rfl, rfl, hF4, hq4⟩

theorem wp_bind (hO : OvT ov) {σ : AHeap} {v : Int} {k : Nat} {t : AT} {e : Int} {S' : SubL} (hs : SubW σ b r nx S) (ht : AFull σ t) (hm : bindM k S v t = some (e, S')) :
    WpF PROG ov 49 [.pointer (some ⟨b, 0, some 0⟩), .int .i64 v, .agg t.c.toArray] σ fun x σ' => x = .int .i64 e ∧ Frm σ σ' (· = r) ∧ SubW σ' b r nx S' := by
  unfold bindM at hm
  have hr := hs.lt
  cases hw : withinM k S v t [] with
  | none => rw [hw] at hm; cases hm
  | some o =>
  obtain ⟨w, sn⟩ := o
  rw [hw] at hm
  have hwi := fun σ' (hF : Frm σ σ' NoB) q (hq : Seen σ' q []) (hqr : q ≠ r) => wp_within hO v hqr k σ' t [] w sn (hs.frm hF).sub (ht.frm hF) hq hw
  have hsx := set_esOf v t S
  obtain ⟨p, cap, hc⟩ := ht.cells
  rw [hc] at hwi hsx ⊢
  refine WpF.of (T49_eq _ _ _ _ _ _ _ _) (hO _ (by decide) (by decide) (by decide)) ?_
  rw [T49]
  refine wp_newQ fun σ1 hF1 hn1 hS1 => ?_
  rw [wp_ldAll hS1 4 rfl]
  simp only [asAgg_agg, asCons_cons, asInt_int, asStr_str, asSlice_slice, asNil_nil]
  rw [wp_act]
  have hF2 : Frm σ1 (σ1.push (.map [])) NoB := ⟨by simp, rfl, fun j hj _ => get_push_lt _ _ hj, fun f j hj => by
    have hj' : σ1.n + 1 ≤ j := hj
    rw [AHeap.get_push, if_neg (by omega)]
    exact f j (by omega)⟩
  simp only [makeMapAct, asMap_map]
  have hq : Seen (σ1.push (.map [])) σ1.n [] := ⟨by simp, get_push_same _ _⟩
  rw [wp_call]
  refine WpF.mono (hwi _ (hF1.seq hF2) σ1.n hq (by omega)) ?_
  rintro _ σ3 ⟨rfl, hF3, hq3⟩
  have hF03 : Frm σ σ3 NoB := (hF1.seq hF2).fresh hF3 fun j hj h => by omega
  have hs3 := hs.frm hF03
  rw [asBool_bool, wp_bif]
  cases w with
  | true =>
    cases hm
    rw [if_pos rfl, wp_ret]
    exact ⟨_, rfl, rfl, hF03.no, hs3⟩
  | false =>
    cases hm
    have hF13 : Frm σ1 σ3 NoB := hF2.fresh hF3 fun j hj h => by omega
    rw [if_neg (by simp), asSome_some, wp_ldF hs3.st rfl, asMap_map, wp_ldAll (hF13.stN hS1) 4 rfl]
    simp only [asAgg_agg, asCons_cons, asInt_int, asStr_str, asSlice_slice, asNil_nil]
    refine wp_mupR hs3.lt hs3.map hsx fun σ4 hF4 hn4 hg4 => ?_
    rw [wp_ret]
    have hM : Maps σ3 (· = r) := hs3.isMap
    have hb : b ≠ r := fun h => by
      have h1 := hs3.st.2
      have h2 := hs3.map
      rw [h, h2] at h1
      cases h1
    exact ⟨_, rfl, rfl, hF03.no.seq hF4, SubW.of (hF4.st hs3.st hb) (by rw [hn4]; exact hs3.lt) hg4 fun p hp => (setS_mem hp).elim (fun h => by subst h; exact (ht.frm hF03).stepM hF4 hM) fun h => (hs3.full p h).stepM hF4 hM⟩
end
end Go.Pg
