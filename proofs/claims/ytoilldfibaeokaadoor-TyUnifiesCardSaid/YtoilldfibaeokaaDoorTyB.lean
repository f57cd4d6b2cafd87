/- Layer 5: head, size, small: what they answer. -/
import Derived.Test.YtoilldfibaeokaaDoorTyA
namespace Go.Pg
open Go.Proofs

/-- No function is answered otherwise but Unify, copied, Itoa. -/
def OvT (ov : Ov) : Prop := ∀ f, f ≠ 12 → f ≠ 33 → f ≠ 55 → ov f = none

abbrev zT : Value := .agg #[.int .i64 0, .string (bs []), .int .i64 0, .slice none 0 0]
theorem lkp_sub {σ : AHeap} {r : Nat} {S : SubL} (h : σ.getMap r = some (esOf S)) (v : Int) : lkp (.int .i64) zT (some r) (.int .i64 v) true σ = some (match lookS S v with
    | some t => .tuple #[.agg t.c.toArray, .bool true]
    | none => .tuple #[zT, .bool false], σ) := by
  unfold lkp
  simp only [h, Option.map_some, find_esOf]
  cases lookS S v <;> rfl

section
variable {σ : AHeap} {b r : Nat} {nx : Int} {S : SubL} {ov : Ov}

theorem headM_full : ∀ {k : Nat} {t h : AT}, (∀ p ∈ S, AFull σ p.2) → AFull σ t → headM k S t = some h → AFull σ h
  | 0, _, _, _, _, h => by cases h
  | k + 1, t, h, hS, ht, e => by
    unfold headM at e
    split at e
    · split at e
      · cases e
        exact ht
      · rename_i x hx
        exact headM_full hS (hS _ (lookS_mem hx)) e
    · cases e
      exact ht

theorem wp_head (hO : OvT ov) (hs : SubIn σ b r nx S) {k : Nat} {t h : AT} (ht : AFull σ t) (hh : headM k S t = some h) :
    WpF PROG ov 48 [.pointer (some ⟨b, 0, some 0⟩), .agg t.c.toArray] σ fun v σ' => v = .agg h.c.toArray ∧ Frm σ σ' NoB := by
  obtain ⟨p, cap, hc⟩ := ht.cells
  rw [hc]
  refine WpF.of (T48_eq _ _ _ _ _ _ _) (hO _ (by decide) (by decide) (by decide)) ?_
  rw [T48]
  refine wp_newQ fun σ1 hF1 hn1 hS1 => ?_
  refine wp_newQ fun σ2 hF2 hn2 hS2 => ?_
  have hS1 : St σ2 σ.n t.c := by
    rw [hc]
    exact hF2.stN hS1
  have hF := hF1.seq hF2
  refine Wp.loop (fun m st σ' => st = [] ∧ Frm σ σ' NoB ∧ σ.n + 2 ≤ σ'.n ∧ ∃ cur : AT, St σ' σ.n cur.c ∧ (∃ z, St σ' σ1.n z ∧ z.length = 4) ∧ AFull σ cur ∧ headM m S cur = some h) k ⟨rfl, hF, by omega, t, hS1, ⟨_, hS2, rfl⟩, ht, hh⟩ ?_
  rintro m st σ3 ⟨rfl, hF3, hn3, cur, hS1, ⟨z, hS2, hz⟩, hcur, hm⟩
  obtain ⟨q, qc, hcc⟩ := hcur.cells
  rw [hcc] at hS1
  have fin : ∀ σ' : AHeap, Frm σ σ' NoB → St σ' σ.n h.c → St σ' σ1.n z → (∃ q qc, h.c = tcells h.a.1 (.slice q h.args.length qc)) → Wp PROG ov (T48k1 ⟨σ.n, 0, some 0⟩ ⟨σ1.n, 0, some 0⟩ (.exit 0) []) σ' fun _ vs σ' => ∃ v, vs = [v] ∧ v = .agg h.c.toArray ∧ Frm σ σ' NoB := fun σ' hF' hA hB ⟨q, qc, hq⟩ => by
    simp only [T48k1, sw_same, asNil_nil]
    rw [wp_ldAll hA 4 (by rw [hq]; rfl), hq]
    simp only [asAgg_agg, asCons_cons, asInt_int, asStr_str, asSlice_slice, asNil_nil]
    refine wp_stQ hB (by rw [hz]; rfl) rfl fun σ4 hF4 hn4 hS4 => ?_
    rw [wp_ldAll hS4 4 rfl, wp_ret]
    exact ⟨_, rfl, rfl, hF'.fresh hF4 fun j hj h => by omega⟩
  simp only [T48b0, asNil_nil]
  rw [wp_ldF hS1 rfl, asInt_int, wp_bif]
  cases m with
  | zero => cases hm
  | succ m =>
  unfold headM at hm
  by_cases h7 : cur.k = 7
  case neg =>
    rw [if_neg h7] at hm
    cases hm
    rw [if_neg (by simpa using h7), wp_ret]
    exact fin σ3 hF3 (by rw [hcc]; exact hS1) hS2 ⟨q, qc, hcc⟩
  rw [if_pos h7] at hm
  have hs3 := hs.frm hF3
  rw [if_pos (by simpa using h7), wp_join, asSome_some, wp_ldF hs3.st rfl, asMap_map, wp_ldF hS1 rfl, asInt_int, wp_act, lkp_sub hs3.map]
  have chk : ∀ (σ' : AHeap) (v : Value), Frm σ3 σ' NoB → lkp (.int .i64) zT (some r) (.int .i64 cur.v) true σ3 = some (v, σ3) → chks [((lkp (.int .i64) (.agg #[(.int .i64 0), (.string (bs [])), (.int .i64 0), (.slice none 0 0)]) (some r) (.int .i64 cur.v) true), v), ((ld1 (aadd ⟨σ.n, 0, some 0⟩ 2)), .int .i64 cur.v), ((ld1 (aadd ⟨b, 0, some 0⟩ 1)), .map (some r))] σ' = true := fun σ' v hF' hl => by
    have e1 := lkp_sub (hs3.frm hF').map cur.v
    rw [lkp_sub hs3.map] at hl
    simp only [Option.some.injEq, Prod.mk.injEq] at hl
    simp only [chks, chkAt]
    rw [show lkp (.int .i64) (.agg #[(.int .i64 0), (.string (bs [])), (.int .i64 0), (.slice none 0 0)]) (some r) (.int .i64 cur.v) true σ' = _ from e1, (hF'.stN hS1).ldF rfl, (hs3.frm hF').st.ldF rfl, hl.1]
    simp only [eqv_same]
    rfl
  have hlk := lkp_sub hs3.map cur.v
  cases hlo : lookS S cur.v with
  | none =>
    rw [hlo] at hm hlk
    simp only at hm hlk ⊢
    cases hm
    simp only [asTuple_tuple, asCons_cons, asAgg_agg, asInt_int, asStr_str, asSlice_slice, asNil_nil, asBool_bool]
    refine wp_newQ fun σ4 hF4 hn4 hS4 => ?_
    rw [wp_get, wp_grd]
    refine ⟨chk σ4 _ hF4 hlk, ?_⟩
    refine wp_stQ hS4 rfl rfl fun σ5 hF5 hn5 hS5 => ?_
    rw [wp_bif, if_pos (by rfl), wp_ret]
    simp only [T48k0, sw_same, asNil_nil]
    rw [wp_ret]
    have hF35 : Frm σ3 σ5 NoB := hF4.fresh hF5 fun j hj h => by omega
    exact fin σ5 (hF3.seq hF35) (by rw [hcc]; exact hF35.stN hS1) (hF35.stN hS2) ⟨q, qc, hcc⟩
  | some x =>
    rw [hlo] at hm hlk
    simp only at hm hlk ⊢
    have hx : AFull σ x := hs.full _ (lookS_mem hlo)
    obtain ⟨xp, xc, hxc⟩ := hx.cells
    rw [hxc] at hlk ⊢
    simp only [asTuple_tuple, asCons_cons, asAgg_agg, asInt_int, asStr_str, asSlice_slice, asNil_nil, asBool_bool]
    refine wp_newQ fun σ4 hF4 hn4 hS4 => ?_
    rw [wp_get, wp_grd]
    refine ⟨chk σ4 _ hF4 hlk, ?_⟩
    refine wp_stQ hS4 rfl rfl fun σ5 hF5 hn5 hS5 => ?_
    rw [wp_bif, if_neg (by simp), wp_ldAll hS5 4 rfl]
    simp only [asAgg_agg, asCons_cons, asInt_int, asStr_str, asSlice_slice, asNil_nil]
    have hF35 : Frm σ3 σ5 NoB := hF4.fresh hF5 fun j hj h => by omega
    refine wp_stQ (hF35.stN hS1) rfl rfl fun σ6 hF6 hn6 hS6 => ?_
    rw [wp_ret]
    simp only [T48k0, sw_ne, sw_same, asNil_nil]
    rw [wp_ret]
    refine ⟨m, by omega, rfl, (hF3.seq hF35).fresh hF6 fun j hj h => by omega, by have := hF35.n; omega, x, by rw [hxc]; exact hS6, ⟨z, hF6.st (hF35.stN hS2) (by omega), hz⟩, hx, hm⟩

abbrev sizeF (k : Nat) (S : SubL) : Option Int → AT → Option Int := fun acc a => match acc with
  | none => none
  | some m => if m > 500 then some m else sizeM k S a m
theorem sizeF_none (k : Nat) (S : SubL) : ∀ l : List AT, l.foldl (sizeF k S) none = none
  | [] => rfl
  | _a :: l => sizeF_none k S l
theorem sizeF_big {k : Nat} {S : SubL} {m : Int} (h : m > 500) : ∀ l : List AT, l.foldl (sizeF k S) (some m) = some m
  | [] => rfl
  | a :: l => by
    rw [List.foldl_cons, show sizeF k S (some m) a = some m by simp [sizeF, h]]
    exact sizeF_big h l

theorem sizeM_range : ∀ {k : Nat} {t : AT} {n m : Int}, 0 ≤ n → sizeM k S t n = some m → 0 ≤ m ∧ m ≤ 501
  | 0, _, _, _, _, h => by cases h
  | k + 1, t, n, m, hn, h => by
    unfold sizeM at h
    split at h
    · cases h
    · rename_i x hx
      rw [Option.map_eq_some_iff] at h
      obtain ⟨u, hu, rfl⟩ := h
      have key : ∀ (l : List AT) (a u : Int), 0 ≤ a → l.foldl (sizeF k S) (some a) = some u → 0 ≤ u := by
        intro l
        induction l with
        | nil => intro a u ha h; cases h; exact ha
        | cons y l ih =>
          intro a u ha h
          rw [List.foldl_cons] at h
          by_cases h5 : a > 500
          · rw [show sizeF k S (some a) y = some a by simp [sizeF, h5]] at h
            exact ih a u ha h
          · cases hs : sizeM k S y a with
            | none =>
              rw [show sizeF k S (some a) y = none by simp [sizeF, h5, hs], sizeF_none] at h
              cases h
            | some c =>
              rw [show sizeF k S (some a) y = some c by simp [sizeF, h5, hs]] at h
              exact ih c u (sizeM_range ha hs).1 h
      have := key x.args (n + 1) u (by omega) hu
      rw [minV_eq]
      omega

theorem wp_tsize (hO : OvT ov) : ∀ (k : Nat) (σ : AHeap) (t : AT) (n m : Int), SubIn σ b r nx S → AFull σ t → 0 ≤ n ∧ n ≤ 501 → sizeM k S t n = some m → WpF PROG ov 50 [.pointer (some ⟨b, 0, some 0⟩), .agg t.c.toArray, .int .i64 n] σ fun v σ' => v = .int .i64 m ∧ Frm σ σ' NoB := by
  intro k
  induction k with
  | zero => intro σ t n m _ _ _ h; cases h
  | succ k ih =>
    intro σ t n m hs ht hn hm
    unfold sizeM at hm
    cases hh : headM k S t with
    | none => rw [hh] at hm; cases hm
    | some h =>
    rw [hh] at hm
    simp only [Option.map_eq_some_iff] at hm
    obtain ⟨u, hu, rfl⟩ := hm
    have hfull := headM_full hs.full ht hh
    obtain ⟨p, cap, hc⟩ := ht.cells
    obtain ⟨q, qc, hq, hrow⟩ := hfull.row
    have hlen := hfull.len
    have hwh := fun σ' (hF : Frm σ σ' NoB) => wp_head hO (hs.frm hF) (ht.frm hF) hh
    rw [hc] at hwh ⊢
    refine WpF.of (T50_eq _ _ _ _ _ _ _ _) (hO _ (by decide) (by decide) (by decide)) ?_
    rw [T50]
    refine wp_newQ fun σ1 hF1 hn1 hS1 => ?_
    rw [wp_ldAll hS1 4 rfl]
    simp only [asAgg_agg, asCons_cons, asInt_int, asStr_str, asSlice_slice, asNil_nil]
    rw [wp_call]
    refine WpF.mono (hwh σ1 hF1) ?_
    rintro _ σ2 ⟨rfl, hF2⟩
    rw [hq]
    simp only [asAgg_agg, asCons_cons, asInt_int, asStr_str, asSlice_slice, asNil_nil]
    refine wp_stQ (hF2.stN hS1) rfl rfl fun σ3 hF3 hn3 hS3 => ?_
    have hF : Frm σ σ3 NoB := (hF1.seq hF2).fresh hF3 fun j hj h => by omega
    rw [wp_ldF hS3 rfl, asSlice_slice, wi64_in (by omega)]
    have fin : ∀ (j : Nat) (σ' : AHeap), Frm σ σ' NoB → Wp PROG ov (T50k1 (.exit 0) [.int .i64 (j : Int), .int .i64 u]) σ' fun _ vs σ' => ∃ v, vs = [v] ∧ v = .int .i64 (minV u 501) ∧ Frm σ σ' NoB := fun j σ' hF' => by
      simp only [T50k1, sw_same, asCons_cons, asInt_int, asNil_nil]
      rw [wp_ret]
      exact ⟨_, rfl, rfl, hF'⟩
    refine Wp.count h.args.length (fun j st σ' => ∃ a : Int, st = [.int .i64 ((j : Nat) : Int), .int .i64 a] ∧ Frm σ σ' NoB ∧ 0 ≤ a ∧ a ≤ 502 ∧ (h.args.drop j).foldl (sizeF k S) (some a) = some u) ⟨n + 1, rfl, hF, by omega, by omega, hu⟩ ?_ ?_
    · rintro j st σ4 hj ⟨a, rfl, hF4, ha0, ha1, hfo⟩
      have ej : wi64 ((j : Int) + 1) = ((j + 1 : Nat) : Int) := by rw [wi64_in (by omega)]; omega
      simp only [T50b0, asCons_cons, asInt_int, asNil_nil]
      rw [wp_bif, if_pos (by simp; omega), wp_join]
      have hr4 := hrow.stepM hF4 Maps.none (R' := fun cs (u : AT) => cs = u.c ∧ AFull σ4 u) fun _ _ h => ⟨h.1, h.2.frm hF4⟩
      refine wp_rowOf hr4 hj rfl fun cs hX => ?_
      rw [List.drop_eq_getElem_cons hj, List.foldl_cons] at hfo
      generalize h.args[j] = x at hX hfo
      obtain ⟨rfl, hx⟩ := hX
      have hxi := fun σ' (hF' : Frm σ4 σ' NoB) m' (e : sizeM k S x a = some m') (h5 : a ≤ 500) => ih σ' x a m' ((hs.frm hF4).frm hF') (hx.frm hF') ⟨ha0, by omega⟩ e
      obtain ⟨xp, xc, hxc⟩ := hx.cells
      rw [hxc] at hxi ⊢
      simp only [asAgg_agg, asCons_cons, asInt_int, asStr_str, asSlice_slice, asNil_nil]
      refine wp_newQ fun σ5 hF5 hn5 hS5 => ?_
      refine wp_stQ hS5 rfl rfl fun σ6 hF6 hn6 hS6 => ?_
      have hF46 : Frm σ4 σ6 NoB := hF5.fresh hF6 fun j hj h => by omega
      rw [wp_bif]
      by_cases h5 : a > 500
      · rw [if_pos (decide_eq_true h5), wp_ret]
        simp only [T50k0, sw_same, asCons_cons, asInt_int, asNil_nil]
        rw [wp_ret]
        rw [show sizeF k S (some a) x = some a by simp [sizeF, h5], sizeF_big h5] at hfo
        cases hfo
        exact fin j σ6 (hF4.seq hF46)
      · rw [if_neg (by rw [decide_eq_false h5]; simp), wp_ldAll hS6 4 rfl]
        simp only [asAgg_agg, asCons_cons, asInt_int, asStr_str, asSlice_slice, asNil_nil]
        cases hsz : sizeM k S x a with
        | none =>
          rw [show sizeF k S (some a) x = none by simp [sizeF, h5, hsz], sizeF_none] at hfo
          cases hfo
        | some m' =>
          rw [show sizeF k S (some a) x = some m' by simp [sizeF, h5, hsz]] at hfo
          have hmr := sizeM_range ha0 hsz
          rw [wp_call]
          refine WpF.mono (hxi σ6 hF46 m' hsz (by omega)) ?_
          rintro _ σ7 ⟨rfl, hF7⟩
          rw [asInt_int, wp_ret]
          simp only [T50k0, sw_ne, sw_same, asCons_cons, asInt_int, asNil_nil]
          rw [wp_ret, ej]
          exact ⟨m', rfl, (hF4.seq hF46).seq hF7, hmr.1, by omega, hfo⟩
    · rintro st σ4 ⟨a, rfl, hF4, ha0, ha1, hfo⟩
      rw [List.drop_length] at hfo
      cases hfo
      simp only [T50b0, asCons_cons, asInt_int, asNil_nil]
      rw [wp_bif, if_neg (by simp), wp_ret]
      exact fin _ σ4 hF4

theorem wp_tsmall (hO : OvT ov) {k : Nat} {t : AT} {w : Bool} (hs : SubIn σ b r nx S) (ht : AFull σ t) (hm : smallM k S t = some w) : WpF PROG ov 35 [.pointer (some ⟨b, 0, some 0⟩), .agg t.c.toArray] σ fun v σ' => v = .bool w ∧ Frm σ σ' NoB := by
  unfold smallM at hm
  rw [Option.map_eq_some_iff] at hm
  obtain ⟨m, hm, rfl⟩ := hm
  have hz := fun σ' (hF : Frm σ σ' NoB) => wp_tsize hO k σ' t 0 m (hs.frm hF) (ht.frm hF) ⟨by decide, by decide⟩ hm
  obtain ⟨p, cap, hc⟩ := ht.cells
  rw [hc] at hz ⊢
  refine WpF.of (T35_eq _ _ _ _ _ _ _) (hO _ (by decide) (by decide) (by decide)) ?_
  rw [T35]
  refine wp_newQ fun σ1 hF1 hn1 hS1 => ?_
  rw [wp_ldAll hS1 4 rfl]
  simp only [asAgg_agg, asCons_cons, asInt_int, asStr_str, asSlice_slice, asNil_nil]
  rw [wp_call]
  refine WpF.mono (hz σ1 hF1) ?_
  rintro _ σ2 ⟨rfl, hF2⟩
  rw [asInt_int, wp_ret]
  exact ⟨_, rfl, rfl, hF1.seq hF2⟩
end
end Go.Pg
