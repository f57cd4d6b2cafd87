/- Layer 12: the document's own Load, whole. -/
import Derived.Test.YtndkndlfhmkkkaaHeap11
namespace Go.Pg
open Go.Proofs
section
variable {σ : AHeap} {S : Nat} {Y : Nat → Prop} {room tu : Int} {W : List Int} {ts : List (Int × List Int)}

theorem wp_loopA (h : RP σ S Y room tu W) (hl : W.length ≤ 100000) (hb : ∀ x ∈ W, 0 ≤ x ∧ x < 18446744073709551616) {Q : Value → AHeap → Prop}
    (hno : parse W.length W = none → Q (.tuple #[.pointer none, .bool false]) σ)
    (hok : ∀ ts, W = wOf ts → ThOK ts → Wp PROG ov0 (.loop [.int .i64 0, .bool false, .pointer none] (T30b3 (PA S)) (T30k7 (PA S))) σ fun _ vs σ' => ∃ v, vs = [v] ∧ Q v σ') :
    Wp PROG ov0 (.loop [.int .i64 0, .bool false, .pointer none] (T30b1 (PA S)) (T30k8 (PA S))) σ fun _ vs σ' => ∃ v, vs = [v] ∧ Q v σ' := by
  obtain ⟨cw, pw, capw, a1, a2⟩ := h.ldW
  have fin : ∀ us, W = wOf us → ThOK us → Wp PROG ov0 (T30k8 (PA S) (.exit 2) [.int .i64 (((wOf us).length : Nat) : Int), .bool false, .pointer none]) σ fun _ vs σ' => ∃ v, vs = [v] ∧ Q v σ' := by
    intro us hW ht
    simp only [T30k8, sw_same, asCons_cons, asInt_int, asBool_bool, asPtr_ptr, asNil_nil]
    exact hok us hW ht
  refine Wp.count W.length (fun j st σ' => ∃ us rest, st = [.int .i64 (((wOf us).length : Nat) : Int), .bool false, .pointer none] ∧ σ = σ' ∧ W = wOf us ++ rest ∧ ThOK us ∧ rest.length + j ≤ W.length ∧ parse W.length W = (parse (W.length - j) rest).map (hOf us ++ ·)) ⟨[], W, rfl, rfl, rfl, (fun t h => by cases h), by omega, by simp [hOf]⟩ ?_ ?_
  · rintro j st σ1 hj ⟨us, rest, rfl, rfl, hWr, ht, hlen, hp⟩
    simp only [T30b1, asCons_cons, asInt_int, asBool_bool, asPtr_ptr, asNil_nil]
    rw [wp_ldF a1 rfl, asSlice_slice, wp_bif]
    have hWl : W.length = (wOf us).length + rest.length := by rw [hWr, List.length_append]
    cases rest with
    | nil =>
      rw [if_neg (by rw [hWl]; simp), wp_ret]
      exact fin us (by rw [hWr]; simp) ht
    | cons w rest =>
      simp only [List.length_cons] at hlen hWl
      have hidx : (wOf us).length < W.length := by omega
      have hval : W.getD (wOf us).length 0 = w := by rw [hWr]; simp [List.getD]
      have hwb : 0 ≤ w ∧ w < 18446744073709551616 := hb w (by rw [hWr]; simp)
      have hnn := splitN_nn w
      obtain ⟨kk, tt, hsp⟩ := ev_split46 (σ := σ) w hwb
      rw [if_pos (by simp; omega), wp_join, wp_ldF a1 rfl, asSlice_slice, wp_rdJ a2.rdB.rd hidx, hval, wp_call, WpF.eq hsp]
      simp only [asTuple_tuple, asCons_cons, asInt_int, asBool_bool, asNil_nil]
      rw [wp_join, wp_bif]
      have ef : W.length - j = (W.length - (j + 1)) + 1 := by omega
      have epar : parse (W.length - j) (w :: rest) = if splitOK w = true ∧ (splitN w).toNat ≤ rest.length then (parse (W.length - (j + 1)) (rest.drop (splitN w).toNat)).map fun r => true :: (List.replicate (splitN w).toNat false ++ r) else none := by rw [ef]; rfl
      rw [epar] at hp
      have bad : ¬ (splitOK w = true ∧ (splitN w).toNat ≤ rest.length) → ∀ P' : Ex → List Value → AHeap → Prop, (∀ e vs σ', (match e with
          | .normal => False
          | e => Wp PROG ov0 (T30k8 (PA S) e vs) σ' fun _ vs σ' => ∃ v, vs = [v] ∧ Q v σ') → P' e vs σ') → Wp PROG ov0 (T30k2 (((wOf us).length : Nat) : Int) (splitN w) false none .normal [.bool true]) σ fun e vs σ' => Wp PROG ov0 (T30k3 e vs) σ' P' := by
        intro hbad P' himp
        rw [if_neg hbad] at hp
        simp only [T30k2, sw_same, asCons_cons, asBool_bool, asNil_nil]
        rw [wp_bif, if_pos (by rfl), wp_ret]
        simp only [T30k3, sw_same, asCons_cons, asInt_int, asBool_bool, asPtr_ptr, asNil_nil]
        rw [wp_ret]
        refine himp _ _ _ ?_
        simp only [T30k8, sw_re, sw_same, asCons_cons, asInt_int, asBool_bool, asPtr_ptr, asNil_nil]
        rw [wp_ret]
        exact ⟨_, rfl, hno hp⟩
      by_cases hsOK : splitOK w = true
      · rw [if_pos (by rw [hsOK]; rfl), wp_ldF a1 rfl, asSlice_slice, wp_ret, wi64_in (by omega)]
        by_cases hfit : (splitN w).toNat ≤ rest.length
        · rw [show decide ((((wOf us).length : Nat) : Int) + splitN w ≥ ((W.length : Nat) : Int)) = false by simp; omega]
          rw [if_pos ⟨hsOK, hfit⟩] at hp
          simp only [T30k2, sw_same, asCons_cons, asBool_bool, asNil_nil]
          rw [wp_bif, if_neg (by simp), wp_ret]
          simp only [T30k3, sw_nr, sw_same, asCons_cons, asInt_int, asBool_bool, asPtr_ptr, asNil_nil]
          rw [wp_ret]
          have htl : (rest.take (splitN w).toNat).length = (splitN w).toNat := by simp; omega
          refine ⟨us ++ [(w, rest.take (splitN w).toNat)], rest.drop (splitN w).toNat, ?_, rfl, ?_, fun t htm => ?_, by simp; omega, ?_⟩
          · rw [wOf_snoc, wi64_in (n := (((wOf us).length : Nat) : Int) + splitN w) (by omega), wi64_in (by omega)]
            have : ((wOf us ++ w :: rest.take (splitN w).toNat).length : Nat) = (wOf us).length + (1 + (splitN w).toNat) := by rw [List.length_append, List.length_cons, htl]; omega
            simp only [this]
            congr 2
            omega
          · rw [wOf_snoc, List.append_assoc, List.cons_append, List.take_append_drop]
            exact hWr
          · rcases List.mem_append.1 htm with htm | htm
            · exact ht t htm
            · simp only [List.mem_singleton] at htm
              subst htm
              exact ⟨hsOK, htl.symm⟩
          · rw [hp, hOf_snoc, htl]
            cases parse (W.length - (j + 1)) (rest.drop (splitN w).toNat) with
            | none => rfl
            | some r => simp
        · rw [show decide ((((wOf us).length : Nat) : Int) + splitN w ≥ ((W.length : Nat) : Int)) = true by simp; omega]
          refine bad (fun h => hfit h.2) _ fun e vs σ' hh => ?_
          cases e with
          | normal => exact hh.elim
          | ret => exact hh
          | exit i => exact hh
      · have hsf : splitOK w = false := by simpa using hsOK
        rw [if_neg (by rw [hsf]; simp), wp_ret]
        refine bad (fun h => hsOK h.1) _ fun e vs σ' hh => ?_
        cases e with
        | normal => exact hh.elim
        | ret => exact hh
        | exit i => exact hh
  · rintro st σ1 ⟨us, rest, rfl, rfl, hWr, ht, hlen, hp⟩
    have hr : rest = [] := by
      cases rest with
      | nil => rfl
      | cons w rest => simp only [List.length_cons] at hlen; omega
    subst hr
    rw [List.append_nil] at hWr
    simp only [T30b1, asCons_cons, asInt_int, asBool_bool, asPtr_ptr, asNil_nil]
    rw [wp_ldF a1 rfl, asSlice_slice, wp_bif, if_neg (by rw [hWr]; simp), wp_ret]
    exact fin us hWr ht

theorem wp_loadR {c : Nat} {p : Option Addr} {l : List Int} (hr : ∀ σ', σ'.old = σ.old → Frm σ σ' NoB → RdI σ' .u8 p l) (hb : ∀ x ∈ l, 0 ≤ x ∧ x ≤ 255) (hl : l.length ≤ 800000) {Q : Value → AHeap → Prop}
    (hno : (¬ ∃ room turns ws heads, LoadR l room turns ws heads) → ∀ σ', Frm σ σ' NoB → Q (.tuple #[.pointer none, .bool false]) σ')
    (hok : ∀ room turns ws heads, LoadR l room turns ws heads → ∀ σ' S, Frm σ σ' NoB → σ.n ≤ S → RP σ' S (fun i => i < σ.n) room turns ws → Q (.tuple #[PV S, .bool true]) σ') :
    WpF PROG ov0 30 [.slice p l.length c] σ Q := by
  refine WpF.of (T30_eq _ _ _) rfl ?_
  rw [T30, wp_join, wp_bif]
  have bad : ¬ (16 ≤ l.length ∧ l.length % 8 = 0) → Wp PROG ov0 (T30k11 l.length p .normal [.bool true]) σ fun _ vs σ' => ∃ v, vs = [v] ∧ Q v σ' := by
    intro hn
    simp only [T30k11, sw_same, asCons_cons, asBool_bool, asNil_nil]
    rw [wp_bif, if_pos (by rfl), wp_ret]
    exact ⟨_, rfl, hno (fun ⟨_, _, _, _, h⟩ => hn ⟨h.l16, h.l8⟩) σ (Frm.refl _ _)⟩
  by_cases h16 : 16 ≤ l.length
  · rw [if_pos (by simp; omega), wp_ret]
    have etm : Int.tmod ((l.length : Nat) : Int) 8 = ((l.length % 8 : Nat) : Int) := by rw [Int.tmod_eq_emod_of_nonneg (by omega)]; omega
    by_cases h8 : l.length % 8 = 0
    · have e8 : (Int.tmod ((l.length : Nat) : Int) 8 != 0) = false := by rw [etm, h8]; rfl
      rw [e8]
      simp only [T30k11, sw_same, asCons_cons, asBool_bool, asNil_nil]
      rw [wp_bif, if_neg (by simp)]
      obtain ⟨K, hK⟩ : ∃ K, l.length = 16 + 8 * K := ⟨(l.length - 16) / 8, by omega⟩
      refine Wp.count l.length (fun j st σ' => ∃ q qc b', st = [.int .i64 ((j : Nat) : Int), .slice q ((j + 7) / 8) qc] ∧ Frm σ σ' NoB ∧ SlV σ' b' q qc (ints .u64 (La l ((j + 7) / 8) j)) ∧ (q ≠ none → σ.n ≤ b')) ⟨none, 0, 0, rfl, Frm.refl _ _, .inl ⟨rfl, rfl, rfl⟩, fun h => absurd rfl h⟩ ?_ ?_
      · rintro j st σ1 hj ⟨q, qc, b', rfl, hF1, hq, hqb⟩
        have ej : wi64 ((j : Int) + 1) = ((j + 1 : Nat) : Int) := by rw [wi64_in (by omega)]; omega
        have etj : Int.tmod ((j : Nat) : Int) 8 = ((j % 8 : Nat) : Int) := by rw [Int.tmod_eq_emod_of_nonneg (by omega)]; omega
        have edj : wi64 (Int.tdiv ((j : Nat) : Int) 8) = ((j / 8 : Nat) : Int) := by
          rw [Int.tdiv_eq_ediv_of_nonneg (by omega), wi64_in (by omega)]
          omega
        have e7 : (j + 1 + 7) / 8 = j / 8 + 1 := by omega
        have mid : ∀ σ2 q2 c2 b2, Frm σ σ2 NoB → SlV σ2 b2 q2 c2 (ints .u64 (La l (j / 8 + 1) j)) → (q2 ≠ none → σ.n ≤ b2) → Wp PROG ov0 (T30k0 (j : Int) p l.length .normal [.slice q2 (j / 8 + 1) c2]) σ2 fun e vs σ' => Wp PROG ov0 (T30k1 (j : Int) e vs) σ' fun e st' σ' => match e with
            | .normal => ∃ q qc b', st' = [.int .i64 ((j + 1 : Nat) : Int), .slice q ((j + 1 + 7) / 8) qc] ∧ Frm σ σ' NoB ∧ SlV σ' b' q qc (ints .u64 (La l ((j + 1 + 7) / 8) (j + 1))) ∧ (q ≠ none → σ.n ≤ b')
            | e => Wp PROG ov0 (T30k10 e st') σ' fun _ vs σ' => ∃ v, vs = [v] ∧ Q v σ' := by
          intro σ2 q2 c2 b2 hF2 hq2 hb2
          have hLl := La_len l (j / 8 + 1) j
          obtain ⟨off, s, rfl, hR⟩ := hq2.rowOf (by intro e; have := congrArg List.length e; simp [La_len] at this)
          simp only [T30k0, sw_same, asCons_cons, asSlice_slice, asNil_nil, asSome_some]
          rw [edj, wp_grd]
          refine ⟨by simp; omega, ?_⟩
          rw [Int.toNat_natCast, wp_rowR (v := .int .u64 ((La l (j / 8 + 1) j).getD (j / 8) 0)) hR (ints_get (by omega)), asInt_int, wp_rdJ (hr σ2 hF2.old hF2) hj]
          rw [wp_grd]
          refine ⟨by simp; omega, ?_⟩
          have hv : orI .u64 (shlI .u64 ((La l (j / 8 + 1) j).getD (j / 8) 0) 8) (wu64 (l.getD j 0)) = (La l (j / 8 + 1) j).getD (j / 8) 0 * 256 + l.getD j 0 := by
            rw [La_get l _ j (j / 8) (by omega)]
            have hx := hb l[j] (List.getElem_mem hj)
            have e0 : l.getD j 0 = l[j] := by simp [List.getD, hj]
            have hbn := rdNum_bnd (l.drop (8 * (j / 8))) (fun x hx => hb x (List.mem_of_mem_drop hx)) (min 8 (j - 8 * (j / 8))) (by simp; omega)
            have h7 : min 8 (j - 8 * (j / 8)) ≤ 7 := by omega
            have hp7 : (256 : Int) ^ (min 8 (j - 8 * (j / 8))) ≤ 256 ^ 7 := by
              have h2 := Nat.pow_le_pow_right (n := 256) (by decide) h7
              have h3 : ((256 ^ (min 8 (j - 8 * (j / 8))) : Nat) : Int) ≤ ((256 ^ 7 : Nat) : Int) := Int.ofNat_le.2 h2
              rw [Int.natCast_pow, Int.natCast_pow] at h3
              exact h3
            generalize rdNum ((l.drop (8 * (j / 8))).take (min 8 (j - 8 * (j / 8)))) = x at hbn
            have h1 := shlI_eq .u64 x 8 (by decide)
            have h2 : IntKind.u64.wrap (x * 2 ^ 8) = x * 256 := by
              show wu64 _ = _
              rw [wu64_in (by omega)]
              rfl
            have h3 : shlI .u64 x 8 = x * 256 := h1.trans h2
            rw [h3, e0, wu64_in (by omega), orI_disj .u64 _ l[j] x 8 (by rfl) (by omega) (by decide)]
            show wu64 _ = _
            rw [wu64_in (by omega)]
          rw [hv]
          refine wp_rowW hR (by simp; omega) rfl fun σ3 hF3 hn3 hR3 => ?_
          rw [wp_ret]
          simp only [T30k1, sw_same, asCons_cons, asSlice_slice, asNil_nil]
          rw [wp_ret, ej]
          have e : (ints .u64 (La l (j / 8 + 1) j)).set (j / 8) (.int .u64 ((La l (j / 8 + 1) j).getD (j / 8) 0 * 256 + l.getD j 0)) = ints .u64 (La l (j / 8 + 1) (j + 1)) := by
            rw [← La_set l j hj]
            simp only [ints, List.map_set]
          rw [e] at hR3
          rw [e7]
          exact ⟨_, _, b2, rfl, hF2.fresh hF3 fun i hi h => by have := hb2 (by simp); omega, .inr ⟨off, s, rfl, hR3⟩, fun _ => hb2 (by simp)⟩
        simp only [T30b0, asCons_cons, asInt_int, asSlice_slice, asNil_nil]
        rw [wp_bif, if_pos (by simp; omega), wp_join, wp_join, wp_bif, etj]
        by_cases hj8 : j % 8 = 0
        · rw [if_pos (by simp; omega)]
          have hln : (ints .u64 (La l ((j + 7) / 8) j)).length = (j + 7) / 8 := by simp [La_len]
          refine wp_app1 hq hln.symm rfl (by omega) (by omega) fun σ2 b2 off s c2 hF2 hb2 hR2 => ?_
          rw [wp_ret]
          have e : ints .u64 (La l ((j + 7) / 8) j) ++ [.int .u64 0] = ints .u64 (La l (j / 8 + 1) j) := by
            rw [← La_app l j hj8]
            simp [ints]
          rw [e] at hR2
          rw [show (j + 7) / 8 + 1 = j / 8 + 1 by omega]
          refine mid σ2 _ c2 b2 (hF1.fresh hF2 fun i hi h => by have := hqb h.1; omega) (.inr ⟨off, s, rfl, hR2⟩) fun _ => ?_
          rcases hb2 with ⟨hp, rfl⟩ | hb2
          · exact hqb hp
          · have := hF1.n
            omega
        · rw [if_neg (by simp; omega), wp_ret]
          have e : (j + 7) / 8 = j / 8 + 1 := by omega
          rw [e] at hq ⊢
          exact mid σ1 q qc b' hF1 hq hqb
      · rintro st σ1 ⟨q, qc, b', rfl, hF1, hq, hqb⟩
        have eK : (l.length + 7) / 8 = K + 2 := by omega
        rw [eK] at hq ⊢
        have hLl := La_len l (K + 2) l.length
        have g0 : (La l (K + 2) l.length).getD 0 0 = rdNum (l.take 8) := by rw [La_get l _ _ 0 (by omega), show min 8 (l.length - 8 * 0) = 8 by omega]; rfl
        have g1 : (La l (K + 2) l.length).getD 1 0 = rdNum ((l.drop 8).take 8) := by rw [La_get l _ _ 1 (by omega), show min 8 (l.length - 8 * 1) = 8 by omega]
        have hwsD := La_drop l K hK
        have q1 := rdNum_take8 l hb (by omega)
        have q2 := rdNum_take8 (l.drop 8) (fun x hx => hb x (List.mem_of_mem_drop hx)) (by simp; omega)
        obtain ⟨off, s, rfl, hR⟩ := hq.rowOf (by intro e; have := congrArg List.length e; simp [La_len] at this)
        have hcq := hq.cap
        simp only [List.length_map, La_len] at hcq
        have hmq := hq.mayCut
        obtain ⟨rm, erm⟩ : ∃ rm, rm = rdNum (l.take 8) := ⟨_, rfl⟩
        obtain ⟨tn, etn⟩ : ∃ tn, tn = rdNum ((l.drop 8).take 8) := ⟨_, rfl⟩
        rw [← erm] at q1 g0
        rw [← etn] at q2 g1
        obtain ⟨ws, ews⟩ : ∃ ws, ws = nums K (l.drop 16) := ⟨_, rfl⟩
        have hwl : ws.length = K := by rw [ews, nums_len]
        have ld0 : ∀ (g : Value → Pg) (Q : Post), Wp PROG ov0 (.act (ld1 (aadd ⟨b', off, some s⟩ 0)) g) σ1 Q = Wp PROG ov0 (g (.int .u64 rm)) σ1 Q := by
          intro g Q
          have := hR.ld (i := 0) (v := .int .u64 rm) (by rw [ints_get (by omega), g0])
          rw [wp_act, show aadd ⟨b', off, some s⟩ 0 = ⟨b', off + 0, some s⟩ from rfl, this]
        have ld1' : ∀ (g : Value → Pg) (Q : Post), Wp PROG ov0 (.act (ld1 (aadd ⟨b', off, some s⟩ 1)) g) σ1 Q = Wp PROG ov0 (g (.int .u64 tn)) σ1 Q := by
          intro g Q
          have := hR.ld (i := 1) (v := .int .u64 tn) (by rw [ints_get (by omega), g1])
          rw [wp_act, show aadd ⟨b', off, some s⟩ 1 = ⟨b', off + 1, some s⟩ from rfl, this]
        simp only [T30b0, asCons_cons, asInt_int, asSlice_slice, asNil_nil]
        rw [wp_bif, if_neg (by simp), wp_ret]
        simp only [T30k10, sw_same, asCons_cons, asInt_int, asSlice_slice, asNil_nil, asSome_some]
        have c0 : decide (0 < ((K + 2 : Nat) : Int)) = true := by simp; omega
        have c1 : decide (1 < ((K + 2 : Nat) : Int)) = true := by simp; omega
        have badk : (¬ ∃ room turns ws heads, LoadR l room turns ws heads) → Wp PROG ov0 (T30k9 (some ⟨b', off, some s⟩) (K + 2) qc .normal [.bool true]) σ1 fun _ vs σ' => ∃ v, vs = [v] ∧ Q v σ' := by
          intro hn
          simp only [T30k9, sw_same, asCons_cons, asBool_bool, asNil_nil]
          rw [wp_bif, if_pos (by rfl), wp_ret]
          exact ⟨_, rfl, hno hn σ1 hF1⟩
        rw [wp_join, wp_grd]
        refine ⟨c0, ?_⟩
        rw [ld0, asInt_int, wp_bif]
        by_cases r16 : rm < 16
        · rw [if_neg (by simp; omega), wp_ret]
          refine badk ?_
          rintro ⟨room, turns, _, _, h⟩
          have := h.r16
          rw [h.rmE, ← erm] at this
          omega
        rw [if_pos (by simp; omega), wp_grd]
        refine ⟨c0, ?_⟩
        rw [ld0, asInt_int, wp_bif]
        by_cases rmx : rm > 65536
        · rw [if_neg (by simp; omega), wp_ret]
          refine badk ?_
          rintro ⟨room, turns, _, _, h⟩
          have := h.rmax
          rw [h.rmE, ← erm] at this
          omega
        rw [if_pos (by simp; omega), wp_grd]
        refine ⟨c1, ?_⟩
        rw [ld1', asInt_int, wp_bif]
        by_cases tmx : tn > 9223372036854775807
        · rw [if_neg (by simp; omega), wp_ret]
          refine badk ?_
          rintro ⟨room, turns, _, _, h⟩
          have := h.tmax
          rw [h.tnE, ← etn] at this
          omega
        rw [if_pos (by simp; omega), wp_grd]
        refine ⟨c0, ?_⟩
        have eK2 : wu64 (wi64 (((K + 2 : Nat) : Int) - 2)) = (K : Int) := by rw [wi64_in (by omega), wu64_in (by omega)]; omega
        rw [ld0, asInt_int, wp_ret, eK2]
        have eKs : (l.length - 16) / 8 = K := by omega
        by_cases hfit : (K : Int) > rm
        · rw [decide_eq_true hfit]
          refine badk ?_
          rintro ⟨room, turns, ws', _, h⟩
          have h1 := h.fits
          rw [h.rmE, ← erm, h.wsE, nums_len, eKs] at h1
          omega
        rw [decide_eq_false hfit]
        simp only [T30k9, sw_same, asCons_cons, asBool_bool, asNil_nil, asSome_some]
        rw [wp_bif, if_neg (by simp), wp_grd]
        refine ⟨c0, ?_⟩
        rw [ld0, asInt_int, wp_grd]
        refine ⟨by simp [hmq]; omega, ?_⟩
        rw [wp_grd]
        refine ⟨c1, ?_⟩
        rw [ld1', asInt_int, wi64_in (n := rm) (by omega), wi64_in (n := tn) (by omega)]
        refine wp_newQ fun σ2 hF2 hn2 hS2 => ?_
        have hF12 := hF1.seq hF2
        have hrow := (hq.drop 2 (by simp [La_len])).frm hF2 fun _ h => h
        rw [Nat.mul_one] at hrow
        have edw : (ints .u64 (La l (K + 2) l.length)).drop 2 = ints .u64 ws := by rw [ews, ← hwsD]; simp only [ints, List.map_drop]
        rw [edw] at hrow
        have hb' := hqb (by simp)
        have hb'lt := hR.lt
        have hn1 := hF1.n
        have hRP : RP σ2 σ1.n (fun i => i < σ.n) rm tn ws := by
          refine ⟨fun i hi => by omega, b', cutS (some ⟨b', off, some s⟩) 2, qc - 2, ?_, hrow, fun _ => by omega, by omega, fun i hi => ⟨by omega, by omega⟩⟩
          rw [hwl]
          exact hS2
        have hwb : ∀ x ∈ ws, 0 ≤ x ∧ x < 18446744073709551616 := by
          intro w hw
          obtain ⟨i, hi, rfl⟩ := List.mem_iff_getElem.1 hw
          have e : ws[i] = ws.getD i 0 := by simp [List.getD, hi]
          rw [e, ews, nums_get K _ i (by omega), List.drop_drop]
          exact rdNum_take8 _ (fun x hx => hb x (List.mem_of_mem_drop hx)) (by simp; omega)
        refine wp_loopA hRP (by omega) hwb ?_ ?_
        · intro hp
          refine hno ?_ σ2 hF12
          rintro ⟨room, turns, ws', heads, h⟩
          have e : ws' = ws := by rw [h.wsE, ews, eKs]
          have := h.par
          rw [e, hp] at this
          cases this
        · intro ts hW ht
          have hpar : parse ws.length ws = some (hOf ts) := by
            have := parse_wOf ts ws.length ht (by rw [hW]; exact Nat.le_refl _)
            rw [← hW] at this
            exact this
          refine wp_loopB hRP hW ht (by omega) hwb ?_ ?_
          · intro hna
            refine hno ?_ σ2 hF12
            rintro ⟨room, turns, ws', heads, h⟩
            have e : ws' = ws := by rw [h.wsE, ews, eKs]
            subst e
            have hp := h.par
            rw [hpar] at hp
            have := h.may
            rw [← Option.some.inj hp] at this
            exact hna this
          · intro ha
            exact hok rm tn ws (hOf ts) ⟨h16, h8, erm, etn, by omega, by omega, by omega, by rw [ews, eKs], hpar, ha, by omega⟩ σ2 σ1.n hF12 hn1 hRP
    · have e8 : (Int.tmod ((l.length : Nat) : Int) 8 != 0) = true := by rw [etm]; simp; omega
      rw [e8]
      exact bad fun h => h8 h.2
  · rw [if_neg (by simp; omega), wp_ret]
    exact bad fun h => h16 h.1
end
end Go.Pg
