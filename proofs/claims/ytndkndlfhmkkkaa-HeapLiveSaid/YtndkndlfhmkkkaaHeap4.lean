/- Layer 12: what is read of bytes: words that are things, and no others. -/
import Derived.Test.YtndkndlfhmkkkaaHeap3
namespace Go.Pg
open Go.Proofs

/-- What a head's word tells. -/
def splitOK (w : Int) : Bool := decide (w % 2 ≠ 0) && decide (0 ≤ intW w ∧ intW w ≤ 67108863 ∧ 1 ≤ intW w / 16777216)
def splitN (w : Int) : Int := if splitOK w = true then intW w % 65536 else 0
theorem splitN_nn (w : Int) : 0 ≤ splitN w ∧ splitN w < 65536 := by unfold splitN; split <;> omega

section
variable {σ : AHeap} {S : Nat} {Y : Nat → Prop} {room turns : Int} {words : List Int} {heads : List Bool}

theorem ev_split (w : Int) : ∃ k t, EvF PROG ov0 48 [.int .u64 w] σ (.tuple #[.int .i64 k, .int .i64 t, .int .i64 (splitN w), .bool (splitOK w)]) σ := by
  have h24 : shrI .i64 (intW w) 24 = intW w / 16777216 := by simpa using shrI_eq .i64 (intW w) 24 (by decide)
  have h16 : andI .i64 (intW w) 65535 = intW w % 65536 := by simpa using andI_mask .i64 (intW w) 16 (by decide)
  unfold splitN
  cases hB : splitOK w with
  | true =>
    unfold splitOK at hB
    simp only [Bool.and_eq_true, decide_eq_true_eq] at hB
    refine ⟨shrI .i64 (intW w) 24, andI .i64 (shrI .i64 (intW w) 16) 255, EvF.of (T48_eq w) rfl ?_⟩
    rw [T48, wp_call, WpF.eq (ev_int w)]
    simp only [asTuple_tuple, asCons_cons, asInt_int, asBool_bool, asNil_nil]
    rw [wp_bif, if_neg (by rw [h24]; simp [hB.1]; omega), wp_ret, h16]
    exact ⟨rfl, rfl⟩
  | false =>
    unfold splitOK at hB
    refine ⟨0, 0, EvF.of (T48_eq w) rfl ?_⟩
    rw [T48, wp_call, WpF.eq (ev_int w)]
    simp only [asTuple_tuple, asCons_cons, asInt_int, asBool_bool, asNil_nil]
    rw [wp_bif, if_pos (by
      rw [h24]
      by_cases h2 : w % 2 = 0
      · simp [h2]
      · simp [h2] at hB
        simp [h2]
        omega), wp_ret]
    exact ⟨rfl, rfl⟩

/-- Where things begin in words, if they are things. -/
def parse : Nat → List Int → Option (List Bool)
  | _, [] => some []
  | 0, _ :: _ => none
  | f + 1, w :: ws => if splitOK w = true ∧ (splitN w).toNat ≤ ws.length then (parse f (ws.drop (splitN w).toNat)).map fun r => true :: (List.replicate (splitN w).toNat false ++ r) else none

def allMay (heads : List Bool) (words : List Int) : Prop := ∀ i (h : i < words.length), heads.getD i false = true ∨ mayB heads words[i] = true

theorem wp_loadH (h : HP σ S Y room turns [] []) {R c : Nat} {p : Option Addr} {ws : List Int} (hr : SlV σ R p c (ints .u64 ws)) (hRY : p ≠ none → Y R) (hw : ∀ w ∈ ws, 0 ≤ w) (hl : ws.length ≤ 100000) {Q : Value → AHeap → Prop}
    (hno : ¬ (∃ heads, parse ws.length ws = some heads ∧ allMay heads ws ∧ (ws.length : Int) ≤ room) → ∀ σ', Frm σ σ' (fun j => ¬ Y j) → Q (.bool false) σ')
    (hok : ∀ heads, parse ws.length ws = some heads → allMay heads ws → (ws.length : Int) ≤ room → ∀ σ', Frm σ σ' (fun j => ¬ Y j) → HP σ' S Y room turns ws heads → Q (.bool true) σ') :
    WpF PROG ov0 52 [PV S, .slice p ws.length c] σ Q := by
  refine WpF.of (T52_eq _ _ _ _) rfl ?_
  rw [T52]
  have second : ∀ σ1 heads, parse ws.length ws = some heads → Frm σ σ1 (fun j => ¬ Y j) → HP σ1 S Y room turns ws heads → ∀ q qc, Wp PROG ov0 (T52k5 (some (PA S)) (.exit 0) [.slice q 0 qc, .bool false]) σ1 fun _ vs σ' => ∃ v, vs = [v] ∧ Q v σ' := by
    intro σ1 heads hp hF1 h1 q qc
    have h1' := h1
    obtain ⟨h0, cw, ch, k1, k2⟩ := h1
    obtain ⟨pw, capw, ph, caph, a1, a2, a3, a4, a5, a6⟩ := k1.blk
    have hhl := k1.len
    simp only [T52k5, sw_same, asCons_cons, asSlice_slice, asBool_bool, asNil_nil, asSome_some]
    rw [wp_ldF a1 rfl, asSlice_slice]
    refine Wp.count ws.length (fun j st σ' => st = [.int .i64 ((j : Nat) : Int), .bool false] ∧ σ1 = σ' ∧ ∀ i (h : i < ws.length), i < j → heads.getD i false = true ∨ mayB heads ws[i] = true) ⟨rfl, rfl, fun i h hj => by omega⟩ ?_ ?_
    · rintro j st σ' hj ⟨rfl, rfl, hm⟩
      have ej : wi64 ((j : Int) + 1) = ((j + 1 : Nat) : Int) := by rw [wi64_in (by omega)]; omega
      have e0 : ws.getD j 0 = ws[j] := by simp [List.getD, hj]
      simp only [T52b1, asCons_cons, asInt_int, asBool_bool, asNil_nil]
      rw [wp_bif, if_pos (by simp; omega), wp_join, wp_rdJ a2.rdB.rd hj, e0, wp_join]
      simp only [asSome_some]
      rw [wp_ldF a1 rfl, asSlice_slice]
      obtain ⟨off, s, rfl, hR⟩ := a3.rowOf (by intro e; have := congrArg List.length e; simp at this; subst this; simp at hhl; omega)
      simp only [asSome_some]
      rw [wp_grd]
      refine ⟨by simp; omega, ?_⟩
      rw [Int.toNat_natCast, wp_rowR (v := .bool (heads.getD j false)) hR (by simp [hhl, hj, List.getD]), asBool_bool, wp_bif]
      have bad : heads.getD j false = false → mayB heads ws[j] = false → Wp PROG ov0 (T52k2 false .normal [.bool true]) σ1 fun e vs σ' => Wp PROG ov0 (T52k3 (j : Int) e vs) σ' fun e st' σ' => match e with
          | .normal => st' = [.int .i64 ((j + 1 : Nat) : Int), .bool false] ∧ σ1 = σ' ∧ ∀ i (h : i < ws.length), i < j + 1 → heads.getD i false = true ∨ mayB heads ws[i] = true
          | e => Wp PROG ov0 (T52k4 (some (PA S)) e st') σ' fun _ vs σ' => ∃ v, vs = [v] ∧ Q v σ' := by
        intro hh hmj
        simp only [T52k2, sw_same, asCons_cons, asBool_bool, asNil_nil]
        rw [wp_bif, if_pos (by rfl), wp_ret]
        simp only [T52k3, sw_same, asCons_cons, asBool_bool, asNil_nil]
        rw [wp_ret]
        simp only [T52k4, sw_re, sw_same, asCons_cons, asInt_int, asBool_bool, asNil_nil]
        rw [wp_ret]
        refine ⟨_, rfl, hno ?_ σ1 hF1⟩
        rintro ⟨heads', hp', ha, _⟩
        rw [hp] at hp'
        cases hp'
        rcases ha j hj with e | e
        · rw [hh] at e; cases e
        · rw [hmj] at e; cases e
      have good : (heads.getD j false = true ∨ mayB heads ws[j] = true) → Wp PROG ov0 (T52k2 false .normal [.bool false]) σ1 fun e vs σ' => Wp PROG ov0 (T52k3 (j : Int) e vs) σ' fun e st' σ' => match e with
          | .normal => st' = [.int .i64 ((j + 1 : Nat) : Int), .bool false] ∧ σ1 = σ' ∧ ∀ i (h : i < ws.length), i < j + 1 → heads.getD i false = true ∨ mayB heads ws[i] = true
          | e => Wp PROG ov0 (T52k4 (some (PA S)) e st') σ' fun _ vs σ' => ∃ v, vs = [v] ∧ Q v σ' := by
        intro hg
        simp only [T52k2, sw_same, asCons_cons, asBool_bool, asNil_nil]
        rw [wp_bif, if_neg (by simp), wp_ret]
        simp only [T52k3, sw_nr, sw_same, asCons_cons, asBool_bool, asNil_nil]
        rw [wp_ret, ej]
        refine ⟨rfl, rfl, fun i hi hij => ?_⟩
        by_cases e : i = j
        · subst e
          exact hg
        · exact hm i hi (by omega)
      cases hh : heads.getD j false with
      | true =>
        rw [if_neg (by simp), wp_ret]
        exact good (.inl hh)
      | false =>
        rw [if_pos (by rfl), wp_call, WpF.eq (ev_may h1' ws[j] (hw _ (List.getElem_mem hj))), asBool_bool, wp_ret]
        cases hmj : mayB heads ws[j] with
        | true => exact good (.inr hmj)
        | false => exact bad hh hmj
    · rintro st σ' ⟨rfl, rfl, hm⟩
      simp only [T52b1, asCons_cons, asInt_int, asBool_bool, asNil_nil]
      rw [wp_bif, if_neg (by simp), wp_ret]
      simp only [T52k4, sw_same, asCons_cons, asInt_int, asBool_bool, asNil_nil, asSome_some]
      rw [wp_ldF a1 rfl, asSlice_slice, wp_ldF a1 rfl, asInt_int, wp_ret]
      have ha : allMay heads ws := fun i hi => hm i hi hi
      by_cases hr : (ws.length : Int) ≤ room
      · rw [decide_eq_true hr]
        exact ⟨_, rfl, hok heads hp ha hr σ1 hF1 h1'⟩
      · rw [decide_eq_false hr]
        refine ⟨_, rfl, hno ?_ σ1 hF1⟩
        rintro ⟨heads', _, _, hr'⟩
        exact hr hr'
  refine Wp.count ws.length (fun j st σ' => ∃ q qc done dh rest, st = [.slice q rest.length qc, .bool false] ∧ Frm σ σ' (fun i => ¬ Y i) ∧ HP σ' S Y room turns done dh ∧ done ++ rest = ws ∧ SlV σ' R q qc (ints .u64 rest) ∧ (q ≠ none → Y R) ∧ rest.length + j ≤ ws.length ∧ parse ws.length ws = (parse (ws.length - j) rest).map (dh ++ ·))
    ⟨p, c, [], [], ws, rfl, Frm.refl _ _, h, rfl, hr, hRY, by omega, by simp⟩ ?_ ?_
  · rintro j st σ1 hj ⟨q, qc, done, dh, rest, rfl, hF1, h1, hdr, hq, hqY, hlen, hp⟩
    simp only [T52b0, asCons_cons, asSlice_slice, asBool_bool, asNil_nil]
    cases rest with
    | nil =>
      rw [wp_bif, if_neg (by simp), wp_ret]
      have e : parse (ws.length - j) [] = some [] := by cases ws.length - j <;> rfl
      rw [e] at hp
      simp at hp hdr
      subst hdr
      exact second σ1 dh hp hF1 h1 q qc
    | cons w rest =>
      have hwm : ∀ x ∈ w :: rest, 0 ≤ x := fun x hx => hw x (by rw [← hdr]; simp only [List.mem_append]; exact .inr hx)
      simp only [List.length_cons] at hlen ⊢
      have hdl : done.length + (rest.length + 1) = ws.length := by rw [← hdr]; simp
      obtain ⟨off, s, rfl, hR⟩ := hq.rowOf (by simp)
      have hcq := hq.cap
      have hmc := hq.mayCut
      simp only [List.length_map, List.length_cons] at hcq
      rw [wp_bif, if_pos (by simp), wp_join]
      simp only [asSome_some]
      rw [wp_grd]
      refine ⟨by simp, ?_⟩
      have hld : ∀ (g : Value → Pg) (Q : Post), Wp PROG ov0 (.act (ld1 (aadd ⟨R, off, some s⟩ 0)) g) σ1 Q = Wp PROG ov0 (g (.int .u64 w)) σ1 Q := by
        intro g Q
        have := hR.ld (i := 0) (v := .int .u64 w) (by simp)
        rw [wp_act, show aadd ⟨R, off, some s⟩ 0 = ⟨R, off + 0, some s⟩ from rfl, this]
      obtain ⟨k, t, hsp⟩ := ev_split (σ := σ1) w
      rw [hld, asInt_int, wp_call, WpF.eq hsp]
      simp only [asTuple_tuple, asCons_cons, asInt_int, asBool_bool, asNil_nil]
      rw [wp_join, wp_bif]
      have hnn := splitN_nn w
      have e1 : wi64 (1 + splitN w) = ((1 + (splitN w).toNat : Nat) : Int) := by rw [wi64_in (by omega)]; omega
      have ef : ws.length - j = (ws.length - (j + 1)) + 1 := by omega
      have epar : parse (ws.length - j) (w :: rest) = if splitOK w = true ∧ (splitN w).toNat ≤ rest.length then (parse (ws.length - (j + 1)) (rest.drop (splitN w).toNat)).map fun r => true :: (List.replicate (splitN w).toNat false ++ r) else none := by rw [ef]; rfl
      rw [epar] at hp
      have bad : ¬ (splitOK w = true ∧ (splitN w).toNat ≤ rest.length) → Wp PROG ov0 (T52k0 (some ⟨R, off, some s⟩) (rest.length + 1) qc (splitN w) (some (PA S)) false .normal [.bool true]) σ1 fun e vs σ' => Wp PROG ov0 (T52k1 e vs) σ' fun e st' σ' => match e with
          | .normal => False
          | e => Wp PROG ov0 (T52k5 (some (PA S)) e st') σ' fun _ vs σ' => ∃ v, vs = [v] ∧ Q v σ' := by
        intro hb
        rw [if_neg hb] at hp
        simp only [T52k0, sw_same, asCons_cons, asBool_bool, asNil_nil]
        rw [wp_bif, if_pos (by rfl), wp_ret]
        simp only [T52k1, sw_same, asCons_cons, asSlice_slice, asBool_bool, asNil_nil]
        rw [wp_ret]
        simp only [T52k5, sw_re, sw_same, asCons_cons, asSlice_slice, asBool_bool, asNil_nil]
        rw [wp_ret]
        refine ⟨_, rfl, hno ?_ σ1 hF1⟩
        rintro ⟨heads, hp', _⟩
        rw [hp] at hp'
        cases hp'
      have badW : ∀ (P' : Ex → List Value → AHeap → Prop), ¬ (splitOK w = true ∧ (splitN w).toNat ≤ rest.length) → (∀ e vs σ', (match e with
          | .normal => False
          | e => Wp PROG ov0 (T52k5 (some (PA S)) e vs) σ' fun _ vs σ' => ∃ v, vs = [v] ∧ Q v σ') → P' e vs σ') → Wp PROG ov0 (T52k0 (some ⟨R, off, some s⟩) (rest.length + 1) qc (splitN w) (some (PA S)) false .normal [.bool true]) σ1 fun e vs σ' => Wp PROG ov0 (T52k1 e vs) σ' P' := by
        intro P' hb himp
        exact Wp.mono _ _ _ _ (fun e vs σ' hh => Wp.mono _ _ _ _ himp hh) (bad hb)
      by_cases hsOK : splitOK w = true
      · rw [if_pos (by rw [hsOK]; rfl), wp_ret]
        by_cases hfit : (splitN w).toNat ≤ rest.length
        · rw [show (decide (splitN w ≥ (((rest.length + 1 : Nat) : Nat) : Int))) = false by simp; omega]
          rw [if_pos ⟨hsOK, hfit⟩] at hp
          simp only [T52k0, sw_same, asCons_cons, asBool_bool, asNil_nil, asSome_some]
          rw [wp_bif, if_neg (by simp), wp_grd]
          refine ⟨by simp, ?_⟩
          rw [hld, asInt_int, wp_grd, e1]
          refine ⟨by simp [hmc]; omega, ?_⟩
          rw [Int.toNat_natCast, show 1 + (splitN w).toNat - 1 = (splitN w).toNat by omega, wp_call]
          have hsl1 := hq.drop 1 (by simp)
          have ed1 : (ints .u64 (w :: rest)).drop 1 = ints .u64 rest := rfl
          rw [ed1] at hsl1
          have hsl2 := hsl1.take (splitN w).toNat
          have et : (ints .u64 rest).take (splitN w).toNat = ints .u64 (rest.take (splitN w).toNat) := by simp [ints, List.map_take]
          rw [et] at hsl2
          have htl : (rest.take (splitN w).toNat).length = (splitN w).toNat := by simp; omega
          have hput := wp_putH h1 hsl2 (fun _ => hqY (by simp)) (by omega) (by omega) w (Q := fun v σ2 => v = .int .u64 (ptrW done.length) ∧ Frm σ1 σ2 (fun j => ¬ Y j) ∧ HP σ2 S Y room turns (done ++ w :: rest.take (splitN w).toNat) (dh ++ true :: List.replicate (splitN w).toNat false)) fun σ2 hF2 h2 => ⟨rfl, hF2, by rw [htl] at h2; exact h2⟩
          rw [htl] at hput
          refine WpF.mono hput ?_
          rintro v σ2 ⟨rfl, hF2, h2⟩
          have hq2 := hq.frm hF2 fun _ hy => hy (hqY (by simp))
          simp only [asInt_int]
          rw [wp_grd]
          refine ⟨by simp [hmc]; omega, ?_⟩
          rw [wp_ret]
          simp only [T52k1, sw_nr, sw_same, asCons_cons, asSlice_slice, asBool_bool, asNil_nil]
          rw [wp_ret]
          have hsl3 := hq2.drop (1 + (splitN w).toNat) (by simp; omega)
          have ed3 : (ints .u64 (w :: rest)).drop (1 + (splitN w).toNat) = ints .u64 (rest.drop (splitN w).toNat) := by rw [Nat.add_comm]; simp [ints, List.map_drop]
          rw [ed3] at hsl3
          have hdl2 : (rest.drop (splitN w).toNat).length = rest.length + 1 - (1 + (splitN w).toNat) := by simp; omega
          refine ⟨_, _, _, _, rest.drop (splitN w).toNat, by rw [hdl2], hF1.trans hF2 (fun _ _ h => h) (fun _ _ h => h), h2, ?_, hsl3, fun _ => hqY (by simp), by simp; omega, ?_⟩
          · rw [← hdr]
            simp
          · rw [hp]
            cases parse (ws.length - (j + 1)) (rest.drop (splitN w).toNat) with
            | none => rfl
            | some r => simp
        · rw [show (decide (splitN w ≥ (((rest.length + 1 : Nat) : Nat) : Int))) = true by simp; omega]
          refine badW _ (fun h => hfit h.2) fun e vs σ' hh => ?_
          cases e with
          | normal => exact hh.elim
          | ret => exact hh
          | exit i => exact hh
      · have hsf : splitOK w = false := by simpa using hsOK
        rw [if_neg (by rw [hsf]; simp), wp_ret]
        refine badW _ (fun h => hsOK h.1) fun e vs σ' hh => ?_
        cases e with
        | normal => exact hh.elim
        | ret => exact hh
        | exit i => exact hh
  · rintro st σ1 ⟨q, qc, done, dh, rest, rfl, hF1, h1, hdr, hq, hqY, hlen, hp⟩
    have : rest = [] := by
      cases rest with
      | nil => rfl
      | cons w rest => simp only [List.length_cons] at hlen; omega
    subst this
    simp only [T52b0, asCons_cons, asSlice_slice, asBool_bool, asNil_nil]
    rw [wp_bif, if_neg (by simp), wp_ret]
    have e : parse (ws.length - ws.length) [] = some [] := by cases ws.length - ws.length <;> rfl
    rw [e] at hp
    simp at hp hdr
    subst hdr
    exact second σ1 dh hp hF1 h1 q qc
end
end Go.Pg
