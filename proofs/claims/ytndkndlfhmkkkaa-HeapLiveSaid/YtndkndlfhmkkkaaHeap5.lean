/- Layer 12: Load; a heap's bytes as a text; words that are turned. -/
import Derived.Test.YtndkndlfhmkkkaaHeap4
namespace Go.Pg
open Go.Proofs

def nums : Nat → List Int → List Int
  | 0, _ => []
  | n + 1, l => rdNum (l.take 8) :: nums n (l.drop 8)
theorem nums_len : ∀ (n : Nat) (l : List Int), (nums n l).length = n
  | 0, _ => rfl
  | n + 1, l => by rw [nums, List.length_cons, nums_len n]
theorem nums_get : ∀ (n : Nat) (l : List Int) (j : Nat), j < n → (nums n l).getD j 0 = rdNum ((l.drop (8 * j)).take 8)
  | n + 1, l, 0, _ => by simp [nums]
  | n + 1, l, j + 1, h => by
    have := nums_get n (l.drop 8) j (by omega)
    rw [nums, List.getD_cons_succ, this, List.drop_drop]
    congr 3
    omega

theorem rdNum_bnd (l : List Int) (hb : ∀ x ∈ l, 0 ≤ x ∧ x ≤ 255) : ∀ j, j ≤ l.length → 0 ≤ rdNum (l.take j) ∧ rdNum (l.take j) < 256 ^ j := by
  intro j
  induction j with
  | zero => intro _; simp [rdNum]
  | succ j ih =>
    intro hj
    have := ih (by omega)
    have hx := hb l[j] (List.getElem_mem (by omega))
    rw [rdNum_succ l j (by omega), Int.pow_succ]
    omega
theorem rdNum_take8 (l : List Int) (hb : ∀ x ∈ l, 0 ≤ x ∧ x ≤ 255) (h : 8 ≤ l.length) : 0 ≤ rdNum (l.take 8) ∧ rdNum (l.take 8) < 18446744073709551616 := by
  have := rdNum_bnd l hb 8 h
  have e : (256 : Int) ^ 8 = 18446744073709551616 := by rfl
  omega

structure LoadR (l : List Int) (room turns : Int) (ws : List Int) (heads : List Bool) : Prop where
  l16 : 16 ≤ l.length
  l8 : l.length % 8 = 0
  rmE : room = rdNum (l.take 8)
  tnE : turns = rdNum ((l.drop 8).take 8)
  r16 : 16 ≤ room
  rmax : room ≤ 65536
  tmax : turns ≤ 9223372036854775807
  wsE : ws = nums ((l.length - 16) / 8) (l.drop 16)
  par : parse ws.length ws = some heads
  may : allMay heads ws
  fits : (ws.length : Int) ≤ room

section
variable {σ : AHeap} {S : Nat} {Y : Nat → Prop} {room turns : Int} {words : List Int} {heads : List Bool}

theorem ev_new_no (n : Int) (hn : n < 16 ∨ n > 65536) : EvF PROG ov0 10 [.int .i64 n] σ (.tuple #[.pointer none, .int .i64 1]) σ := by
  refine EvF.of (T10_eq _) rfl ?_
  rw [T10, wp_bif, if_pos (by simp; omega), wp_ret]
  exact ⟨rfl, rfl⟩

theorem HP.setTurns (h : HP σ S Y room turns words heads) (t : Int) {p : Pg} {Q : Post}
    (k : ∀ σ', Frm σ σ' (· = S) → HP σ' S Y room t words heads → Wp PROG ov0 p σ' Q) : Wp PROG ov0 (.act (stC (aadd ⟨S, 0, some 0⟩ 1) [.int .i64 t]) fun v => asTuple v fun l => asNil l p) σ Q := by
  obtain ⟨h0, cw, ch, h1, h2⟩ := h
  obtain ⟨pw, capw, ph, caph, a1, a2, a3, a4, a5, a6⟩ := h1.blk
  refine wp_st1Q a1 (by simp) rfl fun σ1 hF1 hn1 hS1 => k σ1 hF1 ⟨fun i hi => Nat.lt_of_lt_of_le (h0 i hi) hF1.n, cw, ch, ⟨⟨pw, capw, ph, caph, hS1, a2.frm hF1 a4, a3.frm hF1 a5, a4, a5, a6⟩, h1.len, Nat.lt_of_lt_of_le h1.lw hF1.n, Nat.lt_of_lt_of_le h1.lh hF1.n⟩, h2⟩

theorem mayCut_drop {b cap : Nat} {p : Option Addr} {xs : List Value} (h : SlV σ b p cap xs) (k : Nat) (hk : k ≤ xs.length) : mayCut (cutS p k) 1 = true := by
  have := (h.drop k hk).mayCut
  rwa [Nat.mul_one] at this

/-- Numbers that are read, cut ahead. -/
structure Src (σ : AHeap) (k : IntKind) (p : Option Addr) (c : Nat) (l : List Int) : Prop where
  rd : ∀ σ', Frm σ σ' NoB → ∀ j, j ≤ l.length → RdI σ' k (cutS p j) (l.drop j)
  mc : ∀ j, j ≤ l.length → mayCut (cutS p j) 1 = true
  cap : l.length ≤ c
theorem cutS_zero (p : Option Addr) : cutS p 0 = p := by
  cases p with
  | none => rfl
  | some a => rfl
theorem cutS_cutS (p : Option Addr) (a b : Nat) : cutS (cutS p a) b = cutS p (a + b) := by
  cases p with
  | none => rfl
  | some x => simp [cutS, aadd, Nat.add_assoc]
theorem SlV.src {b cap : Nat} {k : IntKind} {p : Option Addr} {l : List Int} (h : SlV σ b p cap (ints k l)) : Src σ k p cap l := by
  have ed : ∀ j, (ints k l).drop j = ints k (l.drop j) := fun j => by simp [ints, List.map_drop]
  refine ⟨fun σ' hF j hj => ?_, fun j hj => mayCut_drop h j (by simpa using hj), by simpa using h.cap⟩
  have := (h.frm hF fun _ h => h).drop j (by simpa using hj)
  rw [Nat.mul_one, ed] at this
  exact this.rdB.rd

theorem wp_loadB {c : Nat} {p : Option Addr} {l : List Int} (hr : Src σ .u8 p c l) (hb : ∀ x ∈ l, 0 ≤ x ∧ x ≤ 255) (hl : l.length ≤ 800000) {Q : Value → AHeap → Prop}
    (hno : (¬ ∃ room turns ws heads, LoadR l room turns ws heads) → ∀ σ', Frm σ σ' NoB → Q (.tuple #[.pointer none, .int .i64 3]) σ')
    (hok : ∀ room turns ws heads, LoadR l room turns ws heads → ∀ σ' S, Frm σ σ' NoB → σ.n ≤ S → HP σ' S (fun i => i < σ.n) room turns ws heads → Q (.tuple #[PV S, .int .i64 0]) σ') :
    WpF PROG ov0 29 [.slice p l.length c] σ Q := by
  refine WpF.of (T29_eq _ _ _) rfl ?_
  rw [T29, wp_join, wp_bif]
  have bad : ¬ (16 ≤ l.length ∧ l.length % 8 = 0) → Wp PROG ov0 (T29k2 p l.length c .normal [.bool true]) σ fun _ vs σ' => ∃ v, vs = [v] ∧ Q v σ' := by
    intro hn
    simp only [T29k2, sw_same, asCons_cons, asBool_bool, asNil_nil]
    rw [wp_bif, if_pos (by rfl), wp_ret]
    exact ⟨_, rfl, hno (fun ⟨_, _, _, _, h⟩ => hn ⟨h.l16, h.l8⟩) σ (Frm.refl _ _)⟩
  by_cases h16 : 16 ≤ l.length
  · rw [if_pos (by simp; omega), wp_ret]
    by_cases h8 : l.length % 8 = 0
    · have e8 : (Int.tmod ((l.length : Nat) : Int) 8 != 0) = false := by
        have : Int.tmod ((l.length : Nat) : Int) 8 = ((l.length % 8 : Nat) : Int) := by rw [Int.tmod_eq_emod_of_nonneg (by omega)]; omega
        rw [this, h8]
        rfl
      rw [e8]
      simp only [T29k2, sw_same, asCons_cons, asBool_bool, asNil_nil]
      have hcap := hr.cap
      have hmc : mayCut p 1 = true := by have := hr.mc 0 (by omega); rwa [cutS_zero] at this
      have hrd0 : RdI σ .u8 p l := by have := hr.rd σ (Frm.refl _ _) 0 (by omega); rwa [cutS_zero, List.drop_zero] at this
      have hrd8 := hr.rd σ (Frm.refl _ _) 8 (by omega)
      have hmc8 := hr.mc 8 (by omega)
      have hb1 : ∀ x ∈ l.drop 8, 0 ≤ x ∧ x ≤ 255 := fun x hx => hb x (List.mem_of_mem_drop hx)
      have hb2 : ∀ x ∈ l.drop 16, 0 ≤ x ∧ x ≤ 255 := fun x hx => hb x (List.mem_of_mem_drop hx)
      rw [wp_bif, if_neg (by simp), wp_call, WpF.eq (ev_read hrd0 (by omega) hb hmc l.length c (by omega)), asInt_int, wp_grd]
      refine ⟨by simp [hmc]; omega, ?_⟩
      rw [wp_call, WpF.eq (ev_read hrd8 (by simp; omega) hb1 hmc8 (l.length - 8) (c - 8) (by omega)), asInt_int, wp_bif]
      have q1 := rdNum_take8 l hb (by omega)
      have q2 := rdNum_take8 (l.drop 8) hb1 (by simp; omega)
      obtain ⟨rm, erm⟩ : ∃ rm, rm = rdNum (l.take 8) := ⟨_, rfl⟩
      obtain ⟨tn, etn⟩ : ∃ tn, tn = rdNum ((l.drop 8).take 8) := ⟨_, rfl⟩
      rw [← erm] at q1 ⊢
      rw [← etn] at q2 ⊢
      by_cases hbig : rm > 65536 ∨ tn > 9223372036854775807
      · rw [if_pos (by simp; omega), wp_ret]
        refine ⟨_, rfl, hno ?_ σ (Frm.refl _ _)⟩
        rintro ⟨room, turns, _, _, h⟩
        have := h.rmax
        have := h.tmax
        rw [h.rmE, ← erm] at *
        rw [h.tnE, ← etn] at *
        omega
      · rw [if_neg (by simp; omega), wi64_in (by omega), wp_call]
        by_cases hsm : rm < 16
        · rw [WpF.eq (ev_new_no rm (.inl hsm))]
          simp only [asTuple_tuple, asCons_cons, asPtr_ptr, asInt_int, asNil_nil]
          rw [wp_bif, if_pos (by rfl), wp_ret]
          refine ⟨_, rfl, hno ?_ σ (Frm.refl _ _)⟩
          rintro ⟨room, turns, _, _, h⟩
          have := h.r16
          rw [h.rmE, ← erm] at this
          omega
        · refine wp_newH (Y := fun i => i < σ.n) rm (by omega) (fun i hi => hi) fun σ1 hF1 h1 => ?_
          simp only [asTuple_tuple, asCons_cons, asPtr_ptr, asInt_int, asNil_nil, asSome_some]
          rw [wp_bif, if_neg (by simp), wi64_in (by omega)]
          refine h1.setTurns tn fun σ2 hF2 h2 => ?_
          have hF12 : Frm σ σ2 NoB := hF1.fresh hF2 fun j hj h => by omega
          rw [wp_grd]
          refine ⟨by simp [hmc]; omega, ?_⟩
          obtain ⟨k, hk⟩ : ∃ k, l.length = 16 + 8 * k := ⟨(l.length - 16) / 8, by omega⟩
          obtain ⟨ws, ews⟩ : ∃ ws, ws = nums k (l.drop 16) := ⟨_, rfl⟩
          have hwl : ws.length = k := by rw [ews, nums_len]
          refine Wp.count k (fun j st σ' => ∃ pl cl bl, st = [.slice (cutS p (16 + 8 * j)) (l.length - (16 + 8 * j)) (c - (16 + 8 * j)), .slice pl j cl] ∧ Frm σ2 σ' NoB ∧ SlV σ' bl pl cl (ints .u64 (ws.take j)) ∧ (pl ≠ none → σ2.n ≤ bl))
            ⟨none, 0, 0, rfl, Frm.refl _ _, .inl ⟨rfl, rfl, by simp⟩, fun h => absurd rfl h⟩ ?_ ?_
          · rintro j st σ3 hj ⟨pl, cl, bl, rfl, hF3, hw, hbl⟩
            have hbj : ∀ x ∈ l.drop (16 + 8 * j), 0 ≤ x ∧ x ≤ 255 := fun x hx => hb x (List.mem_of_mem_drop hx)
            have hlj : (l.drop (16 + 8 * j)).length = 8 * (k - j) := by simp; omega
            have hrdj := hr.rd σ3 (hF12.seq hF3) (16 + 8 * j) (by omega)
            have hmq := hr.mc (16 + 8 * j) (by omega)
            simp only [T29b0, asCons_cons, asSlice_slice, asNil_nil]
            rw [wp_bif, if_pos (by simp; omega), wp_join, wp_call, WpF.eq (ev_read hrdj (by omega) hbj hmq _ (c - (16 + 8 * j)) (by omega)), asInt_int]
            refine wp_app1 hw (by rw [List.length_map, List.length_take]; omega) rfl (by omega) (by omega) fun σ4 b4 off s c4 hF4 hb4 hR4 => ?_
            rw [wp_ret]
            simp only [T29k0, sw_same, asCons_cons, asSlice_slice, asNil_nil]
            rw [wp_grd]
            refine ⟨by simp [hmq]; omega, ?_⟩
            rw [wp_ret]
            have hn2 := hF12.n
            have ew : ints .u64 (ws.take (j + 1)) = ints .u64 (ws.take j) ++ [.int .u64 (rdNum ((l.drop (16 + 8 * j)).take 8))] := by
              rw [ints_take_succ .u64 ws j (by omega), ews, nums_get k _ j hj, List.drop_drop]
            refine ⟨some ⟨b4, off, some s⟩, c4, b4, ?_, hF3.fresh hF4 (fun i hi h => by have := hbl h.1; omega), .inr ⟨off, s, rfl, by rw [ew]; exact hR4⟩, fun _ => ?_⟩
            · rw [cutS_cutS, show 16 + 8 * j + 8 = 16 + 8 * (j + 1) by omega, show l.length - (16 + 8 * j) - 8 = l.length - (16 + 8 * (j + 1)) by omega, show c - (16 + 8 * j) - 8 = c - (16 + 8 * (j + 1)) by omega]
            · rcases hb4 with ⟨hp, rfl⟩ | hb4
              · exact hbl hp
              · have := hF3.n
                omega
          · rintro st σ3 ⟨pl, cl, bl, rfl, hF3, hw, hbl⟩
            rw [← hwl, List.take_length] at hw
            have hl0 : l.length - (16 + 8 * k) = 0 := by omega
            simp only [T29b0, asCons_cons, asSlice_slice, asNil_nil]
            rw [wp_bif, if_neg (by rw [hl0]; simp), wp_ret]
            simp only [T29k1, sw_same, asCons_cons, asSlice_slice, asNil_nil]
            have hn2 := hF12.n
            have h3 := h2.step (Y' := fun i => i < σ.n ∨ (pl ≠ none ∧ i = bl)) hF3 (fun i _ h => h.elim) fun i hi => by
              rcases hi with hi | ⟨hp, rfl⟩
              · have := hF3.n
                exact ⟨by omega, .inl hi⟩
              · cases pl with
                | none => exact absurd rfl hp
                | some a => exact ⟨hw.lt, .inr (hbl hp)⟩
            have hwnn : ∀ w ∈ ws, 0 ≤ w := by
              intro w hw
              obtain ⟨i, hi, rfl⟩ := List.mem_iff_getElem.1 hw
              have e : ws[i] = ws.getD i 0 := by simp [List.getD, hi]
              rw [e, ews, nums_get k _ i (by omega), List.drop_drop]
              exact (rdNum_take8 _ (fun x hx => hb x (List.mem_of_mem_drop hx)) (by simp; omega)).1
            have mk : ∀ heads, parse ws.length ws = some heads → allMay heads ws → (ws.length : Int) ≤ rm → LoadR l rm tn ws heads := fun heads hp ha hf =>
              ⟨h16, h8, erm, etn, by omega, by omega, by omega, by rw [ews, show (l.length - 16) / 8 = k by omega], hp, ha, hf⟩
            rw [wp_call, ← hwl]
            refine wp_loadH h3 hw (fun hp => .inr ⟨hp, rfl⟩) hwnn (by omega) ?_ ?_
            · intro hn σ4 hF4
              rw [asBool_bool, wp_bif, if_pos (by rfl), wp_ret]
              refine ⟨_, rfl, hno ?_ σ4 ((hF12.seq hF3).fresh hF4 fun j hj h => h (.inl hj))⟩
              rintro ⟨room, turns, ws', heads, h⟩
              have e : ws' = ws := by rw [h.wsE, ews, show (l.length - 16) / 8 = k by omega]
              subst e
              exact hn ⟨heads, h.par, h.may, by rw [erm, ← h.rmE]; exact h.fits⟩
            · intro heads hp ha hf σ4 hF4 h4
              rw [asBool_bool, wp_bif, if_neg (by simp), wp_ret]
              refine ⟨_, rfl, hok rm tn ws heads (mk heads hp ha hf) σ4 σ.n ((hF12.seq hF3).fresh hF4 fun j hj h => h (.inl hj)) (Nat.le_refl _) ?_⟩
              exact h4.step (Frm.refl σ4 NoB) (fun i _ h => h.elim) fun i hi => ⟨h4.1 i (.inl hi), .inl (.inl hi)⟩
    · have e8 : (Int.tmod ((l.length : Nat) : Int) 8 != 0) = true := by
        have : Int.tmod ((l.length : Nat) : Int) 8 = ((l.length % 8 : Nat) : Int) := by rw [Int.tmod_eq_emod_of_nonneg (by omega)]; omega
        rw [this]
        simp
        omega
      rw [e8]
      exact bad fun h => h8 h.2
  · rw [if_neg (by simp; omega), wp_ret]
    exact bad fun h => h16 h.1

/-- Bytes as a text. -/
def strB (xs : List Int) : ByteArray := ⟨(xs.map fun x => UInt8.ofNat x.toNat).toArray⟩
theorem bytesOf_ints : ∀ xs : List Int, bytesOfCells (ints .u8 xs) = some (xs.map fun x => UInt8.ofNat x.toNat)
  | [] => rfl
  | x :: xs => by
    have e : ints .u8 (x :: xs) = .int .u8 x :: ints .u8 xs := rfl
    rw [e, bytesOfCells, bytesOf_ints xs]
    rfl
theorem wp_b2s {b cap : Nat} {p : Option Addr} {xs : List Int} (h : SlV σ b p cap (ints .u8 xs)) (g : Value → Pg) (Q : Post) : Wp PROG ov0 (.act (bytesToStringAct (.slice p xs.length cap)) g) σ Q = Wp PROG ov0 (g (.string (strB xs))) σ Q := by
  rw [wp_act]
  cases p with
  | none =>
    rcases h with ⟨_, _, e⟩ | ⟨_, _, e, _⟩
    · simp at e
      subst e
      rfl
    · cases e
  | some a =>
    have := h.rdN (k := xs.length) (by simp)
    rw [List.take_of_length_le (by simp)] at this
    unfold bytesToStringAct
    simp only [this, bytesOf_ints]
    rfl

theorem wp_back15 {p : Option Addr} {l : List Int} (hst : ∀ σ', Frm σ σ' NoB → RdI σ' .u64 p l) (hs : l.length ≤ 100000) (cap : Nat) {Q : Value → AHeap → Prop}
    (hQ : ∀ σ' b p' cap', Frm σ σ' NoB → SlV σ' b p' cap' (ints .u64 l) → (p' ≠ none → σ.n ≤ b) → Q (.slice p' l.length cap') σ') : WpF PROG ov0 15 [.slice p l.length cap] σ Q := by
  refine WpF.of (T15_eq _ _ _) rfl ?_
  rw [T15]
  refine Wp.count l.length (fun j st σ' => ∃ q qcap b, st = [.int .i64 ((j : Nat) : Int), .slice q j qcap] ∧ Frm σ σ' NoB ∧ SlV σ' b q qcap (ints .u64 (l.take j)) ∧ (q ≠ none → σ.n ≤ b)) ⟨none, 0, 0, rfl, Frm.refl _ _, .inl ⟨rfl, rfl, by simp⟩, fun h => absurd rfl h⟩ ?_ ?_
  · rintro j st σ1 hj ⟨q, qcap, b, rfl, hF1, hq, hqb⟩
    have ej : wi64 ((j : Int) + 1) = ((j + 1 : Nat) : Int) := by rw [wi64_in (by omega)]; omega
    simp only [T15b0, asCons_cons, asInt_int, asSlice_slice, asNil_nil]
    rw [wp_bif, if_pos (by simp; omega), wp_join, wp_rdJ (hst σ1 hF1) hj]
    refine wp_app1 hq (by simp; omega) rfl (by omega) (by omega) fun σ2 b2 off s cap2 hF2 hb2 hR2 => ?_
    rw [wp_ret]
    simp only [T15k0, sw_same, asCons_cons, asSlice_slice, asNil_nil]
    rw [wp_ret, ej]
    have e := ints_take_succ .u64 l j hj
    refine ⟨_, cap2, b2, rfl, hF1.fresh hF2 fun i hi h => by have := hqb h.1; omega, ?_, fun _ => ?_⟩
    · rw [e]
      exact .inr ⟨off, s, rfl, hR2⟩
    · rcases hb2 with ⟨hb2, rfl⟩ | hb2
      · exact hqb hb2
      · have := hF1.n
        omega
  · rintro st σ1 ⟨q, qcap, b, rfl, hF1, hq, hqb⟩
    rw [List.take_length] at hq
    simp only [T15b0, asCons_cons, asInt_int, asSlice_slice, asNil_nil]
    rw [wp_bif, if_neg (by simp), wp_ret]
    simp only [T15k1, sw_same, asCons_cons, asInt_int, asSlice_slice, asNil_nil]
    rw [wp_ret]
    exact ⟨_, rfl, hQ σ1 b q qcap hF1 hq hqb⟩
end
end Go.Pg
