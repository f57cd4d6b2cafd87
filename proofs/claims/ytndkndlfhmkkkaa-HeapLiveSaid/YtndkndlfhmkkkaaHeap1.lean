/- Layer 12: a heap of words: its places, what may stand in a thing, a thing that is put. -/
import Derived.Test.YtndkndlfhmkkkaaRow2
namespace Go.Pg
open Go.Proofs

abbrev PA (b : Nat) : Addr := ⟨b, 0, some 0⟩
abbrev PV (b : Nat) : Value := .pointer (some (PA b))
abbrev bools (l : List Bool) : List Value := l.map Value.bool

theorem wp_apI {P : Program} {ov : Ov} {σ : AHeap} {b cap len n byt : Nat} {p : Option Addr} {xs : List Value} {x : Value} {g : Option Addr → Nat → Nat → Pg} {Q : Post} (h : SlV σ b p cap xs) (hlen : len = xs.length) (hx : one x = true) (hn : 1 ≤ n) (hbyt : 1 ≤ byt)
    (hb : 2 * (len + n) * byt ≤ 281474976710656) (hb2 : len + n ≤ 4611686018427387904)
    (k : ∀ σ' b' off s cap', Frm σ σ' (fun j => p ≠ none ∧ j = b) → ((p ≠ none ∧ b' = b) ∨ σ.n ≤ b') → Row σ' b' off s cap' 1 (xs ++ List.replicate n x) → Wp P ov (g (some ⟨b', off, some s⟩) (len + n) cap') σ' Q) :
    Wp P ov (.act (apI 1 byt p len cap [x] (n : Int)) fun w => asSlice w g) σ Q := by
  subst hlen
  have hc : (decide (0 ≤ (n : Int)) && Nat.ble ((n : Int).toNat * byt) 281474976710656 && Nat.ble 1 byt) = true := by
    have : n * byt ≤ 2 * (xs.length + n) * byt := Nat.mul_le_mul_right _ (by omega)
    simp
    omega
  have hro : ∀ y ∈ List.replicate n x, one y = true := fun y hy => by rw [(List.mem_replicate.1 hy).2]; exact hx
  rw [wp_act]
  unfold apI
  rw [hc, cond_true, Int.toNat_natCast, rep_1]
  rcases h with ⟨rfl, rfl, rfl⟩ | ⟨off, s, rfl, h⟩
  · rw [List.length_nil, apCore_nil (by decide) hn (by simp) hro (by simpa using hb) (by simpa using hb2)]
    simp only [asSlice_slice]
    have := k (σ.newBlk (List.replicate n x) 1) σ.n 0 1 n (Frm.new _ _ _ _) (.inr (Nat.le_refl _)) (by simpa using Row.new σ 1 (List.replicate n x) n (by decide) (by simp) hro)
    simpa using this
  · obtain ⟨σ', s', cap', e1, e2, e3, e4, e5⟩ := h.append (byt := byt) (len := xs.length) (n := n) (ys := List.replicate n x) (by simp) (by simp) (by decide) hn hro hb hb2
    rw [e1]
    simp only [asSlice_slice]
    exact k σ' b off s' cap' ((Frm.of1 h.lt e2 e3 e4).mono fun j _ e => ⟨by simp, e⟩) (.inl ⟨by simp, rfl⟩) e5

structure HS (σ : AHeap) (S cw ch : Nat) (room turns : Int) (words : List Int) (heads : List Bool) : Prop where
  blk : ∃ pw capw ph caph, St σ S [.int .i64 room, .int .i64 turns, .slice pw words.length capw, .slice ph heads.length caph] ∧ SlV σ cw pw capw (ints .u64 words) ∧ SlV σ ch ph caph (bools heads) ∧ (pw ≠ none → cw ≠ S) ∧ (ph ≠ none → ch ≠ S) ∧ (pw ≠ none → ph ≠ none → cw ≠ ch)
  len : heads.length = words.length
  lw : cw < σ.n
  lh : ch < σ.n

/-- The heap, and blocks Y that it does not have. -/
def HP (σ : AHeap) (S : Nat) (Y : Nat → Prop) (room turns : Int) (words : List Int) (heads : List Bool) : Prop :=
  (∀ i, Y i → i < σ.n) ∧ ∃ cw ch, HS σ S cw ch room turns words heads ∧ ∀ i, Y i → i ≠ S ∧ i ≠ cw ∧ i ≠ ch

theorem HS.lt {σ : AHeap} {S cw ch : Nat} {room turns : Int} {words : List Int} {heads : List Bool} (h : HS σ S cw ch room turns words heads) : S < σ.n := by
  obtain ⟨_, _, _, _, h1, _⟩ := h.blk
  exact h1.1

theorem HS.frm {σ σ' : AHeap} {T : Nat → Prop} {S cw ch : Nat} {room turns : Int} {words : List Int} {heads : List Bool} (h : HS σ S cw ch room turns words heads) (k : Frm σ σ' T) (h1 : ¬ T S) (h2 : ¬ T cw) (h3 : ¬ T ch) : HS σ' S cw ch room turns words heads := by
  obtain ⟨pw, capw, ph, caph, a1, a2, a3, a4⟩ := h.blk
  exact ⟨⟨pw, capw, ph, caph, k.st a1 h1, a2.frm k fun _ => h2, a3.frm k fun _ => h3, a4⟩, h.len, Nat.lt_of_lt_of_le h.lw k.n, Nat.lt_of_lt_of_le h.lh k.n⟩

section
variable {σ : AHeap} {S : Nat} {Y : Nat → Prop} {room turns : Int} {words : List Int} {heads : List Bool}

theorem HP.step {σ' : AHeap} {Y' T : Nat → Prop} (h : HP σ S Y room turns words heads) (k : Frm σ σ' T) (hT : ∀ i, i < σ.n → T i → Y i) (hY : ∀ i, Y' i → i < σ'.n ∧ (Y i ∨ σ.n ≤ i)) : HP σ' S Y' room turns words heads := by
  obtain ⟨h0, cw, ch, h1, h2⟩ := h
  have a := h1.lt
  have b := h1.lw
  have c := h1.lh
  refine ⟨fun i hi => (hY i hi).1, cw, ch, h1.frm k (fun ht => (h2 S (hT S a ht)).1 rfl) (fun ht => (h2 cw (hT cw b ht)).2.1 rfl) (fun ht => (h2 ch (hT ch c ht)).2.2 rfl), fun i hi => ?_⟩
  rcases (hY i hi).2 with hy | hn
  · exact h2 i hy
  · omega

theorem HP.lt (h : HP σ S Y room turns words heads) : S < σ.n := by
  obtain ⟨_, cw, ch, h1, _⟩ := h
  exact h1.lt

theorem wp_newH (n : Int) (hn : 16 ≤ n ∧ n ≤ 65536) (hY : ∀ i, Y i → i < σ.n) {Q : Value → AHeap → Prop} (hQ : ∀ σ', Frm σ σ' NoB → HP σ' σ.n Y n 0 [] [] → Q (.tuple #[PV σ.n, .int .i64 0]) σ') : WpF PROG ov0 10 [.int .i64 n] σ Q := by
  refine WpF.of (T10_eq _) rfl ?_
  rw [T10, wp_bif, if_neg (by simp; omega)]
  refine wp_newQ fun σ1 hF1 hn1 hS1 => ?_
  rw [wp_ret]
  refine ⟨_, rfl, hQ _ hF1 ⟨fun i hi => Nat.lt_of_lt_of_le (hY i hi) hF1.n, σ.n, σ.n, ⟨⟨none, 0, none, 0, hS1, .inl ⟨rfl, rfl, rfl⟩, .inl ⟨rfl, rfl, rfl⟩, fun h => absurd rfl h, fun h => absurd rfl h, fun h => absurd rfl h⟩, rfl, by omega, by omega⟩, fun i hi => ?_⟩⟩
  have := hY i hi
  omega

/-- A number's word; a place's. -/
def numW (n : Int) : Int := (2 * n + 1) % 18446744073709551616
theorem num_eq (n : Int) : orI .u64 (shlI .u64 (wu64 n) 1) 1 = numW n := by
  have h := shlI_eq .u64 (wu64 n) 1 (by decide)
  simp only [Int.natCast_one] at h
  rw [h]
  have e : IntKind.u64.wrap (wu64 n * 2 ^ 1) = ((n * 2) % 18446744073709551616) := by
    show wu64 _ = _
    rw [wu64_eq, wu64_eq]
    omega
  rw [e, orI_disj .u64 _ 1 (n % 9223372036854775808) 1 (by omega) (by decide) (by decide)]
  show wu64 _ = _
  rw [wu64_eq]
  unfold numW
  omega
theorem ev_num (n : Int) : EvF PROG ov0 11 [.int .i64 n] σ (.int .u64 (numW n)) σ :=
  EvF.of (T11_eq n) rfl (by simp [T11, wp_ret, num_eq])

def ptrW (n : Int) : Int := 2 * (min (max n 0) 2147483647)
theorem ptr_eq (n : Int) : shlI .u64 (wu64 (minV (maxV n 0) 2147483647)) 1 = ptrW n := by
  have h := shlI_eq .u64 (wu64 (minV (maxV n 0) 2147483647)) 1 (by decide)
  simp only [Int.natCast_one] at h
  rw [h, minV_eq, maxV_eq]
  show wu64 _ = _
  rw [wu64_eq, wu64_eq]
  unfold ptrW
  omega
theorem ev_ptr (n : Int) : EvF PROG ov0 31 [.int .i64 n] σ (.int .u64 (ptrW n)) σ :=
  EvF.of (T31_eq n) rfl (by simp [T31, wp_ret, ptr_eq])

theorem and_one (a : Int) : andI .u64 a 1 = a % 2 := by
  have := andI_mask .u64 a 1 (by decide)
  simpa using this
theorem shr_one (w : Int) : shrI .u64 w 1 = w / 2 := by
  have h := shrI_eq .u64 w 1 (by decide)
  simpa using h

def intW (w : Int) : Int := if w % 2 = 0 then 0 else ((w + 9223372036854775808) % 18446744073709551616 - 9223372036854775808) / 2
theorem ev_int (w : Int) : EvF PROG ov0 54 [.int .u64 w] σ (.tuple #[.int .i64 (intW w), .bool (decide (w % 2 ≠ 0))]) σ := by
  refine EvF.of (T54_eq w) rfl ?_
  have h := shrI_eq .i64 (wi64 w) 1 (by decide)
  simp only [Int.natCast_one] at h
  rw [T54, wp_bif, and_one, h, wi64_eq]
  unfold intW
  by_cases h2 : w % 2 = 0 <;> simp [h2, wp_ret]

/-- The place that a word is, if it is one. -/
def atB (w : Int) : Bool := decide (w % 2 = 0 ∧ w / 2 ≤ 2147483647)
def atI (w : Int) : Int := if atB w = true then w / 2 else 0
theorem ev_at (w : Int) (hw : 0 ≤ w) : EvF PROG ov0 57 [.int .u64 w] σ (.tuple #[.int .i64 (atI w), .bool (atB w)]) σ := by
  refine EvF.of (T57_eq w) rfl ?_
  rw [T57, wp_join, wp_bif, and_one, shr_one]
  unfold atI atB
  by_cases h2 : w % 2 = 1
  · rw [if_neg (by simp [h2]), wp_ret]
    simp only [T57k0, sw_same, asCons_cons, asBool_bool, asNil_nil]
    rw [wp_bif, if_pos (by rfl), wp_ret]
    have e : decide (w % 2 = 0 ∧ w / 2 ≤ 2147483647) = false := by simp; omega
    rw [e]
    exact ⟨rfl, rfl⟩
  · rw [if_pos (by simp [h2]), wp_ret]
    simp only [T57k0, sw_same, asCons_cons, asBool_bool, asNil_nil]
    rw [wp_bif]
    by_cases h3 : w / 2 ≤ 2147483647
    · rw [if_neg (by simp; omega), wp_ret]
      have e : decide (w % 2 = 0 ∧ w / 2 ≤ 2147483647) = true := by simp; omega
      rw [e, shr_one, wi64_in (by omega)]
      exact ⟨rfl, rfl⟩
    · rw [if_pos (by simp; omega), wp_ret]
      have e : decide (w % 2 = 0 ∧ w / 2 ≤ 2147483647) = false := by simp; omega
      rw [e]
      exact ⟨rfl, rfl⟩

/-- Whether a thing begins at the place that a word is. -/
def plB (heads : List Bool) (w : Int) : Bool := atB w && heads.getD (atI w).toNat false

theorem SlV.rowOf {b cap : Nat} {p : Option Addr} {xs : List Value} (h : SlV σ b p cap xs) (hx : xs ≠ []) : ∃ off s, p = some ⟨b, off, some s⟩ ∧ Row σ b off s cap 1 xs := by
  rcases h with ⟨_, _, e⟩ | h
  · exact absurd e hx
  · exact h

theorem ev_place (h : HP σ S Y room turns words heads) (w : Int) (hw : 0 ≤ w) : EvF PROG ov0 47 [PV S, .int .u64 w] σ (.tuple #[.int .i64 (atI w), .bool (plB heads w)]) σ := by
  obtain ⟨h0, cw, ch, h1, h2⟩ := h
  obtain ⟨pw, capw, ph, caph, a1, a2, a3, a4⟩ := h1.blk
  refine EvF.of (T47_eq _ _) rfl ?_
  have hat : 0 ≤ atI w := by unfold atI; split <;> omega
  rw [T47, wp_call, WpF.eq (ev_at w hw)]
  simp only [asTuple_tuple, asCons_cons, asInt_int, asBool_bool, asNil_nil, asSome_some]
  rw [wp_join, wp_bif]
  unfold plB
  cases hB : atB w with
  | false =>
    rw [if_neg (by simp), wp_ret]
    simp only [T47k0, sw_same, asCons_cons, asBool_bool, asInt_int, asNil_nil]
    rw [wp_ret]
    exact ⟨rfl, rfl⟩
  | true =>
    rw [if_pos (by rfl), wp_ldF a1 rfl, asSlice_slice, wp_bif]
    obtain ⟨k, hk⟩ : ∃ k : Nat, atI w = (k : Int) := ⟨(atI w).toNat, by omega⟩
    rw [hk, Int.toNat_natCast]
    by_cases hl : k < heads.length
    · rw [if_pos (by simp; omega), wp_ldF a1 rfl, asSlice_slice]
      obtain ⟨off, s, rfl, hR⟩ := a3.rowOf (by intro e; have := congrArg List.length e; simp at this; subst this; cases hl)
      simp only [asSome_some]
      rw [wp_grd]
      refine ⟨by simp; omega, ?_⟩
      rw [wp_rowR (v := .bool (heads.getD k false)) hR (by simp [hl, List.getD]), asBool_bool, wp_ret]
      simp only [T47k0, sw_same, asCons_cons, asBool_bool, asInt_int, asNil_nil]
      rw [wp_ret]
      exact ⟨rfl, rfl⟩
    · rw [if_neg (by simp; omega), wp_ret]
      simp only [T47k0, sw_same, asCons_cons, asBool_bool, asInt_int, asNil_nil]
      rw [wp_ret]
      have e : heads.getD k false = false := by simp [List.getD, List.getElem?_eq_none (by omega : heads.length ≤ k)]
      rw [e]
      exact ⟨rfl, rfl⟩

/-- Whether a word may stand in a thing. -/
def mayB (heads : List Bool) (w : Int) : Bool := decide (w % 2 ≠ 0) || plB heads w
theorem ev_may (h : HP σ S Y room turns words heads) (w : Int) (hw : 0 ≤ w) : EvF PROG ov0 36 [PV S, .int .u64 w] σ (.bool (mayB heads w)) σ := by
  refine EvF.of (T36_eq _ _) rfl ?_
  rw [T36, wp_call, WpF.eq (ev_int w)]
  simp only [asTuple_tuple, asCons_cons, asInt_int, asBool_bool, asNil_nil]
  rw [wp_bif]
  unfold mayB
  by_cases h2 : w % 2 = 0
  · rw [if_neg (by simp [h2]), wp_call, WpF.eq (ev_place h w hw)]
    simp only [asTuple_tuple, asCons_cons, asInt_int, asBool_bool, asNil_nil]
    rw [wp_ret]
    simp [h2]
  · rw [if_pos (by simp [h2]), wp_ret]
    simp [h2]

theorem ev_mayc (h : HP σ S Y room turns words heads) {v : Nat} (hv : St σ v [PV S]) (w : Int) (hw : 0 ≤ w) : EvF PROG ov0 35 [.int .u64 w, PV v] σ (.bool (!mayB heads w)) σ := by
  refine EvF.of (T35_eq _ _) rfl ?_
  have := wp_ldF (P := PROG) (ov := ov0) (i := 0) hv rfl
  rw [T35, show (PA v) = aadd ⟨v, 0, some 0⟩ 0 from rfl, wp_ldF hv rfl, asPtr_ptr, wp_call, WpF.eq (ev_may h w hw), asBool_bool, wp_ret]
  exact ⟨rfl, rfl⟩

/-- ContainsFunc, of a row and what may not stand there. -/
theorem ev_contains (h : HP σ S Y room turns words heads) {v : Nat} (hv : St σ v [PV S]) {p : Option Addr} {ws : List Int} (hp : RdI σ .u64 p ws) (hw : ∀ w ∈ ws, 0 ≤ w) (hl : ws.length ≤ 100000) (c : Nat) :
    EvF PROG ov0 34 [.slice p ws.length c, .func (.func 35) #[] #[PV v]] σ (.bool (ws.any fun w => !mayB heads w)) σ := by
  refine EvF.of (T34_eq _ _ _ _) rfl ?_
  rw [T34, wp_call]
  have key : WpF PROG ov0 53 [.slice p ws.length c, .func (.func 35) #[] #[PV v]] σ fun x σ' => σ' = σ ∧ ∃ n : Int, x = .int .i64 n ∧ decide (n ≥ 0) = ws.any fun w => !mayB heads w := by
    refine WpF.of (T53_eq _ _ _ _) rfl ?_
    rw [T53]
    refine Wp.count ws.length (fun j st σ' => st = [.int .i64 ((j : Nat) : Int), .int .i64 0] ∧ σ' = σ ∧ ∀ w ∈ ws.take j, mayB heads w = true) ⟨rfl, rfl, by simp⟩ ?_ ?_
    · rintro j st σ1 hj ⟨rfl, rfl, hm⟩
      have ej : wi64 ((j : Int) + 1) = ((j + 1 : Nat) : Int) := by rw [wi64_in (by omega)]; omega
      obtain ⟨a, rfl, hr⟩ := hp j hj
      have e0 : ws.getD j 0 = ws[j] := by simp [List.getD, hj]
      rw [e0] at hr
      have hwj : 0 ≤ ws[j] := hw _ (List.getElem_mem hj)
      simp only [T53b0, asCons_cons, asInt_int, asNil_nil, asSome_some]
      rw [wp_bif, if_pos (by simp; omega), wp_join, wp_grd]
      refine ⟨by simp; omega, ?_⟩
      rw [Int.toNat_natCast, wp_act, hr]
      simp only [asInt_int, asFunc]
      rw [wp_call]
      have hc := ev_mayc h hv ws[j] hwj
      simp only [List.nil_append, List.cons_append]
      rw [WpF.eq hc, asBool_bool, wp_bif]
      cases hmj : mayB heads ws[j] with
      | false =>
        rw [if_pos (by rfl), wp_ret]
        simp only [T53k0, sw_same, asCons_cons, asInt_int, asNil_nil]
        rw [wp_ret]
        simp only [T53k1, sw_re, sw_same, asCons_cons, asInt_int, asNil_nil]
        rw [wp_ret]
        refine ⟨_, rfl, rfl, _, rfl, ?_⟩
        have : (ws.any fun w => !mayB heads w) = true := by
          rw [List.any_eq_true]
          exact ⟨ws[j], List.getElem_mem hj, by rw [hmj]; rfl⟩
        rw [this]
        simp
      | true =>
        rw [if_neg (by simp), wp_ret]
        simp only [T53k0, sw_nr, sw_same, asCons_cons, asInt_int, asNil_nil]
        rw [wp_ret, ej]
        refine ⟨rfl, rfl, fun w hw' => ?_⟩
        rw [List.take_succ_eq_append_getElem hj] at hw'
        rcases List.mem_append.1 hw' with hw' | hw'
        · exact hm w hw'
        · simp at hw'
          rw [hw']
          exact hmj
    · rintro st σ1 ⟨rfl, rfl, hm⟩
      simp only [T53b0, asCons_cons, asInt_int, asNil_nil]
      rw [wp_bif, if_neg (by simp), wp_ret]
      simp only [T53k1, sw_same, asCons_cons, asInt_int, asNil_nil]
      rw [wp_ret]
      refine ⟨_, rfl, rfl, _, rfl, ?_⟩
      rw [List.take_length] at hm
      have : (ws.any fun w => !mayB heads w) = false := by
        rw [List.any_eq_false]
        intro w hw'
        simp [hm w hw']
      rw [this]
      rfl
  refine WpF.mono key ?_
  rintro x σ' ⟨rfl, n, rfl, e⟩
  simp only [asInt_int]
  rw [wp_ret, e]
  exact ⟨rfl, rfl⟩
end
end Go.Pg
