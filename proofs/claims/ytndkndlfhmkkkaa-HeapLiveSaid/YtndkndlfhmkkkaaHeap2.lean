/- Layer 12: a thing that is put behind the others; Make; a collection of nothing. -/
import Derived.Test.YtndkndlfhmkkkaaHeap1
namespace Go.Pg
open Go.Proofs
section
variable {σ : AHeap} {S : Nat} {Y : Nat → Prop} {room turns : Int} {words : List Int} {heads : List Bool}

theorem wp_putH (h : HP σ S Y room turns words heads) {R c : Nat} {p : Option Addr} {ws : List Int} (hr : SlV σ R p c (ints .u64 ws)) (hRY : p ≠ none → Y R) (hl : words.length ≤ 100000) (hl2 : ws.length ≤ 100000) (hd : Int) {Q : Value → AHeap → Prop}
    (hQ : ∀ σ', Frm σ σ' (fun j => ¬ Y j) → HP σ' S Y room turns (words ++ hd :: ws) (heads ++ true :: List.replicate ws.length false) → Q (.int .u64 (ptrW words.length)) σ') :
    WpF PROG ov0 38 [PV S, .int .u64 hd, .slice p ws.length c] σ Q := by
  obtain ⟨h0, cw, ch, h1, h2⟩ := h
  obtain ⟨pw, capw, ph, caph, a1, a2, a3, a4, a5, a6⟩ := h1.blk
  have hS := h1.lt
  have hlw := h1.lw
  have hlh := h1.lh
  have hhl := h1.len
  refine WpF.of (T38_eq _ _ _ _ _) rfl ?_
  rw [T38]
  simp only [asSome_some]
  rw [wp_ldF a1 rfl, asSlice_slice, wp_ldF a1 rfl, asSlice_slice]
  refine wp_app1 a2 (by simp) rfl (by omega) (by omega) fun σ1 b1 o1 s1 c1 hF1 hb1 hR1 => ?_
  have n1 := hF1.n
  have hr1 := hr.frm hF1 fun hp he => (h2 R (hRY hp)).2.1 he.2
  refine wp_appR (.inr ⟨o1, s1, rfl, hR1⟩) (by simp) hr1 (by simp) (by omega) (by omega) fun σ2 b2 p2 c2 hF2 hb2 hR2 => ?_
  have n2 := hF2.n
  obtain ⟨o2, s2, rfl, hQ2⟩ := hR2.rowOf (by simp)
  have hb2' : b2 = b1 ∨ σ1.n ≤ b2 := by
    rcases hb2 with hb2 | ⟨_, hb2⟩ | hb2
    · cases hb2
    · exact .inl hb2
    · exact .inr hb2
  have a1a := hF2.st (hF1.st a1 fun he => a4 he.1 he.2.symm) fun he => by
    rcases hb1 with ⟨hp, hb⟩ | hb
    · exact a4 hp (hb.symm.trans he.2.symm)
    · omega
  refine wp_st1Q a1a (by simp) rfl fun σ3 hF3 hn3 hS3 => ?_
  have hb2S : b2 ≠ S := by
    rcases hb2' with hb | hb
    · rcases hb1 with ⟨hp, hb'⟩ | hb'
      · rw [hb, hb']; exact a4 hp
      · omega
    · omega
  have hR3 := hF3.row hQ2 hb2S
  rw [wp_ldF hS3 rfl, asSlice_slice]
  have hcb1 : ∀ (_ : ph ≠ none), ch ≠ b1 := fun hph he => by
    rcases hb1 with ⟨hp, hb⟩ | hb
    · exact a6 hp hph (hb ▸ he.symm)
    · omega
  have a3a := ((a3.frm hF1 fun hp he => a6 he.1 hp he.2.symm).frm hF2 fun hp he => hcb1 hp he.2).frm hF3 fun hp => a5 hp
  have en : wi64 (((ws.length : Nat) : Int) + 1) = ((ws.length + 1 : Nat) : Int) := by rw [wi64_in (by omega)]; omega
  rw [en]
  refine wp_apI a3a (by simp) rfl (by omega) (by decide) (by omega) (by omega) fun σ4 b4 o4 s4 c4 hF4 hb4 hR4 => ?_
  have n4 := hF4.n
  have hbc : ∀ (_ : ph ≠ none), b2 ≠ ch := fun hph he => by
    rcases hb2' with hb | hb
    · exact hcb1 hph (he.symm.trans hb)
    · omega
  have hR2lt := hR3.lt
  have hb42 : b4 ≠ b2 := by
    rcases hb4 with ⟨hp, hb⟩ | hb
    · rw [hb]; exact (hbc hp).symm
    · omega
  have hb4S : b4 ≠ S := by
    rcases hb4 with ⟨hp, hb⟩ | hb
    · rw [hb]; exact a5 hp
    · omega
  have hS4 := hF4.st hS3 fun he => a5 he.1 he.2.symm
  have hR4w := hF4.row hR3 fun he => hbc he.1 he.2
  refine wp_st1Q hS4 (by simp) rfl fun σ5 hF5 hn5 hS5 => ?_
  have hR5 := hF5.row hR4 hb4S
  have hR5w := hF5.row hR4w hb2S
  rw [wp_ldF hS5 rfl, asSlice_slice]
  simp only [asSome_some]
  rw [wp_grd]
  refine ⟨by simp; omega, ?_⟩
  refine wp_rowW hR5 (by simp; omega) rfl fun σ6 hF6 hn6 hR6 => ?_
  rw [wp_call, WpF.eq (ev_ptr _), asInt_int, wp_ret]
  have hS6 := hF6.st hS5 hb4S.symm
  have hR6w := hF6.row hR5w hb42.symm
  have hF : Frm σ σ6 (fun j => j = S ∨ j = cw ∨ j = ch) := by
    refine hF1.trans (U := fun j => j = S ∨ j = cw ∨ j = ch) (hF2.trans (U := fun j => j = S ∨ j = b1 ∨ j = ch ∨ j = b4) (hF3.trans (U := fun j => j = S ∨ j = ch ∨ j = b4) (hF4.trans (U := fun j => j = S ∨ j = ch ∨ j = b4) (hF5.trans (U := fun j => j = S ∨ j = b4) hF6 ?_ ?_) ?_ ?_) ?_ ?_) ?_ ?_) ?_ ?_
    · exact fun _ _ h => .inl h
    · exact fun _ _ h => .inr h
    · exact fun _ _ h => .inr (.inl h.2)
    · exact fun _ _ h => h.elim .inl fun h => .inr (.inr h)
    · exact fun _ _ h => .inl h
    · exact fun _ _ h => h
    · exact fun _ _ h => .inr (.inl h.2)
    · exact fun _ _ h => h.elim .inl fun h => h.elim (fun h => .inr (.inr (.inl h))) fun h => .inr (.inr (.inr h))
    · exact fun _ _ h => .inr (.inl h.2)
    · intro j hj h
      rcases h with h | h | h | h
      · exact .inl h
      · rcases hb1 with ⟨_, hb⟩ | hb
        · exact .inr (.inl (h.trans hb))
        · omega
      · exact .inr (.inr h)
      · rcases hb4 with ⟨_, hb⟩ | hb
        · exact .inr (.inr (h.trans hb))
        · omega
  have e1 : ints .u64 (words ++ hd :: ws) = ints .u64 words ++ [.int .u64 hd] ++ ints .u64 ws := by simp [ints]
  have e2 : (bools heads ++ List.replicate (ws.length + 1) (Value.bool false)).set words.length (Value.bool true) = bools (heads ++ true :: List.replicate ws.length false) := by
    rw [← hhl, List.set_append_right _ _ (by simp)]
    simp [List.replicate_succ]
  rw [e2] at hR6
  refine ⟨_, rfl, hQ σ6 (hF.mono fun j _ hj hy => ?_) ⟨fun i hi => Nat.lt_of_lt_of_le (h0 i hi) hF.n, b2, b4, ⟨⟨some ⟨b2, o2, some s2⟩, c2, some ⟨b4, o4, some s4⟩, c4, ?_, .inr ⟨o2, s2, rfl, by rw [e1]; exact hR6w⟩, .inr ⟨o4, s4, rfl, hR6⟩, fun _ => hb2S, fun _ => hb4S, fun _ _ => hb42.symm⟩, by simp [hhl], hR6w.lt, hR6.lt⟩, fun i hi => ?_⟩⟩
  · have := h2 j hy
    omega
  · have l1 : (words ++ hd :: ws).length = words.length + 1 + ws.length := by simp; omega
    have l2 : (heads ++ true :: List.replicate ws.length false).length = heads.length + (ws.length + 1) := by simp
    rw [l1, l2]
    simpa using hS6
  · have hy := h2 i hi
    have := h0 i hi
    refine ⟨hy.1, ?_, ?_⟩
    · rcases hb2' with hb | hb
      · rcases hb1 with ⟨_, hb'⟩ | hb' <;> omega
      · omega
    · rcases hb4 with ⟨_, hb⟩ | hb <;> omega

theorem ev_fits (h : HP σ S Y room turns words heads) (n : Int) (hr : 0 ≤ room ∧ room ≤ 65536) (hl : words.length ≤ 100000) : EvF PROG ov0 37 [PV S, .int .i64 n] σ (.bool (decide (n < room - (words.length : Nat)))) σ := by
  obtain ⟨h0, cw, ch, h1, h2⟩ := h
  obtain ⟨pw, capw, ph, caph, a1, a2, a3, a4, a5, a6⟩ := h1.blk
  refine EvF.of (T37_eq _ _) rfl ?_
  rw [T37]
  simp only [asSome_some]
  rw [wp_ldF a1 rfl, asInt_int, wp_ldF a1 rfl, asSlice_slice, wp_ret, wi64_in (by omega)]
  exact ⟨rfl, rfl⟩

theorem ev_used (h : HP σ S Y room turns words heads) : EvF PROG ov0 13 [PV S] σ (.int .i64 ((words.length : Nat) : Int)) σ := by
  obtain ⟨h0, cw, ch, h1, h2⟩ := h
  obtain ⟨pw, capw, ph, caph, a1, a2, a3, a4, a5, a6⟩ := h1.blk
  refine EvF.of (T13_eq _) rfl ?_
  rw [T13]
  simp only [asSome_some]
  rw [wp_ldF a1 rfl, asSlice_slice, wp_ret]
  exact ⟨rfl, rfl⟩

/-- A head's word. -/
def hdB (kind tag n : Int) : Bool := decide (1 ≤ kind ∧ kind ≤ 3 ∧ 0 ≤ tag ∧ tag ≤ 255 ∧ 0 ≤ n ∧ n ≤ 65535)
def hdW (kind tag n : Int) : Int := if hdB kind tag n = true then numW (orI .i64 (orI .i64 n (shlI .i64 tag 16)) (shlI .i64 kind 24)) else 0
theorem ev_head (kind tag n : Int) : EvF PROG ov0 33 [.int .i64 kind, .int .i64 tag, .int .i64 n] σ (.tuple #[.int .u64 (hdW kind tag n), .bool (hdB kind tag n)]) σ := by
  refine EvF.of (T33_eq _ _ _) rfl ?_
  rw [T33, wp_bif]
  unfold hdW
  cases hB : hdB kind tag n with
  | false =>
    have hh : ¬ (1 ≤ kind ∧ kind ≤ 3 ∧ 0 ≤ tag ∧ tag ≤ 255 ∧ 0 ≤ n ∧ n ≤ 65535) := of_decide_eq_false hB
    rw [if_pos (by simp; omega), wp_ret]
    exact ⟨rfl, rfl⟩
  | true =>
    have hh : 1 ≤ kind ∧ kind ≤ 3 ∧ 0 ≤ tag ∧ tag ≤ 255 ∧ 0 ≤ n ∧ n ≤ 65535 := of_decide_eq_true hB
    rw [if_neg (by simp; omega), wp_call, WpF.eq (ev_num _), asInt_int, wp_ret]
    exact ⟨rfl, rfl⟩

theorem wp_makeH (h : HP σ S Y room turns words heads) {R c : Nat} {p : Option Addr} {ws : List Int} (hr : SlV σ R p c (ints .u64 ws)) (hRY : p ≠ none → Y R) (hw : ∀ w ∈ ws, 0 ≤ w) (hrm : 0 ≤ room ∧ room ≤ 65536) (hl : words.length ≤ 100000) (hl2 : ws.length ≤ 100000) (kind tag : Int) {Q : Value → AHeap → Prop}
    (hbad : (hdB kind tag ws.length = false ∨ ∃ w ∈ ws, mayB heads w = false) → ∀ σ', Frm σ σ' (fun j => ¬ Y j) → HP σ' S Y room turns words heads → Q (.tuple #[.int .u64 0, .int .i64 1]) σ')
    (hfull : hdB kind tag ws.length = true → (∀ w ∈ ws, mayB heads w = true) → ¬ (ws.length : Int) < room - (words.length : Nat) → ∀ σ', Frm σ σ' (fun j => ¬ Y j) → HP σ' S Y room turns words heads → Q (.tuple #[.int .u64 0, .int .i64 8]) σ')
    (hok : hdB kind tag ws.length = true → (∀ w ∈ ws, mayB heads w = true) → (ws.length : Int) < room - (words.length : Nat) → ∀ σ', Frm σ σ' (fun j => ¬ Y j) → HP σ' S Y room turns (words ++ hdW kind tag ws.length :: ws) (heads ++ true :: List.replicate ws.length false) → Q (.tuple #[.int .u64 (ptrW words.length), .int .i64 0]) σ') :
    WpF PROG ov0 12 [PV S, .int .i64 kind, .int .i64 tag, .slice p ws.length c] σ Q := by
  refine WpF.of (T12_eq _ _ _ _ _ _) rfl ?_
  rw [T12]
  refine wp_newQ fun σ1 hF1 hn1 hS1 => ?_
  have h1 := h.step (Y' := fun i => Y i ∨ i = σ.n) hF1 (fun i _ h => h.elim) fun i hi => by
    rcases hi with hi | hi
    · have := h.1 i hi
      exact ⟨by omega, .inl hi⟩
    · exact ⟨by omega, .inr (by omega)⟩
  have hr1 := hr.frm hF1 fun _ h => h
  have back : ∀ σ', Frm σ1 σ' (fun j => ¬ (Y j ∨ j = σ.n)) → Frm σ σ' (fun j => ¬ Y j) := fun σ' hF => hF1.trans hF (fun _ _ h => h.elim) fun j hj h hy => h (.inl hy)
  have backN : Frm σ σ1 (fun j => ¬ Y j) := hF1.no
  have hH1 := h1.step (Y' := Y) (Frm.refl σ1 NoB) (fun i _ h => h.elim) fun i hi => ⟨h1.1 i (.inl hi), .inl (.inl hi)⟩
  rw [wp_call, WpF.eq (ev_head _ _ _)]
  simp only [asTuple_tuple, asCons_cons, asInt_int, asBool_bool, asNil_nil]
  rw [wp_join, wp_bif]
  have bad : (hdB kind tag ws.length = false ∨ ∃ w ∈ ws, mayB heads w = false) → Wp PROG ov0 (T12k0 ⟨σ.n, 0, some 0⟩ ws.length (hdW kind tag ws.length) p c .normal [.bool true]) σ1 fun _ vs σ' => ∃ v, vs = [v] ∧ Q v σ' := by
    intro hb
    simp only [T12k0, sw_same, asCons_cons, asBool_bool, asNil_nil]
    rw [wp_bif, if_pos (by rfl), wp_ret]
    exact ⟨_, rfl, hbad hb σ1 backN hH1⟩
  cases hB : hdB kind tag ws.length with
  | false =>
    rw [if_neg (by simp), wp_ret]
    exact bad (.inl hB)
  | true =>
    rw [if_pos (by rfl), wp_call, WpF.eq (ev_contains h1 hS1 hr1.rdB.rd hw hl2 c), asBool_bool, wp_ret]
    cases hA : ws.any fun w => !mayB heads w with
    | true =>
      rw [List.any_eq_true] at hA
      obtain ⟨w, hw1, hw2⟩ := hA
      exact bad (.inr ⟨w, hw1, by simpa using hw2⟩)
    | false =>
      rw [List.any_eq_false] at hA
      have hall : ∀ w ∈ ws, mayB heads w = true := fun w hw' => by simpa using hA w hw'
      simp only [T12k0, sw_same, asCons_cons, asBool_bool, asNil_nil]
      rw [wp_bif, if_neg (by simp), show (⟨σ.n, 0, some 0⟩ : Addr) = aadd ⟨σ.n, 0, some 0⟩ 0 from rfl, wp_ldF hS1 rfl, asPtr_ptr, wp_call, WpF.eq (ev_fits h1 _ hrm hl), asBool_bool, wp_bif]
      by_cases hfit : (ws.length : Int) < room - (words.length : Nat)
      · rw [if_neg (by simp [hfit]), wp_ldF hS1 rfl, asPtr_ptr, wp_call]
        refine wp_putH h1 hr1 (fun hp => .inl (hRY hp)) hl hl2 _ fun σ2 hF2 h2 => ?_
        rw [asInt_int, wp_ret]
        exact ⟨_, rfl, hok hB hall hfit σ2 (back σ2 hF2) (h2.step (Frm.refl σ2 NoB) (fun i _ h => h.elim) fun i hi => ⟨h2.1 i (.inl hi), .inl (.inl hi)⟩)⟩
      · rw [if_pos (by simp; omega), wp_ret]
        exact ⟨_, rfl, hfull hB hall hfit σ1 backN hH1⟩
end
end Go.Pg
