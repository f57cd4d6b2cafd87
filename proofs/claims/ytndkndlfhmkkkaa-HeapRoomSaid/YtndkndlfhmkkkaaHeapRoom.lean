/- Layer 12: things are made till there is no room; behind a collection of nothing there is all of it again: the law's tree returns true for all numbers. -/
import Derived.Test.YtndkndlfhmkkkaaHeap2
import Derived.Test.YtndkndlfhmkkkaaHAwake
namespace Go.Pg
open Go.Proofs
section
variable {σ : AHeap} {S : Nat} {Y : Nat → Prop} {room turns : Int} {words : List Int} {heads : List Bool}

theorem Frm.newMap (σ : AHeap) (es : List (Value × Value)) (T : Nat → Prop) : Frm σ (σ.push (.map es)) T :=
  ⟨by simp [AHeap.push], rfl, fun _ hj _ => get_push_lt σ _ hj, fun f j hj => by
    simp only [AHeap.push] at hj
    rw [AHeap.get_push, if_neg (by omega)]
    exact f j (by omega)⟩

theorem newN_ok {n0 : Nat} {bs : List Nat} (hn : n0 ≤ σ.n) (hf : Fresh σ) (hb : ∀ b ∈ bs, b ≠ σ.n) : newN n0 σ bs = true := by
  unfold newN
  rw [hf σ.n (Nat.le_refl _)]
  simp only [noneB, Bool.and_true, Bool.and_eq_true, Nat.ble_eq, List.all_eq_true, Bool.not_eq_true']
  refine ⟨hn, fun b h => ?_⟩
  rw [Bool.eq_false_iff]
  intro e
  exact hb b h (Nat.eq_of_beq_eq_true e)

theorem wp_collect0 (h : HP σ S Y room turns words heads) (hf : Fresh σ) (ht : 0 ≤ turns ∧ turns ≤ 100000) {Q : Value → AHeap → Prop}
    (hQ : ∀ σ', Frm σ σ' (fun j => ¬ Y j) → HP σ' S Y room (turns + 1) [] [] → Q (.slice none 0 0) σ') : WpF PROG ov0 14 [PV S, .slice none 0 0] σ Q := by
  obtain ⟨h0, cw, ch, h1, h2⟩ := h
  obtain ⟨pw, capw, ph, caph, a1, a2, a3, a4, a5, a6⟩ := h1.blk
  have hS := h1.lt
  refine WpF.of (T14_eq _ _ _ _) rfl ?_
  rw [T14, wp_get]
  simp only [asSome_some]
  rw [wp_ldF a1 rfl, asInt_int, wp_ldF a1 rfl, asInt_int, wp_get, wp_grd, wi64_in (by omega)]
  refine ⟨newN_ok (Nat.le_refl _) hf (fun b hb => by cases hb), ?_⟩
  refine wp_newQ fun σ1 hF1 hn1 hS1 => ?_
  rw [wp_get, wp_get, wp_grd]
  refine ⟨newN_ok hF1.n (hF1.fr hf) (fun b hb => by simp at hb; omega), ?_⟩
  rw [wp_act]
  unfold makeMapAct
  simp only [asMap_map]
  have hF2 := Frm.newMap σ1 [] NoB
  have hn2 : (σ1.push (.map [])).n = σ1.n + 1 := rfl
  generalize σ1.push (.map []) = σ2 at hF2 hn2
  rw [wp_get, wp_get, wp_grd]
  refine ⟨newN_ok (by omega) (hF2.fr (hF1.fr hf)) (fun b hb => by simp at hb; omega), ?_⟩
  refine wp_newQ fun σ3 hF3 hn3 hS3 => ?_
  have hFa : Frm σ σ3 NoB := (hF1.seq hF2).seq hF3
  have hto := (hF2.seq hF3).stN hS1
  rw [wp_get]
  refine Wp.count 0 (fun j st σ' => st = [.int .i64 0, .slice none 0 0] ∧ σ3 = σ') ⟨rfl, rfl⟩ (fun j st σ' hj => by omega) ?_
  rintro st σ' ⟨rfl, rfl⟩
  simp only [T14b0, asCons_cons, asInt_int, asSlice_slice, asNil_nil]
  rw [wp_bif, if_neg (by simp), wp_ret]
  simp only [T14k4, sw_same, asCons_cons, asInt_int, asSlice_slice, asNil_nil]
  refine Wp.count 0 (fun j st σ' => st = [.int .i64 0] ∧ σ3 = σ') ⟨rfl, rfl⟩ (fun j st σ' hj => by omega) ?_
  rintro st σ' ⟨rfl, rfl⟩
  simp only [T14b1, asCons_cons, asInt_int, asNil_nil]
  rw [wp_ldF hS3 rfl, asPtr_ptr]
  simp only [asSome_some]
  rw [wp_ldF hto rfl, asSlice_slice, wp_bif, if_neg (by simp), wp_ret]
  simp only [T14k3, sw_same, asCons_cons, asInt_int, asNil_nil]
  rw [wp_ldF hS3 rfl, asPtr_ptr]
  simp only [asSome_some]
  rw [wp_ldAll hto 4 rfl]
  simp only [asAgg_agg, asCons_cons, asInt_int, asSlice_slice, asNil_nil]
  refine wp_stQ (hFa.stN a1) rfl rfl fun σ4 hF4 hn4 hS4 => ?_
  rw [wp_ret]
  have hF : Frm σ σ4 (· = S) := hFa.trans hF4 (fun _ _ h => h.elim) fun _ _ h => h
  refine ⟨_, rfl, hQ σ4 (hF.mono fun j _ hj hy => (h2 j hy).1 hj) ⟨fun i hi => Nat.lt_of_lt_of_le (h0 i hi) hF.n, S, S, ⟨⟨none, 0, none, 0, hS4, .inl ⟨rfl, rfl, rfl⟩, .inl ⟨rfl, rfl, rfl⟩, fun h => absurd rfl h, fun h => absurd rfl h, fun h => absurd rfl h⟩, rfl, Nat.lt_of_lt_of_le hS hF.n, Nat.lt_of_lt_of_le hS hF.n⟩, fun i hi => ⟨(h2 i hi).1, (h2 i hi).1, (h2 i hi).1⟩⟩⟩
end

theorem numW_odd (n : Int) : numW n % 2 ≠ 0 := by unfold numW; omega
theorem numW_nn (n : Int) : 0 ≤ numW n := by unfold numW; omega

theorem heapRoom_law (a0 : Int) (_ : (Lit.int .i64 a0).wf = true) (a1 : Int) (_ : (Lit.int .i64 a1).wf = true) (old : Addr → Option Value) :
    WpF PROG ov0 3 [.int .i64 a0, .int .i64 a1] (startH old) fun v _ => v = .bool true := by
  refine WpF.of (T3_eq _ _) rfl ?_
  rw [T3, wp_call]
  refine WpF.mono (awake12 old) ?_
  rintro v σ0 ⟨rfl, _, hf0⟩
  simp only [asBool_bool]
  rw [wp_bif, if_neg (by simp), wp_bif]
  by_cases hc : a0 < 16 ∨ a0 > 2000 ∨ a1 < 0 ∨ a1 > 50
  · rw [if_pos (by simp; omega), wp_ret]
    exact ⟨_, rfl, rfl⟩
  rw [if_neg (by simp; omega), wp_call]
  refine wp_newH (Y := NoB) a0 (by omega) (fun i hi => hi.elim) fun σ1 hF1 h1 => ?_
  have hf1 := hF1.fr hf0
  generalize σ0.n = S at h1
  obtain ⟨m, rfl⟩ : ∃ m : Nat, a1 = (m : Int) := ⟨a1.toNat, by omega⟩
  simp only [asTuple_tuple, asCons_cons, asPtr_ptr, asInt_int, asNil_nil]
  rw [wp_act, mkSl_eq _ _ _ _ _ (by omega), rep_1]
  simp only [asSlice_slice]
  have hFa := Frm.new σ1 (List.replicate m (.int .u64 0)) 1 NoB
  have hRa := Row.new σ1 1 (List.replicate m (.int .u64 0)) m (by decide) (by simp) (by intro x hx; rw [List.mem_replicate] at hx; rw [hx.2]; rfl)
  have hna : (σ1.newBlk (List.replicate m (.int .u64 0)) 1).n = σ1.n + 1 := rfl
  generalize σ1.newBlk (List.replicate m (.int .u64 0)) 1 = σ2 at hFa hRa hna
  have h2 := h1.step (Y' := fun i => i = σ1.n) hFa (fun i _ h => h.elim) fun i hi => ⟨by omega, .inr (by omega)⟩
  have hf2 := hFa.fr hf1
  generalize σ1.n = R at h2 hRa
  obtain ⟨ws, hws⟩ : ∃ ws : List Int, ws = (List.range m).map fun i => numW (i : Nat) := ⟨_, rfl⟩
  have hwl : ws.length = m := by rw [hws]; simp
  refine Wp.count m (fun j st σ' => st = [.int .i64 ((j : Nat) : Int)] ∧ HP σ' S (fun i => i = R) a0 0 [] [] ∧ Fresh σ' ∧ Row σ' R 0 1 m 1 (ints .u64 (ws.take j ++ List.replicate (m - j) 0))) ⟨rfl, h2, hf2, by simpa [ints] using hRa⟩ ?_ ?_
  · rintro j st σ3 hj ⟨rfl, h3, hf3, hR3⟩
    have ej : wi64 ((j : Int) + 1) = ((j + 1 : Nat) : Int) := by rw [wi64_in (by omega)]; omega
    simp only [T3b0, asCons_cons, asInt_int, asNil_nil]
    rw [wp_bif, if_pos (by simp; omega), wp_join, wp_call, WpF.eq (ev_num _), asInt_int]
    simp only [asSome_some]
    rw [wp_grd]
    refine ⟨by simp; omega, ?_⟩
    rw [Int.toNat_natCast]
    refine wp_rowW hR3 (by simp; omega) rfl fun σ4 hF4 hn4 hR4 => ?_
    rw [wp_ret]
    simp only [T3k0, sw_same, asNil_nil]
    rw [wp_ret, ej]
    refine ⟨rfl, h3.step hF4 (fun i _ h => h) fun i hi => ⟨Nat.lt_of_lt_of_le (h3.1 i hi) hF4.n, .inl hi⟩, hF4.fr hf3, ?_⟩
    have e : (ints .u64 (ws.take j ++ List.replicate (m - j) 0)).set j (.int .u64 (numW (j : Nat))) = ints .u64 (ws.take (j + 1) ++ List.replicate (m - (j + 1)) 0) := by
      have e1 : ws.take (j + 1) = ws.take j ++ [numW (j : Nat)] := by
        rw [List.take_succ_eq_append_getElem (by omega)]
        simp [hws]
      have e0 : List.replicate (m - j) (0 : Int) = 0 :: List.replicate (m - (j + 1)) 0 := by rw [show m - j = (m - (j + 1)) + 1 by omega, List.replicate_succ]
      have e2 : ∀ A B : List Int, ints .u64 (A ++ 0 :: B) = ints .u64 A ++ .int .u64 0 :: ints .u64 B := fun A B => by simp [ints]
      have e3 : (ints .u64 (ws.take j)).length = j := by simp; omega
      rw [e0, e2, List.set_append_right _ _ (by omega), e3, Nat.sub_self, List.set_cons_zero, e1]
      simp [ints]
    rw [e] at hR4
    exact hR4
  · rintro st σ3 ⟨rfl, h3, hf3, hR3⟩
    simp only [T3b0, asCons_cons, asInt_int, asNil_nil]
    rw [wp_bif, if_neg (by simp), wp_ret]
    simp only [T3k6, sw_same, asCons_cons, asInt_int, asNil_nil]
    have hR3' : Row σ3 R 0 1 m 1 (ints .u64 ws) := by
      have e : ws.take m ++ List.replicate (m - m) 0 = ws := by rw [← hwl, List.take_length]; simp
      rw [e] at hR3
      exact hR3
    have hall : ∀ w ∈ ws, 0 ≤ w := fun w hw => by
      rw [hws] at hw
      obtain ⟨i, _, rfl⟩ := List.mem_map.1 hw
      exact numW_nn _
    have hodd : ∀ heads, ∀ w ∈ ws, mayB heads w = true := fun heads w hw => by
      rw [hws] at hw
      obtain ⟨i, _, rfl⟩ := List.mem_map.1 hw
      unfold mayB
      simp [numW_odd]
    have hhd : hdB 2 3 ws.length = true := by unfold hdB; rw [hwl]; simp; omega
    have em : wi64 ((m : Int) + 1) = ((m + 1 : Nat) : Int) := by rw [wi64_in (by omega)]; omega
    obtain ⟨r, rfl⟩ : ∃ r : Nat, a0 = (r : Int) := ⟨a0.toNat, by omega⟩
    have hK1 : r / (m + 1) * (m + 1) ≤ r := Nat.div_mul_le_self _ _
    have hK2 : r < (r / (m + 1) + 1) * (m + 1) := by
      have h1 := Nat.div_add_mod r (m + 1)
      have h2 := Nat.mod_lt r (show 0 < m + 1 by omega)
      rw [Nat.mul_comm] at h1
      rw [Nat.succ_mul]
      omega
    have hKr : r / (m + 1) ≤ r := Nat.div_le_self _ _
    have hKd : wi64 (Int.tdiv (r : Int) ((m + 1 : Nat) : Int)) = ((r / (m + 1) : Nat) : Int) := by
      rw [Int.tdiv_eq_ediv_of_nonneg (by omega), ← Int.natCast_ediv]
      generalize r / (m + 1) = K at hKr ⊢
      rw [wi64_in (by omega)]
    generalize r / (m + 1) = K at hK1 hK2 hKr hKd
    refine Wp.count 2 (fun j st σ' => st = [.int .i64 ((j : Nat) : Int), .bool false] ∧ HP σ' S (fun i => i = R) r (j : Nat) [] [] ∧ Fresh σ' ∧ Row σ' R 0 1 m 1 (ints .u64 ws)) ⟨rfl, h3, hf3, hR3'⟩ ?_ ?_
    · rintro j st σ4 hj ⟨rfl, h4, hf4, hR4⟩
      have ej : wi64 ((j : Int) + 1) = ((j + 1 : Nat) : Int) := by rw [wi64_in (by omega)]; omega
      simp only [T3b2, asCons_cons, asInt_int, asBool_bool, asNil_nil]
      rw [wp_bif, if_pos (by simp; omega), wp_join]
      refine Wp.count K (fun n st σ' => st = [.int .i64 ((n : Nat) : Int)] ∧ (∃ words heads, words.length = n * (m + 1) ∧ HP σ' S (fun i => i = R) r (j : Nat) words heads) ∧ Fresh σ' ∧ Row σ' R 0 1 m 1 (ints .u64 ws)) ⟨rfl, ⟨[], [], by simp, h4⟩, hf4, hR4⟩ ?_ ?_
      · rintro n st σ5 hn ⟨rfl, ⟨words, heads, hwn, h5⟩, hf5, hR5⟩
        have en : wi64 ((n : Int) + 1) = ((n + 1 : Nat) : Int) := by rw [wi64_in (by omega)]; omega
        have hnm : (n + 1) * (m + 1) ≤ K * (m + 1) := Nat.mul_le_mul_right _ hn
        rw [Nat.succ_mul] at hnm
        simp only [T3b1, asCons_cons, asInt_int, asNil_nil]
        rw [wp_bif, if_pos (by simp; omega), wp_join, wp_call]
        rw [← hwl]
        refine wp_makeH h5 (.inr ⟨0, 1, rfl, hwl ▸ hR5⟩) (fun _ => rfl) hall (by omega) (by omega) (by omega) 2 3 ?_ ?_ ?_
        · rintro (hb | ⟨w, hw, hb⟩)
          · rw [hhd] at hb; cases hb
          · rw [hodd heads w hw] at hb; cases hb
        · intro _ _ hnot
          exact absurd (by omega) hnot
        · intro _ _ _ σ6 hF6 h6
          simp only [asTuple_tuple, asCons_cons, asInt_int, asNil_nil]
          rw [wp_bif, if_neg (by simp), wp_ret]
          simp only [T3k1, sw_ne, sw_same, asCons_cons, asInt_int, asNil_nil]
          rw [wp_ret, en]
          refine ⟨rfl, ⟨_, _, ?_, h6⟩, hF6.fr hf5, by rw [hwl]; exact hF6.row hR5 fun h => h rfl⟩
          rw [List.length_append, List.length_cons, hwl, hwn, Nat.succ_mul]
      · rintro st σ5 ⟨rfl, ⟨words, heads, hwn, h5⟩, hf5, hR5⟩
        have hKm := hK2
        rw [Nat.succ_mul] at hKm
        simp only [T3b1, asCons_cons, asInt_int, asNil_nil]
        rw [wp_bif, if_pos (by simp; omega), wp_join, wp_call]
        have hmk : WpF PROG ov0 12 [PV S, .int .i64 2, .int .i64 3, .slice (some ⟨R, 0, some 1⟩) m m] σ5 fun v σ' => v = .tuple #[.int .u64 0, .int .i64 8] ∧ HP σ' S (fun i => i = R) r (j : Nat) words heads ∧ Fresh σ' ∧ Row σ' R 0 1 m 1 (ints .u64 ws) := by
          have hwl' := hwl
          subst hwl'
          refine wp_makeH h5 (.inr ⟨0, 1, rfl, hR5⟩) (fun _ => rfl) hall (by omega) (by omega) (by omega) 2 3 ?_ ?_ ?_
          · rintro (hb | ⟨w, hw, hb⟩)
            · rw [hhd] at hb; cases hb
            · rw [hodd heads w hw] at hb; cases hb
          · intro _ _ _ σ6 hF6 h6
            exact ⟨rfl, h6, hF6.fr hf5, hF6.row hR5 fun h => h rfl⟩
          · intro _ _ hfit
            omega
        refine WpF.mono hmk ?_
        rintro v σ6 ⟨rfl, h6, hf6, hR6⟩
        simp only [asTuple_tuple, asCons_cons, asInt_int, asNil_nil]
        rw [wp_bif, if_pos (by rfl), wp_ret]
        simp only [T3k1, sw_same, asCons_cons, asInt_int, asNil_nil]
        rw [wp_ret]
        simp only [T3k3, sw_same, asCons_cons, asInt_int, asNil_nil]
        rw [wp_join, em, wp_grd]
        refine ⟨by simp; omega, ?_⟩
        rw [hKd, wp_bif, if_pos (by simp), wp_call, WpF.eq (ev_used h6), asInt_int, wp_ret]
        have ew : wi64 (((K : Nat) : Int) * ((m + 1 : Nat) : Int)) = ((words.length : Nat) : Int) := by
          rw [← Int.natCast_mul, hwn, wi64_in (by omega)]
        rw [ew]
        simp only [T3k2, sw_same, asCons_cons, asBool_bool, asNil_nil]
        rw [wp_bif, if_neg (by simp), wp_call]
        refine wp_collect0 h6 hf6 (by omega) fun σ7 hF7 h7 => ?_
        rw [asSlice_slice, wp_ret]
        simp only [T3k4, sw_nr, sw_same, asCons_cons, asBool_bool, asNil_nil]
        rw [wp_ret, ej]
        refine ⟨rfl, ?_, hF7.fr hf6, hF7.row hR6 fun h => h rfl⟩
        have : (((j + 1 : Nat) : Nat) : Int) = (j : Int) + 1 := by omega
        rw [this]
        exact h7
    · rintro st σ4 ⟨rfl, h4, hf4, hR4⟩
      simp only [T3b2, asCons_cons, asInt_int, asBool_bool, asNil_nil]
      rw [wp_bif, if_neg (by simp), wp_ret]
      simp only [T3k5, sw_same, asCons_cons, asInt_int, asBool_bool, asNil_nil]
      rw [wp_call, WpF.eq (ev_used h4), asInt_int, wp_ret]
      exact ⟨_, rfl, rfl⟩
end Go.Pg
