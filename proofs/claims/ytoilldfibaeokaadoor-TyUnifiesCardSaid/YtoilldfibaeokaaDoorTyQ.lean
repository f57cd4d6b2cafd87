/- Layer 5: the document's Vars; two rows of numbers alike. -/
import Derived.Test.YtoilldfibaeokaaDoorTyR
namespace Go.Pg
open Go.Proofs

section
variable {σ : AHeap}
theorem newN_ok {n0 : Nat} {bs : List Nat} (hn : n0 ≤ σ.n) (hf : Fresh σ) (hb : ∀ b ∈ bs, b ≠ σ.n) : newN n0 σ bs = true := by
  unfold newN
  rw [hf σ.n (Nat.le_refl _)]
  simp only [noneB, Bool.and_true, Bool.and_eq_true, Nat.ble_eq, List.all_eq_true, Bool.not_eq_true']
  refine ⟨hn, fun b h => ?_⟩
  rw [Bool.eq_false_iff]
  intro e
  exact hb b h (Nat.eq_of_beq_eq_true e)
theorem objEq_refl (a : Option AObj) : objEq a a = true := by unfold objEq; simp
theorem chkO_one {b : Nat} {o : Option AObj} (h : σ.get b = o) : chkO [(b, o)] σ = true := by
  unfold chkO chkO
  rw [h, objEq_refl]
  rfl
end

section
variable {ov : Ov}
theorem wp_has (hO : OvT ov) {σ : AHeap} {q : Option Addr} {b cap : Nat} {l : List Int} (hQ : SlV σ b q cap (ints .i64 l)) (hl : l.length ≤ 1000000) (v : Int) :
    WpF PROG ov 57 [.slice q l.length cap, .int .i64 v] σ fun x σ' => x = .bool (l.any (· == v)) ∧ σ = σ' := by
  refine WpF.of (T57_eq _ _ _ _) (hO _ (by decide) (by decide) (by decide)) ?_
  rw [T57]
  have hrd := hQ.rdB.rd
  refine Wp.count l.length (fun j st σ' => st = [.int .i64 ((j : Nat) : Int), .bool false] ∧ σ' = σ ∧ (l.take j).any (· == v) = false) ⟨rfl, rfl, by simp⟩ ?_ ?_
  · rintro j st _ hj ⟨rfl, rfl, hno⟩
    have ej : wi64 ((j : Int) + 1) = ((j + 1 : Nat) : Int) := by rw [wi64_in (by omega)]; omega
    have hat := any_take (· == v) l j hj hno
    simp only [T57b0, asCons_cons, asInt_int, asBool_bool, asNil_nil]
    rw [wp_bif, if_pos (by simp; omega), wp_join, wp_rdI hrd (by omega) (by omega), Int.toNat_natCast, getD_at hj, wp_bif]
    by_cases he : l[j] = v
    · rw [if_pos (by simpa using he), wp_ret]
      simp only [T57k0, sw_same, asCons_cons, asBool_bool, asNil_nil]
      rw [wp_ret]
      simp only [T57k1, sw_re, sw_same, asCons_cons, asInt_int, asBool_bool, asNil_nil]
      rw [wp_ret]
      have : l.any (· == v) = true := any_of_take (j := j + 1) (by rw [hat]; simpa using he)
      exact ⟨_, rfl, by rw [this], rfl⟩
    · rw [if_neg (by simpa using he), wp_ret]
      simp only [T57k0, sw_nr, sw_same, asCons_cons, asBool_bool, asNil_nil]
      rw [wp_ret, ej]
      exact ⟨rfl, rfl, by rw [hat]; simpa using he⟩
  · rintro st _ ⟨rfl, rfl, hno⟩
    rw [List.take_length] at hno
    simp only [T57b0, asCons_cons, asInt_int, asBool_bool, asNil_nil]
    rw [wp_bif, if_neg (by simp), wp_ret]
    simp only [T57k1, sw_same, asCons_cons, asInt_int, asBool_bool, asNil_nil]
    rw [wp_ret]
    exact ⟨_, rfl, by rw [hno], rfl⟩

theorem wp_varsR (hO : OvT ov) : ∀ (k : Nat) (σ : AHeap) (t : AT) (acc : List Int) (q : Option Addr) (b cap : Nat), SizeOf.sizeOf t ≤ k → Fresh σ → AFull σ t → SlV σ b q cap (ints .i64 acc) → (varsM t acc).length ≤ 1000000 →
    WpF PROG ov 47 [.agg t.c.toArray, .slice q acc.length cap] σ fun v σ' => Frm σ σ' NoB ∧ ∃ q' b' cap', v = .slice q' (varsM t acc).length cap' ∧ SlV σ' b' q' cap' (ints .i64 (varsM t acc)) := by
  intro k
  induction k with
  | zero => intro σ t acc q b cap h; cases t; simp at h
  | succ k ih =>
    intro σ t acc q b cap hk hf ht hQ hmx
    have hlen := ht.len
    have hsz : ∀ u ∈ t.args, SizeOf.sizeOf u ≤ k := by
      cases t with
      | mk d l =>
        intro u hu
        have := List.sizeOf_lt_of_mem (show u ∈ l from hu)
        simp at hk
        omega
    obtain ⟨p, pc, hc, hrow⟩ := ht.row
    have hacc : acc.length ≤ 1000000 := Nat.le_trans (varsM_le t acc) hmx
    rw [hc]
    refine WpF.of (T47_eq _ _ _ _ _ _ _ _ _) (hO _ (by decide) (by decide) (by decide)) ?_
    rw [T47]
    refine wp_newQ fun σ1 hF1 hn1 hS1 => ?_
    have hQ1 := hQ.frm hF1 fun _ h => h
    have hf1 := hF1.fr hf
    rw [varsM_eq] at hmx ⊢
    rw [wp_ldF hS1 rfl, asInt_int, wp_bif]
    by_cases h7 : t.k = 7
    · rw [if_pos (by simpa using h7), wp_ldF hS1 rfl, asInt_int, wp_call]
      rw [if_pos h7] at hmx ⊢
      refine WpF.mono (wp_has hO hQ1 hacc t.v) ?_
      rintro _ _ ⟨rfl, rfl⟩
      rw [asBool_bool, wp_bif]
      cases hb : acc.any (· == t.v) with
      | true =>
        rw [if_pos rfl, wp_ret]
        exact ⟨_, rfl, hF1, q, b, cap, rfl, hQ1⟩
      | false =>
        rw [hb] at hmx
        simp only [Bool.false_eq_true, if_false, List.length_append, List.length_singleton] at hmx ⊢
        rw [wp_get, wp_get, wp_grd]
        refine ⟨newN_ok (Nat.le_refl _) hf1 (fun b hb => by cases hb), ?_⟩
        rw [wp_act, bdSl_eq]
        simp only [asSlice_slice]
        have hF6 := Frm.new σ1 [] 1 NoB
        have hN6 := Row.new σ1 1 [] 0 (by decide) rfl (by intro x hx; cases hx)
        have hn6 := newBlk_n σ1 [] 1
        generalize σ1.newBlk [] 1 = σ6 at hF6 hN6 hn6 ⊢
        have hS6 := hF6.stN hS1
        rw [wp_get, wp_ldF hS6 rfl, asInt_int, wp_get, wp_grd]
        refine ⟨newN_ok (by omega) (hF6.fr hf1) (fun b hb => by simp at hb; omega), ?_⟩
        rw [wp_act, bdSl_eq]
        simp only [asSlice_slice]
        have hone : ∀ y ∈ [Value.int .i64 t.v], one y = true := by
          intro y hy
          simp only [List.mem_cons, List.mem_nil_iff, or_false] at hy
          rw [hy]
          rfl
        have hF7 := Frm.new σ6 [Value.int .i64 t.v] 1 NoB
        have hN7 := Row.new σ6 1 [Value.int .i64 t.v] 1 (by decide) rfl hone
        have hn7 := newBlk_n σ6 [Value.int .i64 t.v] 1
        generalize σ6.newBlk [Value.int .i64 t.v] 1 = σ7 at hF7 hN7 hn7 ⊢
        have hQ7 := (hQ1.frm hF6 fun _ h => h).frm hF7 fun _ h => h
        have hS7 := hF7.stN hS6
        have hM7 := hF7.rowN hN6
        rw [wp_get]
        refine wp_appR (.inr ⟨0, 1, rfl, hM7⟩) rfl hQ7 (by simp [ints]) (by omega) (by omega) fun σ8 b8 p8 c8 hF8 hb8 hR8 => ?_
        rw [List.nil_append] at hR8
        have hF18 : Frm σ1 σ8 NoB := (hF6.seq hF7).fresh hF8 fun i hi h => by have := h.2; omega
        have hS8 := hF18.stN hS1
        have hN8 : Row σ8 σ6.n 0 1 1 1 [Value.int .i64 t.v] := hF8.row hN7 fun h => by have := h.2; omega
        rw [wp_get, wp_grd]
        refine ⟨chks_one (hS8.ldF rfl), ?_⟩
        rw [wp_get, wp_grd]
        refine ⟨chkO_one (hF8.get _ (by omega) fun h => by have := h.2; omega), ?_⟩
        have hp8 : p8 ≠ none → σ1.n ≤ b8 := fun hp => by
          rcases hb8 with h | ⟨_, h⟩ | h
          · exact absurd h hp
          · omega
          · omega
        refine wp_appR hR8 (by simp [ints]) (.inr ⟨0, 1, rfl, hN8⟩) rfl (by omega) (by omega) fun σ9 b9 p9 c9 hF9 hb9 hR9 => ?_
        rw [wp_ret]
        refine ⟨_, rfl, (hF1.seq hF18).fresh hF9 fun i hi h => ?_, p9, b9, c9, by simp, by rw [ints_snoc]; exact hR9⟩
        have := hp8 h.1
        have := h.2
        omega
    · rw [if_neg (by simpa using h7)]
      rw [if_neg h7] at hmx ⊢
      refine Wp.count t.args.length (fun j st σ' => ∃ acc' q b cap, st = [.int .i64 ((j : Nat) : Int), .slice q acc'.length cap] ∧ Frm σ1 σ' NoB ∧ SlV σ' b q cap (ints .i64 acc') ∧ varsL (t.args.drop j) acc' = varsL t.args acc) ⟨acc, q, b, cap, rfl, Frm.refl _ _, hQ1, rfl⟩ ?_ ?_
      · rintro j st σ4 hj ⟨acc', q', b', cap', rfl, hF4, hQ4, hfo⟩
        have ej : wi64 ((j : Int) + 1) = ((j + 1 : Nat) : Int) := by rw [wi64_in (by omega)]; omega
        have hA := hF4.stN hS1
        have hF04 := hF1.seq hF4
        simp only [T47b0, asCons_cons, asInt_int, asSlice_slice, asNil_nil]
        rw [wp_ldF hA rfl, asSlice_slice, wp_bif, if_pos (by simp; omega), wp_join, wp_ldF hA rfl, asSlice_slice]
        have hr4 := hrow.stepM hF04 Maps.none (R' := fun cs (u : AT) => cs = u.c ∧ AFull σ4 u) fun _ _ h => ⟨h.1, h.2.frm hF04⟩
        refine wp_rowOf hr4 hj rfl fun cs hX => ?_
        have hmem := hsz _ (List.getElem_mem hj)
        rw [List.drop_eq_getElem_cons hj, varsL] at hfo
        generalize t.args[j] = x at hX hfo hmem
        obtain ⟨rfl, hx⟩ := hX
        have hmx' : (varsM x acc').length ≤ 1000000 := Nat.le_trans (varsL_le _ _) (by rw [hfo]; exact hmx)
        have hxi := ih σ4 x acc' q' b' cap' hmem (hF4.fr hf1) hx hQ4 hmx'
        obtain ⟨xp, xc, hxc⟩ := hx.cells
        rw [hxc] at hxi ⊢
        simp only [asAgg_agg, asCons_cons, asInt_int, asStr_str, asSlice_slice, asNil_nil]
        rw [wp_call]
        refine WpF.mono hxi ?_
        rintro _ σ7 ⟨hF7, q7, b7, cap7, rfl, hQ7⟩
        rw [asSlice_slice, wp_ret]
        simp only [T47k0, sw_same, asCons_cons, asSlice_slice, asNil_nil]
        rw [wp_ret, ej]
        exact ⟨_, q7, b7, cap7, rfl, hF4.seq hF7, hQ7, hfo⟩
      · rintro st σ4 ⟨acc', q', b', cap', rfl, hF4, hQ4, hfo⟩
        rw [List.drop_length, varsL] at hfo
        simp only [T47b0, asCons_cons, asInt_int, asSlice_slice, asNil_nil]
        rw [wp_ldF (hF4.stN hS1) rfl, asSlice_slice, wp_bif, if_neg (by simp), wp_ret]
        simp only [T47k1, sw_same, asCons_cons, asInt_int, asSlice_slice, asNil_nil]
        rw [wp_ret, ← hfo]
        exact ⟨_, rfl, hF1.seq hF4, q', b', cap', rfl, hQ4⟩

theorem wp_VarsR (hO : OvT ov) {σ : AHeap} {t : AT} (hf : Fresh σ) (ht : AFull σ t) (hmx : (varsM t []).length ≤ 1000000) :
    WpF PROG ov 27 [.agg t.c.toArray] σ fun v σ' => Frm σ σ' NoB ∧ ∃ q' b' cap', v = .slice q' (varsM t []).length cap' ∧ SlV σ' b' q' cap' (ints .i64 (varsM t [])) := by
  have hz := fun σ' (hF : Frm σ σ' NoB) => wp_varsR hO _ σ' t [] none 0 0 (Nat.le_refl _) (hF.fr hf) (ht.frm hF) (.inl ⟨rfl, rfl, rfl⟩) hmx
  obtain ⟨p, cap, hc⟩ := ht.cells
  rw [hc] at hz ⊢
  refine WpF.of (T27_eq _ _ _ _ _ _) (hO _ (by decide) (by decide) (by decide)) ?_
  rw [T27]
  refine wp_newQ fun σ1 hF1 hn1 hS1 => ?_
  rw [wp_ldAll hS1 4 rfl]
  simp only [asAgg_agg, asCons_cons, asInt_int, asStr_str, asSlice_slice, asNil_nil]
  rw [wp_call]
  refine WpF.mono (hz σ1 hF1) ?_
  rintro _ σ2 ⟨hF2, q', b', cap', rfl, hQ⟩
  rw [asSlice_slice, wp_ret]
  exact ⟨_, rfl, hF1.seq hF2, q', b', cap', rfl, hQ⟩

theorem wp_ints (hO : OvT ov) {σ : AHeap} {q r : Option Addr} {b cap c cap2 : Nat} {l m : List Int} (hQ : SlV σ b q cap (ints .i64 l)) (hR : SlV σ c r cap2 (ints .i64 m)) (hl : l.length ≤ 1000000) :
    WpF PROG ov 25 [.slice q l.length cap, .slice r m.length cap2] σ fun x σ' => x = .bool (l == m) ∧ σ = σ' := by
  refine WpF.of (T25_eq _ _ _ _ _ _) (hO _ (by decide) (by decide) (by decide)) ?_
  rw [T25, wp_bif]
  by_cases hlm : l.length = m.length
  case neg =>
    rw [if_pos (by simp; omega), wp_ret]
    refine ⟨_, rfl, ?_, rfl⟩
    congr 1
    have : l ≠ m := fun h => hlm (by rw [h])
    simp [this]
  rw [if_neg (by simp; omega)]
  have hrl := hQ.rdB.rd
  have hrm := hR.rdB.rd
  refine Wp.count l.length (fun j st σ' => st = [.int .i64 ((j : Nat) : Int), .bool false] ∧ σ' = σ ∧ l.take j = m.take j) ⟨rfl, rfl, by simp⟩ ?_ ?_
  · rintro j st _ hj ⟨rfl, rfl, hno⟩
    have ej : wi64 ((j : Int) + 1) = ((j + 1 : Nat) : Int) := by rw [wi64_in (by omega)]; omega
    have hj' : j < m.length := by omega
    simp only [T25b0, asCons_cons, asInt_int, asBool_bool, asNil_nil]
    rw [wp_bif, if_pos (by simp; omega), wp_join, wp_rdI hrl (by omega) (by omega), wp_rdI hrm (by omega) (by omega), Int.toNat_natCast, getD_at hj, getD_at hj', wp_bif]
    by_cases he : l[j] = m[j]
    · rw [if_neg (by simpa using he), wp_ret]
      simp only [T25k0, sw_nr, sw_same, asCons_cons, asBool_bool, asNil_nil]
      rw [wp_ret, ej]
      exact ⟨rfl, rfl, by rw [List.take_succ_eq_append_getElem hj, List.take_succ_eq_append_getElem hj', hno, he]⟩
    · rw [if_pos (by simpa using he), wp_ret]
      simp only [T25k0, sw_same, asCons_cons, asBool_bool, asNil_nil]
      rw [wp_ret]
      simp only [T25k1, sw_re, sw_same, asCons_cons, asInt_int, asBool_bool, asNil_nil]
      rw [wp_ret]
      refine ⟨_, rfl, ?_, rfl⟩
      congr 1
      have : l ≠ m := fun h => he (by simp [h])
      simp [this]
  · rintro st _ ⟨rfl, rfl, hno⟩
    rw [List.take_length, hlm, List.take_length] at hno
    simp only [T25b0, asCons_cons, asInt_int, asBool_bool, asNil_nil]
    rw [wp_bif, if_neg (by simp), wp_ret]
    simp only [T25k1, sw_same, asCons_cons, asInt_int, asBool_bool, asNil_nil]
    rw [wp_ret]
    exact ⟨_, rfl, by simp [hno], rfl⟩
end
end Go.Pg
