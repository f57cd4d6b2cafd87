/- Layer 5: the variables of a type, in the order in which they stand. -/
import Derived.Test.YtoilldfibaeokaaDoorTyS
namespace Go.Pg
open Go.Proofs

mutual
def varsM : AT → List Int → List Int
  | .mk d l, acc => if d.1.kind = 7 then (if acc.any (· == d.1.var) then acc else acc ++ [d.1.var]) else varsL l acc
def varsL : List AT → List Int → List Int
  | [], acc => acc
  | a :: l, acc => varsL l (varsM a acc)
end
theorem varsM_eq (t : AT) (acc : List Int) : varsM t acc = if t.k = 7 then (if acc.any (· == t.v) then acc else acc ++ [t.v]) else varsL t.args acc := by
  cases t
  rw [varsM]
  rfl
mutual
theorem varsM_strip : ∀ (t u : AT) (acc : List Int), strip t = strip u → varsM t acc = varsM u acc
  | .mk d l, .mk e m, acc, h => by
    obtain ⟨h1, h2⟩ := strip_inj h
    have h1 : d.1 = e.1 := h1
    have h2 : stripL l = stripL m := h2
    rw [varsM, varsM, varsL_strip l m _ h2, h1]
theorem varsL_strip : ∀ (l m : List AT) (acc : List Int), stripL l = stripL m → varsL l acc = varsL m acc
  | [], [], _, _ => rfl
  | [], _ :: _, _, h => by rw [stripL, stripL] at h; cases h
  | _ :: _, [], _, h => by rw [stripL, stripL] at h; cases h
  | a :: l, b :: m, acc, h => by
    rw [stripL, stripL] at h
    injection h with h1 h2
    rw [varsL, varsL, varsM_strip a b acc h1, varsL_strip l m _ h2]
end
mutual
theorem varsM_le : ∀ (t : AT) (acc : List Int), acc.length ≤ (varsM t acc).length
  | .mk d l, acc => by
    rw [varsM]
    split
    · split
      · exact Nat.le_refl _
      · simp
    · exact varsL_le l acc
theorem varsL_le : ∀ (l : List AT) (acc : List Int), acc.length ≤ (varsL l acc).length
  | [], acc => by rw [varsL]; exact Nat.le_refl _
  | a :: l, acc => by
    rw [varsL]
    exact Nat.le_trans (varsM_le a acc) (varsL_le l _)
end
theorem ints_snoc (k : IntKind) (l : List Int) (x : Int) : ints k (l ++ [x]) = ints k l ++ [.int k x] := by simp [ints]

section
variable {ov : Ov}
theorem getD_at {l : List Int} {j : Nat} (hj : j < l.length) : l.getD j 0 = l[j] := by simp [hj]

theorem wp_vars (hO : OvT ov) : ∀ (k : Nat) (σ0 σ : AHeap) (t : AT) (acc : List Int) (q : Option Addr) (b cap : Nat), SizeOf.sizeOf t ≤ k → Frm σ0 σ NoB → AFull σ0 t → SlV σ b q cap (ints .i64 acc) → (q ≠ none → σ0.n ≤ b) → (varsM t acc).length ≤ 1000000 →
    WpF PROG ov 46 [.agg t.c.toArray, .slice q acc.length cap] σ fun v σ' => Frm σ0 σ' NoB ∧ ∃ q' b' cap', v = .slice q' (varsM t acc).length cap' ∧ SlV σ' b' q' cap' (ints .i64 (varsM t acc)) ∧ (q' ≠ none → σ0.n ≤ b') := by
  intro k
  induction k with
  | zero => intro σ0 σ t acc q b cap h; cases t; simp at h
  | succ k ih =>
    intro σ0 σ t acc q b cap hk hF0 ht hQ hqb hmx
    have hlen := ht.len
    have hsz : ∀ u ∈ t.args, SizeOf.sizeOf u ≤ k := by
      cases t with
      | mk d l =>
        intro u hu
        have := List.sizeOf_lt_of_mem (show u ∈ l from hu)
        simp at hk
        omega
    obtain ⟨p, pc, hc, hrow⟩ := ht.row
    have hacc : acc.length ≤ 1000000 := Nat.le_trans (varsM_le t acc) hmx
    rw [hc]
    refine WpF.of (T46_eq _ _ _ _ _ _ _ _ _) (hO _ (by decide) (by decide) (by decide)) ?_
    rw [T46]
    refine wp_newQ fun σ1 hF1 hn1 hS1 => ?_
    have hQ1 := hQ.frm hF1 fun _ h => h
    have hF01 := hF0.seq hF1
    rw [varsM_eq] at hmx ⊢
    rw [wp_ldF hS1 rfl, asInt_int, wp_bif]
    by_cases h7 : t.k = 7
    · rw [if_pos (by simpa using h7)]
      rw [if_pos h7] at hmx ⊢
      have hrd := hQ1.rdB.rd
      refine Wp.count acc.length (fun j st σ' => st = [.int .i64 ((j : Nat) : Int), .slice none 0 0] ∧ σ' = σ1 ∧ (acc.take j).any (· == t.v) = false) ⟨rfl, rfl, by simp⟩ ?_ ?_
      · rintro j st _ hj ⟨rfl, rfl, hno⟩
        have ej : wi64 ((j : Int) + 1) = ((j + 1 : Nat) : Int) := by rw [wi64_in (by omega)]; omega
        have hat := any_take (· == t.v) acc j hj hno
        simp only [T46b0, asCons_cons, asInt_int, asSlice_slice, asNil_nil]
        rw [wp_bif, if_pos (by simp; omega), wp_join, wp_rdI hrd (by omega) (by omega), Int.toNat_natCast, getD_at hj, wp_ldF hS1 rfl, asInt_int, wp_bif]
        by_cases he : acc[j] = t.v
        · rw [if_pos (by simpa using he), wp_ret]
          simp only [T46k0, sw_same, asCons_cons, asSlice_slice, asNil_nil]
          rw [wp_ret]
          simp only [T46k1, sw_re, sw_same, asCons_cons, asInt_int, asSlice_slice, asNil_nil]
          rw [wp_ret]
          have : acc.any (· == t.v) = true := any_of_take (j := j + 1) (by rw [hat]; simpa using he)
          rw [if_pos this]
          exact ⟨_, rfl, hF01, q, b, cap, rfl, hQ1, hqb⟩
        · rw [if_neg (by simpa using he), wp_ret]
          simp only [T46k0, sw_nr, sw_same, asCons_cons, asSlice_slice, asNil_nil]
          rw [wp_ret, ej]
          exact ⟨rfl, rfl, by rw [hat]; simpa using he⟩
      · rintro st _ ⟨rfl, rfl, hno⟩
        rw [List.take_length] at hno
        simp only [T46b0, asCons_cons, asInt_int, asSlice_slice, asNil_nil]
        rw [wp_bif, if_neg (by simp), wp_ret]
        simp only [T46k1, sw_same, asCons_cons, asInt_int, asSlice_slice, asNil_nil]
        rw [wp_ldF hS1 rfl, asInt_int]
        rw [if_neg (by simp [hno])] at hmx ⊢
        simp only [List.length_append, List.length_singleton] at hmx
        refine wp_app1 hQ1 (by simp [ints]) rfl (by omega) (by omega) fun σ2 b' off s cap' hF2 hb' hR2 => ?_
        rw [wp_ret]
        refine ⟨_, rfl, hF01.fresh hF2 fun i hi h => by have := hqb h.1; omega, some ⟨b', off, some s⟩, b', cap', by simp, .inr ⟨off, s, rfl, by rw [ints_snoc]; exact hR2⟩, fun _ => ?_⟩
        have := hF01.n
        rcases hb' with ⟨h, rfl⟩ | h
        · exact hqb h
        · omega
    · rw [if_neg (by simpa using h7)]
      rw [if_neg h7] at hmx ⊢
      rw [wp_ldF hS1 rfl, asSlice_slice]
      refine Wp.count t.args.length (fun j st σ' => ∃ acc' q b cap, st = [.int .i64 ((j : Nat) : Int), .slice q acc'.length cap] ∧ Frm σ0 σ' NoB ∧ SlV σ' b q cap (ints .i64 acc') ∧ (q ≠ none → σ0.n ≤ b) ∧ varsL (t.args.drop j) acc' = varsL t.args acc) ⟨acc, q, b, cap, rfl, hF01, hQ1, hqb, rfl⟩ ?_ ?_
      · rintro j st σ4 hj ⟨acc', q', b', cap', rfl, hF4, hQ4, hqb4, hfo⟩
        have ej : wi64 ((j : Int) + 1) = ((j + 1 : Nat) : Int) := by rw [wi64_in (by omega)]; omega
        simp only [T46b1, asCons_cons, asInt_int, asSlice_slice, asNil_nil]
        rw [wp_bif, if_pos (by simp; omega), wp_join]
        have hr4 := hrow.stepM hF4 Maps.none (R' := fun cs (u : AT) => cs = u.c ∧ AFull σ0 u) fun _ _ h => h
        refine wp_rowOf hr4 hj rfl fun cs hX => ?_
        have hmem := hsz _ (List.getElem_mem hj)
        rw [List.drop_eq_getElem_cons hj, varsL] at hfo
        generalize t.args[j] = x at hX hfo hmem
        obtain ⟨rfl, hx⟩ := hX
        have hmx' : (varsM x acc').length ≤ 1000000 := Nat.le_trans (varsL_le _ _) (by rw [hfo]; exact hmx)
        have hxi := fun σ' (hF' : Frm σ0 σ' NoB) (hQ' : SlV σ' b' q' cap' (ints .i64 acc')) => ih σ0 σ' x acc' q' b' cap' hmem hF' hx hQ' hqb4 hmx'
        obtain ⟨xp, xc, hxc⟩ := hx.cells
        rw [hxc] at hxi ⊢
        simp only [asAgg_agg, asCons_cons, asInt_int, asStr_str, asSlice_slice, asNil_nil]
        refine wp_newQ fun σ5 hF5 hn5 hS5 => ?_
        refine wp_stQ hS5 rfl rfl fun σ6 hF6 hn6 hS6 => ?_
        have hF46 : Frm σ4 σ6 NoB := hF5.fresh hF6 fun j hj h => by omega
        rw [wp_ldAll hS6 4 rfl]
        simp only [asAgg_agg, asCons_cons, asInt_int, asStr_str, asSlice_slice, asNil_nil]
        rw [wp_call]
        refine WpF.mono (hxi σ6 (hF4.seq hF46) (hQ4.frm hF46 fun _ h => h)) ?_
        rintro _ σ7 ⟨hF7, q7, b7, cap7, rfl, hQ7, hqb7⟩
        rw [asSlice_slice, wp_ret]
        simp only [T46k2, sw_same, asCons_cons, asSlice_slice, asNil_nil]
        rw [wp_ret, ej]
        exact ⟨_, q7, b7, cap7, rfl, hF7, hQ7, hqb7, hfo⟩
      · rintro st σ4 ⟨acc', q', b', cap', rfl, hF4, hQ4, hqb4, hfo⟩
        rw [List.drop_length, varsL] at hfo
        simp only [T46b1, asCons_cons, asInt_int, asSlice_slice, asNil_nil]
        rw [wp_bif, if_neg (by simp), wp_ret]
        simp only [T46k3, sw_same, asCons_cons, asInt_int, asSlice_slice, asNil_nil]
        rw [wp_ret, ← hfo]
        exact ⟨_, rfl, hF4, q', b', cap', rfl, hQ4, hqb4⟩

theorem wp_Vars (hO : OvT ov) {σ : AHeap} {t : AT} (ht : AFull σ t) (hmx : (varsM t []).length ≤ 1000000) :
    WpF PROG ov 26 [.agg t.c.toArray] σ fun v σ' => Frm σ σ' NoB ∧ ∃ q' b' cap', v = .slice q' (varsM t []).length cap' ∧ SlV σ' b' q' cap' (ints .i64 (varsM t [])) ∧ (q' ≠ none → σ.n ≤ b') := by
  have hz := fun σ' (hF : Frm σ σ' NoB) => wp_vars hO _ σ σ' t [] none 0 0 (Nat.le_refl _) hF ht (.inl ⟨rfl, rfl, rfl⟩) (fun h => absurd rfl h) hmx
  obtain ⟨p, cap, hc⟩ := ht.cells
  rw [hc] at hz ⊢
  refine WpF.of (T26_eq _ _ _ _ _ _) (hO _ (by decide) (by decide) (by decide)) ?_
  rw [T26]
  refine wp_newQ fun σ1 hF1 hn1 hS1 => ?_
  rw [wp_ldAll hS1 4 rfl]
  simp only [asAgg_agg, asCons_cons, asInt_int, asStr_str, asSlice_slice, asNil_nil]
  rw [wp_call]
  refine WpF.mono (hz σ1 hF1) ?_
  rintro _ σ2 ⟨hF2, q', b', cap', rfl, hQ, hb⟩
  rw [asSlice_slice, wp_ret]
  exact ⟨_, rfl, hF2, q', b', cap', rfl, hQ, hb⟩
end
end Go.Pg
