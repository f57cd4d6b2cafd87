/- Layer 22: counts that come one by one: what is kept of them. -/
import Derived.Test.YtahkbdmoodjnbaaKeep2
namespace Go.Pg
open Go.Proofs

/-- The law's own test. -/
theorem wp_awake22 (σ : AHeap) {Q : Value → AHeap → Prop} (hQ : ∀ σ', Frm σ σ' (fun _ => False) → Q (.bool true) σ') : WpF PROG ov0 22 [] σ Q := by
  refine WpF.of T22_eq rfl ?_
  rw [T22, wp_call]
  refine wp_new σ (by decide) fun σ1 hF1 hK1 => ?_
  simp only [asTuple_tuple, asCons_cons, asPtr_ptr, asInt_int, asNil_nil]
  rw [wp_bif, if_neg (by simp), wp_call]
  refine wp_add hK1 (by decide) (by decide) (by decide) (by decide) 1 (by decide) fun v σ2 hA => ?_
  obtain ⟨hF2, hA⟩ := hA
  rw [if_pos (by decide)] at hA
  obtain ⟨rfl, hK2⟩ := hA
  simp only [asTuple_tuple, asCons_cons, asSlice_slice, asInt_int, asNil_nil]
  rw [wp_call]
  refine wp_add hK2 (by decide) (by decide) (by decide) (by decide) 2 (by decide) fun v σ3 hA => ?_
  obtain ⟨hF3, hA⟩ := hA
  rw [if_neg (by decide)] at hA
  obtain ⟨g, hg, rfl, hR3, hK3⟩ := hA
  simp only [asTuple_tuple, asCons_cons, asSlice_slice, asInt_int, asNil_nil]
  have e1 : ([0] ++ [1] ++ [2] : List Int).getD (pick ([0] ++ [1] ++ [2]) (([0] ++ [1] ++ [2] : List Int).length - 2)) 0 = 1 := by decide
  have e2 : ([0] ++ [1] ++ [2] : List Int).eraseIdx (pick ([0] ++ [1] ++ [2]) (([0] ++ [1] ++ [2] : List Int).length - 2)) = [0, 2] := by decide
  rw [e1] at hR3
  rw [e2] at hK3
  rw [wp_join, wp_bif, if_pos (by decide), wp_bif, if_pos (by decide), wp_act, bdSl_eq]
  simp only [asSlice_slice]
  have hF4 := Frm.new σ3 [.int .i64 1] 1 (fun _ => False)
  have hN4 := Row.new σ3 1 [.int .i64 1] 1 (by decide) rfl (by intro x hx; simp at hx; subst hx; rfl)
  have hc := ev_counts (l := [1]) (m := [1]) (hF4.row hR3 (fun h => h)).rdI (Row.rdI (l := [1]) hN4) (by decide) 1 1
  have hc' : EvF PROG ov0 28 [Slc g 0 1 1 1, .slice (some ⟨σ3.n, 0, some 1⟩) 1 1] (σ3.newBlk [.int .i64 1] 1) (.bool true) (σ3.newBlk [.int .i64 1] 1) := hc
  rw [wp_call, WpF.eq hc', asBool_bool, wp_bif, if_pos (by decide), wp_call]
  have hK4 := hK3.frm hF4 (fun h => h) (fun h => h)
  refine wp_kept hK4 (by decide) (by decide) fun σ5 s5 cap5 hF5 hR5 => ?_
  simp only [asSlice_slice]
  rw [wp_act, bdSl_eq]
  simp only [asSlice_slice]
  have hF6 := Frm.new σ5 [.int .i64 0, .int .i64 2] 1 (fun _ => False)
  have hN6 := Row.new σ5 1 [.int .i64 0, .int .i64 2] 2 (by decide) rfl (by intro x hx; simp at hx; rcases hx with rfl | rfl <;> rfl)
  have hd := ev_counts (l := [0, 2]) (m := [0, 2]) (hF6.row hR5 (fun h => h)).rdI (Row.rdI (l := [0, 2]) hN6) (by decide) cap5 2
  have hd' : EvF PROG ov0 28 [.slice (some ⟨(σ3.newBlk [.int .i64 1] 1).n, 0, some s5⟩) 2 cap5, .slice (some ⟨σ5.n, 0, some 1⟩) 2 2] (σ5.newBlk [.int .i64 0, .int .i64 2] 1) (.bool true) (σ5.newBlk [.int .i64 0, .int .i64 2] 1) := hd
  have hK6 := (hK4.frm hF5 (fun h => h) (fun h => h)).frm hF6 (fun h => h) (fun h => h)
  have hgp := ev_gap hK6 (by decide) (by decide)
  have hbf := ev_before hK6 (by decide) 1
  have e3 : gapM [0, 2] (([0, 2] : List Int).length - 1) = 2 := by decide
  have e4 : best [0, 2] 1 ([0, 2] : List Int).length = 0 := by decide
  rw [e3] at hgp
  rw [e4] at hbf
  rw [show ([0, 2] : List Int).length = 2 from rfl, wp_call, WpF.eq hd', asBool_bool, wp_bif, if_pos (by decide), wp_call, WpF.eq hgp, asInt_int, wp_bif, if_pos (by decide), wp_call, WpF.eq hbf, asInt_int, wp_ret]
  simp only [T22k0, sw_same, asCons_cons, asBool_bool, asNil_nil, wp_ret]
  refine ⟨_, rfl, hQ _ ?_⟩
  refine hF1.trans (hF2.trans (hF3.trans (hF4.trans (hF5.trans hF6 (fun _ _ h => h) (fun _ _ h => h)) (fun _ _ h => h) (fun _ _ h => h)) (fun _ _ h => h) (U := fun j => j = σ.n + 1 ∨ j = σ.n) (fun _ _ h => h.elim)) (fun _ _ h => h) (fun _ _ h => h)) (fun _ _ h => h) (fun j hj h => by omega)

/-- What is kept of so many counts. -/
structure Kpt (every most : Int) (i : Nat) (l : List Int) : Prop where
  len : (l.length : Int) ≤ most
  ne : 1 ≤ l.length
  first : l.getD 0 0 = 0
  last : lastI l = i * every
  up : l.Pairwise (· < ·)
  mult : ∀ x ∈ l, Int.tmod x every = 0
  all : (i : Int) < most → l.length = i + 1
  pos : ∀ x ∈ l, 0 ≤ x

theorem kpt_zero {every most : Int} (hm : 2 ≤ most) : Kpt every most 0 [0] where
  len := by simp; omega
  ne := by simp
  first := rfl
  last := by simp [lastI]
  up := by simp
  mult := by simp
  all := by simp
  pos := by simp

theorem getD_last_append (l : List Int) (n : Int) : lastI (l ++ [n]) = n := by
  unfold lastI
  simp [List.getD]

theorem kpt_le {every most : Int} {i : Nat} {l : List Int} (h : Kpt every most i l) : ∀ x ∈ l, x ≤ i * every := by
  intro x hx
  rw [← h.last]
  obtain ⟨k, hk, rfl⟩ := List.getElem_of_mem hx
  unfold lastI
  have hl : l.getD (l.length - 1) 0 = l[l.length - 1]'(by omega) := by simp [List.getD, show l.length - 1 < l.length by omega]
  rw [hl]
  by_cases hkl : k = l.length - 1
  · simp [hkl]
  · exact Int.le_of_lt (List.pairwise_iff_getElem.1 h.up k (l.length - 1) hk (by omega) (by omega))

theorem kpt_next {every most : Int} {i : Nat} {l : List Int} (he : 1 ≤ every) (h : Kpt every most i l) :
    wants every l ((i + 1 : Nat) * every) = true ∧
    (if ((l ++ [((i + 1 : Nat) : Int) * every]).length : Int) ≤ most then Kpt every most (i + 1) (l ++ [((i + 1 : Nat) : Int) * every])
     else ∀ a, 1 ≤ a → a + 1 ≤ l.length → Kpt every most (i + 1) ((l ++ [((i + 1 : Nat) : Int) * every]).eraseIdx a)) := by
  have hn : (i : Int) * every < ((i + 1 : Nat) : Int) * every := by
    have : ((i + 1 : Nat) : Int) * every = i * every + every := by rw [Int.natCast_add, Int.add_mul]; simp
    omega
  have h0 : 0 ≤ (i : Int) * every := Int.mul_nonneg (by omega) (by omega)
  generalize hN : ((i + 1 : Nat) : Int) * every = n at hn ⊢
  have hmult : Int.tmod n every = 0 := by rw [← hN]; exact Int.mul_tmod_left _ _
  have hup : (l ++ [n]).Pairwise (· < ·) := by
    rw [List.pairwise_append]
    refine ⟨h.up, by simp, fun x hx y hy => ?_⟩
    simp at hy
    subst hy
    have := kpt_le h x hx
    omega
  have hmul : ∀ x ∈ l ++ [n], Int.tmod x every = 0 := by
    intro x hx
    rcases List.mem_append.1 hx with hx | hx
    · exact h.mult x hx
    · simp at hx; subst hx; exact hmult
  have hpos : ∀ x ∈ l ++ [n], 0 ≤ x := by
    intro x hx
    rcases List.mem_append.1 hx with hx | hx
    · exact h.pos x hx
    · simp at hx; subst hx; omega
  have hne := h.ne
  have hfst : ∀ m : List Int, (l ++ m).getD 0 0 = 0 := by
    intro m
    have := h.first
    cases l with
    | nil => simp at hne
    | cons x r => simpa [List.getD] using this
  refine ⟨?_, ?_⟩
  · unfold wants
    rw [h.last, hmult]
    simp [hn]
  · split
    · rename_i hle
      refine ⟨hle, by simp, hfst _, by rw [getD_last_append, ← hN], hup, hmul, fun hi => ?_, hpos⟩
      have := h.all (by omega)
      simp [this]
    · rename_i hle
      intro a h1 h2
      have hea : (l ++ [n]).eraseIdx a = l.eraseIdx a ++ [n] := List.eraseIdx_append_of_lt_length (by omega) _
      have hll := h.len
      have hsub : List.Sublist ((l ++ [n]).eraseIdx a) (l ++ [n]) := List.eraseIdx_sublist _ _
      have hlen : (l.eraseIdx a).length = l.length - 1 := by rw [List.length_eraseIdx_of_lt (by omega)]
      refine ⟨?_, by rw [hea]; simp, ?_, by rw [hea, getD_last_append, ← hN], hup.sublist hsub, fun x hx => hmul x (hsub.subset hx), fun hi => ?_, fun x hx => hpos x (hsub.subset hx)⟩
      · rw [hea, List.length_append, hlen]
        simp only [List.length_singleton]
        omega
      · have := h.first
        cases l with
        | nil => simp at hne
        | cons x r =>
          cases a with
          | zero => omega
          | succ a => simpa [List.getD] using this
      · exfalso
        have := h.all (by omega)
        simp only [List.length_append, List.length_singleton] at hle
        omega

end Go.Pg
