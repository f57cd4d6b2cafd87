/- Layer 17: the document's stack: Add, Push. -/
import Derived.Test.YteelimkplbfiiaaRef2
namespace Go.Pg
open Go.Proofs

section
variable {σ : AHeap}
theorem newN_ok {n0 : Nat} {bs : List Nat} (hn : n0 ≤ σ.n) (hf : Fresh σ) (hb : ∀ b ∈ bs, b ≠ σ.n) : newN n0 σ bs = true := by
  unfold newN
  rw [hf σ.n (Nat.le_refl _)]
  simp only [noneB, Bool.and_true, Bool.and_eq_true, Nat.ble_eq, List.all_eq_true, Bool.not_eq_true']
  refine ⟨hn, fun b h => ?_⟩
  rw [Bool.eq_false_iff]
  intro e
  exact hb b h (Nat.eq_of_beq_eq_true e)
theorem objEq_refl (a : Option AObj) : objEq a a = true := by unfold objEq; simp
theorem chkO_one {b : Nat} {o : Option AObj} (h : σ.get b = o) : chkO [(b, o)] σ = true := by
  unfold chkO chkO
  rw [h, objEq_refl]
  rfl
end

section
variable {P : Program} {ov : Ov}
/-- A row of elements of several cells is appended, that can be read. -/
theorem wp_apE {σ : AHeap} {b cap len cap2 n byt esz : Nat} {p p2 : Option Addr} {xs ys : List Value} {g : Option Addr → Nat → Nat → Pg} {Q : Post} (h : SlE σ b p cap esz xs) (h0 : 1 ≤ esz) (he : esz < 64) (hlen : xs.length = len * esz) (hcap : len ≤ cap) (hf : firstOf esz n σ (.slice p2 n cap2) = some ys) (hyo : ∀ y ∈ ys, one y = true) (hn : ys.length = n * esz)
    (hb : 2 * (len + n) * byt ≤ 281474976710656) (hb2 : len + n ≤ 4611686018427387904)
    (k : ∀ σ' b' p' cap', Frm σ σ' (fun j => p ≠ none ∧ j = b) → (p' = none ∨ (p ≠ none ∧ b' = b) ∨ σ.n ≤ b') → SlE σ' b' p' cap' esz (xs ++ ys) → len + n ≤ cap' → Wp P ov (g p' (len + n) cap') σ' Q) :
    Wp P ov (.act (apS esz byt p len cap p2 n cap2) fun w => asSlice w g) σ Q := by
  have e0 : apS esz byt p len cap p2 n cap2 σ = apCore esz byt p len cap n ys σ := by unfold apS; rw [hf]
  rw [wp_act, e0]
  by_cases hz : n = 0
  · subst hz
    have hy : ys = [] := List.length_eq_zero_iff.1 (by simpa using hn)
    subst hy
    rw [apCore_zero hcap]
    simp only [asSlice_slice]
    refine k σ b p cap (Frm.refl _ _) ?_ (by simpa using h) hcap
    cases p with
    | none => exact .inl rfl
    | some a => exact .inr (.inl ⟨by simp, rfl⟩)
  · rcases h with ⟨rfl, rfl, rfl⟩ | ⟨off, s, rfl, h⟩
    · have hl0 : len = 0 := by omega
      subst hl0
      rw [apCore_nil he (by omega) hn hyo (by simpa using hb) (by omega)]
      simp only [asSlice_slice]
      have := k (σ.newBlk ys esz) σ.n (some ⟨σ.n, 0, some esz⟩) n (Frm.new _ _ _ _) (.inr (.inr (Nat.le_refl _))) (.inr ⟨0, esz, rfl, by simpa using Row.new σ esz ys n he hn hyo⟩) (by omega)
      simpa using this
    · obtain ⟨σ', s', cap', e1, e2, e3, e4, e5⟩ := h.append (byt := byt) (len := len) (n := n) (ys := ys) hlen hn h0 (by omega) hyo hb hb2
      rw [e1]
      simp only [asSlice_slice]
      have hl := e5.len
      rw [List.length_append, hlen, hn, ← Nat.add_mul] at hl
      exact k σ' b _ cap' ((Frm.of1 h.lt e2 e3 e4).mono fun j _ e => ⟨by simp, e⟩) (.inr (.inl ⟨by simp, rfl⟩)) (.inr ⟨off, s', rfl, e5⟩) (Nat.le_of_mul_le_mul_right hl h0)
theorem SlV.fst {σ : AHeap} {b cap c : Nat} {p : Option Addr} {xs : List Value} (h : SlV σ b p cap xs) : firstOf 1 xs.length σ (.slice p xs.length c) = some xs := by
  rcases h with ⟨rfl, _, rfl⟩ | ⟨off, s, rfl, h⟩
  · rfl
  · unfold firstOf
    have := h.rdN (i := 0) (k := xs.length) (by simp)
    rw [Nat.add_zero, List.drop_zero, List.take_of_length_le (Nat.le_refl _)] at this
    simp only [Nat.mul_one]
    exact this
theorem SlE.fst {σ : AHeap} {b cap c n esz : Nat} {p : Option Addr} {xs : List Value} (h : SlE σ b p cap esz xs) (hn : xs.length = n * esz) : firstOf esz n σ (.slice p n c) = some xs := by
  rcases h with ⟨rfl, _, rfl⟩ | ⟨off, s, rfl, h⟩
  · have h0 : n * esz = 0 := by simpa using hn.symm
    unfold firstOf
    simp []
  · unfold firstOf
    have := h.rdN (i := 0) (k := n * esz) (by omega)
    rw [Nat.add_zero, List.drop_zero, List.take_of_length_le (by omega)] at this
    exact this
theorem SlV.toE {σ : AHeap} {b cap : Nat} {p : Option Addr} {xs : List Value} (h : SlV σ b p cap xs) : SlE σ b p cap 1 xs := h
end

section
variable {σ : AHeap} {S room : Nat} {Y : Nat → Prop} {vs : List Fv}
/-- Add. -/
theorem ev_addR_none (h : RK σ S room Y []) (w : Int) : EvF PROG ov0 29 [PV S, .int .u64 w] σ (.int .i64 4) σ := by
  obtain ⟨_, h1, h2, c, p, n, cap, frs, h3, h4, _⟩ := h
  obtain rfl : frs = [] := by simpa using h4
  refine EvF.of (T29_eq _ _) rfl ?_
  rw [T29, wp_fld h3.st rfl, asSlice_slice, wp_bif, if_pos (by rfl), wp_ret]
  exact ⟨rfl, rfl⟩
theorem ev_addR_full {v : Fv} (h : RK σ S room Y (vs ++ [v])) (hr : ¬ tot (vs ++ [v]) < room) (w : Int) : EvF PROG ov0 29 [PV S, .int .u64 w] σ (.int .i64 9) σ := by
  have hu := ev_used h
  obtain ⟨_, h1, h2, c, p, n, cap, fs, f, h3, rfl, rfl, _⟩ := h.snoc
  have e0 : (ld1 (aadd (PA S) 0)) σ = some (.int .i64 (room : Nat), σ) := h3.st.ldF rfl
  refine EvF.of (T29_eq _ _) rfl ?_
  rw [T29, wp_fld h3.st rfl, asSlice_slice, wp_bif, if_neg (by simp; omega), wp_get, wp_call, WpF.eq hu, asInt_int]
  simp only [asSome_some]
  rw [wp_act, e0]
  simp only
  rw [wp_grd]
  refine ⟨past_ok e0, ?_⟩
  rw [asInt_int, wp_bif, if_pos (by simp; omega), wp_ret]
  exact ⟨rfl, rfl⟩
theorem wp_addR {v : Fv} (h : RK σ S room Y (vs ++ [v])) (hf : Fresh σ) (hr : tot (vs ++ [v]) < room) (w : Int) {Q : Value → AHeap → Prop}
    (hQ : ∀ σ', Frm σ σ' (fun j => ¬ Y j) → RK σ' S room Y (vs ++ [{ v with ad := v.ad ++ [w] }]) → Q (.int .i64 0) σ') : WpF PROG ov0 29 [PV S, .int .u64 w] σ Q := by
  have hu := ev_used h
  obtain ⟨h0, h1, h2, c, p, n, cap, fs, f, h3, rfl, rfl, h5, h6, h7⟩ := h.snoc
  have hl := tot_len (fs.map rvw ++ [rvw f])
  simp only [List.length_append, List.length_map, List.length_cons, List.length_nil] at hl
  have hli := last_idx fs f (by omega)
  have hok := h3.ok f (by simp)
  have hsz : f.ad.length ≤ 100000 := by
    have : tot (fs.map rvw ++ [rvw f]) = tot (fs.map rvw) + fsz (rvw f) := tot_snoc _ _
    have e : fsz (rvw f) = 2 + f.sl.length + f.ad.length := rfl
    omega
  have e0 : (ld1 (aadd (PA S) 0)) σ = some (.int .i64 (room : Nat), σ) := h3.st.ldF rfl
  have hSlt := h3.st.1
  have hclt := h3.row.lt h3.pne
  refine WpF.of (T29_eq _ _) rfl ?_
  rw [T29, wp_fld h3.st rfl, asSlice_slice, wp_bif, if_neg (by simp; omega), wp_get, wp_call, WpF.eq hu, asInt_int]
  simp only [asSome_some]
  rw [wp_act, e0]
  simp only
  rw [wp_grd]
  refine ⟨past_ok e0, ?_⟩
  rw [asInt_int, wp_bif, if_neg (by simp; omega), wp_get, wp_ldF h3.st rfl, asSlice_slice, wp_get, wp_grd]
  refine ⟨newN_ok (Nat.le_refl _) hf (fun b hb => by cases hb), ?_⟩
  rw [wp_act, bdSl_eq]
  simp only [asSlice_slice]
  have hF6 := Frm.new σ [] 1 NoB
  have hN6 := Row.new σ 1 [] 0 (by decide) rfl (by intro x hx; cases hx)
  have hn6 := newBlk_n σ [] 1
  generalize σ.newBlk [] 1 = σ6 at hF6 hN6 hn6 ⊢
  have h36 := h3.frm hF6 (fun h => h) (fun _ h => h) fun _ _ _ _ h => h
  rw [wp_get, wp_ldF h36.st rfl, asSlice_slice, hli, wp_fr h36.row (j := fs.length) (by simp) (by decide) (by rw [last_get]; rfl), asSlice_slice, wp_get, wp_grd]
  refine ⟨newN_ok (by omega) (hF6.fr hf) (fun b hb => by simp at hb; omega), ?_⟩
  rw [wp_act, bdSl_eq]
  simp only [asSlice_slice]
  have hF7 := Frm.new σ6 [.int .u64 w] 1 NoB
  have hN7 := Row.new σ6 1 [.int .u64 w] 1 (by decide) rfl (by intro y hy; simp at hy; subst hy; rfl)
  have hn7 := newBlk_n σ6 [.int .u64 w] 1
  generalize σ6.newBlk [.int .u64 w] 1 = σ7 at hF7 hN7 hn7 ⊢
  have h37 := h36.frm hF7 (fun h => h) (fun _ h => h) fun _ _ _ _ h => h
  have hM7 := hF7.rowN hN6
  have hfst := (h37.ok f (by simp)).a.fst (c := f.ac)
  rw [ints_len] at hfst
  rw [wp_get]
  refine wp_apE (xs := []) (.inr ⟨0, 1, rfl, hM7⟩) (by decide) (by decide) rfl (Nat.zero_le _) hfst (ints_one _ _) (by simp) (by omega) (by omega) fun σ8 b8 p8 c8 hF8 hb8 hR8 hc8 => ?_
  rw [List.nil_append] at hR8
  rw [Nat.zero_add] at hc8 ⊢
  have hT8 : ∀ j, j < σ.n → ¬ ((some (⟨σ.n, 0, some 1⟩ : Addr)) ≠ none ∧ j = σ.n) := fun j hj h => by have := h.2; omega
  have hF08 : Frm σ σ8 NoB := (hF6.seq hF7).fresh hF8 fun i hi h => by have := h.2; omega
  have h38 := h3.frm hF08 (fun h => h) (fun _ h => h) fun _ _ _ _ h => h
  have hN8 : Row σ8 σ6.n 0 1 1 1 [.int .u64 w] := hF8.row hN7 fun h => by have := h.2; omega
  have hS8 : (ld1 (aadd (PA S) 1)) σ8 = some (.slice p (fs ++ [f]).length n, σ8) := h38.st.ldF rfl
  rw [wp_get, wp_grd]
  refine ⟨chks_one hS8, ?_⟩
  rw [wp_get, wp_grd]
  refine ⟨chkO_one (hF8.get _ (by omega) fun h => by have := h.2; omega), ?_⟩
  have hp8 : p8 ≠ none → σ.n ≤ b8 ∧ b8 ≠ σ6.n := fun hp => by
    rcases hb8 with h | ⟨_, h⟩ | h
    · exact absurd h hp
    · omega
    · omega
  have hN8e : SlE σ8 σ6.n (some ⟨σ6.n, 0, some 1⟩) 1 1 [.int .u64 w] := .inr ⟨0, 1, rfl, hN8⟩
  refine wp_apE hR8 (by decide) (by decide) (by simp) hc8 (hN8e.fst (n := 1) rfl) (by intro y hy; simp at hy; subst hy; rfl) rfl (by omega) (by omega) fun σ9 b9 p9 c9 hF9 hb9 hR9 hc9 => ?_
  have hF09 : Frm σ σ9 NoB := hF08.fresh hF9 fun i hi h => by
    have := hp8 h.1
    have := h.2
    omega
  have h39 := h3.frm hF09 (fun h => h) (fun _ h => h) fun _ _ _ _ h => h
  have hS9 : (ld1 (aadd (PA S) 1)) σ9 = some (.slice p (fs ++ [f]).length n, σ9) := h39.st.ldF rfl
  rw [wp_get, wp_grd]
  refine ⟨chks_one hS9, ?_⟩
  have h89 : p9 ≠ none → σ.n ≤ b9 := fun hp => by
    have := hF8.n
    rcases hb9 with h | ⟨hp8', h⟩ | h
    · exact absurd h hp
    · have := hp8 hp8'
      omega
    · omega
  have ei : ints .u64 f.ad ++ [.int .u64 w] = ints .u64 (f.ad ++ [w]) := by simp [ints]
  rw [ei] at hR9
  have hal : (f.ad ++ [w]).length = f.ad.length + 1 := by simp
  refine wp_frW (gs := []) (f' := { f with ad := f.ad ++ [w], ab := b9, ap := p9, ac := c9, ak := c9 }) h39.row (by decide) rfl (by simp [rcells, hal]) fun σ10 hF10 hn10 hE10 => ?_
  rw [wp_ret]
  have hF010 : Frm σ σ10 (· = c) := hF09.no.trans hF10 (fun _ _ h => h) fun _ _ h => h
  have hcS := h3.cS (by simp)
  have hcY := h6 h3.pne
  have hok10 := hok.frm hF010 fun j hj e => (h3.out f (by simp) j hj).2 e
  refine ⟨_, rfl, hQ σ10 (hF010.any fun j e hy => by subst e; exact hcY hy) ⟨fun j hj => by have := h0 j hj; have := hF010.n; omega, ?_, h2, c, p, n, cap, fs ++ [{ f with ad := f.ad ++ [w], ab := b9, ap := p9, ac := c9, ak := c9 }], ?_, by simp [rvw], h5, h6, ?_⟩⟩
  · have e1 : tot (fs.map rvw ++ [rvw f]) = tot (fs.map rvw) + fsz (rvw f) := tot_snoc _ _
    rw [tot_snoc]
    have e2 : fsz ⟨f.back, f.call, f.sl, f.ad ++ [w]⟩ = fsz (rvw f) + 1 := by simp [fsz, rvw]; omega
    show tot (fs.map rvw) + fsz ⟨f.back, f.call, f.sl, f.ad ++ [w]⟩ ≤ room
    omega
  · refine h3.upd (gs := []) ?_ hE10 (fun g hg => ?_) ⟨hok10.s, ?_, by simp only [hal]; omega⟩ (fun i hi => .inl hi) (fun i hi => .inr (by rw [hi.2]; exact h89 hi.1)) (fun i hi hj => ?_)
    · have := hF010.st h3.st fun e => hcS e.symm
      simpa using this
    · rcases hg with hg | hg
      · exact (h3.ok g (by simp [hg])).frm hF010 fun j hj e => (h3.out g (by simp [hg]) j hj).2 e
      · cases hg
    · exact SlE.frm hR9 hF10 fun hp e => by
        have e' : b9 = c := e
        have := h89 hp
        omega
    · have := hok.lt (.inl hi)
      have := h89 hj.1
      have := hj.2
      simp only at this
      omega
  · intro g hg j hj
    simp only [List.mem_append, List.mem_cons, List.mem_nil_iff, or_false] at hg
    rcases hg with hg | rfl
    · exact h7 g (by simp [hg]) j hj
    · rcases hj with hj | hj
      · exact h7 f (by simp) j (.inl hj)
      · intro hy
        have := h0 j hy
        have := h89 hj.1
        have := hj.2
        simp only at this
        omega
end
end Go.Pg
