/- Layer 12: behind a collection, or a change, there is a heap of things again (plain). -/
import Derived.Test.YtndkndlfhmkkkaaHeap12
namespace Go.Pg
open Go.Proofs

theorem wOf_set : ∀ (us : List (Int × List Int)) (i : Nat) (x : Int), ThOK us → i < (wOf us).length → (hOf us).getD i false = false → ∃ us', wOf us' = (wOf us).set i x ∧ hOf us' = hOf us ∧ ThOK us'
  | [], i, x, _, h, _ => by simp [wOf] at h
  | t :: us, i, x, ht, h, hf => by
    obtain ⟨t1, t2⟩ := ht t (by simp)
    have hts : ThOK us := fun u hu => ht u (by simp [hu])
    cases i with
    | zero => rw [hOf_cons] at hf; cases hf
    | succ i =>
      by_cases hi : i < t.2.length
      · refine ⟨(t.1, t.2.set i x) :: us, ?_, ?_, fun u hu => ?_⟩
        · rw [wOf_cons, wOf_cons, List.set_cons_succ, List.set_append_left _ _ hi]
        · rw [hOf_cons, hOf_cons]
          simp
        · rcases List.mem_cons.1 hu with rfl | hu
          · exact ⟨t1, by simpa using t2⟩
          · exact hts u hu
      · have hlen : i - t.2.length < (wOf us).length := by
          rw [wOf_cons] at h
          simp only [List.length_cons, List.length_append] at h
          omega
        have e3 : (hOf (t :: us)).getD (i + 1) false = (hOf us).getD (i - t.2.length) false := by
          rw [hOf_cons, List.getD_cons_succ]
          unfold List.getD
          rw [List.getElem?_append_right (by simp; omega)]
          simp
        rw [e3] at hf
        obtain ⟨us', a, b, c⟩ := wOf_set us (i - t.2.length) x hts hlen hf
        refine ⟨t :: us', ?_, by rw [hOf_cons, hOf_cons, b], fun u hu => ?_⟩
        · rw [wOf_cons, wOf_cons, a, List.set_cons_succ, List.set_append_right _ _ (by omega)]
        · rcases List.mem_cons.1 hu with rfl | hu
          · exact ⟨t1, t2⟩
          · exact c u hu

def CStr (s : CS) : Prop := ∃ us, s.w = wOf us ∧ s.h = hOf us ∧ ThOK us

theorem CStr.move {W : List Int} {H : List Bool} {ts : List (Int × List Int)} {s : CS} (h : CStr s) (hW : W = wOf ts) (hH : H = hOf ts) (ht : ThOK ts) (w : Int) (hw : 0 ≤ w) : CStr (moveM W H s w).1 := by
  unfold moveM
  by_cases hp : plB H w = true
  · rw [if_pos hp]
    cases hl : look s.m (atI w) with
    | some p => exact h
    | none =>
      have hh := plB_head hp
      have ha := atI_nn w hw
      rw [hH] at hh
      obtain ⟨t1, t2⟩ := thing_at ts _ ht hh
      rw [← hW] at t1 t2
      obtain ⟨us, a, b, c⟩ := h
      have htl : ((W.drop ((atI w).toNat + 1)).take (splitN (W.getD (atI w).toNat 0)).toNat).length = (splitN (W.getD (atI w).toNat 0)).toNat := by
        rw [List.length_take, List.length_drop]
        omega
      refine ⟨us ++ [(W.getD (atI w).toNat 0, (W.drop ((atI w).toNat + 1)).take (splitN (W.getD (atI w).toNat 0)).toNat)], ?_, ?_, fun u hu => ?_⟩
      · rw [wOf_snoc]
        simp only [a]
      · rw [hOf_snoc, htl]
        simp only [b]
      · rcases List.mem_append.1 hu with hu | hu
        · exact c u hu
        · simp only [List.mem_singleton] at hu
          subst hu
          exact ⟨t1, htl.symm⟩
  · rw [if_neg hp]
    exact h

theorem CStr.step {W : List Int} {H : List Bool} {ts : List (Int × List Int)} {s : CS} (h : CStr s) (hW : W = wOf ts) (hH : H = hOf ts) (ht : ThOK ts) (i : Nat) (hi : i < s.w.length) (hn : ∀ x ∈ s.w, 0 ≤ x) : CStr (stepM W H i s) := by
  unfold stepM
  by_cases hh : s.h.getD i false = true
  · rw [if_pos hh]
    exact h
  · rw [if_neg hh]
    have e : s.w.getD i 0 = s.w[i] := by simp [List.getD, hi]
    have hm := h.move hW hH ht (s.w.getD i 0) (by rw [e]; exact hn _ (List.getElem_mem hi))
    have hml := moveM_len W H s (s.w.getD i 0)
    have hmh : (moveM W H s (s.w.getD i 0)).1.h.getD i false = s.h.getD i false := by
      unfold moveM
      by_cases hp : plB H (s.w.getD i 0) = true
      · rw [if_pos hp]
        cases look s.m (atI (s.w.getD i 0)) with
        | some p => rfl
        | none =>
          obtain ⟨us, a, b, c⟩ := h
          have hl : i < s.h.length := by rw [b, hOf_len, ← a]; exact hi
          unfold List.getD
          rw [List.getElem?_append_left hl]
      · rw [if_neg hp]
    obtain ⟨us, a, b, c⟩ := hm
    obtain ⟨us', a', b', c'⟩ := wOf_set us i (moveM W H s (s.w.getD i 0)).2 c (by rw [← a]; omega) (by rw [← b, hmh]; simpa using hh)
    exact ⟨us', by rw [a', ← a], by rw [b', ← b], c'⟩

structure CVal (H : List Bool) (i : Nat) (s : CS) : Prop where
  proc : ∀ j, j < i → j < s.w.length → s.h.getD j false = true ∨ mayB s.h (s.w.getD j 0) = true
  un : ∀ j, i ≤ j → j < s.w.length → s.h.getD j false = true ∨ mayB H (s.w.getD j 0) = true
  mp : ∀ x ∈ s.m, plB s.h x.2 = true
  len : s.h.length = s.w.length

theorem plB_mono (heads X : List Bool) (w : Int) (h : plB heads w = true) : plB (heads ++ X) w = true := by
  unfold plB at h ⊢
  simp only [Bool.and_eq_true] at h ⊢
  refine ⟨h.1, ?_⟩
  have h2 := h.2
  unfold List.getD at h2 ⊢
  cases hg : heads[(atI w).toNat]? with
  | none => rw [hg] at h2; cases h2
  | some b =>
    rw [List.getElem?_append_left (List.getElem?_eq_some_iff.1 hg).1, hg]
    rw [hg] at h2
    exact h2
theorem plB_ptr (heads : List Bool) (n : Nat) (hn : n ≤ 2147483647) (h : heads.getD n false = true) : plB heads (ptrW n) = true := by
  have e : ptrW n = 2 * (n : Int) := by unfold ptrW; omega
  have hB : atB (ptrW n) = true := by rw [e]; unfold atB; simp; omega
  have hI : atI (ptrW n) = n := by unfold atI; rw [if_pos hB, e]; omega
  unfold plB
  rw [hB, hI, Int.toNat_natCast, h]
  rfl

theorem CVal.move {W : List Int} {H : List Bool} {ts : List (Int × List Int)} {i : Nat} {s : CS} (h : CVal H i s) (hi : i ≤ s.w.length) (hW : W = wOf ts) (hH : H = hOf ts) (ht : ThOK ts) (hm : ∀ t ∈ ts, ∀ w ∈ t.2, mayB H w = true) (hl : s.w.length ≤ 2147483647) (w : Int) :
    CVal H i (moveM W H s w).1 ∧ (mayB H w = true → mayB (moveM W H s w).1.h (moveM W H s w).2 = true) := by
  unfold moveM
  by_cases hp : plB H w = true
  · rw [if_pos hp]
    cases hlo : look s.m (atI w) with
    | some p =>
      refine ⟨h, fun _ => ?_⟩
      unfold mayB
      rw [h.mp _ (look_mem hlo)]
      simp
    | none =>
      have hh := plB_head hp
      rw [hH] at hh
      obtain ⟨j, hj, hk⟩ := hOf_place ts _ hh
      obtain ⟨o1, o2⟩ := wOf_off ts j hj
      obtain ⟨t1, t2⟩ := ht ts[j] (List.getElem_mem hj)
      have hsp := wOf_split ts j hj
      have eW : W.getD (atI w).toNat 0 = ts[j].1 := by rw [hk, hW]; exact o1
      have eT : (W.drop ((atI w).toNat + 1)).take ts[j].2.length = ts[j].2 := by
        rw [hW, hsp, hk]
        have e : (wOf (ts.take j) ++ ts[j].1 :: (ts[j].2 ++ wOf (ts.drop (j + 1)))).drop ((wOf (ts.take j)).length + 1) = ts[j].2 ++ wOf (ts.drop (j + 1)) := by
          rw [← List.drop_drop, List.drop_left]
          rfl
        rw [e, List.take_left]
      have eN : (splitN (W.getD (atI w).toNat 0)).toNat = ts[j].2.length := by rw [eW, t2]
      simp only [eN, eT]
      simp only [eW]
      have hnew : (s.h ++ true :: List.replicate ts[j].2.length false).getD s.w.length false = true := by
        rw [← h.len]
        simp [List.getD]
      have hpn := plB_ptr _ _ hl hnew
      refine ⟨⟨fun k hki hkl => ?_, fun k hki hkl => ?_, fun x hx => ?_, ?_⟩, fun _ => ?_⟩
      · have hks : k < s.w.length := by omega
        have g1 : (s.h ++ true :: List.replicate ts[j].2.length false).getD k false = s.h.getD k false := by
          unfold List.getD
          rw [List.getElem?_append_left (by rw [h.len]; exact hks)]
        have g2 : (s.w ++ ts[j].1 :: ts[j].2).getD k 0 = s.w.getD k 0 := by
          unfold List.getD
          rw [List.getElem?_append_left hks]
        simp only [g1, g2]
        exact (h.proc k hki hks).imp id fun h => mayB_mono _ _ _ h
      · by_cases hks : k < s.w.length
        · have g1 : (s.h ++ true :: List.replicate ts[j].2.length false).getD k false = s.h.getD k false := by
            unfold List.getD
            rw [List.getElem?_append_left (by rw [h.len]; exact hks)]
          have g2 : (s.w ++ ts[j].1 :: ts[j].2).getD k 0 = s.w.getD k 0 := by
            unfold List.getD
            rw [List.getElem?_append_left hks]
          simp only [g1, g2]
          exact h.un k hki hks
        · by_cases hke : k = s.w.length
          · left
            rw [hke]
            exact hnew
          · right
            simp only [List.length_append, List.length_cons] at hkl
            obtain ⟨m, rfl⟩ : ∃ m, k = s.w.length + (m + 1) := ⟨k - s.w.length - 1, by omega⟩
            have hml : m < ts[j].2.length := by omega
            have g2 : (s.w ++ ts[j].1 :: ts[j].2).getD (s.w.length + (m + 1)) 0 = ts[j].2[m] := by
              unfold List.getD
              rw [List.getElem?_append_right (by omega), show s.w.length + (m + 1) - s.w.length = m + 1 by omega, List.getElem?_cons_succ, List.getElem?_eq_getElem hml]
              rfl
            simp only [g2]
            exact hm ts[j] (List.getElem_mem hj) _ (List.getElem_mem hml)
      · rcases List.mem_append.1 hx with hx | hx
        · exact plB_mono _ _ _ (h.mp x hx)
        · simp only [List.mem_singleton] at hx
          subst hx
          exact hpn
      · simp [h.len]
      · unfold mayB
        rw [hpn]
        simp
  · rw [if_neg hp]
    refine ⟨h, fun hmw => ?_⟩
    unfold mayB at hmw ⊢
    simp only [Bool.or_eq_true] at hmw ⊢
    rcases hmw with hmw | hmw
    · exact .inl hmw
    · exact absurd hmw hp

theorem CVal.step {W : List Int} {H : List Bool} {ts : List (Int × List Int)} {i : Nat} {s : CS} (h : CVal H i s) (hi : i < s.w.length) (hW : W = wOf ts) (hH : H = hOf ts) (ht : ThOK ts) (hm : ∀ t ∈ ts, ∀ w ∈ t.2, mayB H w = true) (hl : s.w.length ≤ 2147483647) : CVal H (i + 1) (stepM W H i s) := by
  unfold stepM
  by_cases hh : s.h.getD i false = true
  · rw [if_pos hh]
    refine ⟨fun k hk hkl => ?_, fun k hk hkl => h.un k (by omega) hkl, h.mp, h.len⟩
    by_cases e : k = i
    · rw [e]; exact .inl hh
    · exact h.proc k (by omega) hkl
  · rw [if_neg hh]
    have hml := moveM_len W H s (s.w.getD i 0)
    obtain ⟨a, b⟩ := h.move (Nat.le_of_lt hi) hW hH ht hm hl (s.w.getD i 0)
    have hmi : mayB H (s.w.getD i 0) = true := by
      rcases h.un i (Nat.le_refl _) hi with h | h
      · exact absurd h hh
      · exact h
    have hb := b hmi
    generalize moveM W H s (s.w.getD i 0) = mx at a hb hml ⊢
    have gs : ∀ k, k ≠ i → (mx.1.w.set i mx.2).getD k 0 = mx.1.w.getD k 0 := fun k hk => by
      unfold List.getD
      rw [List.getElem?_set_ne (fun e => hk e.symm)]
    have gi : (mx.1.w.set i mx.2).getD i 0 = mx.2 := by
      unfold List.getD
      rw [List.getElem?_set_self (by omega)]
      rfl
    refine ⟨fun k hk hkl => ?_, fun k hk hkl => ?_, a.mp, by simp [a.len]⟩
    · simp only [List.length_set] at hkl
      by_cases e : k = i
      · right
        simp only [e, gi]
        exact hb
      · simp only [gs k e]
        exact a.proc k (by omega) hkl
    · simp only [List.length_set] at hkl
      simp only [gs k (by omega)]
      exact a.un k (by omega) hkl

/-- What a collection leaves is a heap of things. -/
theorem collect_VH {W : List Int} {H : List Bool} {ts : List (Int × List Int)} (hW : W = wOf ts) (hH : H = hOf ts) (ht : ThOK ts) (hm : ∀ t ∈ ts, ∀ w ∈ t.2, mayB H w = true) (hb : ∀ x ∈ W, 0 ≤ x ∧ x < 18446744073709551616) (hl : W.length ≤ 100000) (rs : List Int) (hrs : ∀ x ∈ rs, 0 ≤ x ∧ x < 18446744073709551616) :
    VH (scanM W H W.length 0 (rootsM W H ⟨[], [], []⟩ rs).1).w (scanM W H W.length 0 (rootsM W H ⟨[], [], []⟩ rs).1).h ∧ (scanM W H W.length 0 (rootsM W H ⟨[], [], []⟩ rs).1).w.length ≤ W.length ∧ CInv W H ts (rootsM W H ⟨[], [], []⟩ rs).1 ∧ CStr (rootsM W H ⟨[], [], []⟩ rs).1 ∧ ∀ x ∈ (rootsM W H ⟨[], [], []⟩ rs).2, 0 ≤ x ∧ x < 18446744073709551616 := by
  have roots : ∀ j, j ≤ rs.length → CInv W H ts (rootsM W H ⟨[], [], []⟩ (rs.take j)).1 ∧ CStr (rootsM W H ⟨[], [], []⟩ (rs.take j)).1 ∧ CVal H 0 (rootsM W H ⟨[], [], []⟩ (rs.take j)).1 ∧ ∀ x ∈ (rootsM W H ⟨[], [], []⟩ (rs.take j)).2, 0 ≤ x ∧ x < 18446744073709551616 := by
    intro j
    induction j with
    | zero =>
      intro _
      refine ⟨⟨rfl, by simp [rootsM, remF_nil, ← hW], (fun x hx => by cases hx), fun x hx => by cases hx⟩, ⟨[], rfl, rfl, fun t h => by cases h⟩, ⟨(fun k hk => by omega), (fun k _ hkl => by cases hkl), (fun x hx => by cases hx), rfl⟩, fun x hx => by cases hx⟩
    | succ j ih =>
      intro hj
      obtain ⟨a, b, c, d⟩ := ih (by omega)
      have hr := hrs rs[j] (List.getElem_mem (by omega))
      have hrem := a.rem
      rw [take_succ' rs j (by omega), rootsM_snoc]
      have hmv := a.move hW hH ht hb rs[j] hr
      refine ⟨hmv.1, b.move hW hH ht rs[j] hr.1, (c.move (Nat.zero_le _) hW hH ht hm (by omega) rs[j]).1, fun x hx => ?_⟩
      rcases List.mem_append.1 hx with hx | hx
      · exact d x hx
      · simp only [List.mem_singleton] at hx
        rw [hx]
        exact hmv.2
  obtain ⟨r1, r2, r3, r4⟩ := roots rs.length (Nat.le_refl _)
  rw [List.take_length] at r1 r2 r3 r4
  have scan : ∀ (f i : Nat) (s : CS), CInv W H ts s → CStr s → CVal H i s → i ≤ s.w.length → ∃ i', CInv W H ts (scanM W H f i s) ∧ CStr (scanM W H f i s) ∧ CVal H i' (scanM W H f i s) ∧ ((scanM W H f i s).w.length ≤ i' ∨ i' = i + f) := by
    intro f
    induction f with
    | zero => intro i s a b c _; exact ⟨i, a, b, c, .inr rfl⟩
    | succ f ih =>
      intro i s a b c hil
      have hrem := a.rem
      unfold scanM
      by_cases hi : i < s.w.length
      · rw [if_pos hi]
        have hlen : s.w.length ≤ (stepM W H i s).w.length := by
          unfold stepM
          have := moveM_len W H s (s.w.getD i 0)
          split
          · exact Nat.le_refl _
          · rw [List.length_set]; exact this
        obtain ⟨i', p, q, r, t⟩ := ih (i + 1) _ (a.step hW hH ht hb i hi) (b.step hW hH ht i hi fun x hx => (a.nn x hx).1) (c.step hi hW hH ht hm (by omega)) (by omega)
        exact ⟨i', p, q, r, t.imp id fun e => by omega⟩
      · rw [if_neg hi]
        exact ⟨i, a, b, c, .inl (by omega)⟩
  obtain ⟨i', a, ⟨us, b1, b2, b3⟩, c, d⟩ := scan W.length 0 _ r1 r2 r3 (Nat.zero_le _)
  have hrem := a.rem
  have hall : ∀ j, j < (scanM W H W.length 0 (rootsM W H ⟨[], [], []⟩ rs).1).w.length → j < i' := fun j hj => by omega
  generalize scanM W H W.length 0 (rootsM W H ⟨[], [], []⟩ rs).1 = sF at a b1 b2 c d hrem hall ⊢
  refine ⟨⟨us, b1, b2, b3, fun t htm w hw => ?_, fun w hw => a.nn w hw⟩, by omega, r1, r2, r4⟩
  obtain ⟨j, hj, rfl⟩ := List.mem_iff_getElem.1 htm
  obtain ⟨k, hk, rfl⟩ := List.mem_iff_getElem.1 hw
  refine (may_back sF.h us (fun i hi => ?_) j hj k hk).2.2
  have hi' : i < sF.w.length := by rw [b1]; exact hi
  have := c.proc i (hall i hi') hi'
  have e : sF.w.getD i 0 = (wOf us)[i] := by rw [b1]; simp [List.getD, hi]
  rw [e] at this
  rw [← b2]
  exact this

/-- A word of a thing is changed. -/
theorem VH.set {words : List Int} {heads : List Bool} (h : VH words heads) (p : Int) (hp : plB heads p = true) (i : Nat) (hi : i < (splitN (words.getD (atI p).toNat 0)).toNat) (w : Int) (hm : mayB heads w = true) (hw : 0 ≤ w ∧ w < 18446744073709551616) : VH (words.set ((atI p).toNat + 1 + i) w) heads := by
  obtain ⟨ts, rfl, rfl, h1, h2, h3⟩ := h
  obtain ⟨j, hj, hk⟩ := hOf_place ts _ (plB_head hp)
  obtain ⟨o1, o2⟩ := wOf_off ts j hj
  obtain ⟨t1, t2⟩ := h1 ts[j] (List.getElem_mem hj)
  rw [hk, o1, t2] at hi
  have e1 := wOf_split ts j hj
  have e2 := hOf_split ts j hj
  have w2 : wOf (ts.take j ++ (ts[j].1, ts[j].2.set i w) :: ts.drop (j + 1)) = (wOf ts).set ((atI p).toNat + 1 + i) w := by
    rw [hk]
    conv => rhs; rw [e1]
    rw [List.set_append_right _ _ (by omega), show (wOf (ts.take j)).length + 1 + i - (wOf (ts.take j)).length = i + 1 by omega, List.set_cons_succ, List.set_append_left _ _ hi]
    unfold wOf
    rw [List.flatMap_append, List.flatMap_cons]
    simp
  have h4 : hOf (ts.take j ++ (ts[j].1, ts[j].2.set i w) :: ts.drop (j + 1)) = hOf ts := by
    conv => rhs; rw [e2]
    unfold hOf
    rw [List.flatMap_append, List.flatMap_cons]
    simp
  have hmem : ∀ t, t ∈ ts.take j ++ (ts[j].1, ts[j].2.set i w) :: ts.drop (j + 1) → t = (ts[j].1, ts[j].2.set i w) ∨ t ∈ ts := fun t htm => by
    rcases List.mem_append.1 htm with htm | htm
    · exact .inr (List.mem_of_mem_take htm)
    · rcases List.mem_cons.1 htm with htm | htm
      · exact .inl htm
      · exact .inr (List.mem_of_mem_drop htm)
  refine ⟨_, w2.symm, h4.symm, fun t htm => ?_, fun t htm y hy => ?_, fun y hy => ?_⟩
  · rcases hmem t htm with rfl | htm
    · exact ⟨t1, by simpa using t2⟩
    · exact h1 t htm
  · rcases hmem t htm with rfl | htm
    · rcases List.mem_or_eq_of_mem_set hy with hy | rfl
      · exact h2 ts[j] (List.getElem_mem hj) y hy
      · exact hm
    · exact h2 t htm y hy
  · rcases List.mem_or_eq_of_mem_set hy with hy | rfl
    · exact h3 y hy
    · exact hw
end Go.Pg
