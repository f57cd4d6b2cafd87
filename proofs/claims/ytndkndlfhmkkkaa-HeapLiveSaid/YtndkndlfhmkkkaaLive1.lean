/- Layer 12: what a collection keeps hangs together as it did (plain). -/
import Derived.Test.YtndkndlfhmkkkaaHeap14
import Derived.Test.YtndkndlfhmkkkaaHeapB
namespace Go.Pg
open Go.Proofs

/-- How many words the thing has that begins there. -/
def szN (W : List Int) (k : Nat) : Nat := (splitN (W.getD k 0)).toNat
/-- What a word has become. -/
def Im (H : List Bool) (m : List (Int × Int)) (x y : Int) : Prop := if plB H x = true then look m (atI x) = some y else y = x

theorem look_app {m X : List (Int × Int)} {k y : Int} (h : look m k = some y) : look (m ++ X) k = some y := by
  induction m with
  | nil => cases h
  | cons a m ih =>
    obtain ⟨a, p⟩ := a
    rw [List.cons_append]
    unfold look at h ⊢
    by_cases e : k = a
    · rw [if_pos e] at h ⊢
      exact h
    · rw [if_neg e] at h ⊢
      exact ih h
theorem look_last {m : List (Int × Int)} {k y : Int} (h : look m k = none) : look (m ++ [(k, y)]) k = some y := by
  induction m with
  | nil => unfold look; rw [List.nil_append]; simp
  | cons a m ih =>
    obtain ⟨a, p⟩ := a
    rw [List.cons_append]
    unfold look at h ⊢
    by_cases e : k = a
    · rw [if_pos e] at h
      cases h
    · rw [if_neg e] at h ⊢
      exact ih h
theorem Im.app {H : List Bool} {m X : List (Int × Int)} {x y : Int} (h : Im H m x y) : Im H (m ++ X) x y := by
  unfold Im at h ⊢
  by_cases hp : plB H x = true
  · rw [if_pos hp] at h ⊢
    exact look_app h
  · rw [if_neg hp] at h ⊢
    exact h

/-- Each thing that is copied: where it is, what its words are. -/
structure CMap (W : List Int) (H : List Bool) (i : Nat) (s : CS) : Prop where
  ent : ∀ k p, (k, p) ∈ s.m → ∃ k' q : Nat, k = (k' : Int) ∧ p = ptrW q ∧ H.getD k' false = true ∧ q + 1 + szN W k' ≤ s.w.length ∧ s.h.getD q false = true ∧ s.w.getD q 0 = W.getD k' 0 ∧
    ∀ c, c < szN W k' → s.h.getD (q + 1 + c) false = false ∧ (if q + 1 + c < i then Im H s.m (W.getD (k' + 1 + c) 0) (s.w.getD (q + 1 + c) 0) else s.w.getD (q + 1 + c) 0 = W.getD (k' + 1 + c) 0)
  len : s.h.length = s.w.length
  sum : s.w.length = (s.m.map fun e => 1 + szN W e.1.toNat).sum
  nd : (s.m.map (·.1)).Nodup

theorem moveM_ext (W : List Int) (H : List Bool) (s : CS) (w : Int) : ∃ X Y Z, (moveM W H s w).1 = ⟨s.w ++ X, s.h ++ Y, s.m ++ Z⟩ := by
  unfold moveM
  by_cases hp : plB H w = true
  · rw [if_pos hp]
    cases look s.m (atI w) with
    | some p => exact ⟨[], [], [], by simp⟩
    | none => exact ⟨_, _, _, rfl⟩
  · rw [if_neg hp]
    exact ⟨[], [], [], by simp⟩

theorem getD_app {α : Type} {l X : List α} {k : Nat} {d : α} (h : k < l.length) : (l ++ X).getD k d = l.getD k d := by
  unfold List.getD
  rw [List.getElem?_append_left h]
theorem getD_app2 {α : Type} {l X : List α} {k : Nat} {d : α} : (l ++ X).getD (l.length + k) d = X.getD k d := by
  unfold List.getD
  rw [List.getElem?_append_right (by omega), show l.length + k - l.length = k by omega]

section
variable {W : List Int} {H : List Bool} {ts : List (Int × List Int)} {i : Nat} {s : CS}

theorem CMap.move (h : CMap W H i s) (hi : i ≤ s.w.length) (hW : W = wOf ts) (hH : H = hOf ts) (ht : ThOK ts) (w : Int) (hw : 0 ≤ w) : CMap W H i (moveM W H s w).1 ∧ Im H (moveM W H s w).1.m w (moveM W H s w).2 := by
  unfold moveM Im
  by_cases hp : plB H w = true
  · rw [if_pos hp, if_pos hp]
    cases hlo : look s.m (atI w) with
    | some p => exact ⟨h, hlo⟩
    | none =>
      have hh := plB_head hp
      have ha := atI_nn w hw
      obtain ⟨k, hk⟩ : ∃ k : Nat, atI w = (k : Int) := ⟨(atI w).toNat, by omega⟩
      rw [hk, Int.toNat_natCast] at hh
      rw [hk] at hlo ⊢
      have hno := look_none hlo
      have hh' := hh
      rw [hH] at hh'
      obtain ⟨_, t2⟩ := thing_at ts k ht hh'
      rw [← hW] at t2
      simp only [Int.toNat_natCast]
      have htl : ((W.drop (k + 1)).take (splitN (W.getD k 0)).toNat).length = szN W k := by
        rw [List.length_take, List.length_drop]
        unfold szN
        omega
      have hsz : (splitN (W.getD k 0)).toNat = szN W k := rfl
      rw [hsz] at t2 htl ⊢
      refine ⟨⟨fun k1 p1 hm => ?_, ?_, ?_, ?_⟩, look_last hlo⟩
      · simp only
        rcases List.mem_append.1 hm with hm | hm
        · obtain ⟨k', q, e1, e2, e3, e4, e5, e6, e7⟩ := h.ent k1 p1 hm
          refine ⟨k', q, e1, e2, e3, by rw [List.length_append]; omega, ?_, ?_, fun c hc => ?_⟩
          · rw [getD_app (by rw [h.len]; omega)]
            exact e5
          · rw [getD_app (by omega)]
            exact e6
          · rw [getD_app (by rw [h.len]; omega), getD_app (by omega)]
            refine ⟨(e7 c hc).1, ?_⟩
            have e8 := (e7 c hc).2
            by_cases hci : q + 1 + c < i
            · rw [if_pos hci] at e8 ⊢
              exact e8.app
            · rw [if_neg hci] at e8 ⊢
              exact e8
        · simp only [List.mem_singleton, Prod.mk.injEq] at hm
          obtain ⟨rfl, rfl⟩ := hm
          refine ⟨k, s.w.length, rfl, rfl, hh, ?_, ?_, ?_, fun c hc => ⟨?_, ?_⟩⟩
          · simp only [List.length_append, List.length_cons, htl]
            omega
          · rw [← h.len]
            simp
          · simp
          · rw [← h.len, Nat.add_assoc, getD_app2, Nat.add_comm 1 c, List.getD_cons_succ]
            simp [List.getD, hc]
          · rw [if_neg (by omega), Nat.add_assoc, getD_app2, Nat.add_comm 1 c, List.getD_cons_succ]
            simp [List.getD, hc]
      · simp only [List.length_append, List.length_cons, List.length_replicate, htl, h.len]
      · simp only [List.length_append, List.length_cons, htl, List.map_append, List.map_cons, List.map_nil, List.sum_append, List.sum_cons, List.sum_nil, Int.toNat_natCast]
        rw [h.sum]
        omega
      · simp only [List.map_append, List.map_cons, List.map_nil]
        refine List.nodup_append.2 ⟨h.nd, by simp, fun a ha b hb e => ?_⟩
        simp only [List.mem_singleton] at hb
        rw [e, hb] at ha
        exact hno ha
  · rw [if_neg hp, if_neg hp]
    exact ⟨h, rfl⟩

theorem CMap.step (h : CMap W H i s) (hi : i < s.w.length) (hW : W = wOf ts) (hH : H = hOf ts) (ht : ThOK ts) (hn : ∀ x ∈ s.w, 0 ≤ x) : CMap W H (i + 1) (stepM W H i s) := by
  unfold stepM
  by_cases hh : s.h.getD i false = true
  · rw [if_pos hh]
    refine ⟨fun k p hm => ?_, h.len, h.sum, h.nd⟩
    obtain ⟨k', q, e1, e2, e3, e4, e5, e6, e7⟩ := h.ent k p hm
    refine ⟨k', q, e1, e2, e3, e4, e5, e6, fun c hc => ⟨(e7 c hc).1, ?_⟩⟩
    obtain ⟨e8, e9⟩ := e7 c hc
    have hne : q + 1 + c ≠ i := fun e => by
      rw [e, hh] at e8
      cases e8
    by_cases hci : q + 1 + c < i
    · rw [if_pos hci] at e9
      rw [if_pos (by omega)]
      exact e9
    · rw [if_neg hci] at e9
      rw [if_neg (by omega)]
      exact e9
  · rw [if_neg hh]
    have hw : 0 ≤ s.w.getD i 0 := by
      rw [show s.w.getD i 0 = s.w[i] by simp [List.getD, hi]]
      exact hn _ (List.getElem_mem hi)
    obtain ⟨a, b⟩ := h.move (Nat.le_of_lt hi) hW hH ht (s.w.getD i 0) hw
    obtain ⟨X, Y, Z, hx⟩ := moveM_ext W H s (s.w.getD i 0)
    have hhi : (moveM W H s (s.w.getD i 0)).1.h.getD i false = false := by
      rw [hx]
      simp only
      rw [getD_app (by rw [h.len]; exact hi)]
      simpa using hh
    have hwi : (moveM W H s (s.w.getD i 0)).1.w.getD i 0 = s.w.getD i 0 := by
      rw [hx]
      exact getD_app hi
    have hil : i < (moveM W H s (s.w.getD i 0)).1.w.length := by
      rw [hx]
      simp only [List.length_append]
      omega
    clear hx
    generalize moveM W H s (s.w.getD i 0) = mx at a b hhi hwi hil ⊢
    have gs : ∀ k, k ≠ i → (mx.1.w.set i mx.2).getD k 0 = mx.1.w.getD k 0 := fun k hk => by
      unfold List.getD
      rw [List.getElem?_set_ne (fun e => hk e.symm)]
    have gi : (mx.1.w.set i mx.2).getD i 0 = mx.2 := by
      unfold List.getD
      rw [List.getElem?_set_self hil]
      rfl
    refine ⟨fun k p hm => ?_, by rw [List.length_set]; exact a.len, by rw [List.length_set]; exact a.sum, a.nd⟩
    obtain ⟨k', q, e1, e2, e3, e4, e5, e6, e7⟩ := a.ent k p hm
    simp only
    have hqi : q ≠ i := fun e => by rw [e, hhi] at e5; cases e5
    refine ⟨k', q, e1, e2, e3, by rw [List.length_set]; exact e4, e5, by rw [gs q hqi]; exact e6, fun c hc => ⟨(e7 c hc).1, ?_⟩⟩
    have e9 := (e7 c hc).2
    by_cases hci : q + 1 + c = i
    · rw [if_neg (by omega), hci] at e9
      rw [if_pos (by omega), hci, gi, ← e9, hwi]
      exact b
    · rw [gs _ hci]
      by_cases hlt : q + 1 + c < i
      · rw [if_pos hlt] at e9
        rw [if_pos (by omega)]
        exact e9
      · rw [if_neg hlt] at e9
        rw [if_neg (by omega)]
        exact e9

/-- Nothing but what is reached is copied. -/
structure CClo (H : List Bool) (C : Int → Prop) (i : Nat) (s : CS) : Prop where
  key : ∀ e ∈ s.m, C e.1
  un : ∀ j, i ≤ j → j < s.w.length → s.h.getD j false = false → plB H (s.w.getD j 0) = true → C (atI (s.w.getD j 0))
  len : s.h.length = s.w.length

theorem CClo.move {C : Int → Prop} (h : CClo H C i s) (hW : W = wOf ts) (hH : H = hOf ts) (ht : ThOK ts) (hC : ∀ k : Nat, C k → H.getD k false = true → ∀ c, c < szN W k → plB H (W.getD (k + 1 + c) 0) = true → C (atI (W.getD (k + 1 + c) 0))) (w : Int) (hw : 0 ≤ w) (hcw : plB H w = true → C (atI w)) : CClo H C i (moveM W H s w).1 := by
  unfold moveM
  by_cases hp : plB H w = true
  · rw [if_pos hp]
    cases hlo : look s.m (atI w) with
    | some p => exact h
    | none =>
      have hh := plB_head hp
      have hCw := hcw hp
      have ha := atI_nn w hw
      obtain ⟨k, hk⟩ : ∃ k : Nat, atI w = (k : Int) := ⟨(atI w).toNat, by omega⟩
      rw [hk, Int.toNat_natCast] at hh
      rw [hk] at hCw
      rw [hk]
      have hh' := hh
      rw [hH] at hh'
      obtain ⟨_, t2⟩ := thing_at ts k ht hh'
      rw [← hW] at t2
      simp only [Int.toNat_natCast]
      have htl : ((W.drop (k + 1)).take (splitN (W.getD k 0)).toNat).length = szN W k := by
        rw [List.length_take, List.length_drop]
        unfold szN
        omega
      have hsz : (splitN (W.getD k 0)).toNat = szN W k := rfl
      rw [hsz] at t2 htl ⊢
      refine ⟨fun e he => ?_, fun j hj hjl => ?_, ?_⟩
      · rcases List.mem_append.1 he with he | he
        · exact h.key e he
        · simp only [List.mem_singleton] at he
          rw [he]
          exact hCw
      · simp only at hjl ⊢
        by_cases hjs : j < s.w.length
        · rw [getD_app (by rw [h.len]; exact hjs), getD_app hjs]
          exact h.un j hj hjs
        · obtain ⟨d, rfl⟩ : ∃ d, j = s.w.length + d := ⟨j - s.w.length, by omega⟩
          cases d with
          | zero =>
            intro hf
            rw [← h.len, getD_app2] at hf
            cases hf
          | succ d =>
            simp only [List.length_append, List.length_cons, htl] at hjl
            intro _
            rw [getD_app2, List.getD_cons_succ]
            have e : ((W.drop (k + 1)).take (szN W k)).getD d 0 = W.getD (k + 1 + d) 0 := by
              have hd : d < szN W k := by omega
              simp [List.getD, hd]
            rw [e]
            exact hC k hCw hh d (by omega)
      · simp only [List.length_append, List.length_cons, List.length_replicate, htl, h.len]
  · rw [if_neg hp]
    exact h

theorem CClo.step {C : Int → Prop} (h : CClo H C i s) (hi : i < s.w.length) (hW : W = wOf ts) (hH : H = hOf ts) (ht : ThOK ts) (hn : ∀ x ∈ s.w, 0 ≤ x) (hC : ∀ k : Nat, C k → H.getD k false = true → ∀ c, c < szN W k → plB H (W.getD (k + 1 + c) 0) = true → C (atI (W.getD (k + 1 + c) 0))) : CClo H C (i + 1) (stepM W H i s) := by
  unfold stepM
  by_cases hh : s.h.getD i false = true
  · rw [if_pos hh]
    exact ⟨h.key, fun j hj => h.un j (by omega), h.len⟩
  · rw [if_neg hh]
    have hw : 0 ≤ s.w.getD i 0 := by
      rw [show s.w.getD i 0 = s.w[i] by simp [List.getD, hi]]
      exact hn _ (List.getElem_mem hi)
    have a := h.move hW hH ht hC (s.w.getD i 0) hw (h.un i (Nat.le_refl _) hi (by simpa using hh))
    generalize moveM W H s (s.w.getD i 0) = mx at a ⊢
    refine ⟨a.key, fun j hj hjl => ?_, by rw [List.length_set]; exact a.len⟩
    simp only [List.length_set] at hjl ⊢
    have gs : (mx.1.w.set i mx.2).getD j 0 = mx.1.w.getD j 0 := by
      unfold List.getD
      rw [List.getElem?_set_ne (by omega)]
    rw [gs]
    exact a.un j (by omega) hjl
end

/-- Behind a collection: all that the roots reach, as it hung together; a set of places that has the roots' and what hangs at them has all. -/
theorem collect_live {W : List Int} {H : List Bool} {ts : List (Int × List Int)} (hW : W = wOf ts) (hH : H = hOf ts) (ht : ThOK ts) (hb : ∀ x ∈ W, 0 ≤ x ∧ x < 18446744073709551616) (rs : List Int) (hrs : ∀ x ∈ rs, 0 ≤ x ∧ x < 18446744073709551616) :
    ∃ i, (scanM W H W.length 0 (rootsM W H ⟨[], [], []⟩ rs).1).w.length ≤ i ∧ CMap W H i (scanM W H W.length 0 (rootsM W H ⟨[], [], []⟩ rs).1) ∧ (scanM W H W.length 0 (rootsM W H ⟨[], [], []⟩ rs).1).w.length ≤ W.length ∧
      (∀ j (hj : j < rs.length), Im H (scanM W H W.length 0 (rootsM W H ⟨[], [], []⟩ rs).1).m rs[j] ((rootsM W H ⟨[], [], []⟩ rs).2.getD j 0)) ∧
      ∀ C : Int → Prop, (∀ k : Nat, C k → H.getD k false = true → ∀ c, c < szN W k → plB H (W.getD (k + 1 + c) 0) = true → C (atI (W.getD (k + 1 + c) 0))) → (∀ r ∈ rs, plB H r = true → C (atI r)) → ∀ e ∈ (scanM W H W.length 0 (rootsM W H ⟨[], [], []⟩ rs).1).m, C e.1 := by
  have roots : ∀ j, j ≤ rs.length → CInv W H ts (rootsM W H ⟨[], [], []⟩ (rs.take j)).1 ∧ CMap W H 0 (rootsM W H ⟨[], [], []⟩ (rs.take j)).1 ∧ (rootsM W H ⟨[], [], []⟩ (rs.take j)).2.length = j ∧
      (∀ d (hd : d < rs.length), d < j → Im H (rootsM W H ⟨[], [], []⟩ (rs.take j)).1.m rs[d] ((rootsM W H ⟨[], [], []⟩ (rs.take j)).2.getD d 0)) ∧
      ∀ C : Int → Prop, (∀ k : Nat, C k → H.getD k false = true → ∀ c, c < szN W k → plB H (W.getD (k + 1 + c) 0) = true → C (atI (W.getD (k + 1 + c) 0))) → (∀ r ∈ rs, plB H r = true → C (atI r)) → CClo H C 0 (rootsM W H ⟨[], [], []⟩ (rs.take j)).1 := by
    intro j
    induction j with
    | zero =>
      intro _
      exact ⟨⟨rfl, by simp [rootsM, remF_nil, ← hW], (fun x hx => by cases hx), fun x hx => by cases hx⟩, ⟨(fun k p h => by cases h), rfl, rfl, List.nodup_nil⟩, rfl, (fun d _ h => by omega), fun C _ _ => ⟨(fun e h => by cases h), (fun j _ h => by cases h), rfl⟩⟩
    | succ j ih =>
      intro hj
      obtain ⟨a, b, l, m, c⟩ := ih (by omega)
      have hr := hrs rs[j] (List.getElem_mem (by omega))
      rw [take_succ' rs j (by omega), rootsM_snoc]
      have hmv := a.move hW hH ht hb rs[j] hr
      have hbm := b.move (Nat.zero_le _) hW hH ht rs[j] hr.1
      obtain ⟨X, Y, Z, hx⟩ := moveM_ext W H (rootsM W H ⟨[], [], []⟩ (rs.take j)).1 rs[j]
      refine ⟨hmv.1, hbm.1, by simp [l], fun d hd hdj => ?_, fun C h1 h2 => (c C h1 h2).move hW hH ht h1 rs[j] hr.1 (h2 _ (List.getElem_mem (by omega)))⟩
      by_cases e : d = j
      · subst e
        have e2 := getD_app2 (l := (rootsM W H ⟨[], [], []⟩ (rs.take d)).2) (X := [(moveM W H (rootsM W H ⟨[], [], []⟩ (rs.take d)).1 rs[d]).2]) (k := 0) (d := (0 : Int))
        rw [Nat.add_zero, l] at e2
        rw [e2]
        exact hbm.2
      · rw [getD_app (by omega)]
        have := m d hd (by omega)
        rw [hx]
        exact this.app
  obtain ⟨r1, r2, _, r3, r4⟩ := roots rs.length (Nat.le_refl _)
  rw [List.take_length] at r1 r2 r3 r4
  have scan : ∀ (f i : Nat) (s : CS), CInv W H ts s → CMap W H i s → i ≤ s.w.length → ∃ i', CInv W H ts (scanM W H f i s) ∧ CMap W H i' (scanM W H f i s) ∧ ((scanM W H f i s).w.length ≤ i' ∨ i' = i + f) ∧ (∃ Z, (scanM W H f i s).m = s.m ++ Z) ∧
      ∀ C : Int → Prop, (∀ k : Nat, C k → H.getD k false = true → ∀ c, c < szN W k → plB H (W.getD (k + 1 + c) 0) = true → C (atI (W.getD (k + 1 + c) 0))) → CClo H C i s → CClo H C i' (scanM W H f i s) := by
    intro f
    induction f with
    | zero => intro i s a b _; exact ⟨i, a, b, .inr rfl, ⟨[], by simp [scanM]⟩, fun C _ h => h⟩
    | succ f ih =>
      intro i s a b hil
      unfold scanM
      by_cases hi : i < s.w.length
      · rw [if_pos hi]
        have hlen : s.w.length ≤ (stepM W H i s).w.length := by
          unfold stepM
          have := moveM_len W H s (s.w.getD i 0)
          split
          · exact Nat.le_refl _
          · rw [List.length_set]; exact this
        have hm : ∃ Z, (stepM W H i s).m = s.m ++ Z := by
          unfold stepM
          obtain ⟨X, Y, Z, hx⟩ := moveM_ext W H s (s.w.getD i 0)
          split
          · exact ⟨[], by simp⟩
          · exact ⟨Z, by rw [hx]⟩
        have hnn : ∀ x ∈ s.w, 0 ≤ x := fun x hx => (a.nn x hx).1
        obtain ⟨i', p, q, t, ⟨Z2, hZ2⟩, u⟩ := ih (i + 1) _ (a.step hW hH ht hb i hi) (b.step hi hW hH ht hnn) (by omega)
        obtain ⟨Z, hZ⟩ := hm
        exact ⟨i', p, q, t.imp id fun e => by omega, ⟨Z ++ Z2, by rw [hZ2, hZ, List.append_assoc]⟩, fun C h1 h2 => u C h1 (h2.step hi hW hH ht hnn h1)⟩
      · rw [if_neg hi]
        exact ⟨i, a, b, .inl (by omega), ⟨[], by simp⟩, fun C _ h => h⟩
  obtain ⟨i', a, b, t, ⟨Z, hZ⟩, u⟩ := scan W.length 0 _ r1 r2 (Nat.zero_le _)
  have hrem := a.rem
  refine ⟨i', by rcases t with t | t <;> omega, b, by omega, fun j hj => ?_, fun C h1 h2 e he => (u C h1 (r4 C h1 h2)).key e he⟩
  rw [hZ]
  exact (r3 j hj hj).app
end Go.Pg
