/- Layer 12: what a collection comes to (plain): things that are copied, once each. -/
import Derived.Test.YtndkndlfhmkkkaaHeap6
namespace Go.Pg
open Go.Proofs

structure CS where
  w : List Int
  h : List Bool
  m : List (Int × Int)

def look : List (Int × Int) → Int → Option Int
  | [], _ => none
  | (a, p) :: r, k => if k = a then some p else look r k

def moveM (W : List Int) (H : List Bool) (s : CS) (w : Int) : CS × Int :=
  if plB H w = true then
    match look s.m (atI w) with
    | some p => (s, p)
    | none => (⟨s.w ++ W.getD (atI w).toNat 0 :: (W.drop ((atI w).toNat + 1)).take (splitN (W.getD (atI w).toNat 0)).toNat, s.h ++ true :: List.replicate (splitN (W.getD (atI w).toNat 0)).toNat false, s.m ++ [(atI w, ptrW s.w.length)]⟩, ptrW s.w.length)
  else (s, w)

def rootsM (W : List Int) (H : List Bool) (s : CS) (rs : List Int) : CS × List Int := rs.foldl (fun a r => ((moveM W H a.1 r).1, a.2 ++ [(moveM W H a.1 r).2])) (s, [])
def stepM (W : List Int) (H : List Bool) (i : Nat) (s : CS) : CS :=
  if s.h.getD i false = true then s else ⟨(moveM W H s (s.w.getD i 0)).1.w.set i (moveM W H s (s.w.getD i 0)).2, (moveM W H s (s.w.getD i 0)).1.h, (moveM W H s (s.w.getD i 0)).1.m⟩
def scanM (W : List Int) (H : List Bool) : Nat → Nat → CS → CS
  | 0, _, s => s
  | f + 1, i, s => if i < s.w.length then scanM W H f (i + 1) (stepM W H i s) else s

theorem rootsM_snoc (W : List Int) (H : List Bool) (s : CS) (rs : List Int) (r : Int) : rootsM W H s (rs ++ [r]) = ((moveM W H (rootsM W H s rs).1 r).1, (rootsM W H s rs).2 ++ [(moveM W H (rootsM W H s rs).1 r).2]) := by
  unfold rootsM
  rw [List.foldl_append]
  rfl

/-- Where a thing begins there is a head, and its words are behind it. -/
theorem thing_at : ∀ (ts : List (Int × List Int)) (k : Nat), (∀ t ∈ ts, splitOK t.1 = true ∧ (splitN t.1).toNat = t.2.length) → (hOf ts).getD k false = true → splitOK ((wOf ts).getD k 0) = true ∧ k + 1 + (splitN ((wOf ts).getD k 0)).toNat ≤ (wOf ts).length
  | [], k, _, h => by simp [hOf] at h
  | t :: ts, k, ht, h => by
    obtain ⟨t1, t2⟩ := ht t (by simp)
    cases k with
    | zero =>
      rw [wOf_cons]
      simp only [List.getD_cons_zero, List.length_cons, List.length_append]
      exact ⟨t1, by omega⟩
    | succ k =>
      have e2 : (hOf (t :: ts)).getD (k + 1) false = (List.replicate t.2.length false ++ hOf ts).getD k false := by rw [hOf_cons]; rfl
      rw [e2] at h
      by_cases hk : k < t.2.length
      · unfold List.getD at h
        rw [List.getElem?_append_left (by simpa using hk)] at h
        simp [hk] at h
      · have e3 : (List.replicate t.2.length false ++ hOf ts).getD k false = (hOf ts).getD (k - t.2.length) false := by
          unfold List.getD
          rw [List.getElem?_append_right (by simp; omega)]
          simp
        have e4 : (wOf (t :: ts)).getD (k + 1) 0 = (wOf ts).getD (k - t.2.length) 0 := by
          rw [wOf_cons, List.getD_cons_succ]
          unfold List.getD
          rw [List.getElem?_append_right (by omega)]
        rw [e3] at h
        obtain ⟨a, b⟩ := thing_at ts (k - t.2.length) (fun t ht' => ht t (by simp [ht'])) h
        rw [e4, wOf_cons]
        simp only [List.length_cons, List.length_append]
        exact ⟨a, by omega⟩

/-- How many words the things have that are not yet copied. -/
def remF : Nat → List (Int × List Int) → List Int → Nat
  | _, [], _ => 0
  | off, t :: ts, K => (if (off : Int) ∈ K then 0 else 1 + t.2.length) + remF (off + 1 + t.2.length) ts K
theorem remF_nil : ∀ (ts : List (Int × List Int)) (off : Nat), remF off ts [] = (wOf ts).length
  | [], _ => rfl
  | t :: ts, off => by
    rw [remF, remF_nil ts, wOf_cons]
    simp
    omega
theorem remF_past : ∀ (ts : List (Int × List Int)) (off : Nat) (K : List Int) (k : Nat), k < off → remF off ts (K ++ [(k : Int)]) = remF off ts K
  | [], _, _, _, _ => rfl
  | t :: ts, off, K, k, h => by
    rw [remF, remF, remF_past ts _ K k (by omega)]
    have e : ((off : Int) ∈ K ++ [(k : Int)]) ↔ (off : Int) ∈ K := by
      simp
      omega
    by_cases hK : (off : Int) ∈ K
    · rw [if_pos hK, if_pos (e.2 hK)]
    · rw [if_neg hK, if_neg fun h => hK (e.1 h)]
theorem remF_add : ∀ (ts : List (Int × List Int)) (off : Nat) (K : List Int) (k : Nat), (∀ t ∈ ts, splitOK t.1 = true ∧ (splitN t.1).toNat = t.2.length) → (hOf ts).getD k false = true → ((off + k : Nat) : Int) ∉ K →
    remF off ts (K ++ [((off + k : Nat) : Int)]) + (1 + (splitN ((wOf ts).getD k 0)).toNat) = remF off ts K
  | [], _, _, k, _, h, _ => by simp [hOf] at h
  | t :: ts, off, K, k, ht, h, hK => by
    obtain ⟨t1, t2⟩ := ht t (by simp)
    cases k with
    | zero =>
      rw [remF, remF, remF_past ts _ K (off + 0) (by omega), wOf_cons, List.getD_cons_zero, t2]
      rw [Nat.add_zero] at hK ⊢
      rw [if_neg hK, if_pos (by simp)]
      omega
    | succ k =>
      have e2 : (hOf (t :: ts)).getD (k + 1) false = (List.replicate t.2.length false ++ hOf ts).getD k false := by rw [hOf_cons]; rfl
      rw [e2] at h
      by_cases hk : k < t.2.length
      · unfold List.getD at h
        rw [List.getElem?_append_left (by simpa using hk)] at h
        simp [hk] at h
      · have e3 : (List.replicate t.2.length false ++ hOf ts).getD k false = (hOf ts).getD (k - t.2.length) false := by
          unfold List.getD
          rw [List.getElem?_append_right (by simp; omega)]
          simp
        have e4 : (wOf (t :: ts)).getD (k + 1) 0 = (wOf ts).getD (k - t.2.length) 0 := by
          rw [wOf_cons, List.getD_cons_succ]
          unfold List.getD
          rw [List.getElem?_append_right (by omega)]
        rw [e3] at h
        have eo : off + (k + 1) = off + 1 + t.2.length + (k - t.2.length) := by omega
        rw [eo] at hK ⊢
        have ih := remF_add ts (off + 1 + t.2.length) K (k - t.2.length) (fun t ht' => ht t (by simp [ht'])) h hK
        rw [e4, remF, remF]
        have e : ((off : Int) ∈ K ++ [((off + 1 + t.2.length + (k - t.2.length) : Nat) : Int)]) ↔ (off : Int) ∈ K := by
          simp
          omega
        by_cases hK' : (off : Int) ∈ K
        · rw [if_pos hK', if_pos (e.2 hK')]
          omega
        · rw [if_neg hK', if_neg fun h => hK' (e.1 h)]
          omega

/-- What holds while things are copied. -/
structure CInv (W : List Int) (H : List Bool) (ts : List (Int × List Int)) (s : CS) : Prop where
  len : s.h.length = s.w.length
  rem : s.w.length + remF 0 ts (s.m.map (·.1)) = W.length
  nn : ∀ x ∈ s.w, 0 ≤ x ∧ x < 18446744073709551616
  pn : ∀ x ∈ s.m, 0 ≤ x.2 ∧ x.2 < 18446744073709551616

theorem look_none : ∀ {m : List (Int × Int)} {k : Int}, look m k = none → k ∉ m.map (·.1)
  | [], _, _ => by simp
  | (a, p) :: r, k, h => by
    unfold look at h
    by_cases e : k = a
    · rw [if_pos e] at h; cases h
    · rw [if_neg e] at h
      have := look_none h
      simp only [List.map_cons, List.mem_cons]
      exact fun h => h.elim e this
theorem look_mem : ∀ {m : List (Int × Int)} {k p : Int}, look m k = some p → (k, p) ∈ m
  | (a, q) :: r, k, p, h => by
    unfold look at h
    by_cases e : k = a
    · rw [if_pos e] at h
      cases h
      subst e
      simp
    · rw [if_neg e] at h
      have := look_mem h
      simp [this]

theorem atI_nn (w : Int) (hw : 0 ≤ w) : 0 ≤ atI w := by unfold atI; split <;> omega
theorem plB_head {H : List Bool} {w : Int} (h : plB H w = true) : H.getD (atI w).toNat false = true := by
  unfold plB at h
  simp only [Bool.and_eq_true] at h
  exact h.2
theorem ptrW_bnd (n : Nat) : 0 ≤ ptrW n ∧ ptrW n < 18446744073709551616 := by unfold ptrW; omega

theorem CInv.move {W : List Int} {H : List Bool} {ts : List (Int × List Int)} {s : CS} (h : CInv W H ts s) (hW : W = wOf ts) (hH : H = hOf ts) (ht : ∀ t ∈ ts, splitOK t.1 = true ∧ (splitN t.1).toNat = t.2.length) (hb : ∀ x ∈ W, 0 ≤ x ∧ x < 18446744073709551616) (w : Int) (hw : 0 ≤ w ∧ w < 18446744073709551616) :
    CInv W H ts (moveM W H s w).1 ∧ 0 ≤ (moveM W H s w).2 ∧ (moveM W H s w).2 < 18446744073709551616 := by
  unfold moveM
  by_cases hp : plB H w = true
  · rw [if_pos hp]
    cases hl : look s.m (atI w) with
    | some p => exact ⟨h, h.pn _ (look_mem hl)⟩
    | none =>
      have hh := plB_head hp
      have ha := atI_nn w hw.1
      obtain ⟨k, hk⟩ : ∃ k : Nat, atI w = (k : Int) := ⟨(atI w).toNat, by omega⟩
      rw [hk, Int.toNat_natCast] at hh
      have hno := look_none hl
      rw [hk] at hno
      rw [hH] at hh
      have r := remF_add ts 0 (s.m.map (·.1)) k ht hh (by simpa using hno)
      obtain ⟨_, t2⟩ := thing_at ts k ht hh
      simp only [hk, Int.toNat_natCast]
      rw [Nat.zero_add] at r
      rw [← hW] at r t2
      have hpb := ptrW_bnd s.w.length
      have htl : ((W.drop (k + 1)).take (splitN (W.getD k 0)).toNat).length = (splitN (W.getD k 0)).toNat := by
        rw [List.length_take, List.length_drop]
        omega
      refine ⟨⟨?_, ?_, ?_, ?_⟩, hpb⟩
      · simp only [List.length_append, List.length_cons, List.length_replicate, htl, h.len]
      · simp only [List.length_append, List.length_cons, htl, List.map_append, List.map_cons, List.map_nil]
        have := h.rem
        omega
      · intro x hx
        rcases List.mem_append.1 hx with hx | hx
        · exact h.nn x hx
        · rcases List.mem_cons.1 hx with rfl | hx
          · have : k < W.length := by omega
            rw [show W.getD k 0 = W[k] by simp [List.getD, this]]
            exact hb _ (List.getElem_mem this)
          · exact hb x (List.mem_of_mem_drop (List.mem_of_mem_take hx))
      · intro x hx
        rcases List.mem_append.1 hx with hx | hx
        · exact h.pn x hx
        · simp only [List.mem_singleton] at hx
          subst hx
          exact hpb
  · rw [if_neg hp]
    exact ⟨h, hw⟩

theorem CInv.step {W : List Int} {H : List Bool} {ts : List (Int × List Int)} {s : CS} (h : CInv W H ts s) (hW : W = wOf ts) (hH : H = hOf ts) (ht : ∀ t ∈ ts, splitOK t.1 = true ∧ (splitN t.1).toNat = t.2.length) (hb : ∀ x ∈ W, 0 ≤ x ∧ x < 18446744073709551616) (i : Nat) (hi : i < s.w.length) : CInv W H ts (stepM W H i s) := by
  unfold stepM
  by_cases hh : s.h.getD i false = true
  · rw [if_pos hh]
    exact h
  · rw [if_neg hh]
    have e : s.w.getD i 0 = s.w[i] := by simp [List.getD, hi]
    obtain ⟨a, b⟩ := h.move hW hH ht hb (s.w.getD i 0) (by rw [e]; exact h.nn _ (List.getElem_mem hi))
    refine ⟨by rw [List.length_set]; exact a.len, by rw [List.length_set]; exact a.rem, fun x hx => ?_, a.pn⟩
    rcases List.mem_or_eq_of_mem_set hx with hx | rfl
    · exact a.nn x hx
    · exact b
end Go.Pg
