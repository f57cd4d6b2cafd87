/- Layer 12: heaps of things: what is written is read as it was (plain). -/
import Derived.Test.YtndkndlfhmkkkaaHeap5
namespace Go.Pg
open Go.Proofs

def wOf (ts : List (Int × List Int)) : List Int := ts.flatMap fun t => t.1 :: t.2
def hOf (ts : List (Int × List Int)) : List Bool := ts.flatMap fun t => true :: List.replicate t.2.length false
theorem wOf_cons (t : Int × List Int) (ts : List (Int × List Int)) : wOf (t :: ts) = t.1 :: (t.2 ++ wOf ts) := by simp [wOf]
theorem hOf_cons (t : Int × List Int) (ts : List (Int × List Int)) : hOf (t :: ts) = true :: (List.replicate t.2.length false ++ hOf ts) := by simp [hOf]
theorem wOf_snoc (ts : List (Int × List Int)) (t : Int × List Int) : wOf (ts ++ [t]) = wOf ts ++ t.1 :: t.2 := by simp [wOf]
theorem hOf_snoc (ts : List (Int × List Int)) (t : Int × List Int) : hOf (ts ++ [t]) = hOf ts ++ true :: List.replicate t.2.length false := by simp [hOf]
theorem hOf_len (ts : List (Int × List Int)) : (hOf ts).length = (wOf ts).length := by
  induction ts with
  | nil => rfl
  | cons t ts ih => rw [hOf_cons, wOf_cons]; simp [ih]

theorem parse_wOf : ∀ (ts : List (Int × List Int)) (f : Nat), (∀ t ∈ ts, splitOK t.1 = true ∧ (splitN t.1).toNat = t.2.length) → (wOf ts).length ≤ f → parse f (wOf ts) = some (hOf ts)
  | [], f, _, _ => by cases f <;> rfl
  | t :: ts, f, h, hf => by
    obtain ⟨h1, h2⟩ := h t (by simp)
    rw [wOf_cons] at hf ⊢
    simp only [List.length_cons, List.length_append] at hf
    cases f with
    | zero => omega
    | succ f =>
      have e : parse (f + 1) (t.1 :: (t.2 ++ wOf ts)) = if splitOK t.1 = true ∧ (splitN t.1).toNat ≤ (t.2 ++ wOf ts).length then (parse f ((t.2 ++ wOf ts).drop (splitN t.1).toNat)).map fun r => true :: (List.replicate (splitN t.1).toNat false ++ r) else none := rfl
      rw [e, if_pos ⟨h1, by rw [h2]; simp⟩, h2, List.drop_left, parse_wOf ts f (fun t ht => h t (by simp [ht])) (by omega), hOf_cons]
      rfl

theorem allMay_of (H : List Bool) : ∀ (ts : List (Int × List Int)), (∀ t ∈ ts, ∀ w ∈ t.2, mayB H w = true) → ∀ i (h : i < (wOf ts).length), (hOf ts).getD i false = true ∨ mayB H (wOf ts)[i] = true
  | [], _, i, h => by simp [wOf] at h
  | t :: ts, hm, i, h => by
    have hr : ∀ i (h : i < (wOf ts).length), (hOf ts).getD i false = true ∨ mayB H (wOf ts)[i] = true := allMay_of H ts fun t ht => hm t (by simp [ht])
    cases i with
    | zero => left; rw [hOf_cons]; rfl
    | succ i =>
      have e1 : (wOf (t :: ts))[i + 1]? = (t.2 ++ wOf ts)[i]? := by rw [wOf_cons]; rfl
      have e2 : (hOf (t :: ts)).getD (i + 1) false = (List.replicate t.2.length false ++ hOf ts).getD i false := by rw [hOf_cons]; rfl
      rw [List.getElem?_eq_getElem h] at e1
      rw [e2]
      by_cases hi : i < t.2.length
      · right
        rw [List.getElem?_append_left hi, List.getElem?_eq_getElem hi] at e1
        rw [Option.some.inj e1]
        exact hm t (by simp) _ (List.getElem_mem hi)
      · have hil : i - t.2.length < (wOf ts).length := by
          rw [wOf_cons] at h
          simp only [List.length_cons, List.length_append] at h
          omega
        rw [List.getElem?_append_right (by omega), List.getElem?_eq_getElem hil] at e1
        rw [Option.some.inj e1]
        have := hr _ hil
        have e3 : (List.replicate t.2.length false ++ hOf ts).getD i false = (hOf ts).getD (i - t.2.length) false := by
          unfold List.getD
          rw [List.getElem?_append_right (by simp; omega)]
          simp
        rw [e3]
        exact this

theorem mayB_mono (heads X : List Bool) (w : Int) (h : mayB heads w = true) : mayB (heads ++ X) w = true := by
  unfold mayB plB at h ⊢
  simp only [Bool.or_eq_true, Bool.and_eq_true] at h ⊢
  rcases h with h | ⟨h1, h2⟩
  · exact .inl h
  · refine .inr ⟨h1, ?_⟩
    unfold List.getD at h2 ⊢
    cases hg : heads[(atI w).toNat]? with
    | none => rw [hg] at h2; cases h2
    | some b =>
      rw [List.getElem?_append_left (List.getElem?_eq_some_iff.1 hg).1, hg]
      rw [hg] at h2
      exact h2

/-- A heap of things. -/
def VH (words : List Int) (heads : List Bool) : Prop :=
  ∃ ts, words = wOf ts ∧ heads = hOf ts ∧ (∀ t ∈ ts, splitOK t.1 = true ∧ (splitN t.1).toNat = t.2.length) ∧ (∀ t ∈ ts, ∀ w ∈ t.2, mayB heads w = true) ∧ ∀ w ∈ words, 0 ≤ w ∧ w < 18446744073709551616

theorem VH.nil : VH [] [] := ⟨[], rfl, rfl, (fun t h => by cases h), (fun t h => by cases h), fun w h => by cases h⟩

theorem orI_comm (k : IntKind) (a b : Int) : orI k a b = orI k b a := by
  unfold orI
  rw [BitVec.or_comm]

theorem hd_val (kind tag : Int) (n : Int) (h : hdB kind tag n = true) : orI .i64 (orI .i64 n (shlI .i64 tag 16)) (shlI .i64 kind 24) = kind * 16777216 + tag * 65536 + n := by
  have hh : 1 ≤ kind ∧ kind ≤ 3 ∧ 0 ≤ tag ∧ tag ≤ 255 ∧ 0 ≤ n ∧ n ≤ 65535 := of_decide_eq_true h
  have s1 : shlI .i64 tag 16 = tag * 65536 := by
    have h1 := shlI_eq .i64 tag 16 (by decide)
    have h2 : IntKind.i64.wrap (tag * 2 ^ 16) = tag * 65536 := by
      show wi64 _ = _
      rw [wi64_in (by omega)]
      rfl
    exact h1.trans h2
  have s2 : shlI .i64 kind 24 = kind * 16777216 := by
    have h1 := shlI_eq .i64 kind 24 (by decide)
    have h2 : IntKind.i64.wrap (kind * 2 ^ 24) = kind * 16777216 := by
      show wi64 _ = _
      rw [wi64_in (by omega)]
      rfl
    exact h1.trans h2
  have o1 : orI .i64 n (tag * 65536) = tag * 65536 + n := by
    rw [orI_comm, orI_disj .i64 _ n tag 16 (by rfl) (by omega) (by decide)]
    show wi64 _ = _
    rw [wi64_in (by omega)]
  rw [s1, s2, o1, orI_comm, orI_disj .i64 _ (tag * 65536 + n) kind 24 (by rfl) (by omega) (by decide)]
  show wi64 _ = _
  rw [wi64_in (by omega)]
  omega

theorem hd_split (kind tag : Int) (n : Nat) (h : hdB kind tag n = true) : splitOK (hdW kind tag n) = true ∧ (splitN (hdW kind tag n)).toNat = n ∧ 0 ≤ hdW kind tag n ∧ hdW kind tag n < 18446744073709551616 := by
  have hh : 1 ≤ kind ∧ kind ≤ 3 ∧ 0 ≤ tag ∧ tag ≤ 255 ∧ 0 ≤ (n : Int) ∧ (n : Int) ≤ 65535 := of_decide_eq_true h
  have e : hdW kind tag n = 2 * (kind * 16777216 + tag * 65536 + n) + 1 := by
    unfold hdW
    rw [if_pos h, hd_val kind tag n h]
    unfold numW
    omega
  have ei : intW (hdW kind tag n) = kind * 16777216 + tag * 65536 + n := by
    rw [e]
    unfold intW
    rw [if_neg (by omega)]
    omega
  have eo : splitOK (hdW kind tag n) = true := by
    unfold splitOK
    rw [ei]
    simp only [Bool.and_eq_true, decide_eq_true_eq]
    omega
  refine ⟨eo, ?_, by omega, by omega⟩
  unfold splitN
  rw [if_pos eo, ei]
  omega

theorem VH.put {words : List Int} {heads : List Bool} (h : VH words heads) (kind tag : Int) (ws : List Int) (hB : hdB kind tag ws.length = true) (hm : ∀ w ∈ ws, mayB heads w = true) (hw : ∀ w ∈ ws, 0 ≤ w ∧ w < 18446744073709551616) :
    VH (words ++ hdW kind tag ws.length :: ws) (heads ++ true :: List.replicate ws.length false) := by
  obtain ⟨ts, rfl, rfl, h1, h2, h3⟩ := h
  obtain ⟨s1, s2, s3, s4⟩ := hd_split kind tag ws.length hB
  refine ⟨ts ++ [(hdW kind tag ws.length, ws)], (wOf_snoc ts (_, ws)).symm, (hOf_snoc ts (hdW kind tag ws.length, ws)).symm, fun t ht => ?_, fun t ht w hw' => ?_, fun w hw' => ?_⟩
  · rcases List.mem_append.1 ht with ht | ht
    · exact h1 t ht
    · simp only [List.mem_singleton] at ht
      subst ht
      exact ⟨s1, s2⟩
  · rcases List.mem_append.1 ht with ht | ht
    · exact mayB_mono _ _ w (h2 t ht w hw')
    · simp only [List.mem_singleton] at ht
      subst ht
      exact mayB_mono _ _ w (hm w hw')
  · rcases List.mem_append.1 hw' with hw' | hw'
    · exact h3 w hw'
    · rcases List.mem_cons.1 hw' with rfl | hw'
      · exact ⟨s3, s4⟩
      · exact hw w hw'

theorem nums_flat : ∀ ws : List Int, (∀ w ∈ ws, 0 ≤ w ∧ w < 18446744073709551616) → nums ws.length (ws.flatMap nb) = ws
  | [], _ => rfl
  | w :: ws, h => by
    rw [List.flatMap_cons, List.length_cons, nums, List.take_left' (nb_len w), List.drop_left' (nb_len w), rdNum_nb w (h w (by simp)), nums_flat ws fun x hx => h x (by simp [hx])]

theorem nb_byte (v : Int) : ∀ x ∈ nb v, 0 ≤ x ∧ x ≤ 255 := by
  intro x hx
  obtain ⟨j, _, rfl⟩ := List.mem_map.1 hx
  omega
theorem putB_byte (room turns : Int) (words : List Int) : ∀ x ∈ putB room turns words, 0 ≤ x ∧ x ≤ 255 := by
  intro x hx
  unfold putB at hx
  rcases List.mem_append.1 hx with hx | hx
  · rcases List.mem_append.1 hx with hx | hx
    · exact nb_byte _ x hx
    · exact nb_byte _ x hx
  · obtain ⟨w, _, hw⟩ := List.mem_flatMap.1 hx
    exact nb_byte _ x hw

theorem loadR_putB {words : List Int} {heads : List Bool} (h : VH words heads) (room turns : Int) (hr : 16 ≤ room ∧ room ≤ 65536) (ht : 0 ≤ turns ∧ turns ≤ 9223372036854775807) (hf : (words.length : Int) ≤ room) : LoadR (putB room turns words) room turns words heads := by
  obtain ⟨ts, rfl, rfl, h1, h2, h3⟩ := h
  have e1 : (putB room turns (wOf ts)).take 8 = nb (wu64 room) := by
    unfold putB
    rw [List.append_assoc, List.take_left' (nb_len _)]
  have e2 : (putB room turns (wOf ts)).drop 8 = nb (wu64 turns) ++ (wOf ts).flatMap nb := by
    unfold putB
    rw [List.append_assoc, List.drop_left' (nb_len _)]
  have e3 : (putB room turns (wOf ts)).drop 16 = (wOf ts).flatMap nb := by
    rw [show 16 = 8 + 8 from rfl, ← List.drop_drop, e2, List.drop_left' (nb_len _)]
  have el := putB_len room turns (wOf ts)
  refine ⟨by omega, by omega, ?_, ?_, hr.1, hr.2, ht.2, ?_, parse_wOf ts _ h1 (Nat.le_refl _), allMay_of _ ts h2, hf⟩
  · rw [e1, rdNum_nb _ (by rw [wu64_in (by omega)]; omega), wu64_in (by omega)]
  · rw [e2, List.take_left' (nb_len _), rdNum_nb _ (by rw [wu64_in (by omega)]; omega), wu64_in (by omega)]
  · rw [e3, el, show (16 + 8 * (wOf ts).length - 16) / 8 = (wOf ts).length by omega, nums_flat _ h3]

theorem LoadR.uniq {l : List Int} {r1 r2 t1 t2 : Int} {w1 w2 : List Int} {h1 h2 : List Bool} (a : LoadR l r1 t1 w1 h1) (b : LoadR l r2 t2 w2 h2) : r1 = r2 ∧ t1 = t2 ∧ w1 = w2 ∧ h1 = h2 := by
  have e : w1 = w2 := by rw [a.wsE, b.wsE]
  subst e
  refine ⟨by rw [a.rmE, b.rmE], by rw [a.tnE, b.tnE], rfl, ?_⟩
  have := a.par.symm.trans b.par
  exact Option.some.inj this
end Go.Pg
