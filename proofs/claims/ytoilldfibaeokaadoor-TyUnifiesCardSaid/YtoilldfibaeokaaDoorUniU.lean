/- Layer 5: one is defined, and keeps that there are no circles. -/
import Derived.Test.YtoilldfibaeokaaDoorUniT
namespace Go.Pg
open Go.Proofs

theorem occL_cons {v : Int} {a : AT} {l : List AT} : occL v (a :: l) ↔ occM v a ∨ occL v l := by rw [occL]
theorem occL_nil {v : Int} : ¬ occL v [] := by rw [occL]; exact fun h => h
theorem Ok.noArgs {t : AT} (h : Ok t) (h7 : t.k = 7) : t.args = [] := by
  have := h.len
  rw [h7, show argsM 7 = 0 from rfl] at this
  exact List.length_eq_zero_iff.1 (by omega)
theorem Ok.occ7 {t : AT} {w : Int} (h : Ok t) (h7 : t.k = 7) (hw : occM w t) : w = t.v := by
  have := h.noArgs h7
  cases t with
  | mk d l =>
    rw [occM] at hw
    rcases hw with ⟨_, h2⟩ | h1
    · exact h2.symm
    · have : l = [] := this
      subst this
      exact absurd h1 occL_nil
theorem occ_no7 {t : AT} {w : Int} (h7 : t.k ≠ 7) (hw : occM w t) : occL w t.args := by
  cases t with
  | mk d l =>
    rw [occM] at hw
    rcases hw with ⟨h1, _⟩ | h1
    · exact absurd h1 h7
    · exact h1

inductive Reach (S : SubL) : AT → Int → Prop
  | here {t : AT} {v : Int} (h : occM v t) : Reach S t v
  | step {t x : AT} {w v : Int} (h : occM w t) (hx : lookS S w = some x) (r : Reach S x v) : Reach S t v

section
variable {S : SubL}
theorem withinL_tot {k : Nat} {v : Int} : ∀ (l : List AT) (acc : Bool × List Int), (∀ a ∈ l, ∀ seen, ∃ r, withinM k S v a seen = some r) → ∃ r, l.foldl (withinF k S v) (some acc) = some r
  | [], acc, _ => ⟨acc, rfl⟩
  | a :: l, (true, sn), h => ⟨_, withinF_true k S v sn _⟩
  | a :: l, (false, sn), h => by
    obtain ⟨r, hr⟩ := h a (by simp) sn
    rw [List.foldl_cons]
    simp only [withinF, hr]
    exact withinL_tot l r fun b hb => h b (by simp [hb])
set_option maxRecDepth 100000 in
theorem within_tot (hS : ∀ p ∈ S, Ok p.2) (v : Int) : ∀ (N : Nat) (L : List Int) (t : AT), L.length * 501 + (cntM t).toNat ≤ N → Ord S L → Low S L t → Ok t → ∀ k, N < k → ∀ seen, ∃ r, withinM k S v t seen = some r := by
  intro N
  induction N with
  | zero =>
    intro L t h
    have := cntM_pos t
    omega
  | succ N ih =>
    intro L t hN hL hlow ht k hk seen
    obtain ⟨k, rfl⟩ : ∃ k', k = k' + 1 := ⟨k - 1, by omega⟩
    have hcp := cntM_pos t
    unfold withinM
    by_cases h7 : t.k = 7
    · rw [if_pos h7]
      split
      · exact ⟨_, rfl⟩
      · split
        · exact ⟨_, rfl⟩
        · cases hx : lookS S t.v with
          | none => exact ⟨_, rfl⟩
          | some x =>
            have hm := hlow t.v (occ_self h7) (by rw [hx]; rfl)
            obtain ⟨L2, h1, h2, h3⟩ := hL.split hm
            have : (L2.length + 1) * 501 ≤ L.length * 501 := Nat.mul_le_mul_right 501 h1
            rw [Nat.add_mul] at this
            have hxo : Ok x := hS _ (lookS_mem hx)
            have := hxo.le
            have := cntM_pos x
            exact ih L2 x (by omega) h2 (h3 x hx) hxo k (by omega) _
    · rw [if_neg h7]
      refine withinL_tot t.args _ fun a ha seen => ?_
      obtain ⟨g1, g2⟩ := ht.arg ha
      have hap := cntM_pos a
      exact ih L a (by omega) hL (hlow.arg ha) g1 k (by omega) _

/-- What a search that found nothing has seen. -/
def Srch (S : SubL) (v : Int) (seen seen' : List Int) (P : Int → Prop) : Prop :=
  (∀ w ∈ seen, w ∈ seen') ∧ (v ∉ seen → v ∉ seen') ∧ (∀ w, P w → w ∈ seen') ∧ ∀ w ∈ seen', w ∉ seen → ∀ x, lookS S w = some x → ∀ z, occM z x → z ∈ seen'
theorem Srch.seq {v : Int} {s1 s2 s3 : List Int} {P Q : Int → Prop} (h1 : Srch S v s1 s2 P) (h2 : Srch S v s2 s3 Q) : Srch S v s1 s3 fun w => P w ∨ Q w := by
  obtain ⟨a1, a2, a3, a4⟩ := h1
  obtain ⟨b1, b2, b3, b4⟩ := h2
  refine ⟨fun w hw => b1 w (a1 w hw), fun h => b2 (a2 h), fun w hw => hw.elim (fun h => b1 w (a3 w h)) (b3 w), fun w hw hn x hx z hz => ?_⟩
  by_cases h : w ∈ s2
  · exact b1 z (a4 w h hn x hx z hz)
  · exact b4 w hw h x hx z hz
theorem withinL_spec {k : Nat} {v : Int} (ih : ∀ a, Ok a → ∀ seen seen', withinM k S v a seen = some (false, seen') → Srch S v seen seen' (fun w => occM w a)) : ∀ (l : List AT), (∀ a ∈ l, Ok a) → ∀ (sn sn' : List Int), l.foldl (withinF k S v) (some (false, sn)) = some (false, sn') → Srch S v sn sn' (fun w => occL w l)
  | [], _, sn, sn', h => by
    cases h
    exact ⟨fun _ h => h, fun h => h, (fun w h => absurd h occL_nil), fun w h hn => absurd h hn⟩
  | a :: l, hl, sn, sn', h => by
    rw [List.foldl_cons, show withinF k S v (some (false, sn)) a = withinM k S v a sn from rfl] at h
    cases hw : withinM k S v a sn with
    | none =>
      rw [hw, withinF_none] at h
      cases h
    | some r =>
      obtain ⟨b, s1⟩ := r
      rw [hw] at h
      cases b with
      | true =>
        rw [withinF_true] at h
        cases h
      | false =>
        obtain ⟨c1, c2, c3, c4⟩ := (ih a (hl a (by simp)) sn s1 hw).seq (withinL_spec ih l (fun b hb => hl b (by simp [hb])) s1 sn' h)
        exact ⟨c1, c2, fun w hw => c3 w (occL_cons.1 hw), c4⟩
theorem within_spec (hS : ∀ p ∈ S, Ok p.2) {v : Int} : ∀ (k : Nat) (t : AT), Ok t → ∀ (seen seen' : List Int), withinM k S v t seen = some (false, seen') → Srch S v seen seen' (fun w => occM w t)
  | 0, _, _, _, _, h => by cases h
  | k + 1, t, ht, seen, seen', h => by
    unfold withinM at h
    by_cases h7 : t.k = 7
    · rw [if_pos h7] at h
      by_cases hs : seen.any (· == t.v) = true
      · rw [if_pos hs] at h
        cases h
        obtain ⟨y, hy, e⟩ := List.any_eq_true.1 hs
        have e : y = t.v := by simpa using e
        subst e
        exact ⟨fun _ h => h, fun h => h, fun w hw => by rw [ht.occ7 h7 hw]; exact hy, fun w h hn => absurd h hn⟩
      rw [if_neg hs] at h
      by_cases hv : t.v = v
      · rw [if_pos hv] at h
        cases h
      rw [if_neg hv] at h
      cases hx : lookS S t.v with
      | none =>
        rw [hx] at h
        cases h
        refine ⟨fun w hw => by simp [hw], fun hn hm => ?_, fun w hw => by rw [ht.occ7 h7 hw]; simp, fun w hw hn x hx' => ?_⟩
        · rcases List.mem_append.1 hm with hm | hm
          · exact hn hm
          · simp only [List.mem_singleton] at hm
            exact hv hm.symm
        · rcases List.mem_append.1 hw with hw | hw
          · exact absurd hw hn
          · simp only [List.mem_singleton] at hw
            rw [hw, hx] at hx'
            cases hx'
      | some x =>
        rw [hx] at h
        obtain ⟨c1, c2, c3, c4⟩ := within_spec hS k x (hS _ (lookS_mem hx)) (seen ++ [t.v]) seen' h
        refine ⟨fun w hw => c1 w (by simp [hw]), fun hn => c2 fun hm => ?_, fun w hw => by rw [ht.occ7 h7 hw]; exact c1 _ (by simp), fun w hw hn y hy z hz => ?_⟩
        · rcases List.mem_append.1 hm with hm | hm
          · exact hn hm
          · simp only [List.mem_singleton] at hm
            exact hv hm.symm
        · by_cases hwv : w = t.v
          · rw [hwv, hx] at hy
            cases hy
            exact c3 z hz
          · exact c4 w hw (by simp [hn, hwv]) y hy z hz
    · rw [if_neg h7] at h
      obtain ⟨c1, c2, c3, c4⟩ := withinL_spec (fun a ha s s' => within_spec hS k a ha s s') t.args (fun a ha => (ht.arg ha).1) seen seen' h
      exact ⟨c1, c2, fun w hw => c3 w (occ_no7 h7 hw), c4⟩
theorem not_reach (hS : ∀ p ∈ S, Ok p.2) {v : Int} {k : Nat} {t : AT} (ht : Ok t) {seen' : List Int} (h : withinM k S v t [] = some (false, seen')) : ¬ Reach S t v := by
  obtain ⟨_, c2, c3, c4⟩ := within_spec hS k t ht [] seen' h
  have key : ∀ {t : AT} {v' : Int}, Reach S t v' → (∀ z, occM z t → z ∈ seen') → v' ∈ seen' := by
    intro t v' r
    induction r with
    | here h => intro hz; exact hz _ h
    | step h hx _ ih => intro hz; exact ih fun z hz' => c4 _ (hz _ h) (by simp) _ hx z hz'
  exact fun r => c2 (by simp) (key r c3)

/-! ### binding -/
theorem set_new {v : Int} {t : AT} : ∀ {S : SubL}, lookS S v = none → setS S v t = S ++ [(v, t)]
  | [], _ => rfl
  | (k, u) :: r, h => by
    simp only [lookS] at h
    by_cases e : v = k
    · rw [if_pos e] at h
      cases h
    · rw [if_neg e] at h
      simp only [setS, if_neg e, set_new h, List.cons_append]
theorem look_set {v w : Int} {t : AT} : ∀ {S : SubL}, lookS (setS S v t) w = if w = v then some t else lookS S w
  | [] => by simp only [setS, lookS]
  | (k, u) :: r => by
    simp only [setS]
    by_cases e : v = k
    · rw [if_pos e]
      subst e
      simp only [lookS]
      by_cases h : w = v
      · simp only [if_pos h]
      · simp only [if_neg h]
    · rw [if_neg e]
      simp only [lookS, look_set (S := r)]
      by_cases h : w = k
      · rw [if_pos h, if_pos h, if_neg (by omega)]
      · rw [if_neg h, if_neg h]
theorem look_none {v : Int} : ∀ {S : SubL}, lookS S v = none → v ∉ S.map (·.1)
  | [], _ => by simp
  | (k, u) :: r, h => by
    simp only [lookS] at h
    by_cases e : v = k
    · rw [if_pos e] at h
      cases h
    · rw [if_neg e] at h
      simp only [List.map_cons, List.mem_cons, not_or]
      exact ⟨e, look_none h⟩

theorem Ord.bound {L : List Int} : Ord S L → ∀ w ∈ L, (lookS S w).isSome = true := by
  induction L with
  | nil => intro _ w hw; cases hw
  | cons a L ih =>
    rintro ⟨⟨h1, _⟩, h2⟩ w hw
    rcases List.mem_cons.1 hw with rfl | hw
    · exact h1
    · exact ih h2 w hw
open Classical in
theorem Inv.bind (h : Inv S) {v : Int} {t : AT} (hv : lookS S v = none) (hr : 0 ≤ v ∧ v ≤ 1999) (ht : Ok t) (hn : ¬ Reach S t v) : Inv (setS S v t) ∧ (setS S v t).length = S.length + 1 := by
  obtain ⟨h1, h2, h3, L, o1, o2, o3⟩ := h
  have hlen : (setS S v t).length = S.length + 1 := by rw [set_new hv]; simp
  have hlk : ∀ w, lookS (setS S v t) w = if w = v then some t else lookS S w := fun w => look_set
  refine ⟨⟨?_, ?_, ?_, ?_⟩, hlen⟩
  · intro p hp
    rcases setS_mem hp with rfl | hp
    · exact ht
    · exact h1 p hp
  · rw [set_new hv, List.map_append, List.nodup_append]
    refine ⟨h2, by simp, fun a ha b hb => ?_⟩
    simp only [List.map_cons, List.map_nil, List.mem_singleton] at hb
    subst hb
    intro e
    subst e
    exact look_none hv ha
  · intro p hp
    rcases setS_mem hp with rfl | hp
    · exact hr
    · exact h3 p hp
  · let A : Int → Bool := fun w => decide (∃ x, lookS S w = some x ∧ Reach S x v)
    have hA : ∀ w, A w = true ↔ ∃ x, lookS S w = some x ∧ Reach S x v := fun w => by simp [A]
    have hbd := o1.bound
    have hvL : v ∉ L := fun hm => by
      have := hbd v hm
      rw [hv] at this
      cases this
    -- those that do not come to v
    have c1 : ∀ M : List Int, Ord S M → v ∉ M → Ord (setS S v t) (M.filter fun w => !A w) := by
      intro M
      induction M with
      | nil => intro _ _; trivial
      | cons w M ih =>
        rintro ⟨⟨q1, q2⟩, q3⟩ hvm
        simp only [List.mem_cons, not_or] at hvm
        have hwv : w ≠ v := fun e => hvm.1 e.symm
        rw [List.filter_cons]
        by_cases hAw : A w = true
        · rw [hAw]
          exact ih q3 hvm.2
        · have hAw := Bool.not_eq_true _ ▸ hAw
          rw [hAw]
          refine ⟨⟨by rw [hlk, if_neg hwv]; exact q1, fun x hx z hz hb => ?_⟩, ih q3 hvm.2⟩
          rw [hlk, if_neg hwv] at hx
          rw [hlk] at hb
          by_cases hzv : z = v
          · subst hzv
            have : A w = true := (hA w).2 ⟨x, hx, .here hz⟩
            rw [this] at hAw
            cases hAw
          · rw [if_neg hzv] at hb
            have hzm := q2 x hx z hz hb
            refine List.mem_filter.2 ⟨hzm, ?_⟩
            have : A z = false := by
              rw [Bool.eq_false_iff]
              intro hAz
              obtain ⟨y, hy, r⟩ := (hA z).1 hAz
              have : A w = true := (hA w).2 ⟨x, hx, .step hz hy r⟩
              rw [this] at hAw
              cases hAw
            rw [this]
            rfl
    have c2 : Ord (setS S v t) (v :: L.filter fun w => !A w) := by
      refine ⟨⟨by rw [hlk, if_pos rfl]; rfl, fun x hx z hz hb => ?_⟩, c1 L o1 hvL⟩
      rw [hlk, if_pos rfl] at hx
      cases hx
      rw [hlk] at hb
      by_cases hzv : z = v
      · subst hzv
        exact absurd (.here hz) hn
      · rw [if_neg hzv] at hb
        refine List.mem_filter.2 ⟨o2 z hb, ?_⟩
        have : A z = false := by
          rw [Bool.eq_false_iff]
          intro hAz
          obtain ⟨y, hy, r⟩ := (hA z).1 hAz
          exact hn (.step hz hy r)
        rw [this]
        rfl
    have c3 : ∀ M : List Int, Ord S M → v ∉ M → (∀ w ∈ M, w ∈ L) → Ord (setS S v t) (M.filter A ++ v :: L.filter fun w => !A w) := by
      intro M
      induction M with
      | nil => intro _ _ _; exact c2
      | cons w M ih =>
        rintro ⟨⟨q1, q2⟩, q3⟩ hvm hML
        simp only [List.mem_cons, not_or] at hvm
        have hwv : w ≠ v := fun e => hvm.1 e.symm
        have hrest := ih q3 hvm.2 fun z hz => hML z (by simp [hz])
        rw [List.filter_cons]
        by_cases hAw : A w = true
        · rw [if_pos hAw]
          refine ⟨⟨by rw [hlk, if_neg hwv]; exact q1, fun x hx z hz hb => ?_⟩, hrest⟩
          rw [hlk, if_neg hwv] at hx
          rw [hlk] at hb
          by_cases hzv : z = v
          · simp [hzv]
          · rw [if_neg hzv] at hb
            have hzm := q2 x hx z hz hb
            refine List.mem_append.2 ?_
            by_cases hAz : A z = true
            · exact .inl (List.mem_filter.2 ⟨hzm, hAz⟩)
            · have hAz := Bool.not_eq_true _ ▸ hAz
              exact .inr (List.mem_cons_of_mem _ (List.mem_filter.2 ⟨hML z (by simp [hzm]), by rw [hAz]; rfl⟩))
        · rw [if_neg hAw]
          exact hrest
    refine ⟨_, c3 L o1 hvL (fun _ h => h), fun z hz => ?_, ?_⟩
    · rw [hlk] at hz
      by_cases hzv : z = v
      · simp [hzv]
      · rw [if_neg hzv] at hz
        have := o2 z hz
        by_cases hAz : A z = true
        · simp [this, hAz]
        · have hAz := Bool.not_eq_true _ ▸ hAz
          simp [this, hAz]
    · rw [hlen, List.length_append, List.length_cons]
      have : (L.filter A).length + (L.filter fun w => !A w).length = L.length := by
        clear c3 c2 c1 o1 o2 o3 hbd hvL
        induction L with
        | nil => rfl
        | cons a L ih =>
          rw [List.filter_cons, List.filter_cons]
          cases A a
          · simp only [Bool.not_false, if_true, if_false, List.length_cons, Bool.false_eq_true]
            omega
          · simp only [Bool.not_true, if_true, if_false, List.length_cons, Bool.false_eq_true]
            omega
      omega
end
end Go.Pg
