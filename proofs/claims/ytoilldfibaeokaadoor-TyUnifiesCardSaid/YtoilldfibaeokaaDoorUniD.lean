/- Layer 5: Apply; how large what a type stands for is; that it does not matter which of two comes first. -/
import Derived.Test.YtoilldfibaeokaaDoorUniB
namespace Go.Pg
open Go.Proofs

section
variable {σ σ' : AHeap} {b r b1 : Nat} {nx : Int} {S : SubL}
theorem SubW.other {cs : List Value} (h : SubW σ b r nx S) (f : Frm σ σ' (· = b1)) (h1 : St σ b1 cs) (hl : cs.length < 4) (hb : b ≠ b1) : SubW σ' b r nx S := by
  have hr : r ≠ b1 := fun e => by
    have h2 := h.map
    rw [e, h1.2] at h2
    cases h2
  refine SubW.of (f.st h.st hb) (Nat.lt_of_lt_of_le h.lt f.n) ?_ fun p hp => (h.full p hp).step4 f fun j hj o s => by subst hj; exact h1.no4 hl o s
  rw [f.get r h.lt hr]
  exact h.map
theorem St.other {cs : List Value} (h : St σ b cs) (f : Frm σ σ' (· = b1)) (hb : b ≠ b1) : St σ' b cs := f.st h hb
end

mutual
/-- Names of a text's size, at most two arguments. -/
def NW : Tr TA → Prop
  | .mk a l => a.name.size ≤ 60 ∧ l.length ≤ 2 ∧ NWL l
def NWL : List (Tr TA) → Prop
  | [] => True
  | a :: l => NW a ∧ NWL l
end
theorem NWL_mem : ∀ {l : List (Tr TA)}, NWL l → ∀ a ∈ l, NW a
  | b :: l, h, a, ha => by
    rw [NWL] at h
    rcases List.mem_cons.1 ha with rfl | ha
    · exact h.1
    · exact NWL_mem h.2 a ha
theorem NWL_of : ∀ {l : List (Tr TA)}, (∀ a ∈ l, NW a) → NWL l
  | [], _ => by rw [NWL]; trivial
  | b :: l, h => by
    rw [NWL]
    exact ⟨h b (by simp), NWL_of fun a ha => h a (by simp [ha])⟩
abbrev NA (t : AT) : Prop := NW (strip t)
theorem NA.arg {t u : AT} (h : NA t) (hu : u ∈ t.args) : NA u := by
  obtain ⟨d, l⟩ := t
  unfold NA at h
  rw [strip, NW, stripL_map] at h
  exact NWL_mem h.2.2 _ (List.mem_map_of_mem hu)
theorem NA.varT (n : Int) : NA (varT n) := by
  unfold NA Go.Pg.varT
  rw [strip, NW, stripL]
  exact ⟨show (bs []).size ≤ 60 by decide, by simp, by rw [NWL]; trivial⟩
theorem NA.of : ∀ (n : Nat) (t : AT), Fits nmA n t → Ok t → NA t
  | 0, _, h, _ => h.elim
  | n + 1, .mk d l, ⟨_, h2, h3⟩, ho => by
    unfold NA
    rw [strip, NW, stripL_map]
    refine ⟨h2, ?_, NWL_of fun a ha => ?_⟩
    · have := ho.len
      have : (l.length : Int) = argsM d.1.kind := this
      unfold argsM at this
      rw [List.length_map]
      split at this
      · omega
      · split at this <;> omega
    · obtain ⟨u, hu, rfl⟩ := List.mem_map.1 ha
      exact NA.of n u (h3 u hu) (ho.arg (t := .mk d l) hu).1

/-- A type of one's own, as a tree with its cells. -/
theorem full_T {σ : AHeap} {Y : Nat → Prop} : ∀ (k : Nat) (T : Tr TA) (cs : List Value), SizeOf.sizeOf T ≤ k → NW T → (∀ n, VIn L4 σ Y n cs T) → ∃ u : AT, u.c = cs ∧ AFull σ u ∧ strip u = T := by
  intro k
  induction k with
  | zero => intro T cs h; cases T; simp at h
  | succ k ih =>
    rintro ⟨a, args⟩ cs hk hw hV
    rw [NW] at hw
    obtain ⟨_, e, p, cap, rfl⟩ := hV 0
    simp only [Tr.a, Tr.args] at *
    have hrow : ∀ n, RowOf σ Y 4 (VIn L4 σ Y n) p args := fun n => by
      obtain ⟨_, e', p', cap', hc, hr⟩ := hV (n + 1)
      simp only [Tr.a, Tr.args, List.cons.injEq, Value.slice.injEq, true_and, and_true] at hc
      rw [hc.1]
      exact hr
    obtain ⟨us, hul, hus⟩ := choose_list (α := AT) args.length (fun i u => ∃ h : i < args.length, ∃ x cs, p = some x ∧ Vis σ NoB x ∧ σ.rdN (aadd x (i * 4)) 4 = some cs ∧ u.c = cs ∧ AFull σ u ∧ strip u = args[i]) (fun i hi => by
      obtain ⟨x, cs, q1, q2, q3, _⟩ := hrow 0 i hi
      have hall : ∀ n, VIn L4 σ Y n cs args[i] := fun n => by
        obtain ⟨x', cs', r1, _, r3, r4⟩ := hrow n i hi
        rw [q1] at r1
        cases r1
        rw [q3] at r3
        cases r3
        exact r4
      have := List.sizeOf_lt_of_mem (List.getElem_mem hi)
      simp only [Tr.mk.sizeOf_spec] at hk
      obtain ⟨u, s1, s2, s3⟩ := ih args[i] cs (by omega) (NWL_mem hw.2.2 _ (List.getElem_mem hi)) hall
      exact ⟨u, hi, x, cs, q1, q2.imp id fun h => ⟨h.1, fun h => h⟩, q3, s1, s2, s3⟩)
    refine ⟨.mk (a, L4.cells a e (.slice p args.length cap)) us, rfl, ?_, ?_⟩
    · refine AFull.of (p := p) (cap := cap) (by simp only [Tr.args]; omega) (by simp only [Tr.args, hul, AT.c, Tr.a]) fun i hi => ?_
      obtain ⟨hi', x, cs, q1, q2, q3, q4, q5, _⟩ := hus i hi
      exact ⟨x, cs, q1, q2, q3, q4.symm, q5⟩
    · rw [strip, stripL_map]
      congr 1
      refine List.ext_getElem (by simp [hul]) fun i h1 h2 => ?_
      obtain ⟨hi', _, _, _, _, _, _, _, q6⟩ := hus i (by simpa using h1)
      rw [List.getElem_map, q6]

/-! ### how large -/
mutual
def cntT : Tr TA → Int
  | .mk _ l => cntTL l + 1
def cntTL : List (Tr TA) → Int
  | [] => 0
  | a :: l => cntT a + cntTL l
end
mutual
theorem cnt_strip : ∀ t : AT, cntM t = cntT (strip t)
  | .mk d l => by rw [cntM, strip, cntT, cnt_stripL l]
theorem cnt_stripL : ∀ l : List AT, cntL l = cntTL (stripL l)
  | [] => by rw [cntL, stripL, cntTL]
  | a :: l => by rw [cntL, stripL, cntTL, cnt_strip a, cnt_stripL l]
end
section
variable {S : SubL}
theorem app_cnt : ∀ (k : Nat) (t : AT) (m : Int) (T : Tr TA), aszM k S t = some m → appM k S t = some T → cntT T = m
  | 0, _, _, _, h, _ => by cases h
  | k + 1, t, m, T, h, h' => by
    unfold aszM at h
    unfold appM at h'
    split at h
    · cases h
    · rename_i x hx
      rw [hx] at h'
      simp only at h'
      split at h'
      · cases h'
      · rename_i q hq
        cases h'
        have key : ∀ (l : List AT) (r : Int) (q : List (Tr TA)), aszL (aszM k S) l = some r → appL (appM k S) l = some q → cntTL q + 1 = r := by
          intro l
          induction l with
          | nil =>
            intro r q h1 h2
            cases h1
            cases h2
            rw [cntTL]
            rfl
          | cons a l ih =>
            intro r q h1 h2
            unfold aszL at h1
            unfold appL at h2
            split at h1
            · cases h1
            · rename_i m hm
              split at h1
              · cases h1
              · rename_i w hw
                cases h1
                split at h2
                · cases h2
                · rename_i T hT
                  split at h2
                  · cases h2
                  · rename_i z hz
                    cases h2
                    have e1 := app_cnt k a m T hm hT
                    have e2 := ih _ _ hw hz
                    rw [cntTL]
                    omega
        rw [cntT]
        exact key _ _ _ h hq
theorem app_NW (hS : ∀ p ∈ S, NA p.2) : ∀ (k : Nat) (t : AT) (T : Tr TA), NA t → appM k S t = some T → NW T
  | 0, _, _, _, h => by cases h
  | k + 1, t, T, ht, h => by
    unfold appM at h
    split at h
    · cases h
    · rename_i x hx
      split at h
      · cases h
      · rename_i q hq
        cases h
        have hxN : NA x := headM_pres (P := NA) hS ht hx
        obtain ⟨h1, h2⟩ := appL_get hq
        have hx' := hxN
        obtain ⟨d, l⟩ := x
        unfold NA at hxN
        rw [strip, NW, stripL_map, List.length_map] at hxN
        rw [NW]
        have h1 : q.length = l.length := h1
        refine ⟨hxN.1, by omega, NWL_of fun a ha => ?_⟩
        obtain ⟨i, hi, rfl⟩ := List.mem_iff_getElem.1 ha
        exact app_NW hS k _ _ (hx'.arg (List.getElem_mem (show i < l.length by omega))) (h2 i (show i < l.length by omega) hi)
theorem asz_bnd (H : ∀ v k m, (lookS S v).isSome = true → aszM k S (varT v) = some m → m ≤ 500) : ∀ (k : Nat) (t : AT) (m : Int), Ok t → aszM k S t = some m → m ≤ 500 * cntM t
  | 0, _, _, _, h => by cases h
  | k + 1, t, m, ht, h => by
    have hcp := cntM_pos t
    have h0 := h
    unfold aszM at h
    split at h
    · cases h
    · rename_i x hx
      cases k with
      | zero => cases hx
      | succ k =>
      unfold headM at hx
      by_cases h7 : t.k = 7
      · rw [if_pos h7] at hx
        cases hl : lookS S t.v with
        | none =>
          rw [hl] at hx
          cases hx
          rw [ht.noArgs h7] at h
          cases h
          omega
        | some y =>
          rw [hl] at hx
          have : aszM (k + 1 + 1) S (varT t.v) = some m := by
            unfold aszM
            have : headM (k + 1) S (varT t.v) = some x := by
              unfold headM
              rw [if_pos (show (varT t.v).k = 7 from rfl), show (varT t.v).v = t.v from rfl, hl]
              exact hx
            rw [this]
            exact h
          have := H t.v _ m (by rw [hl]; rfl) this
          omega
      · rw [if_neg h7] at hx
        cases hx
        have key : ∀ (l : List AT) (r : Int), (∀ a ∈ l, Ok a) → aszL (aszM (k + 1) S) l = some r → r ≤ 500 * cntL l + 1 := by
          intro l
          induction l with
          | nil =>
            intro r _ h1
            cases h1
            rw [cntL]
            decide
          | cons a l ih =>
            intro r hl h1
            unfold aszL at h1
            split at h1
            · cases h1
            · rename_i m hm
              split at h1
              · cases h1
              · rename_i w hw
                cases h1
                have e1 := asz_bnd H (k + 1) a m (hl a (by simp)) hm
                have e2 := ih w (fun b hb => hl b (by simp [hb])) hw
                rw [cntL]
                omega
        have := key t.args m (fun a ha => (ht.arg ha).1) h
        have := cnt_eq t
        omega
/-- All is small: no variable stands for more than 500. -/
theorem small_all (hS : Inv S) (h : allSmall UF S S = some true) : ∀ v k m, (lookS S v).isSome = true → aszM k S (varT v) = some m → m ≤ 500 := by
  intro v k m hv hm
  obtain ⟨x, hx⟩ := Option.isSome_iff_exists.1 hv
  have hmem := lookS_mem hx
  have h1 := allSmall_true h _ hmem
  obtain ⟨m0, hm0⟩ := hS.asz (Ok.varT (hS.rng _ hmem))
  rw [small_asz (asz_le hm0 (show CF ≤ UF by decide))] at h1
  simp only [Option.some.injEq, decide_eq_true_eq] at h1
  have e1 := asz_le hm (Nat.le_max_left k CF)
  have e2 := asz_le hm0 (Nat.le_max_right k CF)
  simp only at e2
  rw [e1] at e2
  cases e2
  exact h1
end
theorem vars_cnt : ∀ (k : Nat) (t : AT) (acc : List Int), SizeOf.sizeOf t ≤ k → ((varsM t acc).length : Int) ≤ acc.length + cntM t := by
  intro k
  induction k with
  | zero => intro t acc h; cases t; simp at h
  | succ k ih =>
    rintro ⟨d, l⟩ acc hk
    have hsz : ∀ x ∈ l, SizeOf.sizeOf x ≤ k := fun u hu => by
      have := List.sizeOf_lt_of_mem hu
      simp at hk
      omega
    have key : ∀ (m : List AT) (acc : List Int), (∀ x ∈ m, SizeOf.sizeOf x ≤ k) → ((varsL m acc).length : Int) ≤ acc.length + cntL m := by
      intro m
      induction m with
      | nil => intro acc _; rw [varsL, cntL]; omega
      | cons a m ih' =>
        intro acc h
        rw [varsL, cntL]
        have e1 := ih' (varsM a acc) fun x hx => h x (by simp [hx])
        have e2 := ih a acc (h a (by simp))
        omega
    have := cntL_pos l
    rw [varsM, cntM]
    split
    · split
      · omega
      · simp only [List.length_append, List.length_singleton]; omega
    · have := key l acc hsz
      omega
theorem show_cnt {nm : Int → List UInt8} (hnm : ∀ v, (nm v).length ≤ 100) : ∀ (k : Nat) (t : AT), SizeOf.sizeOf t ≤ k → NA t → ((showM nm t).length : Int) ≤ 100 * cntM t := by
  intro k
  induction k with
  | zero => intro t h; cases t; simp at h
  | succ k ih =>
    rintro ⟨d, l⟩ hk hN
    have hN' : d.1.name.data.toList.length ≤ 60 := by
      unfold NA at hN
      rw [strip, NW] at hN
      exact hN.1
    have hsz : ∀ x ∈ l, SizeOf.sizeOf x ≤ k := fun u hu => by
      have := List.sizeOf_lt_of_mem hu
      simp at hk
      omega
    have h3' : ∀ x ∈ l, ((showM nm x).length : Int) ≤ 100 * cntM x := fun x hx => ih x (hsz x hx) (hN.arg (t := .mk d l) hx)
    have hp := cntL_pos l
    rw [showM, showL_map, cntM]
    unfold showN
    split
    · have := hnm d.1.var
      omega
    split
    · rename_i h5
      match l, h5.2, h3' with
      | [x, y], _, h3' =>
        have e1 := h3' x (by simp)
        have e2 := h3' y (by simp)
        rw [cntL, cntL, cntL]
        simp only [List.map_cons, List.map_nil, List.getD_cons_zero, List.getD_cons_succ, List.length_append, List.length_cons, List.length_nil]
        omega
    split
    · rename_i h6
      match l, h6.2, h3' with
      | [x], _, h3' =>
        have e1 := h3' x (by simp)
        rw [cntL, cntL]
        simp only [List.map_cons, List.map_nil, List.getD_cons_zero, List.length_append, List.length_cons, List.length_nil]
        omega
    split
    · simp only [List.length_cons, List.length_nil]; omega
    split
    · simp only [List.length_cons, List.length_nil]; omega
    split
    · simp only [List.length_cons, List.length_nil]; omega
    split
    · omega
    · simp only [List.length_nil]; omega
theorem cnt_ok {u : AT} (hN : NA u) (hc : cntM u ≤ 250000) : (varsM u []).length ≤ 1000000 ∧ (showM (nmOf 0 (varsM u [])) u).length ≤ 1000000000 := by
  have h1 := vars_cnt _ u [] (Nat.le_refl _)
  simp only [List.length_nil] at h1
  have h2 := show_cnt (nm := nmOf 0 (varsM u [])) (fun v => nmOf_len _ _ (by omega)) _ u (Nat.le_refl _) hN
  omega

/-! ### which comes first -/
theorem pairs_sym {f : SubL → AT → AT → Option (Int × SubL)} {P : AT → Prop} (hf : ∀ S x y r r', (∀ p ∈ S, P p.2) → P x → P y → f S x y = some r → f S y x = some r' → r = r') (hp : ∀ S x y e S', (∀ p ∈ S, P p.2) → P x → P y → f S x y = some (e, S') → ∀ p ∈ S', P p.2) :
    ∀ (l m : List AT) (S : SubL) (r r' : Int × SubL), (∀ p ∈ S, P p.2) → (∀ u ∈ l, P u) → (∀ u ∈ m, P u) → l.length = m.length → pairsM f S l m = some r → pairsM f S m l = some r' → r = r'
  | [], [], S, r, r', _, _, _, _, h, h' => by
    unfold pairsM at h h'
    rw [h] at h'
    cases h'
    rfl
  | [], _ :: _, _, _, _, _, _, _, hl, _, _ => by simp at hl
  | _ :: _, [], _, _, _, _, _, _, hl, _, _ => by simp at hl
  | a :: l, b :: m, S, r, r', hS, hl', hm', hl, h, h' => by
    unfold pairsM at h h'
    split at h
    · cases h
    · rename_i e1 S1 h1
      split at h'
      · cases h'
      · rename_i e2 S2 h2
        have := hf S a b _ _ hS (hl' a (by simp)) (hm' b (by simp)) h1 h2
        cases this
        by_cases he : e1 = 0
        · rw [if_pos he] at h h'
          exact pairs_sym hf hp l m S1 r r' (hp S a b e1 S1 hS (hl' a (by simp)) (hm' b (by simp)) h1) (fun u hu => hl' u (by simp [hu])) (fun u hu => hm' u (by simp [hu])) (by simpa using hl) h h'
        · rw [if_neg he] at h h'
          rw [h] at h'
          cases h'
          rfl
theorem max_sym (a b : Int) : maxV a b = maxV b a := by
  rw [maxV_eq, maxV_eq]
  omega
theorem min_sym (a b : Int) : minV a b = minV b a := by
  rw [minV_eq, minV_eq]
  omega
mutual
def ARt : AT → Prop
  | .mk d l => (l.length : Int) = argsM d.1.kind ∧ ARtL l
def ARtL : List AT → Prop
  | [] => True
  | a :: l => ARt a ∧ ARtL l
end
theorem ARL_mem : ∀ {l : List AT}, ARtL l → ∀ a ∈ l, ARt a
  | b :: l, h, a, ha => by
    rw [ARtL] at h
    rcases List.mem_cons.1 ha with rfl | ha
    · exact h.1
    · exact ARL_mem h.2 a ha
theorem ARt.args {t : AT} (h : ARt t) : ∀ u ∈ t.args, ARt u := by
  cases t
  rw [ARt] at h
  exact ARL_mem h.2
theorem ARt.len {t : AT} (h : ARt t) : (t.args.length : Int) = argsM t.k := by
  cases t
  rw [ARt] at h
  exact h.1
theorem ARt.varT (n : Int) : ARt (varT n) := by
  unfold Go.Pg.varT
  rw [ARt, ARtL]
  exact ⟨rfl, trivial⟩
mutual
theorem ARt.of : ∀ t : AT, aloneM t = true → ARt t
  | .mk d l, h => by
    rw [aloneM] at h
    simp only [Bool.and_eq_true, decide_eq_true_eq] at h
    rw [ARt]
    exact ⟨h.1.1.1.2, ARtL.of l h.2⟩
theorem ARtL.of : ∀ l : List AT, aloneL l = true → ARtL l
  | [], _ => by rw [ARtL]; trivial
  | a :: l, h => by
    rw [aloneL, Bool.and_eq_true] at h
    rw [ARtL]
    exact ⟨ARt.of a h.1, ARtL.of l h.2⟩
end
theorem one_sym : ∀ (k : Nat) (S : SubL) (x y : AT) (r r' : Int × SubL), (∀ p ∈ S, ARt p.2) → ARt x → ARt y → oneM k S x y = some r → oneM k S y x = some r' → r = r'
  | 0, _, _, _, _, _, _, _, _, h, _ => by cases h
  | k + 1, S, x, y, r, r', hS, hx, hy, h, h' => by
    unfold oneM at h h'
    cases hsx : smallM k S x with
    | none => rw [hsx] at h; cases h
    | some bx =>
    cases hsy : smallM k S y with
    | none => rw [hsy] at h'; cases h'
    | some yy =>
    rw [hsx, hsy] at h h'
    cases bx with
    | false =>
      cases yy <;> (simp only at h h'; rw [Option.some.inj h.symm, Option.some.inj h'.symm])
    | true =>
    cases yy with
    | false => simp only at h h'; rw [Option.some.inj h.symm, Option.some.inj h'.symm]
    | true =>
    simp only at h h'
    cases hX : headM k S x with
    | none => rw [hX] at h; cases h
    | some X =>
    cases hY : headM k S y with
    | none => rw [hX, hY] at h; cases h
    | some Y =>
    rw [hX, hY] at h h'
    simp only at h h'
    have aX : ARt X := headM_pres hS hx hX
    have aY : ARt Y := headM_pres hS hy hY
    by_cases hx7 : X.k = 7
    · rw [if_pos hx7] at h
      by_cases hy7 : Y.k = 7
      · rw [if_pos hy7] at h
        rw [if_pos hy7, if_pos hx7] at h'
        by_cases hv : X.v = Y.v
        · rw [if_pos hv] at h
          rw [if_pos hv.symm] at h'
          rw [h] at h'
          exact Option.some.inj h'
        · rw [if_neg hv] at h
          rw [if_neg (fun e => hv e.symm), max_sym, min_sym] at h'
          rw [h] at h'
          exact Option.some.inj h'
      · rw [if_neg hy7] at h
        rw [if_neg hy7, if_pos hx7] at h'
        rw [h] at h'
        exact Option.some.inj h'
    rw [if_neg hx7] at h
    by_cases hy7 : Y.k = 7
    · rw [if_pos hy7] at h
      rw [if_pos hy7, if_neg hx7] at h'
      rw [h] at h'
      exact Option.some.inj h'
    rw [if_neg hy7] at h
    rw [if_neg hy7, if_neg hx7] at h'
    by_cases hkk : X.k = Y.k
    case neg =>
      rw [if_neg hkk] at h
      rw [if_neg (fun e => hkk e.symm)] at h'
      rw [h] at h'
      exact Option.some.inj h'
    rw [if_pos hkk] at h
    rw [if_pos hkk.symm] at h'
    by_cases hnn : X.nm.toList = Y.nm.toList
    case neg =>
      rw [if_neg hnn] at h
      rw [if_neg (fun e => hnn e.symm)] at h'
      rw [h] at h'
      exact Option.some.inj h'
    rw [if_pos hnn] at h
    rw [if_pos hnn.symm] at h'
    refine pairs_sym (P := ARt) (fun S x y r r' => one_sym k S x y r r') (fun S x y e S' a b c d => oneM_pres (P := ARt) (fun t ht => ht.args) ARt.varT k S x y e S' a b c d) X.args Y.args S r r' hS aX.args aY.args ?_ h h'
    have h1 := aX.len
    have h2 := aY.len
    rw [hkk] at h1
    omega
theorem unify_sym {S : SubL} {x y : AT} (hS : Inv S) : unifyM S x y = unifyM S y x := by
  unfold unifyM
  rw [Bool.and_comm]
  cases hg : (goodM y && goodM x) with
  | false => rfl
  | true =>
    rw [Bool.and_eq_true] at hg
    have hx := ok_good hg.2
    have hy := ok_good hg.1
    obtain ⟨e, S1, h1, _⟩ := one_uf hS hx hy
    obtain ⟨e', S2, h2, _⟩ := one_uf hS hy hx
    have := one_sym UF S x y _ _ (fun p hp => ARt.of _ (hS.ok p hp).al) (ARt.of _ hx.al) (ARt.of _ hy.al) h1 h2
    rw [h1, h2, this]

section
variable {ov : Ov} {σ : AHeap} {b r : Nat} {nx : Int} {S : SubL}
theorem wp_Apply (hO : OvT ov) {t : AT} {T : Tr TA} {k : Nat} (hs : SubIn σ b r nx S) (ht : AFull σ t) (hg : goodM t = true) (hT : appM k S t = some T) (hN : NW T) :
    WpF PROG ov 17 [.pointer (some ⟨b, 0, some 0⟩), .agg t.c.toArray] σ fun v σ' => Frm σ σ' NoB ∧ ∃ u : AT, v = .agg u.c.toArray ∧ AFull σ' u ∧ strip u = T := by
  have hz := fun σ' (hF : Frm σ σ' NoB) => wp_Good hO (ht.frm hF)
  have hw := fun σ' (hF : Frm σ σ' NoB) => wp_apply hO k σ' t T (hs.frm hF) (ht.frm hF) hT
  obtain ⟨p, cap, hc⟩ := ht.cells
  rw [hc] at hz hw ⊢
  refine WpF.of (T17_eq _ _ _ _ _ _ _) (hO _ (by decide) (by decide) (by decide)) ?_
  rw [T17]
  refine wp_newQ fun σ1 hF1 hn1 hS1 => ?_
  refine wp_newQ fun σ2 hF2 hn2 hS2 => ?_
  have hS1 := hF2.stN hS1
  have hF02 := hF1.seq hF2
  rw [wp_ldAll hS1 4 rfl]
  simp only [asAgg_agg, asCons_cons, asInt_int, asStr_str, asSlice_slice, asNil_nil]
  rw [wp_call]
  refine WpF.mono (hz σ2 hF02) ?_
  rintro _ σ3 ⟨rfl, hF3⟩
  have hF03 := hF02.seq hF3
  rw [asBool_bool, wp_bif, hg, if_neg (by simp), wp_ldAll (hF3.stN hS1) 4 rfl]
  simp only [asAgg_agg, asCons_cons, asInt_int, asStr_str, asSlice_slice, asNil_nil]
  rw [wp_call]
  refine WpF.mono (hw σ3 hF03) ?_
  rintro _ σ4 ⟨hF4, cs', rfl, hV⟩
  obtain ⟨_, e2, p2, c2, rfl⟩ := (hV 0).cells
  simp only [asAgg_agg, asCons_cons, asInt_int, asStr_str, asSlice_slice, asNil_nil]
  have hn3 := hF3.n
  have hn4 := hF4.n
  refine wp_stQ (hF4.stN (hF3.stN hS2)) rfl rfl fun σ5 hF5 hn5 hS5 => ?_
  rw [wp_ldAll hS5 4 rfl, wp_ret]
  obtain ⟨u, h1, h2, h3⟩ := full_T (σ := σ5) (Y := fun j => j < σ3.n) _ T _ (Nat.le_refl _) hN fun n => (hV n).step hF5 (fun i hi h => by omega) (fun i hi h => h)
  exact ⟨_, rfl, (hF03.seq hF4).fresh hF5 fun i hi h => by omega, u, by rw [h1], h2, h3⟩
end
end Go.Pg
