/- Layer 5: Unify, called: what it computes on a good sub. -/
import Derived.Test.YtoilldfibaeokaaDoorUniV
import Derived.Test.YtoilldfibaeokaaDoorTyZ
namespace Go.Pg
open Go.Proofs

section
variable {σ σ' : AHeap} {T : Nat → Prop}
/-- Blocks are changed in which no type stands. -/
theorem AIn.step4 (f : Frm σ σ' T) (hT : ∀ j, T j → ∀ o s, σ.rdN ⟨j, o, some s⟩ 4 = none) : ∀ {n : Nat} {t : AT}, AIn σ n t → AIn σ' n t
  | 0, _, h => h
  | n + 1, t, ⟨hl, p, cap, h1, h2⟩ => by
    refine ⟨hl, p, cap, h1, fun i hi => ?_⟩
    obtain ⟨x, cs, q1, q2, q3, q4, q5⟩ := h2 i hi
    refine ⟨x, cs, q1, q2.step f fun _ _ h => h, ?_, q4, AIn.step4 f hT q5⟩
    obtain ⟨b, o, s⟩ := x
    cases s with
    | none =>
      unfold AHeap.rdN aadd at q3 ⊢
      simp only [f.old]
      exact q3
    | some s =>
      rcases q2 with h' | ⟨h', _⟩
      · cases h'
      by_cases hb : T b
      · have := hT b hb (o + i * 4) s
        rw [show aadd ⟨b, o, some s⟩ (i * 4) = ⟨b, o + i * 4, some s⟩ from rfl, this] at q3
        cases q3
      · exact (rdN_get (f.get b h' hb)).trans q3
theorem AFull.step4 (f : Frm σ σ' T) (hT : ∀ j, T j → ∀ o s, σ.rdN ⟨j, o, some s⟩ 4 = none) {t : AT} (h : AFull σ t) : AFull σ' t := fun n => (h n).step4 f hT
theorem St.no4 {b : Nat} {cs : List Value} (h : St σ b cs) (hl : cs.length < 4) (o s : Nat) : σ.rdN ⟨b, o, some s⟩ 4 = none := by
  unfold AHeap.rdN
  simp only [h.2]
  split
  · rename_i hi hh
    have : hi = cs.length ∨ False := by
      cases hd : s / 64 with
      | zero =>
        rw [hd] at hh
        simp only [List.getElem?_cons_zero, Option.some.injEq] at hh
        exact .inl hh.symm
      | succ n =>
        rw [hd] at hh
        simp at hh
    rcases this with rfl | h'
    · have : (Nat.ble 0 (s / 64) && Nat.ble (o + 4) cs.length) = false := by
        rw [Bool.and_eq_false_iff]
        refine .inr ?_
        rw [Bool.eq_false_iff]
        intro e
        rw [Nat.ble_eq] at e
        omega
      rw [this]
      rfl
    · exact h'.elim
  · rfl
theorem SubW.only {b r : Nat} {nx : Int} {S : SubL} (h : SubW σ b r nx S) : ∀ j, j = b → ∀ o s, σ.rdN ⟨j, o, some s⟩ 4 = none := fun j hj o s => by
  subst hj
  exact h.st.no4 (by simp) o s
end
section
variable {σ : AHeap}
theorem visB_of {x : Addr} (h : Vis σ NoB x) : visB σ x = true := by
  unfold visB
  rcases h with h | ⟨h, _⟩
  · simp [h]
  · rw [Bool.or_eq_true]
    exact .inr (by rw [Nat.blt_eq]; exact h)
theorem readL_full {f : List Value → Option AT} {x : Addr} : ∀ (l : List AT) (i : Nat), (∀ j (h : j < l.length), ∃ cs, σ.rdN (aadd x ((i + j) * 4)) 4 = some cs ∧ f cs = some l[j]) → readL f σ x l.length i = some l
  | [], _, _ => rfl
  | a :: l, i, h => by
    obtain ⟨cs, h1, h2⟩ := h 0 (by simp)
    rw [Nat.add_zero] at h1
    have ih := readL_full l (i + 1) fun j hj => by
      obtain ⟨cs, q1, q2⟩ := h (j + 1) (by simpa using hj)
      exact ⟨cs, by rw [show i + 1 + j = i + (j + 1) by omega]; exact q1, by simpa using q2⟩
    rw [List.length_cons]
    unfold readL
    rw [h1]
    simp only
    rw [show f cs = some a by simpa using h2, ih]
theorem readT_full : ∀ (k : Nat) (t : AT), AFull σ t → (cntM t).toNat < k → readT σ k t.c = some t
  | 0, _, _, h => by omega
  | k + 1, t, ht, hk => by
    obtain ⟨p, cap, hc, hrow⟩ := ht.row
    have hlen := ht.len
    have hcnt := cnt_eq t
    have hpos := cntL_pos t.args
    obtain ⟨⟨a, c⟩, l⟩ := t
    have hc : c = tcells a (.slice p l.length cap) := hc
    simp only [Tr.args] at hrow hlen hcnt hpos
    subst hc
    show readT σ (k + 1) (tcells a (.slice p l.length cap)) = some _
    unfold readT
    simp only
    have hb : Nat.ble l.length 1000 = true := by rw [Nat.ble_eq]; exact hlen
    rw [hb, cond_true]
    cases l with
    | nil => rfl
    | cons b l =>
      obtain ⟨x, cs, rfl, hv, _⟩ := hrow 0 (by simp)
      simp only [List.length_cons, visB_of hv, cond_true]
      rw [show readL (readT σ k) σ x (l.length + 1) 0 = some (b :: l) from readL_full (b :: l) 0 fun j hj => by
        obtain ⟨x', cs', e, _, q3, q4, q5⟩ := hrow j hj
        cases e
        rw [Nat.zero_add]
        refine ⟨cs', q3, ?_⟩
        rw [q4]
        refine readT_full k _ q5 ?_
        have := cntL_mem (List.getElem_mem hj)
        omega]
theorem readS_full {k : Nat} : ∀ (S : SubL), (∀ p ∈ S, AFull σ p.2) → (∀ p ∈ S, (cntM p.2).toNat < k) → readS σ k (esOf S) = some S
  | [], _, _ => rfl
  | (v, t) :: S, h1, h2 => by
    show readS σ k ((.int .i64 v, .agg t.c.toArray) :: esOf S) = _
    unfold readS
    simp only
    rw [show readT σ k t.c = some t from readT_full k t (h1 (v, t) (by simp)) (h2 (v, t) (by simp)), readS_full S (fun p hp => h1 p (by simp [hp])) fun p hp => h2 p (by simp [hp])]
theorem isTy_of {t : AT} (h : AFull σ t) : isTy (.agg t.c.toArray) = true := by
  obtain ⟨p, cap, hc⟩ := h.cells
  rw [hc]
  rfl
theorem tyEnts_of : ∀ (S : SubL), (∀ p ∈ S, AFull σ p.2) → (S.map (·.1)).Nodup → (∀ p ∈ S, 0 ≤ p.1 ∧ p.1 ≤ 1999) → tyEnts (esOf S) = true
  | [], _, _, _ => rfl
  | (v, t) :: S, h1, h2, h3 => by
    rw [List.map_cons, List.nodup_cons] at h2
    have hv := h3 (v, t) (by simp)
    show tyEnts ((.int .i64 v, .agg t.c.toArray) :: esOf S) = true
    unfold tyEnts
    simp only at hv
    simp only [Bool.and_eq_true, decide_eq_true_eq, List.all_eq_true, Bool.not_eq_true']
    refine ⟨⟨⟨⟨by omega, by omega⟩, isTy_of (h1 (v, t) (by simp))⟩, fun p hp => ?_⟩, tyEnts_of S (fun p hp => h1 p (by simp [hp])) h2.2 fun p hp => h3 p (by simp [hp])⟩
    obtain ⟨q, hq, rfl⟩ := List.mem_map.1 hp
    unfold keyIs
    have : q.1 ≠ v := fun e => h2.1 (List.mem_map.2 ⟨q, hq, e⟩)
    simp [this]
end

/-- What Unify answers, and what variables stand for behind it. -/
def unifyM (S : SubL) (x y : AT) : Int × SubL := bif goodM x && goodM y then (match oneM UF S x y with
  | some (e, S') => bif decide (e = 0) then (match allSmall UF S' S' with
    | some true => (0, S')
    | _ => (2, S)) else (e, S)
  | none => (0, S)) else (1, S)
theorem ok_good {t : AT} (h : goodM t = true) : Ok t := by
  unfold goodM at h
  simp only [Bool.and_eq_true, decide_eq_true_eq] at h
  refine ⟨h.2, ?_⟩
  have := measM_cnt t 0 (by omega) (by omega)
  omega
theorem unifyM_inv {S : SubL} {x y : AT} (hS : Inv S) : Inv (unifyM S x y).2 := by
  unfold unifyM
  cases hg : (goodM x && goodM y) with
  | false => exact hS
  | true =>
    simp only [cond_true]
    rw [Bool.and_eq_true] at hg
    obtain ⟨e, S', h1, h2, h3⟩ := one_uf hS (ok_good hg.1) (ok_good hg.2)
    rw [h1]
    simp only
    cases decide (e = 0) with
    | false => exact hS
    | true =>
      simp only [cond_true]
      split
      · exact h2
      · exact hS

theorem unify_act {σ : AHeap} {b r : Nat} {nx : Int} {S : SubL} {x y : AT} (hw : SubW σ b r nx S) (hS : Inv S) (hx : AFull σ x) (hy : AFull σ y) (cx : cntM x ≤ 1000000) (cy : cntM y ≤ 1000000) :
    ∃ σ' r', unifyG [.pointer (some ⟨b, 0, some 0⟩), .agg x.c.toArray, .agg y.c.toArray] σ = some (.int .i64 (unifyM S x y).1, σ') ∧ Frm σ σ' (· = b) ∧ SubW σ' b r' nx (unifyM S x y).2 ∧ (r' = r ∨ σ.n ≤ r') := by
  have rx : readT σ UF x.c = some x := readT_full UF x hx (by simp only [UF]; omega)
  have ry : readT σ UF y.c = some y := readT_full UF y hy (by simp only [UF]; omega)
  unfold unifyG unifyM
  simp only [rx, ry]
  cases hg : (goodM x && goodM y) with
  | false => exact ⟨σ, r, rfl, Frm.refl _ _, hw, .inl rfl⟩
  | true =>
  simp only [cond_true]
  have hrd : σ.rdN ⟨b, 0, some 0⟩ 2 = some [.int .i64 nx, .map (some r)] := by
    have := hw.st.ldAll 2 rfl
    unfold ldN at this
    split at this
    · rename_i vs hvs
      simp only [Option.some.injEq, Prod.mk.injEq, Value.agg.injEq, and_true] at this
      rw [hvs]
      have h2 := congrArg Array.toList this
      simpa using h2
    · cases this
  have hrs : readS σ UF (esOf S) = some S := readS_full S hw.full fun p hp => by
    have := (hS.ok p hp).le
    simp only [UF]
    omega
  have hte : (tyEnts (esOf S) && Nat.ble (esOf S).length 100000) = true := by
    rw [tyEnts_of S hw.full hS.keys hS.rng]
    have := hS.len
    simp only [Bool.true_and, Nat.ble_eq, esOf, List.length_map]
    omega
  rw [Bool.and_eq_true] at hg
  have hxo := ok_good hg.1
  have hyo := ok_good hg.2
  obtain ⟨e, S', h1, h2, h3⟩ := one_uf hS hxo hyo
  rw [hrd]
  simp only [hw.sub.map, hte, cond_true, hrs, h1]
  by_cases he : e = 0
  case neg =>
    rw [decide_eq_false he]
    exact ⟨σ, r, rfl, Frm.refl _ _, hw, .inl rfl⟩
  subst he
  simp only [decide_true, cond_true]
  have hF' : ∀ p ∈ S', AFull σ p.2 := oneM_pres (P := AFull σ) (fun t ht u hu => ht.arg hu) (fun n => varT_full σ n) UF S x y 0 S' hw.full hx hy h1
  have hte' : (tyEnts (esOf S') && Nat.ble S'.length 100000) = true := by
    rw [tyEnts_of S' hF' h2.keys h2.rng]
    have := h2.len
    simp only [Bool.true_and, Nat.ble_eq]
    omega
  rw [hte']
  simp only [cond_true]
  obtain ⟨w, hal⟩ := allSmall_uf h2
  rw [hal]
  cases w with
  | false => exact ⟨σ, r, rfl, Frm.refl _ _, hw, .inl rfl⟩
  | true =>
    simp only
    have hFp : Frm σ (σ.push (.map (esOf S'))) NoB := ⟨Nat.le_succ _, rfl, fun j hj _ => get_push_lt _ _ hj, fun f j hj => by
      have hj' : σ.n + 1 ≤ j := hj
      rw [AHeap.get_push, if_neg (by omega)]
      exact f j (by omega)⟩
    have hst := hFp.stN hw.st
    have e := hst.stC (off := 1) (v := .map (some σ.n)) (by simp) rfl
    rw [show aadd ⟨b, 0, some 0⟩ 1 = ⟨b, 0 + 1, some 0⟩ from rfl, Nat.zero_add, e]
    simp only
    have hb := hw.st.1
    have hFq : Frm (σ.push (.map (esOf S'))) ((σ.push (.map (esOf S'))).put b (.blk ⟨[.int .i64 nx, .map (some σ.n)], 0, [2], 0⟩)) (· = b) := Frm.put _ _ _ hst.1
    have hFb : Frm σ ((σ.push (.map (esOf S'))).put b (.blk ⟨[.int .i64 nx, .map (some σ.n)], 0, [2], 0⟩)) (· = b) := hFp.no.seq hFq
    refine ⟨_, σ.n, rfl, hFb, SubW.of (hst.put rfl) ?_ ?_ fun p hp => ?_, .inr (Nat.le_refl _)⟩
    · show σ.n < _
      simp
    · rw [AHeap.get_put, if_neg (by omega), get_push_same]
    · exact (hF' p hp).step4 hFb hw.only
end Go.Pg
