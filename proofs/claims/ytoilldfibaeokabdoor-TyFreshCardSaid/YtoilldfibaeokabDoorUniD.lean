/- Layer 5: Apply; how large what a type stands for is; that it does not matter which of two comes first. -/
import Derived.Test.YtoilldfibaeokabDoorUniB
namespace Go.Pg
open Go.Proofs

section
variable {σ σ' : AHeap} {b r b1 : Nat} {nx : Int} {S : SubL}
theorem SubW.other {cs : List Value} (h : SubW σ b r nx S) (f : Frm σ σ' (· = b1)) (h1 : St σ b1 cs) (hl : cs.length < 4) (hb : b ≠ b1) : SubW σ' b r nx S := by
  have hr : r ≠ b1 := fun e => by
    have h2 := h.map
    rw [e, h1.2] at h2
    cases h2
  refine SubW.of (f.st h.st hb) (Nat.lt_of_lt_of_le h.lt f.n) ?_ fun p hp => (h.full p hp).step4 f fun j hj o s => by subst hj; exact h1.no4 hl o s
  rw [f.get r h.lt hr]
  exact h.map
theorem St.other {cs : List Value} (h : St σ b cs) (f : Frm σ σ' (· = b1)) (hb : b ≠ b1) : St σ' b cs := f.st h hb
end

mutual
/-- Names of a text's size, at most two arguments. -/
def NW : Tr TA → Prop
  | .mk a l => a.name.size ≤ 60 ∧ l.length ≤ 2 ∧ NWL l
def NWL : List (Tr TA) → Prop
  | [] => True
  | a :: l => NW a ∧ NWL l
end
theorem NWL_mem : ∀ {l : List (Tr TA)}, NWL l → ∀ a ∈ l, NW a
  | b :: l, h, a, ha => by
    rw [NWL] at h
    rcases List.mem_cons.1 ha with rfl | ha
    · exact h.1
    · exact NWL_mem h.2 a ha
theorem NWL_of : ∀ {l : List (Tr TA)}, (∀ a ∈ l, NW a) → NWL l
  | [], _ => by rw [NWL]; trivial
  | b :: l, h => by
    rw [NWL]
    exact ⟨h b (by simp), NWL_of fun a ha => h a (by simp [ha])⟩
abbrev NA (t : AT) : Prop := NW (strip t)
theorem NA.arg {t u : AT} (h : NA t) (hu : u ∈ t.args) : NA u := by
  obtain ⟨d, l⟩ := t
  unfold NA at h
  rw [strip, NW, stripL_map] at h
  exact NWL_mem h.2.2 _ (List.mem_map_of_mem hu)
theorem NA.varT (n : Int) : NA (varT n) := by
  unfold NA Go.Pg.varT
  rw [strip, NW, stripL]
  exact ⟨show (bs []).size ≤ 60 by decide, by simp, by rw [NWL]; trivial⟩
theorem NA.of : ∀ (n : Nat) (t : AT), Fits nmA n t → Ok t → NA t
  | 0, _, h, _ => h.elim
  | n + 1, .mk d l, ⟨_, h2, h3⟩, ho => by
    unfold NA
    rw [strip, NW, stripL_map]
    refine ⟨h2, ?_, NWL_of fun a ha => ?_⟩
    · have := ho.len
      have : (l.length : Int) = argsM d.1.kind := this
      unfold argsM at this
      rw [List.length_map]
      split at this
      · omega
      · split at this <;> omega
    · obtain ⟨u, hu, rfl⟩ := List.mem_map.1 ha
      exact NA.of n u (h3 u hu) (ho.arg (t := .mk d l) hu).1

/-- A type of one's own, as a tree with its cells. -/
theorem full_T {σ : AHeap} {Y : Nat → Prop} : ∀ (k : Nat) (T : Tr TA) (cs : List Value), SizeOf.sizeOf T ≤ k → NW T → (∀ n, VIn L4 σ Y n cs T) → ∃ u : AT, u.c = cs ∧ AFull σ u ∧ strip u = T := by
  intro k
  induction k with
  | zero => intro T cs h; cases T; simp at h
  | succ k ih =>
    rintro ⟨a, args⟩ cs hk hw hV
    rw [NW] at hw
    obtain ⟨_, e, p, cap, rfl⟩ := hV 0
    simp only [Tr.a, Tr.args] at *
    have hrow : ∀ n, RowOf σ Y 4 (VIn L4 σ Y n) p args := fun n => by
      obtain ⟨_, e', p', cap', hc, hr⟩ := hV (n + 1)
      simp only [Tr.a, Tr.args, List.cons.injEq, Value.slice.injEq, true_and, and_true] at hc
      rw [hc.1]
      exact hr
    obtain ⟨us, hul, hus⟩ := choose_list (α := AT) args.length (fun i u => ∃ h : i < args.length, ∃ x cs, p = some x ∧ Vis σ NoB x ∧ σ.rdN (aadd x (i * 4)) 4 = some cs ∧ u.c = cs ∧ AFull σ u ∧ strip u = args[i]) (fun i hi => by
      obtain ⟨x, cs, q1, q2, q3, _⟩ := hrow 0 i hi
      have hall : ∀ n, VIn L4 σ Y n cs args[i] := fun n => by
        obtain ⟨x', cs', r1, _, r3, r4⟩ := hrow n i hi
        rw [q1] at r1
        cases r1
        rw [q3] at r3
        cases r3
        exact r4
      have := List.sizeOf_lt_of_mem (List.getElem_mem hi)
      simp only [Tr.mk.sizeOf_spec] at hk
      obtain ⟨u, s1, s2, s3⟩ := ih args[i] cs (by omega) (NWL_mem hw.2.2 _ (List.getElem_mem hi)) hall
      exact ⟨u, hi, x, cs, q1, q2.imp id fun h => ⟨h.1, fun h => h⟩, q3, s1, s2, s3⟩)
    refine ⟨.mk (a, L4.cells a e (.slice p args.length cap)) us, rfl, ?_, ?_⟩
    · refine AFull.of (p := p) (cap := cap) (by simp only [Tr.args]; omega) (by simp only [Tr.args, hul, AT.c, Tr.a]) fun i hi => ?_
      obtain ⟨hi', x, cs, q1, q2, q3, q4, q5, _⟩ := hus i hi
      exact ⟨x, cs, q1, q2, q3, q4.symm, q5⟩
    · rw [strip, stripL_map]
      congr 1
      refine List.ext_getElem (by simp [hul]) fun i h1 h2 => ?_
      obtain ⟨hi', _, _, _, _, _, _, _, q6⟩ := hus i (by simpa using h1)
      rw [List.getElem_map, q6]

section
variable {ov : Ov} {σ : AHeap} {b r : Nat} {nx : Int} {S : SubL}
theorem wp_Apply (hO : OvT ov) {t : AT} {T : Tr TA} {k : Nat} (hs : SubIn σ b r nx S) (ht : AFull σ t) (hg : goodM t = true) (hT : appM k S t = some T) (hN : NW T) :
    WpF PROG ov 9 [.pointer (some ⟨b, 0, some 0⟩), .agg t.c.toArray] σ fun v σ' => Frm σ σ' NoB ∧ ∃ u : AT, v = .agg u.c.toArray ∧ AFull σ' u ∧ strip u = T := by
  have hz := fun σ' (hF : Frm σ σ' NoB) => wp_Good hO (ht.frm hF)
  have hw := fun σ' (hF : Frm σ σ' NoB) => wp_apply hO k σ' t T (hs.frm hF) (ht.frm hF) hT
  obtain ⟨p, cap, hc⟩ := ht.cells
  rw [hc] at hz hw ⊢
  refine WpF.of (T9_eq _ _ _ _ _ _ _) (hO _ (by decide) (by decide) (by decide)) ?_
  rw [T9]
  refine wp_newQ fun σ1 hF1 hn1 hS1 => ?_
  refine wp_newQ fun σ2 hF2 hn2 hS2 => ?_
  have hS1 := hF2.stN hS1
  have hF02 := hF1.seq hF2
  rw [wp_ldAll hS1 4 rfl]
  simp only [asAgg_agg, asCons_cons, asInt_int, asStr_str, asSlice_slice, asNil_nil]
  rw [wp_call]
  refine WpF.mono (hz σ2 hF02) ?_
  rintro _ σ3 ⟨rfl, hF3⟩
  have hF03 := hF02.seq hF3
  rw [asBool_bool, wp_bif, hg, if_neg (by simp), wp_ldAll (hF3.stN hS1) 4 rfl]
  simp only [asAgg_agg, asCons_cons, asInt_int, asStr_str, asSlice_slice, asNil_nil]
  rw [wp_call]
  refine WpF.mono (hw σ3 hF03) ?_
  rintro _ σ4 ⟨hF4, cs', rfl, hV⟩
  obtain ⟨_, e2, p2, c2, rfl⟩ := (hV 0).cells
  simp only [asAgg_agg, asCons_cons, asInt_int, asStr_str, asSlice_slice, asNil_nil]
  have hn3 := hF3.n
  have hn4 := hF4.n
  refine wp_stQ (hF4.stN (hF3.stN hS2)) rfl rfl fun σ5 hF5 hn5 hS5 => ?_
  rw [wp_ldAll hS5 4 rfl, wp_ret]
  obtain ⟨u, h1, h2, h3⟩ := full_T (σ := σ5) (Y := fun j => j < σ3.n) _ T _ (Nat.le_refl _) hN fun n => (hV n).step hF5 (fun i hi h => by omega) (fun i hi h => h)
  exact ⟨_, rfl, (hF03.seq hF4).fresh hF5 fun i hi h => by omega, u, by rw [h1], h2, h3⟩
end
end Go.Pg
