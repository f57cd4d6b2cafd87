/- Layer 17: FramePlays: the stack and the document's, side by side. -/
import Derived.Test.YteelimkplbfiiaaRef7
import Derived.Test.YteelimkplbfiiaaFAwake
namespace Go.Pg
open Go.Proofs

abbrev shAct : Sh := .fld 0 (.int .i64) (.fld 1 (.int .i64) (.fld 2 (.int .i64) (.fld 3 (.int .i64) (.fld 4 (.int .u64) (.fld 5 (.row 1 (.int .u64)) .fin)))))

theorem snoc_cases {α : Type} (l : List α) : l = [] ∨ ∃ a x, l = a ++ [x] := by
  rcases List.eq_nil_or_concat l with h | ⟨a, x, h⟩
  · exact .inl h
  · exact .inr ⟨a, x, by rw [h, List.concat_eq_append]⟩
theorem shp_uniq : ∀ {a b : List Fv}, a.map shp = b.map shp → flat a = flat b → a = b
  | [], [], _, _ => rfl
  | [], _ :: _, h, _ => by cases h
  | _ :: _, [], h, _ => by cases h
  | x :: a, y :: b, h, k => by
    simp only [List.map_cons, List.cons.injEq, shp, Prod.mk.injEq] at h
    obtain ⟨⟨h1, h2, h3, h4⟩, h5⟩ := h
    unfold flat at k
    simp only [List.flatMap_cons, List.append_assoc] at k
    obtain ⟨k1, k2⟩ := List.append_inj k h3
    obtain ⟨k3, k4⟩ := List.append_inj k2 h4
    have ih := shp_uniq (a := a) (b := b) (by simpa [shp] using h5) k4
    cases x
    cases y
    simp only at h1 h2 k1 k3
    subst h1
    subst h2
    subst k1
    subst k3
    rw [ih]
theorem past_ok2 {h : Act} {v : Value} {σ τ : AHeap} (e : h σ = some (v, σ)) (k : h τ = some (v, τ)) : past h v [σ, τ] = true := by
  simp [past, chkAt, e, k, eqv_same]
theorem wp_ldG {P : Program} {ov : Ov} {old : Addr → Option Value} {σ : AHeap} (ho : σ.old = old) {a : Addr} {v0 : Value} {vs : List Value} (h : ∀ i v, (v0 :: vs)[i]? = some v → Cl old (aadd a i) v) (n : Nat) (hn : n = (v0 :: vs).length) (g : Value → Pg) (Q : Post) :
    Wp P ov (.act (ldN n a) g) σ Q = Wp P ov (g (.agg (v0 :: vs).toArray)) σ Q := by
  subst hn
  have hs : a.spot = none := (h 0 v0 rfl).old.1
  obtain ⟨b, o, s⟩ := a
  simp only at hs
  subst hs
  have e := oldN_all (old := old) (b := b) (v0 :: vs) o fun i v hv => (h i v hv).old.2
  have e2 : ldN (v0 :: vs).length ⟨b, o, none⟩ σ = some (.agg (v0 :: vs).toArray, σ) := by
    unfold ldN AHeap.rdN
    simp only [ho, e]
  rw [wp_act, e2]

structure Duo (σ : AHeap) (S Z room : Nat) (Yp Yq : Nat → Prop) (vs ws : List Fv) : Prop where
  p : Stk σ S room Yp vs
  q : RK σ Z room Yq ws
  c : ∀ i, i < σ.n → ¬ Yp i → Yq i
def upY (σ σ' : AHeap) (Y : Nat → Prop) : Nat → Prop := fun i => (Y i ∨ σ.n ≤ i) ∧ i < σ'.n
section
variable {σ σ' : AHeap} {S Z room : Nat} {Yp Yq : Nat → Prop} {vs ws : List Fv}
theorem Duo.P {vs' : List Fv} (D : Duo σ S Z room Yp Yq vs ws) (F : Frm σ σ' fun j => ¬ Yp j) (h : Stk σ' S room Yp vs') : Duo σ' S Z room Yp (upY σ σ' Yq) vs' ws :=
  ⟨h, D.q.step (T := fun j => j < σ.n ∧ ¬ Yp j) (F.mono fun j hj h => ⟨hj, h⟩) (fun i h => D.c i h.1 h.2) (fun i hi => ⟨hi.2, hi.1⟩), fun i hi hn => ⟨by
    by_cases hlt : i < σ.n
    · exact .inl (D.c i hlt hn)
    · exact .inr (by omega), hi⟩⟩
theorem Duo.Q {ws' : List Fv} (D : Duo σ S Z room Yp Yq vs ws) (F : Frm σ σ' fun j => ¬ Yq j) (h : RK σ' Z room Yq ws') : Duo σ' S Z room (upY σ σ' Yp) Yq vs ws' :=
  ⟨D.p.step F (fun i hi hn => by
    by_cases hp : Yp i
    · exact hp
    · exact absurd (D.c i hi hp) hn) (fun i hi => ⟨hi.2, hi.1⟩), h, fun i hi hn => by
    by_cases hlt : i < σ.n
    · exact D.c i hlt fun hp => hn ⟨.inl hp, hi⟩
    · exact absurd ⟨.inr (by omega), hi⟩ hn⟩
theorem Duo.N (D : Duo σ S Z room Yp Yq vs ws) (F : Frm σ σ' NoB) : Duo σ' S Z room (upY σ σ' Yp) (upY σ σ' Yq) vs ws :=
  ⟨D.p.step F (fun _ _ h => h.elim) (fun i hi => ⟨hi.2, hi.1⟩), D.q.step F (fun _ h => h.elim) (fun i hi => ⟨hi.2, hi.1⟩), fun i hi hn => ⟨by
    by_cases hlt : i < σ.n
    · exact .inl (D.c i hlt fun hp => hn ⟨.inl hp, hi⟩)
    · exact .inr (by omega), hi⟩⟩
theorem upY_B {B : Nat} {Y : Nat → Prop} (F : σ.n ≤ σ'.n) (hY : Y B) (hB : B < σ.n) : upY σ σ' Y B := ⟨.inl hY, by omega⟩

/-- All that is looked at is alike. -/
theorem wp_look (D : Duo σ S Z room Yp Yq vs vs) (at' : Int) {Q : Post} (k : ∀ σ', Frm σ σ' NoB → Q .normal [.bool false] σ') : Wp PROG ov0 (T6k7 (some (PA S)) at' (PA Z) false .normal [.bool true]) σ Q := by
  have hfit := D.p.fit
  have hg : ∃ x e, EvF PROG ov0 12 [PV S, .int .i64 at'] σ (.tuple #[.int .u64 x, .int .i64 e]) σ ∧ EvF PROG ov0 33 [PV Z, .int .i64 at'] σ (.tuple #[.int .u64 x, .int .i64 e]) σ := by
    rcases snoc_cases vs with rfl | ⟨us, v, rfl⟩
    · exact ⟨_, _, ev_getK_none D.p at', ev_getR_none D.q at'⟩
    · have a1 := ev_getKA D.p at'
      have a2 := ev_getR D.q at'
      by_cases hi : 0 ≤ at' ∧ at' < (v.sl.length : Nat)
      · rw [if_pos hi] at a1 a2
        exact ⟨_, _, a1, a2⟩
      · rw [if_neg hi] at a1 a2
        exact ⟨_, _, a1, a2⟩
  have ha : ∃ m, EvF PROG ov0 21 [PV S] σ (.int .i64 m) σ ∧ EvF PROG ov0 35 [PV Z] σ (.int .i64 m) σ := by
    rcases snoc_cases vs with rfl | ⟨us, v, rfl⟩
    · exact ⟨_, ev_addedK_none D.p, ev_addedR_none D.q⟩
    · exact ⟨_, ev_addedK D.p, ev_addedR D.q⟩
  obtain ⟨x, e, g1, g2⟩ := hg
  obtain ⟨m, a1, a2⟩ := ha
  have hcl : (callsV vs).length ≤ 100000 := by simp [callsV]; omega
  have hfl : (flat vs).length ≤ 100000 := by have := flat_len vs; omega
  simp only [T6k7, sw_same, asCons_cons, asBool_bool, asNil_nil]
  rw [wp_call, WpF.eq g1]
  simp only [asTuple_tuple, asCons_cons, asInt_int, asNil_nil]
  rw [wp_call, WpF.eq g2]
  simp only [asTuple_tuple, asCons_cons, asInt_int, asNil_nil]
  rw [wp_join, wp_bif, if_pos (by simp), wp_call, WpF.eq (ev_depthK D.p), asInt_int, wp_call, WpF.eq (ev_depthR D.q), asInt_int, wp_bif, if_pos (by simp), wp_call, WpF.eq a1, asInt_int, wp_call, WpF.eq a2, asInt_int, wp_bif, if_pos (by simp), wp_call]
  refine wp_callsK D.p fun σ1 b1 p1 c1 hF1 hR1 _ => ?_
  rw [asSlice_slice, wp_call]
  have D1 := D.N hF1
  refine wp_callsR D1.q fun σ2 b2 p2 c2 hF2 hR2 _ => ?_
  have D2 := D1.N hF2
  rw [asSlice_slice, wp_call, WpF.eq (ev_ints24 (hR1.frm hF2 fun _ h => h).rdB.rd hR2.rdB.rd hcl c1 c2), asBool_bool, wp_bif, if_pos (by simp), wp_call]
  refine wp_rootsK D2.p fun σ3 b3 p3 c3 hF3 hR3 _ => ?_
  have D3 := D2.N hF3
  rw [asSlice_slice, wp_call]
  refine wp_words17 (fun σ' hF => (hR3.frm hF fun _ h => h).rdB.rd) hfl c3 fun σ4 b4 p4 c4 hF4 hR4 _ => ?_
  have D4 := D3.N hF4
  rw [asSlice_slice, wp_call]
  refine wp_rootsR D4.q fun σ5 b5 p5 c5 hF5 hR5 _ => ?_
  rw [asSlice_slice, wp_call, WpF.eq (ev_same20 (hR4.frm hF5 fun _ h => h).rdB.rd hR5.rdB.rd hfl c4 c5), asBool_bool, wp_ret]
  simp only [T6k6, sw_same, asCons_cons, asBool_bool, asNil_nil]
  rw [wp_bif, if_neg (by simp), wp_ret]
  exact k σ5 ((((hF1.seq hF2).seq hF3).seq hF4).seq hF5)
end
end Go.Pg
