/- Layer 12: two heaps that go on side by side; rows that are given. -/
import Derived.Test.YtndkndlfhmkkkaaHeap12
import Derived.Test.YtndkndlfhmkkkaaArgSt
import Derived.Test.YtndkndlfhmkkkaaTabF
namespace Go.Pg
open Go.Proofs

def goodR1 : Option (Value × AHeap) → Bool
  | some (.bool b, σ) => b && Nat.ble σ.mem.bnd σ.n && Nat.ble 1 σ.n
  | _ => false
def getR0 : Option (Value × AHeap) → Option AObj
  | some (_, σ) => σ.get 0
  | none => none
theorem awake12b (old : Addr → Option Value) (cs : List Value) : WpF PROG ov0 9 [] ((startH old).newBlk cs 0) fun v σ' => v = .bool true ∧ σ'.old = old ∧ Fresh σ' ∧ St σ' 0 cs := by
  have h : goodR1 (execTab ov0 TAB 10000 9 [] ((startH old).newBlk cs 0)) = true := by kernel_rfl
  have ho : oldR old (execTab ov0 TAB 10000 9 [] ((startH old).newBlk cs 0)) = old := by kernel_rfl
  have hg : getR0 (execTab ov0 TAB 10000 9 [] ((startH old).newBlk cs 0)) = some (.blk ⟨cs, 0, [cs.length], 0⟩) := by kernel_rfl
  cases hx : execTab ov0 TAB 10000 9 [] ((startH old).newBlk cs 0) with
  | none => rw [hx] at h; cases h
  | some r =>
    obtain ⟨v, σ'⟩ := r
    rw [hx] at h ho hg
    refine ⟨v, σ', EvF.tab TAB_ok 10000 hx, ?_⟩
    unfold goodR1 at h
    split at h
    · rename_i heq
      simp only [Option.some.injEq, Prod.mk.injEq] at heq
      obtain ⟨rfl, rfl⟩ := heq
      simp only [Bool.and_eq_true, Nat.ble_eq] at h
      exact ⟨by rw [h.1.1], ho, fun j hj => Tri.bnd_ok _ _ (Nat.le_trans h.1.2 hj), by omega, hg⟩
    · cases h

abbrev shAct : Sh := .fld 0 (.int .i64) (.fld 1 (.int .i64) (.fld 2 (.int .i64) (.fld 3 (.int .i64) (.fld 4 (.int .u64) (.fld 5 (.int .u64) (.fld 6 (.row 1 (.int .u64)) .fin))))))
theorem u64_bnd (w : Int) (h : (Lit.int .u64 w).wf = true) : 0 ≤ w ∧ w < 18446744073709551616 := by
  simp [Lit.wf, IntKind.min, IntKind.max, IntKind.signed, IntKind.bits] at h
  omega
theorem u8_bnd (w : Int) (h : (Lit.int .u8 w).wf = true) : 0 ≤ w ∧ w ≤ 255 := by
  simp [Lit.wf, IntKind.min, IntKind.max, IntKind.signed, IntKind.bits] at h
  omega
theorem wp_cl {P : Program} {ov : Ov} {old : Addr → Option Value} {a : Addr} {v : Value} (h : Cl old a v) {σ : AHeap} (ho : σ.old = old) (g : Value → Pg) (Q : Post) : Wp P ov (.act (ld1 a) g) σ Q = Wp P ov (g v) σ Q := by
  rw [wp_act, h σ ho]
theorem wp_grdJ {P : Program} {ov : Ov} {σ : AHeap} {j n : Nat} (h : j < n) (p : Pg) (Q : Post) : Wp P ov (grd (decide (0 ≤ ((j : Nat) : Int)) && decide (((j : Nat) : Int) < ((n : Nat) : Int))) p) σ Q = Wp P ov p σ Q := by
  have e : (decide (0 ≤ ((j : Nat) : Int)) && decide (((j : Nat) : Int) < ((n : Nat) : Int))) = true := by simp; omega
  rw [wp_grd, e]
  simp
theorem chks_cl2 {old : Addr → Option Value} {a b : Addr} {v w : Value} (h : Cl old a v) (k : Cl old b w) {σ : AHeap} (ho : σ.old = old) : chks [(ld1 a, v), (ld1 b, w)] σ = true := by
  simp [chks, chkAt, h σ ho, k σ ho, eqv_same]

theorem RdR.src {old : Addr → Option Value} {k : IntKind} {p : Option Addr} {c : Nat} {l : List Int} (h : RdR old 1 (.int k) p l) (hc : l.length ≤ c) (hs : ∀ a, p = some a → a.spot = none) {σ : AHeap} (ho : σ.old = old) : Src σ k p c l := by
  refine ⟨fun σ' hF j hj i hi => ?_, fun j _ => ?_, hc⟩
  · have hi' : j + i < l.length := by simp at hi; omega
    obtain ⟨x, rfl, hx⟩ := h (j + i) hi'
    refine ⟨aadd x j, rfl, ?_⟩
    have e : (l.drop j).getD i 0 = l[j + i] := by simp [List.getD, hi']
    have ea : aadd (aadd x j) (i * 1) = aadd x ((j + i) * 1) := by simp [aadd, Nat.add_assoc]
    rw [e, ea]
    exact hx σ' (hF.old.trans ho)
  · cases p with
    | none => rfl
    | some a =>
      have := hs a rfl
      obtain ⟨b, o, s⟩ := a
      simp only at this
      subst this
      rfl

/-- A heap that is made of acts. -/
def MadeH (σ : AHeap) (S : Nat) (Y : Nat → Prop) (room : Int) : Prop := ∃ words heads, HP σ S Y room 0 words heads ∧ VH words heads ∧ (words.length : Int) ≤ room

theorem wp_makeV {σ : AHeap} {S R c : Nat} {Y : Nat → Prop} {room : Int} {p : Option Addr} {ws : List Int} (h : MadeH σ S Y room) (hr : SlV σ R p c (ints .u64 ws)) (hRY : p ≠ none → Y R) (hw : ∀ w ∈ ws, 0 ≤ w ∧ w < 18446744073709551616) (hrm : 0 ≤ room ∧ room ≤ 65536) (hl2 : ws.length ≤ 100000) (kind tag : Int) {Q : Value → AHeap → Prop}
    (hQ : ∀ σ' a e, Frm σ σ' (fun j => ¬ Y j) → MadeH σ' S Y room → Q (.tuple #[.int .u64 a, .int .i64 e]) σ') : WpF PROG ov0 12 [PV S, .int .i64 kind, .int .i64 tag, .slice p ws.length c] σ Q := by
  obtain ⟨words, heads, h1, h2, h3⟩ := h
  refine wp_makeH h1 hr hRY (fun w h => (hw w h).1) hrm (by omega) hl2 kind tag ?_ ?_ ?_
  · intro _ σ' hF hH
    exact hQ σ' _ _ hF ⟨words, heads, hH, h2, h3⟩
  · intro _ _ _ σ' hF hH
    exact hQ σ' _ _ hF ⟨words, heads, hH, h2, h3⟩
  · intro hB hm hfit σ' hF hH
    refine hQ σ' _ _ hF ⟨_, _, hH, h2.put kind tag ws hB hm hw, ?_⟩
    rw [List.length_append, List.length_cons]
    omega

open Classical in
/-- What Make answers, and leaves. -/
noncomputable def makeM (room : Int) (words : List Int) (heads : List Bool) (kind tag : Int) (ws : List Int) : Int × Int × List Int × List Bool :=
  if hdB kind tag ws.length = false ∨ ∃ w ∈ ws, mayB heads w = false then (0, 1, words, heads)
  else if ¬ (ws.length : Int) < room - (words.length : Nat) then (0, 8, words, heads)
  else (ptrW words.length, 0, words ++ hdW kind tag ws.length :: ws, heads ++ true :: List.replicate ws.length false)

theorem wp_makeF {σ : AHeap} {S R c : Nat} {Y : Nat → Prop} {room tu : Int} {p : Option Addr} {words : List Int} {heads : List Bool} {ws : List Int} (h : HP σ S Y room tu words heads) (hr : SlV σ R p c (ints .u64 ws)) (hRY : p ≠ none → Y R) (hw : ∀ w ∈ ws, 0 ≤ w) (hrm : 0 ≤ room ∧ room ≤ 65536) (hl : words.length ≤ 100000) (hl2 : ws.length ≤ 100000) (kind tag : Int) {Q : Value → AHeap → Prop}
    (hQ : ∀ σ', Frm σ σ' (fun j => ¬ Y j) → HP σ' S Y room tu (makeM room words heads kind tag ws).2.2.1 (makeM room words heads kind tag ws).2.2.2 → Q (.tuple #[.int .u64 (makeM room words heads kind tag ws).1, .int .i64 (makeM room words heads kind tag ws).2.1]) σ') :
    WpF PROG ov0 12 [PV S, .int .i64 kind, .int .i64 tag, .slice p ws.length c] σ Q := by
  unfold makeM at hQ
  refine wp_makeH h hr hRY hw hrm hl hl2 kind tag ?_ ?_ ?_
  · intro hb σ' hF hH
    rw [if_pos hb] at hQ
    exact hQ σ' hF hH
  · intro hB hm hf σ' hF hH
    rw [if_neg (by rintro (e | ⟨w, hw', e⟩); · rw [hB] at e; cases e
                   · rw [hm w hw'] at e; cases e), if_pos hf] at hQ
    exact hQ σ' hF hH
  · intro hB hm hf σ' hF hH
    rw [if_neg (by rintro (e | ⟨w, hw', e⟩); · rw [hB] at e; cases e
                   · rw [hm w hw'] at e; cases e), if_neg (by simpa using hf)] at hQ
    exact hQ σ' hF hH

theorem makeM_ok {room : Int} {words : List Int} {heads : List Bool} (h : VH words heads) (hl : (words.length : Int) ≤ room) (kind tag : Int) (ws : List Int) (hw : ∀ w ∈ ws, 0 ≤ w ∧ w < 18446744073709551616) : VH (makeM room words heads kind tag ws).2.2.1 (makeM room words heads kind tag ws).2.2.2 ∧ ((makeM room words heads kind tag ws).2.2.1.length : Int) ≤ room ∧ 0 ≤ (makeM room words heads kind tag ws).1 ∧ (makeM room words heads kind tag ws).1 < 18446744073709551616 := by
  unfold makeM
  by_cases h1 : hdB kind tag ws.length = false ∨ ∃ w ∈ ws, mayB heads w = false
  · rw [if_pos h1]
    exact ⟨h, hl, by simp, by simp⟩
  · rw [if_neg h1]
    by_cases h2 : ¬ (ws.length : Int) < room - (words.length : Nat)
    · rw [if_pos h2]
      exact ⟨h, hl, by simp, by simp⟩
    · rw [if_neg h2]
      have hB : hdB kind tag ws.length = true := by
        cases e : hdB kind tag ws.length with
        | true => rfl
        | false => exact absurd (.inl e) h1
      have hm : ∀ w ∈ ws, mayB heads w = true := fun w hw' => by
        cases e : mayB heads w with
        | true => rfl
        | false => exact absurd (.inr ⟨w, hw', e⟩) h1
      refine ⟨h.put kind tag ws hB hm hw, ?_, ptrW_bnd _⟩
      simp only [List.length_append, List.length_cons]
      omega

theorem b2s_act {σ : AHeap} {b cap : Nat} {p : Option Addr} {xs : List Int} (h : SlV σ b p cap (ints .u8 xs)) : bytesToStringAct (.slice p xs.length cap) σ = some (.string (strB xs), σ) := by
  cases p with
  | none =>
    rcases h with ⟨_, _, e⟩ | ⟨_, _, e, _⟩
    · simp at e
      subst e
      rfl
    · cases e
  | some a =>
    have := h.rdN (k := xs.length) (by simp)
    rw [List.take_of_length_le (by simp)] at this
    unfold bytesToStringAct
    simp only [this, bytesOf_ints]
    rfl
theorem objEq_refl (a : Option AObj) : objEq a a = true := by unfold objEq; simp
theorem chkO_one {σ : AHeap} {b : Nat} {o : Option AObj} (h : σ.get b = o) : chkO [(b, o)] σ = true := by
  unfold chkO chkO
  rw [h, objEq_refl]
  rfl

structure Two (σ : AHeap) (S Z : Nat) (Yp Yq : Nat → Prop) (rp tp tq : Int) (W : List Int) (H : List Bool) (W3 : List Int) (H3 : List Bool) : Prop where
  p : HP σ S Yp rp tp W H
  q : HP σ Z Yq rp tq W3 H3
  c : ∀ i, i < σ.n → ¬ Yp i → Yq i

section
variable {σ σ' : AHeap} {S Z : Nat} {Yp Yq : Nat → Prop} {rp tp tq : Int} {W W3 : List Int} {H H3 : List Bool}
theorem Two.neutral (h : Two σ S Z Yp Yq rp tp tq W H W3 H3) (k : Frm σ σ' NoB) : Two σ' S Z (fun i => Yp i ∨ (σ.n ≤ i ∧ i < σ'.n)) (fun i => Yq i ∨ (σ.n ≤ i ∧ i < σ'.n)) rp tp tq W H W3 H3 := by
  have hn := k.n
  refine ⟨h.p.step k (fun i _ h => h.elim) fun i hi => ?_, h.q.step k (fun i _ h => h.elim) fun i hi => ?_, fun i hi hn => ?_⟩
  · rcases hi with hi | hi
    · exact ⟨Nat.lt_of_lt_of_le (h.p.1 i hi) hn, .inl hi⟩
    · exact ⟨hi.2, .inr hi.1⟩
  · rcases hi with hi | hi
    · exact ⟨Nat.lt_of_lt_of_le (h.q.1 i hi) hn, .inl hi⟩
    · exact ⟨hi.2, .inr hi.1⟩
  · by_cases hlt : i < σ.n
    · exact .inl (h.c i hlt fun hy => hn (.inl hy))
    · exact absurd (.inr ⟨by omega, hi⟩) hn
theorem Two.opP {tp' : Int} {W' : List Int} {H' : List Bool} (h : Two σ S Z Yp Yq rp tp tq W H W3 H3) (k : Frm σ σ' (fun j => ¬ Yp j)) (h' : HP σ' S Yp rp tp' W' H') : Two σ' S Z Yp (fun i => Yq i ∨ (σ.n ≤ i ∧ i < σ'.n)) rp tp' tq W' H' W3 H3 := by
  have hn := k.n
  refine ⟨h', h.q.step k (fun i hi hn => h.c i hi hn) fun i hi => ?_, fun i hi hn => ?_⟩
  · rcases hi with hi | hi
    · exact ⟨Nat.lt_of_lt_of_le (h.q.1 i hi) hn, .inl hi⟩
    · exact ⟨hi.2, .inr hi.1⟩
  · by_cases hlt : i < σ.n
    · exact .inl (h.c i hlt hn)
    · exact .inr ⟨by omega, hi⟩
theorem Two.opQ {tq' : Int} {W' : List Int} {H' : List Bool} (h : Two σ S Z Yp Yq rp tp tq W H W3 H3) (k : Frm σ σ' (fun j => ¬ Yq j)) (h' : HP σ' Z Yq rp tq' W' H') : Two σ' S Z (fun i => Yp i ∨ (σ.n ≤ i ∧ i < σ'.n)) Yq rp tp tq' W H W' H' := by
  have hn := k.n
  refine ⟨h.p.step k (fun i hi hn => ?_) fun i hi => ?_, h', fun i hi hn => ?_⟩
  · exact Classical.byContradiction fun hp => hn (h.c i hi hp)
  · rcases hi with hi | hi
    · exact ⟨Nat.lt_of_lt_of_le (h.p.1 i hi) hn, .inl hi⟩
    · exact ⟨hi.2, .inr hi.1⟩
  · by_cases hlt : i < σ.n
    · exact h.c i hlt fun hy => hn (.inl hy)
    · exact absurd (.inr ⟨by omega, hi⟩) hn

theorem wp_words20 {p : Option Addr} {l : List Int} (hst : ∀ σ', Frm σ σ' NoB → RdI σ' .u64 p l) (hs : l.length ≤ 100000) (cap : Nat) {Q : Value → AHeap → Prop}
    (hQ : ∀ σ' b p' cap', Frm σ σ' NoB → SlV σ' b p' cap' (ints .u64 l) → (p' ≠ none → σ.n ≤ b) → Q (.slice p' l.length cap') σ') : WpF PROG ov0 20 [.slice p l.length cap] σ Q := by
  refine WpF.of (T20_eq _ _ _) rfl ?_
  rw [T20]
  refine Wp.count l.length (fun j st σ' => ∃ q qcap b, st = [.int .i64 ((j : Nat) : Int), .slice q j qcap] ∧ Frm σ σ' NoB ∧ SlV σ' b q qcap (ints .u64 (l.take j)) ∧ (q ≠ none → σ.n ≤ b)) ⟨none, 0, 0, rfl, Frm.refl _ _, .inl ⟨rfl, rfl, by simp⟩, fun h => absurd rfl h⟩ ?_ ?_
  · rintro j st σ1 hj ⟨q, qcap, b, rfl, hF1, hq, hqb⟩
    have ej : wi64 ((j : Int) + 1) = ((j + 1 : Nat) : Int) := by rw [wi64_in (by omega)]; omega
    simp only [T20b0, asCons_cons, asInt_int, asSlice_slice, asNil_nil]
    rw [wp_bif, if_pos (by simp; omega), wp_join, wp_rdJ (hst σ1 hF1) hj]
    refine wp_app1 hq (by simp; omega) rfl (by omega) (by omega) fun σ2 b2 off s cap2 hF2 hb2 hR2 => ?_
    rw [wp_ret]
    simp only [T20k0, sw_same, asCons_cons, asSlice_slice, asNil_nil]
    rw [wp_ret, ej]
    have e := ints_take_succ .u64 l j hj
    refine ⟨_, cap2, b2, rfl, hF1.fresh hF2 fun i hi h => by have := hqb h.1; omega, ?_, fun _ => ?_⟩
    · rw [e]
      exact .inr ⟨off, s, rfl, hR2⟩
    · rcases hb2 with ⟨hb2, rfl⟩ | hb2
      · exact hqb hb2
      · have := hF1.n
        omega
  · rintro st σ1 ⟨q, qcap, b, rfl, hF1, hq, hqb⟩
    rw [List.take_length] at hq
    simp only [T20b0, asCons_cons, asInt_int, asSlice_slice, asNil_nil]
    rw [wp_bif, if_neg (by simp), wp_ret]
    simp only [T20k1, sw_same, asCons_cons, asInt_int, asSlice_slice, asNil_nil]
    rw [wp_ret]
    exact ⟨_, rfl, hQ σ1 b q qcap hF1 hq hqb⟩

theorem ev_same19 {p q : Option Addr} {l : List Int} (hp : RdI σ .u64 p l) (hq : RdI σ .u64 q l) (hs : l.length ≤ 100000) (c1 c2 : Nat) : EvF PROG ov0 19 [.slice p l.length c1, .slice q l.length c2] σ (.bool true) σ := by
  refine EvF.of (T19_eq _ _ _ _ _ _) rfl ?_
  rw [T19, wp_bif, if_neg (by simp)]
  refine Wp.count l.length (fun j st σ' => st = [.int .i64 ((j : Nat) : Int), .bool false] ∧ σ' = σ) ⟨rfl, rfl⟩ ?_ ?_
  · rintro j st σ1 hj ⟨rfl, rfl⟩
    have ej : wi64 ((j : Int) + 1) = ((j + 1 : Nat) : Int) := by rw [wi64_in (by omega)]; omega
    simp only [T19b0, asCons_cons, asInt_int, asBool_bool, asNil_nil]
    rw [wp_bif, if_pos (by simp; omega), wp_join, wp_rdJ hp hj, wp_rdJ hq hj, wp_bif, if_neg (by simp), wp_ret]
    simp only [T19k0, sw_nr, sw_same, asCons_cons, asBool_bool, asNil_nil]
    rw [wp_ret, ej]
    exact ⟨rfl, rfl⟩
  · rintro st σ1 ⟨rfl, rfl⟩
    simp only [T19b0, asCons_cons, asInt_int, asBool_bool, asNil_nil]
    rw [wp_bif, if_neg (by simp), wp_ret]
    simp only [T19k1, sw_same, asCons_cons, asInt_int, asBool_bool, asNil_nil]
    rw [wp_ret]
    exact ⟨rfl, rfl⟩
end
end Go.Pg
