/- Layer 5: odd. -/
import Derived.Test.YtoilldfibaeokaaDoorTyM
namespace Go.Pg
open Go.Proofs

def oddB (s : ByteArray) : Bool := s.data.toList.any fun b => decide (b.toNat < 97) || decide (b.toNat > 122)
def keyW (s : ByteArray) : Bool := (s.toList == (bs [105, 110, 116]).toList) || ((s.toList == (bs [98, 111, 111, 108]).toList) || (s.toList == (bs [117, 110, 105, 116]).toList))
mutual
def oddM : AT → Bool
  | .mk d l => oddB d.1.name || (keyW d.1.name || oddL l)
def oddL : List AT → Bool
  | [] => false
  | a :: l => oddM a || oddL l
end
theorem oddM_eq (t : AT) : oddM t = (oddB t.nm || (keyW t.nm || oddL t.args)) := by
  cases t
  rw [oddM]
  rfl

section
variable {ov : Ov}
theorem byteAt_get {s : ByteArray} {j : Nat} (h : j < s.data.toList.length) : byteAt s j = ((s.data.toList[j]).toNat : Int) := by
  unfold byteAt
  rw [List.getElem?_eq_getElem h]
  rfl

theorem wp_odd (hO : OvT ov) : ∀ (k : Nat) (σ : AHeap) (t : AT), SizeOf.sizeOf t ≤ k → AFull σ t → (∃ n, Fits nmA n t) → RetO ov 29 [.agg t.c.toArray] σ (.bool (oddM t)) := by
  intro k
  induction k with
  | zero => intro σ t h; cases t; simp at h
  | succ k ih =>
    intro σ t hk ht hfit
    have hlen := ht.len
    have hsz : ∀ u ∈ t.args, SizeOf.sizeOf u ≤ k ∧ ∃ n, Fits nmA n u := by
      cases t with
      | mk d l =>
        intro u hu
        have := List.sizeOf_lt_of_mem (show u ∈ l from hu)
        simp at hk
        obtain ⟨n, hn⟩ := hfit
        cases n with
        | zero => exact hn.elim
        | succ n => exact ⟨by omega, n, hn.2.2 u hu⟩
    have hnl : t.nm.data.toList.length ≤ 60 := by
      cases t
      obtain ⟨n, hn⟩ := hfit
      cases n with
      | zero => exact hn.elim
      | succ n => exact hn.2.1
    obtain ⟨p, cap, hc, hrow⟩ := ht.row
    rw [hc, oddM_eq]
    refine WpF.of (T29_eq _ _ _ _ _ _) (hO _ (by decide) (by decide) (by decide)) ?_
    rw [T29]
    refine wp_newQ fun σ1 hF1 hn1 hS1 => ?_
    have hsize : t.a.1.name.size = t.nm.data.toList.length := rfl
    refine Wp.count t.nm.data.toList.length (fun j st σ' => st = [.int .i64 ((j : Nat) : Int), .bool false] ∧ σ1 = σ' ∧ ((t.nm.data.toList.take j).any fun b => decide (b.toNat < 97) || decide (b.toNat > 122)) = false) ⟨rfl, rfl, by simp⟩ ?_ ?_
    · rintro j st _ hj ⟨rfl, rfl, hno⟩
      have ej : wi64 ((j : Int) + 1) = ((j + 1 : Nat) : Int) := by rw [wi64_in (by omega)]; omega
      have hat := any_take (fun b : UInt8 => decide (b.toNat < 97) || decide (b.toNat > 122)) _ j hj hno
      have hby := byteAt_get hj
      have hjs : j < t.a.1.name.size := hj
      simp only [T29b0, asCons_cons, asInt_int, asBool_bool, asNil_nil]
      rw [wp_ldF hS1 rfl, asStr_str, wp_bif, if_pos (decide_eq_true (by omega)), wp_join, wp_join, wp_ldF hS1 rfl, asStr_str, wp_grd]
      refine ⟨by rw [decide_eq_true (by omega), decide_eq_true (by omega)]; rfl, ?_⟩
      rw [Int.toNat_natCast, hby, wp_bif]
      have tru : oddB t.nm = true → Wp PROG ov (T29k0 false .normal [.bool true]) σ1 fun e vs σ' => Wp PROG ov (T29k1 (j : Int) e vs) σ' fun e st' σ' => match e with
          | .normal => st' = [.int .i64 ((j + 1 : Nat) : Int), .bool false] ∧ σ1 = σ' ∧ ((t.nm.data.toList.take (j + 1)).any fun b => decide (b.toNat < 97) || decide (b.toNat > 122)) = false
          | e => Wp PROG ov (T29k5 ⟨σ.n, 0, some 0⟩ e st') σ' fun _ vs σ' => ∃ v, vs = [v] ∧ v = .bool (oddB t.nm || (keyW t.nm || oddL t.args)) ∧ Frm σ σ' NoB := fun hodd => by
        simp only [T29k0, sw_same, asCons_cons, asBool_bool, asNil_nil]
        rw [wp_bif, if_pos rfl, wp_ret]
        simp only [T29k1, sw_same, asCons_cons, asBool_bool, asNil_nil]
        rw [wp_ret]
        simp only [T29k5, sw_re, sw_same, asCons_cons, asInt_int, asBool_bool, asNil_nil]
        rw [wp_ret]
        exact ⟨_, rfl, by rw [hodd]; rfl, hF1⟩
      by_cases h97 : t.nm.data.toList[j].toNat < 97
      · rw [if_neg (by rw [decide_eq_true (by omega)]; simp), wp_ret]
        refine tru (any_of_take (j := j + 1) ?_)
        rw [hat, decide_eq_true h97]
        rfl
      rw [if_pos (by rw [decide_eq_false (by omega)]; rfl), wp_ldF hS1 rfl, asStr_str, wp_grd]
      refine ⟨by rw [decide_eq_true (by omega), decide_eq_true (by omega)]; rfl, ?_⟩
      rw [hby, wp_ret]
      by_cases h122 : t.nm.data.toList[j].toNat > 122
      · rw [show decide (((t.nm.data.toList[j]).toNat : Int) > 122) = true from decide_eq_true (by omega)]
        refine tru (any_of_take (j := j + 1) ?_)
        rw [hat, decide_eq_true h122]
        simp
      · rw [show decide (((t.nm.data.toList[j]).toNat : Int) > 122) = false from decide_eq_false (by omega)]
        simp only [T29k0, sw_same, asCons_cons, asBool_bool, asNil_nil]
        rw [wp_bif, if_neg (by simp), wp_ret]
        simp only [T29k1, sw_nr, sw_same, asCons_cons, asBool_bool, asNil_nil]
        rw [wp_ret, ej]
        exact ⟨rfl, rfl, by rw [hat, decide_eq_false h97, decide_eq_false h122]; rfl⟩
    · rintro st _ ⟨rfl, rfl, hno⟩
      rw [List.take_length] at hno
      have hodd : oddB t.nm = false := hno
      simp only [T29b0, asCons_cons, asInt_int, asBool_bool, asNil_nil]
      rw [wp_ldF hS1 rfl, asStr_str, wp_bif, if_neg (by rw [hsize]; simp), wp_ret, hodd]
      simp only [T29k5, sw_same, asCons_cons, asInt_int, asBool_bool, asNil_nil]
      rw [wp_join, wp_ldF hS1 rfl, asStr_str, wp_bif]
      have key : ∀ b : Bool, b = keyW t.nm → Wp PROG ov (T29k4 false ⟨σ.n, 0, some 0⟩ .normal [.bool b]) σ1 fun _ vs σ' => ∃ v, vs = [v] ∧ v = .bool (false || (keyW t.nm || oddL t.args)) ∧ Frm σ σ' NoB := fun b hb => by
        simp only [T29k4, sw_same, asCons_cons, asBool_bool, asNil_nil]
        rw [wp_bif, ← hb]
        cases b with
        | true =>
          rw [if_pos rfl, wp_ret]
          exact ⟨_, rfl, rfl, hF1⟩
        | false =>
        rw [if_neg (by simp)]
        simp only [Bool.false_or]
        refine Wp.count t.args.length (fun j st σ' => st = [.int .i64 ((j : Nat) : Int), .bool false] ∧ Frm σ1 σ' NoB ∧ oddL (t.args.drop j) = oddL t.args) ⟨rfl, Frm.refl _ _, rfl⟩ ?_ ?_
        · rintro j st σ4 hj ⟨rfl, hF4, hfo⟩
          have ej : wi64 ((j : Int) + 1) = ((j + 1 : Nat) : Int) := by rw [wi64_in (by omega)]; omega
          have hA := hF4.stN hS1
          have hF04 := hF1.seq hF4
          simp only [T29b1, asCons_cons, asInt_int, asBool_bool, asNil_nil]
          rw [wp_ldF hA rfl, asSlice_slice, wp_bif, if_pos (by simp; omega), wp_join, wp_ldF hA rfl, asSlice_slice]
          have hr4 := hrow.stepM hF04 Maps.none (R' := fun cs (u : AT) => cs = u.c ∧ AFull σ4 u) fun _ _ h => ⟨h.1, h.2.frm hF04⟩
          refine wp_rowOf hr4 hj rfl fun cs hX => ?_
          have hmem := hsz _ (List.getElem_mem hj)
          rw [List.drop_eq_getElem_cons hj, oddL] at hfo
          generalize t.args[j] = x at hX hfo hmem
          obtain ⟨rfl, hx⟩ := hX
          have hxi := ih σ4 x hmem.1 hx hmem.2
          obtain ⟨xp, xc, hxc⟩ := hx.cells
          rw [hxc] at hxi ⊢
          simp only [asAgg_agg, asCons_cons, asInt_int, asStr_str, asSlice_slice, asNil_nil]
          rw [wp_call]
          refine WpF.mono hxi ?_
          rintro _ σ7 ⟨rfl, hF7⟩
          rw [asBool_bool, wp_bif]
          cases hax : oddM x with
          | true =>
            rw [hax, Bool.true_or] at hfo
            rw [if_pos rfl, wp_ret]
            simp only [T29k2, sw_same, asCons_cons, asBool_bool, asNil_nil]
            rw [wp_ret]
            simp only [T29k3, sw_re, sw_same, asCons_cons, asInt_int, asBool_bool, asNil_nil]
            rw [wp_ret]
            exact ⟨_, rfl, by rw [← hfo], hF04.seq hF7⟩
          | false =>
            rw [hax, Bool.false_or] at hfo
            rw [if_neg (by simp), wp_ret]
            simp only [T29k2, sw_nr, sw_same, asCons_cons, asBool_bool, asNil_nil]
            rw [wp_ret, ej]
            exact ⟨rfl, hF4.seq hF7, hfo⟩
        · rintro st σ4 ⟨rfl, hF4, hfo⟩
          rw [List.drop_length, oddL] at hfo
          simp only [T29b1, asCons_cons, asInt_int, asBool_bool, asNil_nil]
          rw [wp_ldF (hF4.stN hS1) rfl, asSlice_slice, wp_bif, if_neg (by simp), wp_ret]
          simp only [T29k3, sw_same, asCons_cons, asInt_int, asBool_bool, asNil_nil]
          rw [wp_ret]
          exact ⟨_, rfl, by rw [← hfo], hF1.seq hF4⟩
      unfold keyW at key ⊢
      by_cases k1 : (t.nm.toList == (bs [105, 110, 116]).toList) = true
      · rw [k1] at key ⊢
        rw [if_neg (by simp), wp_ret]
        exact key _ (by simp)
      have k1 := Bool.not_eq_true _ ▸ k1
      rw [k1] at key ⊢
      rw [if_pos (by simp), wp_ldF hS1 rfl, asStr_str, wp_bif]
      by_cases k2 : (t.nm.toList == (bs [98, 111, 111, 108]).toList) = true
      · rw [k2] at key ⊢
        rw [if_neg (by simp), wp_ret]
        exact key _ (by simp)
      have k2 := Bool.not_eq_true _ ▸ k2
      rw [k2] at key ⊢
      rw [if_pos (by simp), wp_ldF hS1 rfl, asStr_str, wp_ret]
      exact key _ (by simp)
end
end Go.Pg
