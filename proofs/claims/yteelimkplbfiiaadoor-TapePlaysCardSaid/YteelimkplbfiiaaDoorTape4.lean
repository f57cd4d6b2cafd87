/- Layer 18: TapePlays: the tape beside the law's own row. -/
import Derived.Test.YteelimkplbfiiaaDoorTape3
namespace Go.Pg
open Go.Proofs Go.Lib

section
variable {σ : AHeap}
theorem newN_ok {n0 : Nat} {bs : List Nat} (hn : n0 ≤ σ.n) (hf : Fresh σ) (hb : ∀ b ∈ bs, b ≠ σ.n) : newN n0 σ bs = true := by
  unfold newN
  rw [hf σ.n (Nat.le_refl _)]
  simp only [noneB, Bool.and_true, Bool.and_eq_true, Nat.ble_eq, List.all_eq_true, Bool.not_eq_true']
  refine ⟨hn, fun b h => ?_⟩
  rw [Bool.eq_false_iff]
  intro e
  exact hb b h (Nat.eq_of_beq_eq_true e)
theorem objEq_refl (a : Option AObj) : objEq a a = true := by unfold objEq; simp
theorem chkO_one {b : Nat} {o : Option AObj} (h : σ.get b = o) : chkO [(b, o)] σ = true := by
  unfold chkO chkO
  rw [h, objEq_refl]
  rfl
theorem wp_grdJ {P : Program} {ov : Ov} {j n : Nat} (h : j < n) (p : Pg) (Q : Post) : Wp P ov (grd (decide (0 ≤ ((j : Nat) : Int)) && decide (((j : Nat) : Int) < ((n : Nat) : Int))) p) σ Q = Wp P ov p σ Q := by
  have e : (decide (0 ≤ ((j : Nat) : Int)) && decide (((j : Nat) : Int) < ((n : Nat) : Int))) = true := by simp; omega
  rw [wp_grd, e]
  simp
/-- A struct of old cells, read whole. -/
theorem wp_ldG {P : Program} {ov : Ov} {old : Addr → Option Value} (ho : σ.old = old) {a : Addr} {v0 : Value} {vs : List Value} (h : ∀ i v, (v0 :: vs)[i]? = some v → Cl old (aadd a i) v) (n : Nat) (hn : n = (v0 :: vs).length) (g : Value → Pg) (Q : Post) :
    Wp P ov (.act (ldN n a) g) σ Q = Wp P ov (g (.agg (v0 :: vs).toArray)) σ Q := by
  subst hn
  have hs : a.spot = none := (h 0 v0 rfl).old.1
  obtain ⟨b, o, s⟩ := a
  simp only at hs
  subst hs
  have e := oldN_all (old := old) (b := b) (v0 :: vs) o fun i v hv => (h i v hv).old.2
  have e2 : ldN (v0 :: vs).length ⟨b, o, none⟩ σ = some (.agg (v0 :: vs).toArray, σ) := by
    unfold ldN AHeap.rdN
    simp only [ho, e]
  rw [wp_act, e2]

theorem textL_len (zs : List Int) (h : ∀ z ∈ zs, r64 z) : (textL zs).length ≤ 22 * zs.length := by
  induction zs with
  | nil => simp [textL]
  | cons z zs ih =>
    have h1 : (itoa z).length ≤ 21 := by
      have hz := h z (by simp)
      unfold r64 at hz
      by_cases h0 : 0 ≤ z
      · obtain ⟨n, rfl⟩ : ∃ n : Nat, z = (n : Int) := ⟨z.toNat, by omega⟩
        rw [itoa_nonneg]
        have := dec_len 19 n (by omega)
        omega
      · obtain ⟨n, rfl⟩ : ∃ n : Nat, z = -(n : Int) := ⟨(-z).toNat, by omega⟩
        rw [itoa_neg n (by omega)]
        have := dec_len 19 n (by omega)
        simp only [List.length_cons]
        omega
    have h2 := ih fun y hy => h y (by simp [hy])
    unfold textL at h2 ⊢
    simp only [List.flatMap_cons, List.length_append, List.length_cons, List.length_nil] at h2 ⊢
    omega

variable {b : Nat} {Y : Nat → Prop} {inp out : List Int} {rd : Nat}
/-- What is looked at after each act. -/
theorem wp_after (hT : TP σ b Y inp out rd) {bf : Nat} {pf : Option Addr} {cf cap : Nat} (hR : SlV σ bf pf cap (ints .i64 out)) {Q : Post}
    (k : ∀ σ', Frm σ σ' NoB → Q .normal [.slice pf out.length cf, .int .i64 (rd : Nat), .bool false] σ') : Wp PROG ovD (T3k9 (some ⟨b, 0, some 0⟩) .normal [.slice pf out.length cf, .int .i64 (rd : Nat), .bool false]) σ Q := by
  have hr : ∀ z ∈ out, r64 z := by
    obtain ⟨_, _, _, _, _, _, _, _, _, _, _, _, _, _, _, _, _, h⟩ := hT
    exact h
  have hlo : out.length ≤ 1000 := by
    obtain ⟨_, _, _, _, _, _, _, _, _, _, _, _, _, _, _, _, h, _⟩ := hT
    exact h
  simp only [T3k9, sw_nr, sw_same, asCons_cons, asSlice_slice, asInt_int, asBool_bool, asNil_nil]
  rw [wp_call]
  refine wp_marks hT ?_
  simp only [asTuple_tuple, asCons_cons, asInt_int, asNil_nil]
  rw [wp_call]
  refine wp_out hT fun σ1 b1 p1 c1 hF1 hR1 _ => ?_
  rw [asSlice_slice, wp_join, wp_bif, if_pos (by simp), wp_bif, if_pos (by simp), wp_ret]
  simp only [T3k8, sw_same, asCons_cons, asBool_bool, asNil_nil]
  rw [wp_bif, if_neg (by simp)]
  refine Wp.count out.length (fun j st σ' => Frm σ1 σ' NoB ∧ st = [.int .i64 (j : Nat), .string (mkB (textL (out.take j))), .bool false]) ⟨Frm.refl _ _, rfl⟩ ?_ ?_
  · rintro j st σ2 hj ⟨hF2, rfl⟩
    have hg : out.getD j 0 = out[j] := by simp [List.getD, hj]
    have h1 := (hR1.frm hF2 fun _ h => h).rdB.rd
    have h2 := ((hR.frm hF1 fun _ h => h).frm hF2 fun _ h => h).rdB.rd
    have hz := hr _ (List.getElem_mem hj)
    simp only [T3b0, asCons_cons, asInt_int, asStr_str, asBool_bool, asNil_nil]
    rw [wp_bif, if_pos (by simp; omega), wp_join, wp_rdI h1 (by omega) (by omega), wp_rdI h2 (by omega) (by omega), wp_bif, if_neg (by simp), wp_rdI h1 (by omega) (by omega), wp_call, Int.toNat_natCast, hg]
    refine wp_digits _ hz _ fun σ3 hF3 => ?_
    have hl1 := textL_len (out.take j) fun z hz => hr z (List.mem_of_mem_take hz)
    have hl2 := textL_len (out.take (j + 1)) fun z hz => hr z (List.mem_of_mem_take hz)
    have htk : (out.take j).length = j := by rw [List.length_take]; omega
    have htk2 : (out.take (j + 1)).length = j + 1 := by rw [List.length_take]; omega
    have htt := textL_take out j hj
    have hl3 := congrArg List.length htt
    simp only [List.length_append, List.length_cons, List.length_nil] at hl3
    have e10 : bs [10] = mkB [10] := rfl
    rw [asStr_str, wp_grd, wp_grd, app_mkB, e10, app_mkB, wp_ret]
    refine ⟨by rw [Nat.ble_eq, mkB_size, mkB_size]; omega, by rw [Nat.ble_eq, mkB_size, List.length_append]; omega, ?_⟩
    simp only [T3k6, sw_nr, sw_same, asCons_cons, asStr_str, asBool_bool, asNil_nil]
    rw [wp_ret]
    have e1 : wi64 ((j : Int) + 1) = ((j + 1 : Nat) : Int) := by rw [wi64_in (by omega)]; omega
    exact ⟨hF2.seq hF3, by rw [e1, htt, List.append_assoc]⟩
  · rintro st σ2 ⟨hF2, rfl⟩
    simp only [T3b0, asCons_cons, asInt_int, asStr_str, asBool_bool, asNil_nil]
    rw [wp_bif, if_neg (by simp), wp_ret]
    simp only [T3k7, sw_same, asCons_cons, asInt_int, asStr_str, asBool_bool, asNil_nil]
    have hF12 := hF1.seq hF2
    have hT2 : TP σ2 b NoB inp out rd := hT.step hF12 (fun _ h => h.elim) fun _ h => h.elim
    rw [wp_call, WpF.eq (ev_text hT2), asStr_str, wp_bif, List.take_length, if_neg (by simp), wp_ret]
    exact k σ2 hF12

/-- The tape and the law's own row, side by side. -/
def PlI (old : Addr → Option Value) (b : Nat) (inp : List Int) (j : Nat) (vs : List Value) (σ : AHeap) : Prop :=
  σ.old = old ∧ Fresh σ ∧ ∃ (out : List Int) (rd bf : Nat) (pf : Option Addr) (cf cap : Nat), vs = [.slice pf out.length cf, .int .i64 (rd : Nat), .bool false] ∧ out.length ≤ cf ∧ out.length ≤ j ∧ SlV σ bf pf cap (ints .i64 out) ∧ TP σ b (fun i => pf ≠ none ∧ i = bf) inp out rd
end
end Go.Pg
