/- Layer 9: the program's renderer: what it answers. -/
import Derived.Test.YtlpebjohofhbgaaDoorValF
namespace Go.Pg
open Go.Proofs Go.Lib

theorem asFunc_func (g : FuncId) (x y : Array Value) (f : FuncId → List Value → List Value → Pg) : asFunc (.func (.func g) x y) f = f g x.toList y.toList := by rw [asFunc]

theorem ev_conName {σ : AHeap} {b : Nat} {vs : List Value} {nm : ByteArray} (hS : St σ b vs) (hv : vs[2]? = some (.string nm)) (s : ByteArray) (p : Option Addr) (n c : Nat) :
    Ret 32 [.agg #[.string s, .slice p n c], .pointer (some ⟨b, 0, some 0⟩)] σ (.bool (s.toList == nm.toList)) := by
  refine WpF.of (T32_eq _ _ _ _ _) rfl ?_
  rw [T32]
  refine wp_newQ fun σ1 hF1 hn1 hS1 => ?_
  rw [wp_ldF hS1 rfl, asStr_str, wp_ldF (hF1.stN hS) hv, asStr_str, wp_ret]
  exact ⟨_, rfl, rfl, hF1⟩

theorem consOf_none : ∀ {l : ConsL} {nm : ByteArray}, (∀ c ∈ l, (c.1.toList == nm.toList) = false) → consOf l nm = []
  | [], _, _ => rfl
  | c :: l, nm, h => by
    have h1 := h c (by simp)
    simp only [consOf, h1, Bool.false_eq_true, if_false]
    exact consOf_none fun d hd => h d (by simp [hd])
theorem consOf_at : ∀ {l : ConsL} {nm : ByteArray} {i : Nat} (hi : i < l.length), (∀ c ∈ l.take i, (c.1.toList == nm.toList) = false) → (l[i].1.toList == nm.toList) = true → consOf l nm = l[i].2
  | c :: l, nm, 0, _, _, h => by
    simp only [List.getElem_cons_zero] at h
    simp only [consOf, h, if_true]
    rfl
  | c :: l, nm, i + 1, hi, h0, h => by
    have h1 := h0 c (by simp)
    simp only [consOf, h1, Bool.false_eq_true, if_false]
    exact consOf_at (by simpa using hi) (fun d hd => h0 d (by simp [hd])) (by simpa using h)

theorem wp_idx {σ : AHeap} {Y : Nat → Prop} {p : Option Addr} {l : ConsL} {b : Nat} {vs : List Value} {nm : ByteArray} (hr : ConsRow σ Y p l) (hl : l.length ≤ 1000) (hS : St σ b vs) (hv : vs[2]? = some (.string nm)) (cap : Nat) :
    WpF PROG ovD 31 [.slice p l.length cap, .func (.func 32) #[] #[.pointer (some ⟨b, 0, some 0⟩)]] σ fun v σ' => Frm σ σ' NoB ∧ ((∃ i, ∃ (h : i < l.length), v = .int .i64 ((i : Nat) : Int) ∧ consOf l nm = l[i].2) ∨ (v = .int .i64 (-1) ∧ consOf l nm = [])) := by
  refine WpF.of (T31_eq _ _ _ _) rfl ?_
  rw [T31]
  refine Wp.count l.length (fun j st σ' => st = [.int .i64 ((j : Nat) : Int), .int .i64 0] ∧ Frm σ σ' NoB ∧ ∀ c ∈ l.take j, (c.1.toList == nm.toList) = false) ⟨rfl, Frm.refl _ _, by simp⟩ ?_ ?_
  · rintro j st σ1 hj ⟨rfl, hF1, hm⟩
    have ej : wi64 ((j : Int) + 1) = ((j + 1 : Nat) : Int) := by rw [wi64_in (by omega)]; omega
    simp only [T31b0, asCons_cons, asInt_int, asNil_nil]
    rw [wp_bif, if_pos (by simp; omega), wp_join]
    refine wp_rowOf (hr.frm hF1) hj rfl fun cs hV => ?_
    obtain ⟨q, c2, rfl, _⟩ := hV
    simp only [asAgg_agg, asCons_cons, asStr_str, asSlice_slice, asNil_nil, asFunc_func, List.nil_append, List.cons_append]
    rw [wp_call]
    refine WpF.mono (ev_conName (hF1.stN hS) hv _ _ _ _) ?_
    rintro _ σ2 ⟨rfl, hF2⟩
    simp only [asBool_bool]
    rw [wp_bif]
    by_cases he : (l[j].1.toList == nm.toList) = true
    · rw [if_pos he, wp_ret]
      simp only [T31k0, sw_same, asCons_cons, asInt_int, asNil_nil]
      rw [wp_ret]
      simp only [T31k1, sw_re, sw_same, asCons_cons, asInt_int, asNil_nil]
      rw [wp_ret]
      exact ⟨_, rfl, hF1.seq hF2, .inl ⟨j, hj, rfl, consOf_at hj hm he⟩⟩
    · rw [if_neg he, wp_ret]
      simp only [T31k0, sw_nr, sw_same, asCons_cons, asInt_int, asNil_nil]
      rw [wp_ret, ej]
      refine ⟨rfl, hF1.seq hF2, fun c hc => ?_⟩
      rw [List.take_succ_eq_append_getElem hj] at hc
      rcases List.mem_append.1 hc with hc | hc
      · exact hm c hc
      · simp only [List.mem_singleton] at hc
        rw [hc]
        simpa using he
  · rintro st σ1 ⟨rfl, hF1, hm⟩
    rw [List.take_length] at hm
    simp only [T31b0, asCons_cons, asInt_int, asNil_nil]
    rw [wp_bif, if_neg (by simp), wp_ret]
    simp only [T31k1, sw_same, asCons_cons, asInt_int, asNil_nil]
    rw [wp_ret]
    exact ⟨_, rfl, hF1, .inr ⟨rfl, consOf_none hm⟩⟩

/-- A type whose text has no more than so much in it. -/
def tyOK (m : Nat) (t : Tr TA) : Prop := t.args = [] ∨ fitT m t

section
variable {Y : Nat → Prop} {pc pk : Option Addr} {cc ck : Nat} {cells : List (Tr VA)} {cons : ConsL}

/-- What the renderer holds. -/
structure RC (Y : Nat → Prop) (pc pk : Option Addr) (cells : List (Tr VA)) (cons : ConsL) (σ : AHeap) : Prop where
  cells : RowOf σ Y 7 (VIn L7 σ Y 7) pc cells
  cons : ConsRow σ Y pk cons
theorem RC.frm {σ σ' : AHeap} (f : Frm σ σ' NoB) (h : RC Y pc pk cells cons σ) : RC Y pc pk cells cons σ' := ⟨h.cells.frm f, h.cons.frm f⟩
structure RB (cells : List (Tr VA)) (cons : ConsL) : Prop where
  nCells : cells.length ≤ 6
  fit : ∀ c ∈ cells, fitV 7 c
  nCons : cons.length ≤ 6
  types : ∀ c ∈ cons, c.2.length ≤ 5

theorem RowOf.inR {σ : AHeap} (h : RowOf σ Y 7 (VIn L7 σ Y 7) pc cells) : ∀ c ∈ cells, Go.Pg.inR 7 c := by
  intro c hc
  obtain ⟨i, hi, rfl⟩ := List.mem_iff_getElem.1 hc
  obtain ⟨_, _, _, _, _, h⟩ := h i hi
  exact VIn.inR (fun _ h => h) h

theorem ren_le {σ : AHeap} (hB : RB cells cons) (hR : RC Y pc pk cells cons σ) {k n m : Nat} {v : Tr VA} {t : Tr TA} (hn : n ≤ 7) (hm : m ≤ 7) (hv : fitV n v) (hi : Go.Pg.inR n v) (ht : tyOK m t) : (renM cells cons k v t).length ≤ 9000000 := by
  rcases ht with ht | ht
  · have := ren_flat cells cons k n v t hv hi ht
    have h5 : 5 ^ n ≤ 5 ^ 7 := Nat.pow_le_pow_right (by decide) hn
    have e : 5 ^ 7 = 78125 := by decide
    omega
  · have := ren_len cells cons (fun c hc => ⟨hB.fit c hc, RowOf.inR hR.cells c hc⟩) k n m v t hn hv hi ht
    omega

variable (Y pc pk cc ck cells cons)
/-- The renderer's answer, with so many rounds to go. -/
def ValOK (k : Nat) : Prop := ∀ (w n m : Nat) (σ : AHeap) (cs ct : List Value) (v : Tr VA) (t : Tr TA), w + k = 50 → n ≤ 7 → m ≤ 7 → VIn L7 σ Y n cs v → fitV n v → VIn L4 σ Y m ct t → tyOK m t → RC Y pc pk cells cons σ →
  Ret 18 [.agg #[.slice pc cells.length cc, .slice pk cons.length ck], .agg cs.toArray, .agg ct.toArray, .int .i64 (w : Nat)] σ (.string (bs (renM cells cons k v t)))
variable {Y pc pk cc ck cells cons}

theorem wp_cell {k w n m : Nat} (hB : RB cells cons) (ih : ValOK Y pc pk cc ck cells cons k) (hw : w + k = 49) (_hn : n ≤ 7) (hm : m ≤ 7) {σ : AHeap} {cs ct : List Value} {v : Tr VA} {t : Tr TA} (hV : VIn L7 σ Y n cs v) (hT : VIn L4 σ Y m ct t) (ht : tyOK m t) (hR : RC Y pc pk cells cons σ) :
    Ret 25 [.agg #[.slice pc cells.length cc, .slice pk cons.length ck], .agg cs.toArray, .agg ct.toArray, .int .i64 (w : Nat)] σ (.string (bs ([114, 101, 102, 32] ++ (match t.args with
      | [u] => if h : 0 ≤ v.a.loc ∧ v.a.loc < cells.length then renM cells cons k (cells[v.a.loc.toNat]'(by omega)) u else [63]
      | _ => [63])))) := by
  obtain ⟨_, e, p, cap, rfl⟩ := hV.cells
  have hT0 := hT
  obtain ⟨_, e', p', cap', rfl⟩ := hT.cells
  have hc6 := hB.nCells
  refine WpF.of (T25_eq _ _ _ _ _ _ _ _ _ _ _ _ _ _ _ _ _ _ _ _ _ _) rfl ?_
  rw [T25]
  refine wp_newQ fun σ1 hF1 hn1 hS1 => ?_
  refine wp_newQ fun σ2 hF2 hn2 hS2 => ?_
  refine wp_newQ fun σ3 hF3 hn3 hS3 => ?_
  have hS1 := hF3.stN (hF2.stN hS1)
  have hS2 := hF3.stN hS2
  have hF := (hF1.seq hF2).seq hF3
  have none : ∀ σ', Frm σ σ' NoB → ([63] : List UInt8) = (match t.args with
      | [u] => if h : 0 ≤ v.a.loc ∧ v.a.loc < cells.length then renM cells cons k (cells[v.a.loc.toNat]'(by omega)) u else [63]
      | _ => [63]) → Wp PROG ovD (T25k0 ⟨σ.n, 0, some 0⟩ ⟨σ1.n, 0, some 0⟩ ⟨σ2.n, 0, some 0⟩ (w : Nat) .normal [.bool true]) σ' fun _ vs σ' => ∃ v', vs = [v'] ∧ v' = .string (bs ([114, 101, 102, 32] ++ (match t.args with
      | [u] => if h : 0 ≤ v.a.loc ∧ v.a.loc < cells.length then renM cells cons k (cells[v.a.loc.toNat]'(by omega)) u else [63]
      | _ => [63]))) ∧ Frm σ σ' NoB := fun σ' hF' h => by
    simp only [T25k0, sw_same, asCons_cons, asBool_bool, asNil_nil]
    rw [wp_bif, if_pos (by rfl), wp_ret, ← h]
    exact ⟨_, rfl, rfl, hF'⟩
  rw [wp_join, wp_ldF hS2 rfl, asInt_int, wp_bif]
  by_cases h0 : v.a.loc < 0
  · rw [if_neg (by simp; omega), wp_ret]
    refine none σ3 hF ?_
    split
    · rw [dif_neg (by omega)]
    · rfl
  rw [if_pos (by simp; omega), wp_ldF hS2 rfl, asInt_int, wp_ldF hS1 rfl, asSlice_slice, wp_bif]
  by_cases h1 : v.a.loc ≥ (cells.length : Nat)
  · rw [if_neg (by simp; omega), wp_ret]
    refine none σ3 hF ?_
    split
    · rw [dif_neg (by omega)]
    · rfl
  rw [if_pos (by simp; omega), wp_ldF hS3 rfl, asSlice_slice, wp_ret]
  by_cases h2 : t.args.length = 1
  case neg =>
    have e1 : (((t.args.length : Nat) : Int) != 1) = true := by simp; omega
    rw [e1]
    refine none σ3 hF ?_
    split
    · rename_i u hu
      rw [hu] at h2
      simp at h2
    · rfl
  have e1 : (((t.args.length : Nat) : Int) != 1) = false := by simp; omega
  obtain ⟨u, hu⟩ : ∃ u, t.args = [u] := List.length_eq_one_iff.1 h2
  rw [e1]
  simp only [T25k0, sw_same, asCons_cons, asBool_bool, asNil_nil]
  rw [wp_bif, if_neg (by simp), wp_ldAll hS1 2 rfl]
  simp only [asAgg_agg, asCons_cons, asSlice_slice, asNil_nil]
  rw [wp_ldF hS1 rfl, asSlice_slice, wp_ldF hS2 rfl, asInt_int]
  obtain ⟨i, hi⟩ : ∃ i : Nat, v.a.loc = (i : Int) := ⟨v.a.loc.toNat, by omega⟩
  have hil : i < cells.length := by omega
  have hR3 := hR.frm hF
  have e2 : (match t.args with
      | [u] => if h : 0 ≤ v.a.loc ∧ v.a.loc < cells.length then renM cells cons k (cells[v.a.loc.toNat]'(by omega)) u else [63]
      | _ => [63]) = renM cells cons k cells[i] u := by
    rw [hu]
    dsimp only
    rw [dif_pos (by omega)]
    congr 2
    omega
  rw [e2, hi]
  refine wp_rowOf hR3.cells hil rfl fun cs hC => ?_
  have hCi := hC
  have hfc := hB.fit _ (List.getElem_mem hil)
  have hir : Go.Pg.inR 7 cells[i] := VIn.inR (fun _ h => h) hC
  generalize cells[i] = c at hC hCi hfc hir
  obtain ⟨_, ec, pc', capc, rfl⟩ := hC.cells
  simp only [asAgg_agg, asCons_cons, asInt_int, asStr_str, asSlice_slice, asPtr_ptr, asNil_nil]
  rw [wp_ldF hS3 rfl, asSlice_slice]
  have hT3 := hT0.frm hF
  cases m with
  | zero =>
    rcases ht with ht | ht
    · rw [hu] at ht; cases ht
    · exact ht.elim
  | succ m =>
    obtain ⟨_, _, q, qc, hq, hrow⟩ := hT3
    simp only [List.cons.injEq, Value.slice.injEq, and_true, true_and] at hq
    obtain ⟨rfl, rfl⟩ := hq
    have htu : tyOK m u := by
      rcases ht with ht | ht
      · rw [hu] at ht; cases ht
      · exact .inr (ht.2.2 u (by rw [hu]; simp))
    obtain ⟨x, cu, rfl, hx1, hx2⟩ := hrow.ldN (i := 0) (by rw [h2]; decide)
    have hu0 : t.args[0] = u := by simp [hu]
    rw [hu0] at hx2
    rw [h2]
    simp only [asSome_some]
    rw [wp_grd]
    refine ⟨by decide, ?_⟩
    rw [wp_act, show aadd x 0 = aadd x (0 * 4) from rfl, hx1]
    have hx3 := hx2
    obtain ⟨_, eu, pu, capu, rfl⟩ := hx2.cells
    simp only [asAgg_agg, asCons_cons, asInt_int, asStr_str, asSlice_slice, asNil_nil]
    rw [wp_call, show wi64 ((w : Int) + 1) = ((w + 1 : Nat) : Int) by rw [wi64_in (by omega)]; omega]
    refine WpF.mono (ih (w + 1) 7 m σ3 _ _ c u (by omega) (Nat.le_refl _) (by omega) hCi hfc hx3 htu hR3) ?_
    rintro _ σ4 ⟨rfl, hF4⟩
    have hle := ren_le hB hR (k := k) (Nat.le_refl 7) (show m ≤ 7 by omega) hfc hir htu
    rw [asStr_str, wp_grd]
    refine ⟨by rw [Nat.ble_eq, bs_size]; omega, ?_⟩
    rw [bs_app, wp_ret]
    exact ⟨_, rfl, rfl, hF.seq hF4⟩
end
end Go.Pg
