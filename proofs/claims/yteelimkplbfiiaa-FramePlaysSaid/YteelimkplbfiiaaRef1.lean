/- Layer 17: the document's stack: what it is in the heap; what only reads it. -/
import Derived.Test.YteelimkplbfiiaaFrame5
import Derived.Test.YteelimkplbfiiaaRowE
namespace Go.Pg
open Go.Proofs

structure Rf where
  back : Int
  call : Int
  sl : List Int
  ad : List Int
  sb : Nat
  sp : Option Addr
  sc : Nat
  sk : Nat
  ab : Nat
  ap : Option Addr
  ac : Nat
  ak : Nat
def rcells (f : Rf) : List Value := [.int .i64 f.back, .int .i64 f.call, .slice f.sp f.sl.length f.sc, .slice f.ap f.ad.length f.ac]
def rrow (l : List Rf) : List Value := l.flatMap rcells
def slB (f : Rf) (i : Nat) : Prop := f.sp ≠ none ∧ i = f.sb
def adB (f : Rf) (i : Nat) : Prop := f.ap ≠ none ∧ i = f.ab
def uses (f : Rf) (i : Nat) : Prop := slB f i ∨ adB f i
def rvw (f : Rf) : Fv := ⟨f.back, f.call, f.sl, f.ad⟩
structure RfOK (σ : AHeap) (f : Rf) : Prop where
  s : SlV σ f.sb f.sp f.sk (ints .u64 f.sl)
  a : SlV σ f.ab f.ap f.ak (ints .u64 f.ad)
  c : f.ad.length ≤ f.ac
theorem rcells_len (f : Rf) : (rcells f).length = 4 := rfl
theorem rrow_len : ∀ l : List Rf, (rrow l).length = l.length * 4
  | [] => rfl
  | f :: l => by
    unfold rrow
    rw [List.flatMap_cons, List.length_append, rcells_len]
    have := rrow_len l
    unfold rrow at this
    rw [this, List.length_cons]
    omega
theorem rrow_append (a b : List Rf) : rrow (a ++ b) = rrow a ++ rrow b := by simp [rrow]
theorem rrow_get : ∀ (l : List Rf) (j : Nat) (h : j < l.length) (o : Nat), o < 4 → (rrow l)[j * 4 + o]? = (rcells l[j])[o]?
  | f :: l, 0, h, o, ho => by
    unfold rrow
    rw [List.flatMap_cons, List.getElem?_append_left (by rw [rcells_len]; omega)]
    simp
  | f :: l, j + 1, h, o, ho => by
    unfold rrow
    rw [List.flatMap_cons, List.getElem?_append_right (by rw [rcells_len]; omega), rcells_len]
    have := rrow_get l j (by simpa using h) o ho
    unfold rrow at this
    rw [show (j + 1) * 4 + o - 4 = j * 4 + o by omega, this]
    simp

structure RS (σ : AHeap) (S room c : Nat) (p : Option Addr) (n cap : Nat) (frs : List Rf) : Prop where
  st : St σ S [.int .i64 (room : Nat), .slice p frs.length n]
  row : SlE σ c p cap 4 (rrow frs)
  ln : frs.length ≤ n
  cS : frs ≠ [] → c ≠ S
  ok : ∀ f ∈ frs, RfOK σ f
  out : ∀ f ∈ frs, ∀ i, uses f i → i ≠ S ∧ i ≠ c
  sep : frs.Pairwise fun f g => (∀ i, slB f i → ¬ uses g i) ∧ ∀ i, slB g i → ¬ uses f i
  own : ∀ f ∈ frs, ∀ i, slB f i → ¬ adB f i

theorem RfOK.frm {σ σ' : AHeap} {T : Nat → Prop} {f : Rf} (h : RfOK σ f) (k : Frm σ σ' T) (hT : ∀ i, uses f i → ¬ T i) : RfOK σ' f :=
  ⟨h.s.frm k fun hp => hT _ (.inl ⟨hp, rfl⟩), h.a.frm k fun hp => hT _ (.inr ⟨hp, rfl⟩), h.c⟩
theorem RfOK.lt {σ : AHeap} {f : Rf} (h : RfOK σ f) {i : Nat} (hi : uses f i) : i < σ.n := by
  rcases hi with ⟨hp, rfl⟩ | ⟨hp, rfl⟩
  · obtain ⟨a, ha⟩ := Option.ne_none_iff_exists'.1 hp
    have := h.s
    rw [ha] at this
    exact this.lt
  · obtain ⟨a, ha⟩ := Option.ne_none_iff_exists'.1 hp
    have := h.a
    rw [ha] at this
    exact this.lt
theorem RS.frm {σ σ' : AHeap} {T : Nat → Prop} {S room c n cap : Nat} {p : Option Addr} {frs : List Rf} (h : RS σ S room c p n cap frs) (k : Frm σ σ' T) (hS : ¬ T S) (hc : p ≠ none → ¬ T c) (hT : ∀ f ∈ frs, ∀ i, uses f i → ¬ T i) : RS σ' S room c p n cap frs :=
  ⟨k.st h.st hS, h.row.frm k hc, h.ln, h.cS, fun f hf => (h.ok f hf).frm k (hT f hf), h.out, h.sep, h.own⟩

/-- The document's stack, and blocks Y that it does not have. -/
def RK (σ : AHeap) (S room : Nat) (Y : Nat → Prop) (vs : List Fv) : Prop :=
  (∀ i, Y i → i < σ.n) ∧ tot vs ≤ room ∧ room ≤ 4096 ∧ ∃ c p n cap frs, RS σ S room c p n cap frs ∧ frs.map rvw = vs ∧ ¬ Y S ∧ (p ≠ none → ¬ Y c) ∧ ∀ f ∈ frs, ∀ i, uses f i → ¬ Y i

section
variable {P : Program} {ov : Ov} {σ : AHeap}
/-- A frame's slot is read. -/
theorem wp_fr {c cap : Nat} {p : Option Addr} {frs : List Rf} (hE : SlE σ c p cap 4 (rrow frs)) {j o : Nat} {v : Value} (hj : j < frs.length) (ho : o < 4) (hv : (rcells frs[j])[o]? = some v) (g : Value → Pg) (Q : Post) :
    Wp P ov (asSome p fun a => grd (decide (0 ≤ ((j : Nat) : Int)) && decide (((j : Nat) : Int) < ((frs.length : Nat) : Int))) (.act (ld1 (aadd (aadd a ((Int.toNat ((j : Nat) : Int)) * 4)) o)) g)) σ Q = Wp P ov (g v) σ Q := by
  rcases hE with ⟨_, _, e⟩ | ⟨off, s, rfl, hE⟩
  · have := rrow_len frs
    rw [e] at this
    simp at this
    omega
  · have e : (decide (0 ≤ ((j : Nat) : Int)) && decide (((j : Nat) : Int) < ((frs.length : Nat) : Int))) = true := by simp; omega
    simp only [asSome_some]
    rw [wp_grd, e, Int.toNat_natCast, wp_rowF hE (by rw [rrow_get frs j hj o ho, hv])]
    simp
theorem tot_take_le (vs : List Fv) (j : Nat) : tot (vs.take j) ≤ tot vs := by
  have := tot_append (vs.take j) (vs.drop j)
  rw [List.take_append_drop] at this
  omega
theorem tot_take_succ (vs : List Fv) (j : Nat) (h : j < vs.length) : tot (vs.take (j + 1)) = tot (vs.take j) + fsz vs[j] := by
  rw [List.take_succ_eq_append_getElem h, tot_snoc]
theorem tot_len (vs : List Fv) : 2 * vs.length ≤ tot vs := by
  induction vs with
  | nil => simp
  | cons v vs ih => simp only [tot, fsz, List.length_cons]; omega
end

section
variable {σ : AHeap} {S room : Nat} {Y : Nat → Prop} {vs : List Fv}
theorem RK.step {σ' : AHeap} {T Y' : Nat → Prop} (h : RK σ S room Y vs) (k : Frm σ σ' T) (hT : ∀ i, T i → Y i) (hY : ∀ i, Y' i → i < σ'.n ∧ (Y i ∨ σ.n ≤ i)) : RK σ' S room Y' vs := by
  obtain ⟨h0, h1, h2, c, p, n, cap, frs, h3, h4, h5, h6, h7⟩ := h
  have key : ∀ i, i < σ.n → ¬ Y i → ¬ Y' i := fun i hi hn hy => by
    rcases (hY i hy).2 with h | h
    · exact hn h
    · omega
  exact ⟨fun i hi => (hY i hi).1, h1, h2, c, p, n, cap, frs, h3.frm k (fun h => h5 (hT _ h)) (fun hp h => h6 hp (hT _ h)) (fun f hf i hi h => h7 f hf i hi (hT _ h)), h4, key S h3.st.1 h5, fun hp => key c (h3.row.lt hp) (h6 hp), fun f hf i hi => key i ((h3.ok f hf).lt hi) (h7 f hf i hi)⟩
theorem RK.lt (h : RK σ S room Y vs) : S < σ.n := by
  obtain ⟨_, _, _, _, _, _, _, _, h3, _⟩ := h
  exact h3.st.1

/-- used. -/
theorem ev_used (h : RK σ S room Y vs) : EvF PROG ov0 43 [PV S] σ (.int .i64 ((tot vs : Nat) : Int)) σ := by
  obtain ⟨_, h1, h2, c, p, n, cap, frs, h3, rfl, _⟩ := h
  refine EvF.of (T43_eq _) rfl ?_
  rw [T43]
  refine Wp.count frs.length (fun j st σ' => σ' = σ ∧ st = [.int .i64 (j : Nat), .int .i64 ((tot ((frs.map rvw).take j) : Nat) : Int)]) ⟨rfl, rfl⟩ ?_ ?_
  · rintro j st σ' hj ⟨rfl, rfl⟩
    have e1 : wi64 ((j : Int) + 1) = ((j + 1 : Nat) : Int) := by
      have := tot_len (frs.map rvw)
      rw [List.length_map] at this
      rw [wi64_in (by omega)]; omega
    have hs := tot_take_succ (frs.map rvw) j (by simpa using hj)
    have hle := tot_take_le (frs.map rvw) (j + 1)
    simp only [List.getElem_map, rvw, fsz] at hs
    simp only [T43b0, asCons_cons, asInt_int, asNil_nil]
    rw [wp_fld h3.st rfl, asSlice_slice, wp_bif, if_pos (by simp; omega), wp_join, wp_fld h3.st rfl, asSlice_slice, wp_fr h3.row hj (by decide) rfl, asSlice_slice, wp_fld h3.st rfl, asSlice_slice, wp_fr h3.row hj (by decide) rfl, asSlice_slice, wp_ret]
    simp only [T43k0, sw_same, asCons_cons, asInt_int, asNil_nil]
    rw [wp_ret]
    refine ⟨rfl, ?_⟩
    have a1 : wi64 (((tot ((frs.map rvw).take j) : Nat) : Int) + 2) = ((tot ((frs.map rvw).take j) : Nat) : Int) + 2 := wi64_in (by omega)
    have a2 : wi64 (((tot ((frs.map rvw).take j) : Nat) : Int) + 2 + ((frs[j].sl.length : Nat) : Int)) = ((tot ((frs.map rvw).take j) : Nat) : Int) + 2 + ((frs[j].sl.length : Nat) : Int) := wi64_in (by omega)
    have a3 : wi64 (((tot ((frs.map rvw).take j) : Nat) : Int) + 2 + ((frs[j].sl.length : Nat) : Int) + ((frs[j].ad.length : Nat) : Int)) = ((tot ((frs.map rvw).take (j + 1)) : Nat) : Int) := by rw [wi64_in (by omega)]; omega
    rw [e1, a1, a2, a3]
  · rintro st σ' ⟨rfl, rfl⟩
    simp only [T43b0, asCons_cons, asInt_int, asNil_nil]
    rw [wp_fld h3.st rfl, asSlice_slice, wp_bif, if_neg (by simp), wp_ret]
    simp only [T43k1, sw_same, asCons_cons, asInt_int, asNil_nil]
    rw [wp_ret, List.take_of_length_le (by simp)]
    exact ⟨rfl, rfl⟩

/-- Depth. -/
theorem ev_depthR (h : RK σ S room Y vs) : EvF PROG ov0 34 [PV S] σ (.int .i64 ((vs.length : Nat) : Int)) σ := by
  obtain ⟨_, h1, h2, c, p, n, cap, frs, h3, rfl, _⟩ := h
  refine EvF.of (T34_eq _) rfl ?_
  rw [T34, wp_fld h3.st rfl, asSlice_slice, wp_ret, List.length_map]
  exact ⟨rfl, rfl⟩

/-- The last frame. -/
theorem RK.snoc {v : Fv} (h : RK σ S room Y (vs ++ [v])) : (∀ i, Y i → i < σ.n) ∧ tot (vs ++ [v]) ≤ room ∧ room ≤ 4096 ∧ ∃ c p n cap fs f, RS σ S room c p n cap (fs ++ [f]) ∧ fs.map rvw = vs ∧ rvw f = v ∧ ¬ Y S ∧ (p ≠ none → ¬ Y c) ∧ ∀ g ∈ fs ++ [f], ∀ i, uses g i → ¬ Y i := by
  obtain ⟨h0, h1, h2, c, p, n, cap, frs, h3, h4, h5, h6, h7⟩ := h
  obtain ⟨fs, l2, rfl, h8, h9⟩ := List.map_eq_append_iff.1 h4
  obtain ⟨f, rfl, h10⟩ := List.map_eq_singleton_iff.1 h9
  exact ⟨h0, h1, h2, c, p, n, cap, fs, f, h3, h8, h10, h5, h6, h7⟩
theorem last_idx (fs : List Rf) (f : Rf) (h : fs.length < 100000) : wi64 ((((fs ++ [f]).length : Nat) : Int) - 1) = ((fs.length : Nat) : Int) := by
  rw [wi64_in (by simp; omega)]
  simp
theorem last_get (fs : List Rf) (f : Rf) : (fs ++ [f])[fs.length]'(by simp) = f := by simp

/-- Added. -/
theorem ev_addedR_none (h : RK σ S room Y []) : EvF PROG ov0 35 [PV S] σ (.int .i64 0) σ := by
  obtain ⟨_, h1, h2, c, p, n, cap, frs, h3, h4, _⟩ := h
  obtain rfl : frs = [] := by simpa using h4
  refine EvF.of (T35_eq _) rfl ?_
  rw [T35, wp_fld h3.st rfl, asSlice_slice, wp_bif, if_pos (by rfl), wp_ret]
  exact ⟨rfl, rfl⟩
theorem ev_addedR {v : Fv} (h : RK σ S room Y (vs ++ [v])) : EvF PROG ov0 35 [PV S] σ (.int .i64 ((v.ad.length : Nat) : Int)) σ := by
  obtain ⟨_, h1, h2, c, p, n, cap, fs, f, h3, rfl, rfl, _⟩ := h.snoc
  have hl := tot_len (fs.map rvw ++ [rvw f])
  simp only [List.length_append, List.length_map, List.length_cons, List.length_nil] at hl
  have hi := last_idx fs f (by omega)
  refine EvF.of (T35_eq _) rfl ?_
  rw [T35, wp_fld h3.st rfl, asSlice_slice, wp_bif, if_neg (by simp; omega), wp_fld h3.st rfl, asSlice_slice, wp_fld h3.st rfl, asSlice_slice, hi, wp_fr h3.row (j := fs.length) (by simp) (by decide) (by rw [last_get]; rfl), asSlice_slice, wp_ret]
  exact ⟨rfl, rfl⟩

/-- Get. -/
theorem ev_getR_none (h : RK σ S room Y []) (i : Int) : EvF PROG ov0 33 [PV S, .int .i64 i] σ (.tuple #[.int .u64 0, .int .i64 4]) σ := by
  obtain ⟨_, h1, h2, c, p, n, cap, frs, h3, h4, _⟩ := h
  obtain rfl : frs = [] := by simpa using h4
  refine EvF.of (T33_eq _ _) rfl ?_
  rw [T33, wp_fld h3.st rfl, asSlice_slice, wp_bif, if_pos (by rfl), wp_ret]
  exact ⟨rfl, rfl⟩
theorem ev_getR {v : Fv} (h : RK σ S room Y (vs ++ [v])) (i : Int) : EvF PROG ov0 33 [PV S, .int .i64 i] σ (if 0 ≤ i ∧ i < (v.sl.length : Nat) then .tuple #[.int .u64 (v.sl.getD i.toNat 0), .int .i64 0] else .tuple #[.int .u64 0, .int .i64 1]) σ := by
  obtain ⟨_, h1, h2, c, p, n, cap, fs, f, h3, rfl, rfl, _⟩ := h.snoc
  have hl := tot_len (fs.map rvw ++ [rvw f])
  simp only [List.length_append, List.length_map, List.length_cons, List.length_nil] at hl
  have hi := last_idx fs f (by omega)
  have hok := h3.ok f (by simp)
  refine EvF.of (T33_eq _ _) rfl ?_
  have key : ∀ b : Bool, (b = false ↔ 0 ≤ i ∧ i < ((rvw f).sl.length : Nat)) → Wp PROG ov0 (T33k0 (some ⟨S, 0, some 0⟩) (fs ++ [f]).length i .normal [.bool b]) σ fun _ vs σ' => vs = [if 0 ≤ i ∧ i < ((rvw f).sl.length : Nat) then .tuple #[.int .u64 ((rvw f).sl.getD i.toNat 0), .int .i64 0] else .tuple #[.int .u64 0, .int .i64 1]] ∧ σ' = σ := by
    intro b hb
    simp only [T33k0, sw_same, asCons_cons, asBool_bool, asNil_nil]
    rw [wp_bif]
    cases b with
    | true =>
      rw [if_pos rfl, wp_ret, if_neg (fun h => by have := hb.2 h; cases this)]
      exact ⟨rfl, rfl⟩
    | false =>
      have hh := hb.1 rfl
      rw [if_neg (by simp), wp_fld h3.st rfl, asSlice_slice, hi, wp_fr h3.row (j := fs.length) (by simp) (by decide) (by rw [last_get]; rfl), asSlice_slice, wp_rdI hok.s.rdB.rd hh.1 hh.2, wp_ret, if_pos hh]
      exact ⟨rfl, rfl⟩
  rw [T33, wp_fld h3.st rfl, asSlice_slice, wp_bif, if_neg (by simp; omega), wp_join, wp_bif]
  by_cases h0 : i < 0
  · rw [if_neg (by simp; omega), wp_ret]
    exact key true (by simp; omega)
  · rw [if_pos (by simp; omega), wp_fld h3.st rfl, asSlice_slice, hi, wp_fr h3.row (j := fs.length) (by simp) (by decide) (by rw [last_get]; rfl), asSlice_slice, wp_ret]
    exact key _ (by simp [rvw]; omega)
end
end Go.Pg
