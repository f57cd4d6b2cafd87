/- Layer 18: the tape: what it is in the heap; what its functions come to. -/
import Derived.Test.YteelimkplbfiiaaDoorRow2
import Derived.Test.YteelimkplbfiiaaDoorTabF
import Derived.Test.YteelimkplbfiiaaDoorTextG
namespace Go.Pg
open Go.Proofs Go.Lib

def mkB (l : List UInt8) : ByteArray := ⟨l.toArray⟩
theorem mkB_data (l : List UInt8) : (mkB l).data.toList = l := rfl
theorem mkB_size (l : List UInt8) : (mkB l).size = l.length := rfl
theorem mkB_self (s : ByteArray) : mkB s.data.toList = s := rfl
theorem tl_loop (s : ByteArray) : ∀ (d i : Nat) (r : List UInt8), s.size - i = d → ByteArray.toList.loop s i r = r.reverse ++ s.data.toList.drop i
  | 0, i, r, h => by
    unfold ByteArray.toList.loop
    rw [if_neg (by omega), List.drop_of_length_le (by have : s.data.toList.length = s.size := rfl
                                                      omega), List.append_nil]
  | d + 1, i, r, h => by
    have hl : i < s.data.toList.length := by
      have : s.data.toList.length = s.size := rfl
      omega
    unfold ByteArray.toList.loop
    rw [if_pos (by omega), tl_loop s d (i + 1) _ (by omega), List.drop_eq_getElem_cons hl, List.reverse_cons, List.append_assoc]
    have e : s.get! i = s.data.toList[i] := by
      cases s with
      | mk a => simp only [ByteArray.get!]; rw [getElem!_pos a i (by simpa using hl)]; rfl
    rw [e]
    rfl
theorem tl_data (s : ByteArray) : s.toList = s.data.toList := by
  unfold ByteArray.toList
  rw [tl_loop s _ 0 [] rfl]
  rfl
theorem tl_mkB (l : List UInt8) : (mkB l).toList = l := tl_data _
theorem app_mkB (a b : List UInt8) : mkB a ++ mkB b = mkB (a ++ b) := by
  have h : (mkB a ++ mkB b).data.toList = a ++ b := by simp [mkB]
  rw [← mkB_self (mkB a ++ mkB b), h]
theorem tl_bs (l : List UInt8) : (bs l).toList = l := tl_data _

def r64 (z : Int) : Prop := -9223372036854775808 ≤ z ∧ z ≤ 9223372036854775807

abbrev TA (b : Nat) : Value := .pointer (some ⟨b, 0, some 0⟩)
/-- The tape, and blocks Y that it does not have. -/
def TP (σ : AHeap) (b : Nat) (Y : Nat → Prop) (inp out : List Int) (rd : Nat) : Prop :=
  (∀ i, Y i → i < σ.n) ∧ ∃ bi pi ci bo po co, St σ b [.slice pi inp.length ci, .slice po out.length co, .int .i64 (rd : Nat)] ∧ SlV σ bi pi ci (ints .i64 inp) ∧ SlV σ bo po co (ints .i64 out) ∧
    (pi ≠ none → bi ≠ b ∧ ¬ Y bi) ∧ (po ≠ none → bo ≠ b ∧ ¬ Y bo) ∧ (pi ≠ none → po ≠ none → bi ≠ bo) ∧ ¬ Y b ∧ rd ≤ inp.length ∧ inp.length ≤ 250 ∧ out.length ≤ 1000 ∧ ∀ z ∈ out, r64 z

section
variable {σ : AHeap} {b : Nat} {Y : Nat → Prop} {inp out : List Int} {rd : Nat}

theorem SlV.lt' {σ : AHeap} {b cap : Nat} {p : Option Addr} {xs : List Value} (h : SlV σ b p cap xs) (hp : p ≠ none) : b < σ.n := by
  cases p with
  | none => exact absurd rfl hp
  | some a => exact h.lt

theorem TP.step {σ' : AHeap} {T Y' : Nat → Prop} (h : TP σ b Y inp out rd) (f : Frm σ σ' T) (hT : ∀ j, T j → Y j) (hY : ∀ j, Y' j → (Y j ∨ σ.n ≤ j) ∧ j < σ'.n) : TP σ' b Y' inp out rd := by
  obtain ⟨h0, bi, pi, ci, bo, po, co, hS, hi, ho, d1, d2, d3, d4, h5⟩ := h
  have key : ∀ j, j < σ.n → ¬ Y j → ¬ Y' j := fun j hj hn hy => by
    rcases (hY j hy).1 with h | h
    · exact hn h
    · omega
  refine ⟨fun i hi => (hY i hi).2, bi, pi, ci, bo, po, co, f.st hS fun h => d4 (hT _ h), hi.frm f fun hp h => (d1 hp).2 (hT _ h), ho.frm f fun hp h => (d2 hp).2 (hT _ h), fun hp => ⟨(d1 hp).1, key _ (hi.lt' hp) (d1 hp).2⟩, fun hp => ⟨(d2 hp).1, key _ (ho.lt' hp) (d2 hp).2⟩, d3, key _ hS.1 d4, h5⟩

/-- Read. -/
theorem wp_read (h : TP σ b Y inp out rd) {Q : Value → AHeap → Prop}
    (hQ : ∀ σ' rd', Frm σ σ' (fun j => ¬ Y j) → TP σ' b Y inp out rd' → rd' = (if rd < inp.length then rd + 1 else rd) → Q (.tuple #[.int .i64 (inp.getD rd 0), .bool (decide (rd < inp.length))]) σ') : WpF PROG ovD 7 [TA b] σ Q := by
  obtain ⟨h0, bi, pi, ci, bo, po, co, hS, hi, ho, d1, d2, d3, d4, h5, h6, h7⟩ := h
  refine WpF.of (T7_eq _) rfl ?_
  rw [T7, wp_fld hS rfl, asInt_int, wp_fld hS rfl, asSlice_slice, wp_bif]
  by_cases hlt : rd < inp.length
  · have hd : decide ((rd : Int) ≥ ((inp.length : Nat) : Int)) = false := by simp; omega
    have e1 : wi64 ((rd : Int) + 1) = ((rd + 1 : Nat) : Int) := by rw [wi64_in (by omega)]; omega
    rw [if_neg (by rw [hd]; simp), wp_fld hS rfl, asInt_int]
    simp only [asSome_some]
    refine wp_st1Q hS (by simp) rfl fun σ1 hF1 hn1 hS1 => ?_
    simp only [List.set] at hS1
    have e2 : wi64 (wi64 ((rd : Int) + 1) - 1) = (rd : Int) := by rw [e1, wi64_in (by omega)]; omega
    rw [wp_ldF hS1 rfl, asSlice_slice, wp_ldF hS1 rfl, asInt_int, e2]
    have hi1 := hi.frm hF1 fun hp => (d1 hp).1
    rw [wp_rdI hi1.rdB.rd (by omega) (by omega), wp_ret]
    refine ⟨_, rfl, ?_⟩
    rw [Int.toNat_natCast]
    have hdt : decide (rd < inp.length) = true := by simpa using hlt
    have := hQ σ1 (rd + 1) (hF1.mono fun j _ e => by subst e; exact d4) ⟨fun i hy => by rw [hn1]; exact h0 i hy, bi, pi, ci, bo, po, co, by rw [e1] at hS1; exact hS1, hi1, ho.frm hF1 fun hp => (d2 hp).1, d1, d2, d3, d4, by omega, h6, h7⟩ (by rw [if_pos hlt])
    rw [hdt] at this
    exact this
  · have hd : decide ((rd : Int) ≥ ((inp.length : Nat) : Int)) = true := by simp; omega
    rw [if_pos hd, wp_ret]
    refine ⟨_, rfl, ?_⟩
    have hg : inp.getD rd 0 = 0 := by simp [List.getD, List.getElem?_eq_none (show inp.length ≤ rd by omega)]
    have hdf : decide (rd < inp.length) = false := by simpa using hlt
    have := hQ σ rd (Frm.refl _ _) ⟨h0, bi, pi, ci, bo, po, co, hS, hi, ho, d1, d2, d3, d4, h5, h6, h7⟩ (by rw [if_neg hlt])
    rw [hg, hdf] at this
    exact this

/-- Print. -/
theorem wp_print (h : TP σ b Y inp out rd) {x : Int} (hx : r64 x) (hl : out.length < 1000) {Q : Value → AHeap → Prop}
    (hQ : ∀ σ', Frm σ σ' (fun j => ¬ Y j) → TP σ' b Y inp (out ++ [x]) rd → Q (.tuple #[]) σ') : WpF PROG ovD 8 [TA b, .int .i64 x] σ Q := by
  obtain ⟨h0, bi, pi, ci, bo, po, co, hS, hi, ho, d1, d2, d3, d4, h5, h6, h7, h8⟩ := h
  refine WpF.of (T8_eq _ _) rfl ?_
  rw [T8, wp_fld hS rfl, asSlice_slice]
  have ei : ints .i64 (out ++ [x]) = ints .i64 out ++ [.int .i64 x] := by simp [ints]
  refine wp_app1 ho (by simp) rfl (by omega) (by omega) fun σ1 b' off s cap' hF1 hb' hR1 => ?_
  have hS1 := hF1.st hS fun e => (d2 e.1).1 e.2.symm
  have hi1 := hi.frm hF1 fun hp e => d3 hp e.1 e.2
  simp only [asSome_some]
  refine wp_st1Q hS1 (by simp) rfl fun σ2 hF2 hn2 hS2 => ?_
  simp only [List.set] at hS2
  rw [wp_ret]
  have hbb : b' ≠ b ∧ ¬ Y b' ∧ (pi ≠ none → bi ≠ b') := by
    rcases hb' with ⟨hp, rfl⟩ | hn
    · exact ⟨(d2 hp).1, (d2 hp).2, fun hq => d3 hq hp⟩
    · have := hS.1
      exact ⟨by omega, fun hy => by have := h0 _ hy; omega, fun hq => by have := hi.lt' hq; omega⟩
  have hR2 := hF2.row hR1 hbb.1
  rw [← ei] at hR2
  refine ⟨_, rfl, hQ σ2 ?_ ⟨fun i hy => by rw [hn2]; exact Nat.lt_of_lt_of_le (h0 i hy) hF1.n, bi, pi, ci, b', some ⟨b', off, some s⟩, cap', by simpa using hS2, hi1.frm hF2 fun hp => (d1 hp).1, .inr ⟨off, s, rfl, hR2⟩, d1, fun _ => ⟨hbb.1, hbb.2.1⟩, fun hq _ => hbb.2.2 hq, d4, h5, h6, by simp; omega, ?_⟩⟩
  · exact hF1.trans hF2 (fun j _ e => by rw [e.2]; exact (d2 e.1).2) (fun j _ e => by subst e; exact d4)
  · intro z hz
    rcases List.mem_append.1 hz with hz | hz
    · exact h8 z hz
    · simp at hz
      subst hz
      exact hx

/-- Marks. -/
theorem wp_marks (h : TP σ b Y inp out rd) {Q : Value → AHeap → Prop} (hQ : Q (.tuple #[.int .i64 (rd : Nat), .int .i64 (out.length : Nat)]) σ) : WpF PROG ovD 10 [TA b] σ Q := by
  obtain ⟨h0, bi, pi, ci, bo, po, co, hS, hi, ho, d1, d2, d3, d4, h5, h6, h7, h8⟩ := h
  refine WpF.of (T10_eq _) rfl ?_
  rw [T10, wp_fld hS rfl, asInt_int, wp_fld hS rfl, asSlice_slice, wp_ret]
  exact ⟨_, rfl, hQ⟩

/-- Back. -/
def mayB (rd n : Nat) (r p : Int) : Bool := decide (0 ≤ r) && decide (r ≤ rd) && decide (0 ≤ p) && decide (p ≤ (n : Nat))
theorem wp_back (h : TP σ b Y inp out rd) (r p : Int) {Q : Value → AHeap → Prop}
    (h1 : mayB rd out.length r p = true → ∀ σ', Frm σ σ' (fun j => ¬ Y j) → TP σ' b Y inp (out.take p.toNat) r.toNat → Q (.int .i64 0) σ') (h2 : mayB rd out.length r p = false → Q (.int .i64 1) σ) : WpF PROG ovD 9 [TA b, .int .i64 r, .int .i64 p] σ Q := by
  obtain ⟨h0, bi, pi, ci, bo, po, co, hS, hi, ho, d1, d2, d3, d4, h5, h6, h7, h8⟩ := h
  refine WpF.of (T9_eq _ _ _) rfl ?_
  have key : Wp PROG ovD (T9k0 (some ⟨b, 0, some 0⟩) p r .normal [.bool (!mayB rd out.length r p)]) σ fun e vs σ' => ∃ v, vs = [v] ∧ Q v σ' := by
    rw [T9k0, sw_same, asCons_cons, asBool_bool, asNil_nil, wp_bif]
    cases hm : mayB rd out.length r p with
    | false =>
      rw [if_pos (by rfl), wp_ret]
      exact ⟨_, rfl, h2 hm⟩
    | true =>
      rw [if_neg (by simp), wp_fld hS rfl, asSlice_slice, wp_grd]
      have hm' := hm
      simp only [mayB, Bool.and_eq_true, decide_eq_true_eq] at hm'
      obtain ⟨⟨⟨m1, m2⟩, m3⟩, m4⟩ := hm'
      have hcap := ho.cap
      simp only [List.length_map] at hcap
      refine ⟨by simp; omega, ?_⟩
      simp only [asSome_some]
      refine wp_st1Q hS (by simp) rfl fun σ1 hF1 hn1 hS1 => ?_
      simp only [List.set] at hS1
      refine wp_st1Q hS1 (by simp) rfl fun σ2 hF2 hn2 hS2 => ?_
      simp only [List.set] at hS2
      rw [wp_ret]
      have hF : Frm σ σ2 (· = b) := hF1.seq hF2
      have htk : (out.take p.toNat).length = p.toNat := by rw [List.length_take]; omega
      have hit : ints .i64 (out.take p.toNat) = (ints .i64 out).take p.toNat := by simp [ints, List.map_take]
      refine ⟨_, rfl, h1 hm σ2 (hF.mono fun j _ e => by subst e; exact d4) ⟨fun i hy => by rw [hn2, hn1]; exact h0 i hy, bi, pi, ci, bo, po, co, ?_, hi.frm hF fun hp => (d1 hp).1, ?_, d1, d2, d3, d4, by omega, h6, by omega, fun z hz => h8 z (List.mem_of_mem_take hz)⟩⟩
      · rw [htk, show ((r.toNat : Nat) : Int) = r by omega]
        exact hS2
      · rw [hit]
        exact (ho.frm hF fun hp => (d2 hp).1).take _
  rw [T9, wp_join, wp_bif]
  by_cases c1 : r < 0
  · have hm : mayB rd out.length r p = false := by simp [mayB]; omega
    rw [hm] at key
    rw [if_neg (by simp; omega), wp_ret]
    exact key
  · rw [if_pos (by simp; omega), wp_fld hS rfl, asInt_int, wp_bif]
    by_cases c2 : r > (rd : Int) ∨ p < 0
    · have hm : mayB rd out.length r p = false := by simp [mayB]; omega
      rw [hm] at key
      rw [if_neg (by simp; omega), wp_ret]
      exact key
    · rw [if_pos (by simp; omega), wp_fld hS rfl, asSlice_slice, wp_ret]
      have hm : mayB rd out.length r p = !decide (p > ((out.length : Nat) : Int)) := by
        have a1 : decide (0 ≤ r) = true := by simp; omega
        have a2 : decide (r ≤ (rd : Int)) = true := by simp; omega
        have a3 : decide (0 ≤ p) = true := by simp; omega
        rw [mayB, a1, a2, a3]
        by_cases hq : p ≤ (out.length : Int)
        · simp [hq]
        · simp [hq]; omega
      rw [hm, Bool.not_not] at key
      exact key

/-- Text. -/
theorem ev_text (h : TP σ b Y inp out rd) : EvF PROG ovD 13 [TA b] σ (.string (mkB (textL out))) σ := by
  obtain ⟨h0, bi, pi, ci, bo, po, co, hS, hi, ho, d1, d2, d3, d4, h5, h6, h7, h8⟩ := h
  have hg : textG [TA b] σ = some (.string (mkB (textL out)), σ) := by
    have e1 : σ.rdN (aadd ⟨b, 0, some 0⟩ 1) 1 = some [.slice po out.length co] := by
      have := hS.ld (off := 0 + 1) rfl
      unfold ld1 at this
      have e : aadd (⟨b, 0, some 0⟩ : Addr) 1 = ⟨b, 0 + 1, some 0⟩ := rfl
      rw [e]
      unfold AHeap.rdN
      simp only [hS.2]
      rfl
    have e2 : textR σ po out.length = some out := by
      unfold textR rowL
      cases out with
      | nil => rfl
      | cons z zs =>
        have hb : Nat.beq (z :: zs).length 0 = false := rfl
        rw [hb, cond_false]
        rcases ho with ⟨_, _, e⟩ | ⟨off, s, rfl, ho⟩
        · cases e
        · have := ho.rdN (i := 0) (k := (z :: zs).length) (by simp)
          rw [Nat.add_zero, List.drop_zero, List.take_of_length_le (by simp)] at this
          simp only [this]
          exact intsL_of h8
    unfold textG
    simp only [e1, e2]
    rw [show decide (22 * out.length ≤ 140737488355328) = true by simp; omega]
    rfl
  refine ⟨1, fun n hn => ?_⟩
  cases n with
  | zero => omega
  | succ n =>
    unfold execFn
    rw [show ovD 13 = some textG from rfl]
    exact hg
end
end Go.Pg
