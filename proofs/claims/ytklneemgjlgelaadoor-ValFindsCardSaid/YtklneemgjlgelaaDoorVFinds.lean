/- Layer 9: names that are bound, one behind the other: what finding one, telling all comes to. -/
import Derived.Test.YtklneemgjlgelaaDoorRow2
import Derived.Test.YtklneemgjlgelaaDoorTabF
namespace Go.Pg
open Go.Proofs

theorem awake9f (old : Addr → Option Value) : WpF PROG ov0 4 [] (startH (unO tabsD old)) fun v σ' => v = .bool true ∧ σ'.old = unO tabsD old ∧ Fresh σ' :=
  WpF.tabQ TAB_ok 100000 (by kernel_rfl) (by kernel_rfl)

abbrev PA (b : Nat) : Addr := ⟨b, 0, some 0⟩
abbrev eqB (a b : ByteArray) : Bool := a.toList == b.toList
abbrev envC (s : ByteArray) (i : Int) (up : Option Addr) : List Value := [.string s, .int .i64 1, .int .i64 i, .string (bs []), .slice none 0 0, .int .i64 0, .pointer none, .int .i64 0, .pointer up]

/-- Names that are bound, the last one ahead. -/
def Ch (σ : AHeap) : Option Addr → List (ByteArray × Int) → Prop
  | p, [] => p = none
  | p, (s, i) :: xs => ∃ b up, p = some (PA b) ∧ St σ b (envC s i up) ∧ Ch σ up xs

theorem Ch.frm {σ σ' : AHeap} (k : Frm σ σ' NoB) : ∀ {p : Option Addr} {xs : List (ByteArray × Int)}, Ch σ p xs → Ch σ' p xs
  | _, [], h => h
  | _, (_, _) :: _, ⟨b, up, h1, h2, h3⟩ => ⟨b, up, h1, k.stN h2, Ch.frm k h3⟩

abbrev valC (k n : Int) : List Value := [.int .i64 k, .int .i64 n, .string (bs []), .slice none 0 0, .int .i64 0, .pointer none, .int .i64 0]

def fnd (xs : List (ByteArray × Int)) (s : ByteArray) : Option Int := match xs with
  | [] => none
  | (n, i) :: xs => if eqB n s = true then some i else fnd xs s

section
variable {σ : AHeap} {p : Option Addr} {xs : List (ByteArray × Int)}

theorem wp_find (h : Ch σ p xs) (s : ByteArray) {Q : Value → AHeap → Prop}
    (hQ : ∀ σ', Frm σ σ' NoB → Q (match fnd xs s with
      | some i => .tuple #[.agg (valC 1 i).toArray, .bool true]
      | none => .tuple #[.agg (valC 0 0).toArray, .bool false]) σ') : WpF PROG ov0 5 [.pointer p, .string s] σ Q := by
  refine WpF.of (T5_eq _ _) rfl ?_
  rw [T5]
  refine wp_newQ fun σ1 hF1 hn1 hS1 => ?_
  have hld : ∀ {σ : AHeap} {b : Nat} {cs : List Value} (_ : St σ b cs) (k : Nat) (_ : 1 + k ≤ cs.length) (g : Value → Pg) (Q : Post), Wp PROG ov0 (.act (ldN k (aadd ⟨b, 0, some 0⟩ 1)) g) σ Q = Wp PROG ov0 (g (.agg ((cs.drop 1).take k).toArray)) σ Q := by
    intro σ b cs h k hk g Q
    have e := h.ldN (off := 0 + 1) (k := k) (by omega)
    rw [wp_act, show aadd ⟨b, 0, some 0⟩ 1 = ⟨b, 0 + 1, some 0⟩ from rfl, e]
  refine Wp.count xs.length (fun j st σ' => ∃ q ys, st = [.pointer q, .bool false] ∧ σ1 = σ' ∧ Ch σ q ys ∧ ys.length + j = xs.length ∧ fnd ys s = fnd xs s) ⟨p, xs, rfl, rfl, h, rfl, rfl⟩ ?_ ?_
  · rintro j st σ2 hj ⟨q, ys, rfl, rfl, hC, hl, hf⟩
    cases ys with
    | nil => simp at hl; omega
    | cons y ys =>
      obtain ⟨n, i⟩ := y
      obtain ⟨b, up, rfl, hb, hC2⟩ := hC
      have hbl := hb.1
      have hb1 := hF1.stN hb
      simp only [T5b0, asCons_cons, asPtr_ptr, asBool_bool, asNil_nil, asSome_some]
      rw [wp_bif, if_pos (by rfl), wp_join, wp_ldF hb1 rfl, asStr_str, wp_bif]
      have ef : fnd ((n, i) :: ys) s = if eqB n s = true then some i else fnd ys s := rfl
      rw [ef] at hf
      by_cases he : eqB n s = true
      · rw [if_pos he] at hf ⊢
        rw [hld hb1 7 (by simp)]
        simp only [List.drop_succ_cons, List.drop_zero, List.take_succ_cons, List.take_zero, asAgg_agg, asCons_cons, asInt_int, asStr_str, asSlice_slice, asPtr_ptr, asNil_nil]
        refine wp_stQ hS1 rfl rfl fun σ3 hF3 hn3 hS3 => ?_
        rw [wp_ret]
        simp only [T5k0, sw_same, asCons_cons, asBool_bool, asNil_nil]
        rw [wp_ret]
        simp only [T5k1, sw_re, sw_same, asCons_cons, asPtr_ptr, asBool_bool, asNil_nil]
        rw [wp_ldAll hS3 7 rfl, wp_ret]
        have := hQ σ3 (hF1.fresh hF3 fun j hj h => by omega)
        rw [← hf] at this
        exact ⟨_, rfl, this⟩
      · rw [if_neg he] at hf ⊢
        rw [wp_ret]
        simp only [T5k0, sw_nr, sw_same, asCons_cons, asBool_bool, asNil_nil, asSome_some]
        rw [wp_ldF hb1 rfl, asPtr_ptr, wp_ret]
        refine ⟨up, ys, rfl, rfl, hC2, by simp at hl; omega, hf⟩
  · rintro st σ2 ⟨q, ys, rfl, rfl, hC, hl, hf⟩
    have : ys = [] := by
      cases ys with
      | nil => rfl
      | cons y ys => simp at hl
    subst this
    obtain rfl : q = none := hC
    simp only [T5b0, asCons_cons, asPtr_ptr, asBool_bool, asNil_nil]
    rw [wp_bif, if_neg (by simp), wp_ret]
    simp only [T5k1, sw_same, asCons_cons, asPtr_ptr, asBool_bool, asNil_nil]
    refine wp_stQ hS1 rfl rfl fun σ3 hF3 hn3 hS3 => ?_
    rw [wp_ldAll hS3 7 rfl, wp_ret]
    have := hQ σ3 (hF1.fresh hF3 fun j hj h => by omega)
    rw [← hf] at this
    exact ⟨_, rfl, this⟩

abbrev strs (l : List ByteArray) : List Value := l.map Value.string

/-- Texts that can be read. -/
def RdS (σ : AHeap) (p : Option Addr) (l : List ByteArray) : Prop := ∀ i (h : i < l.length), ∃ a, p = some a ∧ ld1 (aadd a (i * 1)) σ = some (.string l[i], σ)
theorem SlV.rdS {b cap : Nat} {l : List ByteArray} (h : SlV σ b p cap (strs l)) : RdS σ p l := by
  intro i hi
  rcases h with ⟨_, _, e⟩ | ⟨off, s, rfl, h⟩
  · simp at e
    subst e
    cases hi
  · refine ⟨_, rfl, ?_⟩
    rw [Nat.mul_one]
    exact h.ld (by simp [hi])
theorem RdR.rdS {old : Addr → Option Value} {l : List ByteArray} (h : RdR old 1 .str p l) (ho : σ.old = old) : RdS σ p l := by
  intro i hi
  obtain ⟨x, rfl, hx⟩ := h i hi
  exact ⟨x, rfl, hx σ ho⟩
theorem wp_rdS {l : List ByteArray} (h : RdS σ p l) {j : Nat} (h1 : j < l.length) (f : ByteArray → Pg) (Q : Post) :
    Wp PROG ov0 (asSome p fun a => grd (decide (0 ≤ ((j : Nat) : Int)) && decide (((j : Nat) : Int) < ((l.length : Nat) : Int))) (.act (ld1 (aadd a (Int.toNat ((j : Nat) : Int) * 1))) fun v => asStr v f)) σ Q = Wp PROG ov0 (f l[j]) σ Q := by
  obtain ⟨a, rfl, hl⟩ := h j h1
  have e : (decide (0 ≤ ((j : Nat) : Int)) && decide (((j : Nat) : Int) < ((l.length : Nat) : Int))) = true := by simp; omega
  simp only [asSome_some]
  rw [wp_grd, e, Int.toNat_natCast, wp_act, hl]
  simp only [asStr_str, true_and]

theorem ev_contains {l : List ByteArray} (h : RdS σ p l) (hl : l.length ≤ 100000) (c : Nat) (s : ByteArray) : EvF PROG ov0 10 [.slice p l.length c, .string s] σ (.bool (l.any fun x => eqB s x)) σ := by
  refine EvF.of (T10_eq _ _ _ _) rfl ?_
  rw [T10, wp_call]
  have key : WpF PROG ov0 14 [.slice p l.length c, .string s] σ fun x σ' => σ' = σ ∧ ∃ n : Int, x = .int .i64 n ∧ decide (n ≥ 0) = l.any fun x => eqB s x := by
    refine WpF.of (T14_eq _ _ _ _) rfl ?_
    rw [T14]
    refine Wp.count l.length (fun j st σ' => st = [.int .i64 ((j : Nat) : Int), .int .i64 0] ∧ σ' = σ ∧ ∀ w ∈ l.take j, eqB s w = false) ⟨rfl, rfl, by simp⟩ ?_ ?_
    · rintro j st σ1 hj ⟨rfl, rfl, hm⟩
      have ej : wi64 ((j : Int) + 1) = ((j + 1 : Nat) : Int) := by rw [wi64_in (by omega)]; omega
      simp only [T14b0, asCons_cons, asInt_int, asNil_nil]
      rw [wp_bif, if_pos (by simp; omega), wp_join, wp_rdS h hj, wp_bif]
      by_cases he : eqB s l[j] = true
      · rw [if_pos he, wp_ret]
        simp only [T14k0, sw_same, asCons_cons, asInt_int, asNil_nil]
        rw [wp_ret]
        simp only [T14k1, sw_re, sw_same, asCons_cons, asInt_int, asNil_nil]
        rw [wp_ret]
        refine ⟨_, rfl, rfl, _, rfl, ?_⟩
        have : (l.any fun x => eqB s x) = true := List.any_eq_true.2 ⟨l[j], List.getElem_mem hj, he⟩
        rw [this]
        simp
      · rw [if_neg he, wp_ret]
        simp only [T14k0, sw_nr, sw_same, asCons_cons, asInt_int, asNil_nil]
        rw [wp_ret, ej]
        refine ⟨rfl, rfl, fun w hw => ?_⟩
        rw [List.take_succ_eq_append_getElem hj] at hw
        rcases List.mem_append.1 hw with hw | hw
        · exact hm w hw
        · simp only [List.mem_singleton] at hw
          rw [hw]
          simpa using he
    · rintro st σ1 ⟨rfl, rfl, hm⟩
      simp only [T14b0, asCons_cons, asInt_int, asNil_nil]
      rw [wp_bif, if_neg (by simp), wp_ret]
      simp only [T14k1, sw_same, asCons_cons, asInt_int, asNil_nil]
      rw [wp_ret]
      refine ⟨_, rfl, rfl, _, rfl, ?_⟩
      rw [List.take_length] at hm
      have : (l.any fun x => eqB s x) = false := List.any_eq_false.2 fun w hw => by rw [hm w hw]; simp
      rw [this]
      rfl
  refine WpF.mono key ?_
  rintro x σ' ⟨rfl, n, rfl, e⟩
  simp only [asInt_int]
  rw [wp_ret, e]
  exact ⟨rfl, rfl⟩

/-- All names, once. -/
def nms : List ByteArray → List (ByteArray × Int) → List ByteArray
  | l, [] => l
  | l, (n, _) :: xs => nms (if (l.any fun x => eqB n x) = true then l else l ++ [n]) xs

theorem wp_names (h : Ch σ p xs) (hx : xs.length ≤ 1000) {Q : Value → AHeap → Prop}
    (hQ : ∀ σ' b q cap, Frm σ σ' NoB → SlV σ' b q cap (strs (nms [] xs)) → Q (.slice q (nms [] xs).length cap) σ') : WpF PROG ov0 6 [.pointer p] σ Q := by
  refine WpF.of (T6_eq _) rfl ?_
  rw [T6]
  refine Wp.count xs.length (fun j st σ' => ∃ e ys q cap b l, st = [.pointer e, .slice q l.length cap] ∧ Frm σ σ' NoB ∧ Ch σ e ys ∧ ys.length + j = xs.length ∧ l.length ≤ j ∧ nms l ys = nms [] xs ∧ SlV σ' b q cap (strs l) ∧ (q ≠ none → σ.n ≤ b)) ⟨p, xs, none, 0, 0, [], rfl, Frm.refl _ _, h, rfl, by simp, rfl, .inl ⟨rfl, rfl, rfl⟩, fun h => absurd rfl h⟩ ?_ ?_
  · rintro j st σ1 hj ⟨e, ys, q, cap, b, l, rfl, hF1, hC, hl, hlj, hn, hq, hqb⟩
    cases ys with
    | nil => simp at hl; omega
    | cons y ys =>
      obtain ⟨n, i⟩ := y
      obtain ⟨c, up, rfl, hb, hC2⟩ := hC
      have hb1 := hF1.stN hb
      simp only [T6b0, asCons_cons, asPtr_ptr, asSlice_slice, asNil_nil, asSome_some]
      rw [wp_bif, if_pos (by rfl), wp_join, wp_ldF hb1 rfl, asStr_str, wp_call, WpF.eq (ev_contains hq.rdS (by omega) cap n), asBool_bool, wp_join, wp_bif]
      have en : nms l ((n, i) :: ys) = nms (if (l.any fun x => eqB n x) = true then l else l ++ [n]) ys := rfl
      rw [en] at hn
      by_cases ha : (l.any fun x => eqB n x) = true
      · rw [if_pos ha] at hn
        rw [ha, if_neg (by simp), wp_ret]
        simp only [T6k0, sw_same, asCons_cons, asSlice_slice, asNil_nil]
        rw [wp_ret]
        simp only [T6k1, sw_same, asCons_cons, asSlice_slice, asNil_nil, asSome_some]
        rw [wp_ldF hb1 rfl, asPtr_ptr, wp_ret]
        exact ⟨up, ys, q, cap, b, l, rfl, hF1, hC2, by simp at hl; omega, by omega, hn, hq, hqb⟩
      · rw [if_neg ha] at hn
        have ha' : (l.any fun x => eqB n x) = false := by simpa using ha
        rw [ha', if_pos (by rfl), wp_ldF hb1 rfl, asStr_str]
        refine wp_app1 hq (by simp) rfl (by omega) (by omega) fun σ2 b2 off s c2 hF2 hb2 hR2 => ?_
        rw [wp_ret]
        simp only [T6k0, sw_same, asCons_cons, asSlice_slice, asNil_nil]
        rw [wp_ret]
        have hF12 : Frm σ σ2 NoB := hF1.fresh hF2 fun i hi h => by have := hqb h.1; omega
        simp only [T6k1, sw_same, asCons_cons, asSlice_slice, asNil_nil, asSome_some]
        rw [wp_ldF (hF12.stN hb) rfl, asPtr_ptr, wp_ret]
        refine ⟨up, ys, _, c2, b2, l ++ [n], by simp, hF12, hC2, by simp at hl; omega, by simp; omega, hn, .inr ⟨off, s, rfl, by simpa using hR2⟩, fun _ => ?_⟩
        rcases hb2 with ⟨hq', rfl⟩ | hb2
        · exact hqb hq'
        · have := hF1.n
          omega
  · rintro st σ1 ⟨e, ys, q, cap, b, l, rfl, hF1, hC, hl, hlj, hn, hq, hqb⟩
    have : ys = [] := by
      cases ys with
      | nil => rfl
      | cons y ys => simp at hl
    subst this
    obtain rfl : e = none := hC
    obtain rfl : l = nms [] xs := hn
    simp only [T6b0, asCons_cons, asPtr_ptr, asSlice_slice, asNil_nil]
    rw [wp_bif, if_neg (by simp), wp_ret]
    simp only [T6k2, sw_same, asCons_cons, asPtr_ptr, asSlice_slice, asNil_nil]
    rw [wp_ret]
    exact ⟨_, rfl, hQ σ1 b q cap hF1 hq⟩
end
end Go.Pg
