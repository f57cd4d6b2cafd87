/- Layer 12: the document's heap: Split, Head, Ptr, Get, Set, Head, exactly; rows that are given, appended. -/
import Derived.Test.YtndkndlfhmkkkaaHeap14
import Derived.Test.YtndkndlfhmkkkaaHeapB
namespace Go.Pg
open Go.Proofs

/-- Rows that stand in cells that are given are given, too. -/
def OldP (old : Addr → Option Value) : Prop := ∀ a q n c, old a = some (.slice (some q) n c) → q.spot = none

theorem Cl.old {old : Addr → Option Value} {a : Addr} {v : Value} (h : Cl old a v) : a.spot = none ∧ old ⟨a.block, a.off, none⟩ = some v := by
  have h1 := h (startH old) rfl
  obtain ⟨b, o, s⟩ := a
  unfold ld1 AHeap.rdN at h1
  cases s with
  | none =>
    simp only [oldN] at h1
    have e : (startH old).old = old := rfl
    rw [e] at h1
    cases ho : old ⟨b, o, none⟩ with
    | none => rw [ho] at h1; cases h1
    | some u =>
      rw [ho] at h1
      simp only [Option.some.injEq, Prod.mk.injEq, and_true] at h1
      exact ⟨rfl, by rw [h1]⟩
  | some s =>
    have e : (startH old).get b = none := by
      unfold startH AHeap.get
      exact Tri.bnd_ok _ _ (Nat.zero_le _)
    simp only [e] at h1
    cases h1

/-- A row of numbers that is given. -/
structure OldR (old : Addr → Option Value) (p : Option Addr) (c : Nat) (l : List Int) : Prop where
  rd : ∀ σ : AHeap, σ.old = old → RdI σ .u64 p l
  fst : ∀ σ : AHeap, σ.old = old → firstOf 1 l.length σ (.slice p l.length c) = some (ints .u64 l)

theorem oldN_all {old : Addr → Option Value} {b : Nat} : ∀ (vs : List Value) (o : Nat), (∀ i v, vs[i]? = some v → old ⟨b, o + i, none⟩ = some v) → oldN old b o vs.length = some vs
  | [], o, _ => rfl
  | v :: vs, o, h => by
    have h0 : old ⟨b, o, none⟩ = some v := by simpa using h 0 v rfl
    have ih := oldN_all vs (o + 1) fun i w hw => by
      have := h (i + 1) w hw
      rw [show o + 1 + i = o + (i + 1) by omega]
      exact this
    rw [List.length_cons, oldN, h0]
    simp only [ih]

theorem RdR.oldR {old : Addr → Option Value} {a : Addr} {p : Option Addr} {n c : Nat} {l : List Int} (hO : OldP old) (hc : Cl old a (.slice p n c)) (h : RdR old 1 (Sh.int IntKind.u64) p l) : OldR old p c l := by
  refine ⟨RdR.ints h, fun σ hσ => ?_⟩
  cases p with
  | none =>
    cases l with
    | nil => rfl
    | cons x l =>
      obtain ⟨y, hy, _⟩ := h 0 (by simp)
      cases hy
  | some q =>
    have hs := hO _ _ _ _ hc.old.2
    obtain ⟨b, o, s⟩ := q
    simp only at hs
    subst hs
    unfold firstOf AHeap.rdN
    simp only [Nat.mul_one, hσ]
    have := oldN_all (old := old) (b := b) (Go.Pg.ints .u64 l) o fun i v hv => by
      have hi : i < l.length := by
        have := (List.getElem?_eq_some_iff.1 hv).1
        simpa using this
      obtain ⟨x, hx, h1⟩ := h i hi
      cases hx
      have h2 := (Cl.old h1).2
      simp only [aadd, Nat.mul_one] at h2
      rw [h2]
      rw [ints_get hi] at hv
      simp only [Option.some.injEq] at hv
      rw [← hv]
      simp [List.getD, hi]
    simpa using this

section
variable {P : Program} {ov : Ov}
/-- A row is appended, that can be read. -/
theorem wp_appF {σ : AHeap} {b cap len cap2 n byt : Nat} {p p2 : Option Addr} {xs ys : List Value} {g : Option Addr → Nat → Nat → Pg} {Q : Post} (h : SlV σ b p cap xs) (hlen : len = xs.length) (hf : firstOf 1 n σ (.slice p2 n cap2) = some ys) (hyo : ∀ y ∈ ys, one y = true) (hn : n = ys.length)
    (hb : 2 * (len + n) * byt ≤ 281474976710656) (hb2 : len + n ≤ 4611686018427387904)
    (k : ∀ σ' b' p' cap', Frm σ σ' (fun j => p ≠ none ∧ j = b) → (p' = none ∨ (p ≠ none ∧ b' = b) ∨ σ.n ≤ b') → SlV σ' b' p' cap' (xs ++ ys) → Wp P ov (g p' (len + n) cap') σ' Q) :
    Wp P ov (.act (apS 1 byt p len cap p2 n cap2) fun w => asSlice w g) σ Q := by
  subst hlen
  subst hn
  have e0 : apS 1 byt p xs.length cap p2 ys.length cap2 σ = apCore 1 byt p xs.length cap ys.length ys σ := by unfold apS; rw [hf]
  rw [wp_act, e0]
  by_cases h0 : ys = []
  · subst h0
    rw [List.length_nil, apCore_zero h.cap]
    simp only [asSlice_slice]
    refine k σ b p cap (Frm.refl _ _) ?_ (by simpa using h)
    cases p with
    | none => exact .inl rfl
    | some a => exact .inr (.inl ⟨by simp, rfl⟩)
  · have hy1 : 1 ≤ ys.length := by
      cases ys with
      | nil => exact absurd rfl h0
      | cons y ys => simp
    rcases h with ⟨rfl, rfl, rfl⟩ | ⟨off, s, rfl, h⟩
    · rw [List.length_nil, apCore_nil (by decide) hy1 (by simp) hyo (by simpa using hb) (by simpa using hb2)]
      simp only [asSlice_slice]
      have := k (σ.newBlk ys 1) σ.n (some ⟨σ.n, 0, some 1⟩) ys.length (Frm.new _ _ _ _) (.inr (.inr (Nat.le_refl _))) (.inr ⟨0, 1, rfl, by simpa using Row.new σ 1 ys ys.length (by decide) (by simp) hyo⟩)
      simpa using this
    · obtain ⟨σ', s', cap', e1, e2, e3, e4, e5⟩ := h.append (byt := byt) (len := xs.length) (n := ys.length) (ys := ys) (by simp) (by simp) (by decide) hy1 hyo hb hb2
      rw [e1]
      simp only [asSlice_slice]
      exact k σ' b _ cap' ((Frm.of1 h.lt e2 e3 e4).mono fun j _ e => ⟨by simp, e⟩) (.inr (.inl ⟨by simp, rfl⟩)) (.inr ⟨off, s', rfl, e5⟩)

theorem SlV.first {σ : AHeap} {b cap n : Nat} {p : Option Addr} {xs : List Value} (h : SlV σ b p cap xs) (hn : n = xs.length) : firstOf 1 n σ (.slice p n cap) = some xs := by
  subst hn
  cases p with
  | none =>
    rcases h with ⟨_, _, rfl⟩ | ⟨_, _, e, _⟩
    · rfl
    · cases e
  | some a =>
    have := h.rdN (k := xs.length) (Nat.le_refl _)
    rw [List.take_length] at this
    unfold firstOf
    simp only [Nat.mul_one, this]

/-- An empty row. -/
theorem wp_bd0 {σ : AHeap} {g : Option Addr → Nat → Nat → Pg} {Q : Post} (k : ∀ σ' a, Frm σ σ' NoB → σ'.n = σ.n + 1 → SlV σ' σ.n (some a) 0 [] → Wp P ov (g (some a) 0 0) σ' Q) : Wp P ov (.act (bdSl 1 0 []) fun v => asSlice v g) σ Q := by
  rw [wp_act, bdSl_eq]
  simp only [asSlice_slice]
  exact k _ _ (Frm.new σ [] 1 NoB) rfl (.inr ⟨0, 1, rfl, Row.new σ 1 [] 0 (by decide) rfl (by simp)⟩)
theorem ones_ints (k : IntKind) (l : List Int) : ∀ y ∈ ints k l, one y = true := by
  intro y hy
  obtain ⟨n, _, rfl⟩ := List.mem_map.1 hy
  rfl
end

theorem hdW_val (kind tag : Int) (n : Int) (h : hdB kind tag n = true) : hdW kind tag n = 2 * (kind * 16777216 + tag * 65536 + n) + 1 := by
  have hh : 1 ≤ kind ∧ kind ≤ 3 ∧ 0 ≤ tag ∧ tag ≤ 255 ∧ 0 ≤ n ∧ n ≤ 65535 := of_decide_eq_true h
  unfold hdW
  rw [if_pos h, hd_val kind tag n h]
  unfold numW
  omega

section
variable {σ : AHeap} {S : Nat} {Y : Nat → Prop} {room tu : Int} {W : List Int} {ts : List (Int × List Int)}

theorem ev_ptr42 (n : Int) : EvF PROG ov0 42 [.int .i64 n] σ (.int .u64 (ptrW n)) σ := by
  have fin : ∀ m : Int, 0 ≤ m → m ≤ 2147483647 → wu64 ((wu64 m) * 2) = 2 * m := fun m h0 h1 => by
    rw [wu64_in (n := m) (by omega), wu64_in (by omega)]
    omega
  refine EvF.of (T42_eq n) rfl ?_
  rw [T42, wp_join, wp_bif]
  unfold ptrW
  by_cases h0 : n < 0
  · rw [if_pos (by simp [h0]), wp_ret]
    simp only [T42k1, sw_same, asCons_cons, asInt_int, asNil_nil]
    rw [wp_join, wp_bif, if_neg (by simp), wp_ret]
    simp only [T42k0, sw_same, asCons_cons, asInt_int, asNil_nil]
    rw [wp_ret, fin 0 (by omega) (by omega), show min (max n 0) 2147483647 = 0 by omega]
    exact ⟨rfl, rfl⟩
  · rw [if_neg (by simp; omega), wp_ret]
    simp only [T42k1, sw_same, asCons_cons, asInt_int, asNil_nil]
    rw [wp_join, wp_bif]
    by_cases h1 : n > 2147483647
    · rw [if_pos (by simp; omega), wp_ret]
      simp only [T42k0, sw_same, asCons_cons, asInt_int, asNil_nil]
      rw [wp_ret, fin _ (by omega) (by omega), show min (max n 0) 2147483647 = 2147483647 by omega]
      exact ⟨rfl, rfl⟩
    · rw [if_neg (by simp; omega), wp_ret]
      simp only [T42k0, sw_same, asCons_cons, asInt_int, asNil_nil]
      rw [wp_ret, fin _ (by omega) (by omega), show min (max n 0) 2147483647 = n by omega]
      exact ⟨rfl, rfl⟩

theorem ev_head40 (kind tag n : Int) : EvF PROG ov0 40 [.int .i64 kind, .int .i64 tag, .int .i64 n] σ (.tuple #[.int .u64 (hdW kind tag n), .bool (hdB kind tag n)]) σ := by
  refine EvF.of (T40_eq _ _ _) rfl ?_
  rw [T40, wp_bif]
  cases hB : hdB kind tag n with
  | false =>
    have hh : ¬ (1 ≤ kind ∧ kind ≤ 3 ∧ 0 ≤ tag ∧ tag ≤ 255 ∧ 0 ≤ n ∧ n ≤ 65535) := of_decide_eq_false hB
    have e0 : hdW kind tag n = 0 := by unfold hdW; rw [if_neg (by rw [hB]; simp)]
    rw [if_pos (by simp; omega), wp_ret, e0]
    exact ⟨rfl, rfl⟩
  | true =>
    have hh : 1 ≤ kind ∧ kind ≤ 3 ∧ 0 ≤ tag ∧ tag ≤ 255 ∧ 0 ≤ n ∧ n ≤ 65535 := of_decide_eq_true hB
    rw [if_neg (by simp; omega), wp_ret, hdW_val kind tag n hB, wi64_in (n := tag * 65536) (by omega), wi64_in (n := kind * 16777216) (by omega), wi64_in (n := n + tag * 65536) (by omega), wi64_in (by omega), wu64_in (n := n + tag * 65536 + kind * 16777216) (by omega), wu64_in (n := (n + tag * 65536 + kind * 16777216) * 2) (by omega), wu64_in (by omega), show (n + tag * 65536 + kind * 16777216) * 2 + 1 = 2 * (kind * 16777216 + tag * 65536 + n) + 1 by omega]
    exact ⟨rfl, rfl⟩

theorem ev_split46x (w : Int) (hw : 0 ≤ w ∧ w < 18446744073709551616) : EvF PROG ov0 46 [.int .u64 w] σ (.tuple #[.int .i64 (splitK w), .int .i64 (splitT w), .int .i64 (splitN w), .bool (splitOK w)]) σ := by
  have hm : Int.tmod w 2 = w % 2 := Int.tmod_eq_emod_of_nonneg hw.1
  have hd : Int.tdiv w 2 = w / 2 := Int.tdiv_eq_ediv_of_nonneg hw.1
  have hu : wu64 (w / 2) = w / 2 := wu64_in (by omega)
  have hi : wi64 (w / 2) = w / 2 := wi64_in (by omega)
  refine EvF.of (T46_eq w) rfl ?_
  by_cases hok : w % 2 = 1 ∧ w / 2 < 67108864 ∧ 16777216 ≤ w / 2
  · have hI := intW_half w hw hok.1 (by omega)
    have hB : splitOK w = true := by
      unfold splitOK
      rw [hI]
      simp
      omega
    have hN : splitN w = w / 2 % 65536 := by unfold splitN; rw [if_pos hB, hI]
    have hK : splitK w = w / 2 / 16777216 := by unfold splitK; rw [if_pos hB, hI]
    have hT : splitT w = w / 2 / 65536 % 256 := by unfold splitT; rw [if_pos hB, hI]
    rw [T46, wp_join, wp_bif, hm, if_pos (by simp; omega), wp_bif, hd, hu, if_pos (by simp; omega), wp_ret]
    simp only [T46k0, sw_same, asCons_cons, asBool_bool, asNil_nil]
    rw [wp_bif, if_neg (by simp; omega), wp_ret, hd, hu, hi, hB, hN, hK, hT, Int.tmod_eq_emod_of_nonneg (show 0 ≤ w / 2 by omega), Int.tdiv_eq_ediv_of_nonneg (show 0 ≤ w / 2 by omega), Int.tdiv_eq_ediv_of_nonneg (show 0 ≤ w / 2 by omega), wi64_in (n := w / 2 / 16777216) (by omega), wi64_in (n := w / 2 / 65536) (by omega), Int.tmod_eq_emod_of_nonneg (show 0 ≤ w / 2 / 65536 by omega)]
    exact ⟨rfl, rfl⟩
  · have hB : splitOK w = false := by
      rw [Bool.eq_false_iff]
      intro e
      unfold splitOK at e
      simp only [Bool.and_eq_true, decide_eq_true_eq] at e
      have e2 := e.2
      unfold intW at e2
      rw [if_neg e.1] at e2
      omega
    have hN : splitN w = 0 := by unfold splitN; rw [if_neg (by rw [hB]; simp)]
    have hK : splitK w = 0 := by unfold splitK; rw [if_neg (by rw [hB]; simp)]
    have hT : splitT w = 0 := by unfold splitT; rw [if_neg (by rw [hB]; simp)]
    have fin : Wp PROG ov0 (T46k0 w .normal [.bool true]) σ fun _ vs σ1 => vs = [.tuple #[.int .i64 (splitK w), .int .i64 (splitT w), .int .i64 (splitN w), .bool (splitOK w)]] ∧ σ1 = σ := by
      simp only [T46k0, sw_same, asCons_cons, asBool_bool, asNil_nil]
      rw [wp_bif, if_pos (by rfl), wp_ret, hB, hN, hK, hT]
      exact ⟨rfl, rfl⟩
    rw [T46, wp_join, wp_bif, hm, hd, hu]
    by_cases h1 : w % 2 = 1
    · rw [if_pos (by simp; omega), wp_bif]
      by_cases h2 : w / 2 < 67108864
      · rw [if_pos (by simp; omega), wp_ret, show decide (w / 2 < 16777216) = true by simp; omega]
        exact fin
      · rw [if_neg (by simp; omega), wp_ret]
        exact fin
    · rw [if_neg (by simp; omega), wp_ret]
      exact fin

theorem RP.wordAt (h : RP σ S Y room tu W) (k : Nat) (hk : k < W.length) (g : Int → Pg) (Q : Post) :
    Wp PROG ov0 (.act (ld1 (aadd (PA S) 1)) fun v => asSlice v fun p n _ => asSome p fun a => grd ((decide (0 ≤ (k : Int))) && (decide ((k : Int) < ((n : Nat) : Int)))) (.act (ld1 (aadd a ((Int.toNat (k : Int)) * 1))) fun v => asInt .u64 v g)) σ Q = Wp PROG ov0 (g (W.getD k 0)) σ Q := by
  obtain ⟨h0, cw, pw, capw, a1, a2, a3, a4, a5⟩ := h
  rw [wp_ldF a1 rfl, asSlice_slice, wp_rdJ a2.rdB.rd hk]

theorem RP.setWord (h : RP σ S Y room tu W) (k : Nat) (hk : k < W.length) (w : Int) {p : Pg} {Q : Post}
    (K : ∀ σ', Frm σ σ' (fun j => ¬ Y j) → RP σ' S Y room tu (W.set k w) → Wp PROG ov0 p σ' Q) :
    Wp PROG ov0 (.act (ld1 (aadd (PA S) 1)) fun v => asSlice v fun q n _ => asSome q fun a => grd ((decide (0 ≤ (k : Int))) && (decide ((k : Int) < ((n : Nat) : Int)))) (.act (stC (aadd a ((Int.toNat (k : Int)) * 1)) [.int .u64 w]) fun v => asTuple v fun l => asNil l p)) σ Q := by
  obtain ⟨h0, cw, pw, capw, a1, a2, a3, a4, a5⟩ := h
  obtain ⟨off, s, rfl, hR⟩ := a2.rowOf (by intro e; have := congrArg List.length e; simp at this; subst this; simp at hk)
  rw [wp_ldF a1 rfl, asSlice_slice]
  simp only [asSome_some]
  rw [wp_grd]
  refine ⟨by simp; omega, ?_⟩
  rw [Int.toNat_natCast]
  refine wp_rowW hR (by simpa using hk) rfl fun σ1 hF1 hn1 hR1 => ?_
  have e : (ints .u64 W).set k (.int .u64 w) = ints .u64 (W.set k w) := by simp [ints, List.map_set]
  rw [e] at hR1
  refine K σ1 (hF1.mono fun j _ e hy => (a5 j hy).2 e) ⟨fun i hi => Nat.lt_of_lt_of_le (h0 i hi) hF1.n, cw, _, capw, ?_, .inr ⟨off, s, rfl, hR1⟩, a3, Nat.lt_of_lt_of_le a4 hF1.n, a5⟩
  rw [List.length_set]
  exact hF1.st a1 fun e => a3 (by simp) e.symm

theorem ev_get23 (h : RP σ S Y room tu W) (hW : W = wOf ts) (ht : ThOK ts) (hl : W.length ≤ 100000) (hb : ∀ x ∈ W, 0 ≤ x ∧ x < 18446744073709551616) (p i : Int) (hp : 0 ≤ p ∧ p < 18446744073709551616) :
    EvF PROG ov0 23 [PV S, .int .u64 p, .int .i64 i] σ (.tuple #[.int .u64 (getM W (hOf ts) p i).1, .int .i64 (getM W (hOf ts) p i).2]) σ := by
  refine EvF.of (T23_eq _ _ _) rfl ?_
  rw [T23, wp_call, WpF.eq (ev_thing44 h hW ht hl hb p hp)]
  simp only [asTuple_tuple, asCons_cons, asInt_int, asBool_bool, asNil_nil]
  unfold getM
  rw [wp_bif]
  cases hpl : plB (hOf ts) p with
  | false =>
    rw [if_pos (by rfl), wp_ret]
    exact ⟨rfl, rfl⟩
  | true =>
    obtain ⟨_, t2⟩ := thing_at ts _ ht (plB_head hpl)
    have ha := atI_nn p hp.1
    have hnn := splitN_nn (W.getD (atI p).toNat 0)
    rw [← hW] at t2
    simp only [if_true]
    rw [if_neg (by simp)]
    generalize splitN (W.getD (atI p).toNat 0) = sz at t2 hnn ⊢
    rw [wp_bif]
    by_cases hi : 0 ≤ i ∧ i < sz
    · have e1 : wi64 (wi64 (atI p + 1) + i) = (((atI p).toNat + 1 + i.toNat : Nat) : Int) := by
        rw [wi64_in (n := atI p + 1) (by omega), wi64_in (by omega)]
        omega
      rw [if_neg (by simp; omega), e1]
      simp only [asSome_some]
      rw [RP.wordAt h _ (by omega), wp_ret, if_pos hi]
      exact ⟨rfl, rfl⟩
    · rw [if_pos (by simp; omega), wp_ret, if_neg hi]
      exact ⟨rfl, rfl⟩

theorem wp_set18 (h : RP σ S Y room tu W) (hW : W = wOf ts) (ht : ThOK ts) (hl : W.length ≤ 100000) (hb : ∀ x ∈ W, 0 ≤ x ∧ x < 18446744073709551616) (p i w : Int) (hp : 0 ≤ p ∧ p < 18446744073709551616) (hw : 0 ≤ w ∧ w < 18446744073709551616) {Q : Value → AHeap → Prop}
    (hQ : ∀ σ', Frm σ σ' (fun j => ¬ Y j) → RP σ' S Y room tu (setM W (hOf ts) p i w).2 → Q (.int .i64 (setM W (hOf ts) p i w).1) σ') :
    WpF PROG ov0 18 [PV S, .int .u64 p, .int .i64 i, .int .u64 w] σ Q := by
  refine WpF.of (T18_eq _ _ _ _) rfl ?_
  rw [T18, wp_call, WpF.eq (ev_thing44 h hW ht hl hb p hp)]
  simp only [asTuple_tuple, asCons_cons, asInt_int, asBool_bool, asNil_nil]
  unfold setM at hQ
  rw [wp_bif]
  cases hpl : plB (hOf ts) p with
  | false =>
    rw [hpl, if_neg (by simp)] at hQ
    rw [if_pos (by rfl), wp_ret]
    exact ⟨_, rfl, hQ σ (Frm.refl _ _) h⟩
  | true =>
    rw [hpl, if_pos rfl] at hQ
    obtain ⟨_, t2⟩ := thing_at ts _ ht (plB_head hpl)
    have ha := atI_nn p hp.1
    have hnn := splitN_nn (W.getD (atI p).toNat 0)
    rw [← hW] at t2
    simp only [if_true]
    rw [if_neg (by simp)]
    generalize splitN (W.getD (atI p).toNat 0) = sz at t2 hnn hQ ⊢
    rw [wp_join, wp_bif]
    by_cases hi : 0 ≤ i ∧ i < sz
    · have e1 : wi64 (wi64 (atI p + 1) + i) = (((atI p).toNat + 1 + i.toNat : Nat) : Int) := by
        rw [wi64_in (n := atI p + 1) (by omega), wi64_in (by omega)]
        omega
      rw [if_pos (by simp; omega), wp_call, WpF.eq (ev_word41 h hW ht hl hb w hw), asBool_bool, wp_ret]
      simp only [T18k0, sw_same, asCons_cons, asBool_bool, asNil_nil]
      rw [wp_bif]
      cases hm : mayB (hOf ts) w with
      | false =>
        rw [if_neg (by rw [hm]; simp)] at hQ
        rw [if_pos (by rfl), wp_ret]
        exact ⟨_, rfl, hQ σ (Frm.refl _ _) h⟩
      | true =>
        rw [if_pos ⟨hi.1, hi.2, hm⟩] at hQ
        rw [if_neg (by simp), e1]
        simp only [asSome_some]
        refine RP.setWord h _ (by omega) w fun σ1 hF1 h1 => ?_
        rw [wp_ret]
        exact ⟨_, rfl, hQ σ1 hF1 h1⟩
    · rw [if_neg (fun hx => hi ⟨hx.1, hx.2.1⟩)] at hQ
      rw [if_neg (by simp; omega), wp_ret]
      simp only [T18k0, sw_same, asCons_cons, asBool_bool, asNil_nil]
      rw [wp_bif, if_pos (by rfl), wp_ret]
      exact ⟨_, rfl, hQ σ (Frm.refl _ _) h⟩

theorem ev_head25 (h : RP σ S Y room tu W) (hW : W = wOf ts) (ht : ThOK ts) (hl : W.length ≤ 100000) (hb : ∀ x ∈ W, 0 ≤ x ∧ x < 18446744073709551616) (p : Int) (hp : 0 ≤ p ∧ p < 18446744073709551616) :
    EvF PROG ov0 25 [PV S, .int .u64 p] σ (.tuple #[.int .i64 (headM W (hOf ts) p).1, .int .i64 (headM W (hOf ts) p).2.1, .int .i64 (headM W (hOf ts) p).2.2.1, .int .i64 (headM W (hOf ts) p).2.2.2]) σ := by
  refine EvF.of (T25_eq _ _) rfl ?_
  rw [T25, wp_call, WpF.eq (ev_thing44 h hW ht hl hb p hp)]
  simp only [asTuple_tuple, asCons_cons, asInt_int, asBool_bool, asNil_nil]
  unfold headM
  rw [wp_bif]
  cases hpl : plB (hOf ts) p with
  | false =>
    rw [if_pos (by rfl), wp_ret]
    exact ⟨rfl, rfl⟩
  | true =>
    obtain ⟨_, t2⟩ := thing_at ts _ ht (plB_head hpl)
    have ha := atI_nn p hp.1
    rw [← hW] at t2
    simp only [if_true]
    obtain ⟨k, hk⟩ : ∃ k : Nat, atI p = (k : Int) := ⟨(atI p).toNat, by omega⟩
    have hkn : (atI p).toNat = k := by omega
    rw [hkn] at t2
    have hkl : k < W.length := by omega
    have hwb := hb _ (List.getElem_mem hkl)
    have e : W.getD k 0 = W[k] := by simp [List.getD, hkl]
    rw [if_neg (by simp), hk]
    simp only [asSome_some]
    rw [RP.wordAt h k hkl, Int.toNat_natCast, wp_call, WpF.eq (ev_split46x _ (by rw [e]; exact hwb))]
    simp only [asTuple_tuple, asCons_cons, asInt_int, asBool_bool, asNil_nil]
    rw [wp_ret]
    exact ⟨rfl, rfl⟩
end
end Go.Pg
