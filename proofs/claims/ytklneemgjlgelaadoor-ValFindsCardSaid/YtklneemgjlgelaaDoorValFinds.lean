/- Layer 9: a name is found where it was bound last; all names are told once, the last one first: the law's tree returns true for all rows of texts, and texts. -/
import Derived.Test.YtklneemgjlgelaaDoorVFinds
namespace Go.Pg
open Go.Proofs

theorem eqB_iff {a b : ByteArray} : eqB a b = true ↔ a.toList = b.toList := by simp [eqB]
theorem eqB_symm {a b : ByteArray} (h : eqB a b = false) : eqB b a = false := by
  rw [Bool.eq_false_iff] at h ⊢
  exact fun e => h (eqB_iff.2 (eqB_iff.1 e).symm)
theorem eqB_refl (a : ByteArray) : eqB a a = true := eqB_iff.2 rfl

theorem fnd_mem {s : ByteArray} : ∀ {xs : List (ByteArray × Int)} {i : Int}, (s, i) ∈ xs → ∃ n, fnd xs s = some n
  | (n, k) :: xs, i, h => by
    have ef : fnd ((n, k) :: xs) s = if eqB n s = true then some k else fnd xs s := rfl
    rw [ef]
    by_cases he : eqB n s = true
    · rw [if_pos he]
      exact ⟨k, rfl⟩
    · rw [if_neg he]
      rcases List.mem_cons.1 h with h | h
      · cases h
        exact absurd (eqB_refl _) he
      · exact fnd_mem h
theorem fnd_in {s : ByteArray} : ∀ {xs : List (ByteArray × Int)} {n : Int}, fnd xs s = some n → ∃ t, (t, n) ∈ xs
  | (m, k) :: xs, n, h => by
    have ef : fnd ((m, k) :: xs) s = if eqB m s = true then some k else fnd xs s := rfl
    rw [ef] at h
    by_cases he : eqB m s = true
    · rw [if_pos he] at h
      cases h
      exact ⟨m, by simp⟩
    · rw [if_neg he] at h
      obtain ⟨t, ht⟩ := fnd_in h
      exact ⟨t, by simp [ht]⟩

theorem nms_cons (l : List ByteArray) (n : ByteArray) (i : Int) (xs : List (ByteArray × Int)) : nms l ((n, i) :: xs) = nms (if (l.any fun x => eqB n x) = true then l else l ++ [n]) xs := rfl
theorem nms_mem : ∀ {xs : List (ByteArray × Int)} {l : List ByteArray} {n : ByteArray}, n ∈ nms l xs → n ∈ l ∨ ∃ i, (n, i) ∈ xs
  | [], _, _, h => .inl h
  | (m, k) :: xs, l, n, h => by
    rw [nms_cons] at h
    rcases nms_mem h with h | ⟨i, h⟩
    · by_cases ha : (l.any fun x => eqB m x) = true
      · rw [if_pos ha] at h
        exact .inl h
      · rw [if_neg ha] at h
        rcases List.mem_append.1 h with h | h
        · exact .inl h
        · simp only [List.mem_singleton] at h
          subst h
          exact .inr ⟨k, by simp⟩
    · exact .inr ⟨i, by simp [h]⟩
theorem nms_pw : ∀ {xs : List (ByteArray × Int)} {l : List ByteArray}, (l.Pairwise fun a b => eqB a b = false) → (nms l xs).Pairwise fun a b => eqB a b = false
  | [], _, h => h
  | (m, k) :: xs, l, h => by
    rw [nms_cons]
    refine nms_pw ?_
    by_cases ha : (l.any fun x => eqB m x) = true
    · rw [if_pos ha]
      exact h
    · rw [if_neg ha]
      refine List.pairwise_append.2 ⟨h, by simp, fun a ha' b hb => ?_⟩
      simp only [List.mem_singleton] at hb
      subst hb
      have ha2 : (l.any fun x => eqB b x) = false := by simpa using ha
      have := List.any_eq_false.1 ha2 a ha'
      exact eqB_symm (by simpa using this)
theorem nms_head : ∀ {xs : List (ByteArray × Int)} {l : List ByteArray} {a : ByteArray}, l[0]? = some a → (nms l xs)[0]? = some a
  | [], _, _, h => h
  | (m, k) :: xs, l, a, h => by
    rw [nms_cons]
    refine nms_head ?_
    by_cases ha : (l.any fun x => eqB m x) = true
    · rw [if_pos ha]
      exact h
    · rw [if_neg ha, List.getElem?_append_left (List.getElem?_eq_some_iff.1 h).1]
      exact h
theorem nms_len : ∀ {xs : List (ByteArray × Int)} {l : List ByteArray}, (nms l xs).length ≤ l.length + xs.length
  | [], l => by simp [nms]
  | (m, k) :: xs, l => by
    rw [nms_cons]
    by_cases ha : (l.any fun x => eqB m x) = true
    · rw [if_pos ha]
      have := nms_len (xs := xs) (l := l)
      rw [List.length_cons]
      omega
    · rw [if_neg ha]
      have := nms_len (xs := xs) (l := l ++ [m])
      rw [List.length_append, List.length_singleton] at this
      rw [List.length_cons]
      omega

def atI (xs : List (ByteArray × Int)) (s : ByteArray) : Int := match fnd xs s with
  | some i => i
  | none => -1

set_option maxRecDepth 100000 in
theorem valFinds_law (p0 : Option Addr) (n2 : Nat) (l : List ByteArray) (s1 : ByteArray) (_ : s1.size ≤ maxLen) (old0 : Addr → Option Value) (rd : RdR (unO tabsD old0) 1 .str p0 l) (_ : (Sh.row 1 .str).ok l) :
    WpF PROG ovD 3 [.slice p0 l.length n2, .string s1] (startH (unO tabsD old0)) fun v _ => v = .bool true := by
  generalize hold : unO tabsD old0 = old at rd
  refine WpF.of (T3_eq _ _ _ _) rfl ?_
  rw [T3, wp_call]
  have haw := awake9f old0
  rw [hold] at haw
  refine WpF.mono haw ?_
  rintro v σ0 ⟨rfl, ho0, _⟩
  simp only [asBool_bool]
  rw [wp_bif, if_neg (by simp), wp_join, wp_bif]
  by_cases h20 : l.length > 20
  · rw [if_neg (by simp; omega), wp_ret]
    simp only [T3k8, sw_same, asCons_cons, asBool_bool, asNil_nil]
    rw [wp_bif, if_pos (by rfl), wp_ret]
    exact ⟨_, rfl, rfl⟩
  rw [if_pos (by simp; omega), wp_ret]
  simp only [T3k8, sw_same, asCons_cons, asBool_bool, asNil_nil]
  rw [wp_bif]
  by_cases h60 : ((s1.size : Nat) : Int) > 60
  · rw [if_pos (decide_eq_true h60), wp_ret]
    exact ⟨_, rfl, rfl⟩
  rw [if_neg (by rw [decide_eq_false h60]; simp)]
  refine Wp.count l.length (fun j st σ' => ∃ p xs, st = [.int .i64 ((j : Nat) : Int), .int .i64 (atI xs s1), .pointer p, .bool false] ∧ σ'.old = old ∧ Ch σ' p xs ∧ xs.length = j ∧ (∀ x ∈ xs, 0 ≤ x.2) ∧ (∀ a, l[j - 1]? = some a → j ≠ 0 → ∃ k ys, xs = (a, k) :: ys))
    ⟨none, [], rfl, ho0, rfl, rfl, (fun x hx => by cases hx), fun _ _ h => absurd rfl h⟩ ?_ ?_
  · rintro j st σ1 hj ⟨p, xs, rfl, ho1, hC, hxl, hnn, _⟩
    have ej : wi64 ((j : Int) + 1) = ((j + 1 : Nat) : Int) := by rw [wi64_in (by omega)]; omega
    simp only [T3b0, asCons_cons, asInt_int, asPtr_ptr, asBool_bool, asNil_nil]
    rw [wp_bif, if_pos (by simp; omega), wp_join, wp_rdS (rd.rdS ho1) hj, wp_bif]
    by_cases hs : (((l[j]).size : Nat) : Int) > 60
    · rw [if_pos (decide_eq_true hs), wp_ret]
      simp only [T3k1, sw_same, asCons_cons, asInt_int, asPtr_ptr, asBool_bool, asNil_nil]
      rw [wp_ret]
      simp only [T3k7, sw_re, sw_same, asCons_cons, asInt_int, asPtr_ptr, asBool_bool, asNil_nil]
      rw [wp_ret]
      exact ⟨_, rfl, rfl⟩
    · rw [if_neg (by rw [decide_eq_false hs]; simp), wp_rdS (rd.rdS ho1) hj]
      refine wp_newQ fun σ2 hF2 hn2 hS2 => ?_
      have ho2 := hF2.old.trans ho1
      rw [wp_rdS (rd.rdS ho2) hj, wp_join, wp_bif]
      have hC2 : Ch σ2 (some (PA σ1.n)) ((l[j], (j : Int)) :: xs) := ⟨σ1.n, p, rfl, hS2, hC.frm hF2⟩
      have hat : atI ((l[j], (j : Int)) :: xs) s1 = if eqB l[j] s1 = true then (j : Int) else atI xs s1 := by
        have ef : fnd ((l[j], (j : Int)) :: xs) s1 = if eqB l[j] s1 = true then some (j : Int) else fnd xs s1 := rfl
        unfold atI
        rw [ef]
        by_cases he : eqB l[j] s1 = true
        · rw [if_pos he, if_pos he]
        · rw [if_neg he, if_neg he]
      have hinv : ∃ p' xs', [Value.int .i64 (wi64 ((j : Int) + 1)), .int .i64 (if eqB l[j] s1 = true then (j : Int) else atI xs s1), .pointer (some (PA σ1.n)), .bool false] = [Value.int .i64 ((j + 1 : Nat) : Int), .int .i64 (atI xs' s1), .pointer p', .bool false] ∧ σ2.old = old ∧ Ch σ2 p' xs' ∧ xs'.length = j + 1 ∧ (∀ x ∈ xs', 0 ≤ x.2) ∧ (∀ a, l[j + 1 - 1]? = some a → j + 1 ≠ 0 → ∃ k ys, xs' = (a, k) :: ys) := by
        refine ⟨_, (l[j], (j : Int)) :: xs, by rw [hat, ej], ho2, hC2, by simp [hxl], fun x hx => ?_, fun a ha _ => ?_⟩
        · rcases List.mem_cons.1 hx with rfl | hx
          · exact Int.natCast_nonneg _
          · exact hnn x hx
        · rw [show j + 1 - 1 = j by omega, List.getElem?_eq_getElem hj] at ha
          cases ha
          exact ⟨_, _, rfl⟩
      by_cases he : eqB l[j] s1 = true
      · rw [if_pos he, wp_ret]
        simp only [T3k0, sw_same, asCons_cons, asInt_int, asNil_nil]
        rw [wp_ret]
        simp only [T3k1, sw_nr, sw_same, asCons_cons, asInt_int, asPtr_ptr, asBool_bool, asNil_nil]
        rw [wp_ret]
        rw [if_pos he] at hinv
        exact hinv
      · rw [if_neg he, wp_ret]
        simp only [T3k0, sw_same, asCons_cons, asInt_int, asNil_nil]
        rw [wp_ret]
        simp only [T3k1, sw_nr, sw_same, asCons_cons, asInt_int, asPtr_ptr, asBool_bool, asNil_nil]
        rw [wp_ret]
        rw [if_neg he] at hinv
        exact hinv
  · rintro st σ1 ⟨p, xs, rfl, ho1, hC, hxl, hnn, hhd⟩
    simp only [T3b0, asCons_cons, asInt_int, asPtr_ptr, asBool_bool, asNil_nil]
    rw [wp_bif, if_neg (by simp), wp_ret]
    simp only [T3k7, sw_same, asCons_cons, asInt_int, asPtr_ptr, asBool_bool, asNil_nil]
    rw [wp_call]
    refine wp_find hC s1 fun σ2 hF2 => ?_
    have hC2 := hC.frm hF2
    have ho2 := hF2.old.trans ho1
    have hL1 : (nms [] xs).Pairwise fun a b => eqB a b = false := nms_pw .nil
    have hL2 : ∀ i (hi : i < (nms [] xs).length), ∃ n, fnd xs (nms [] xs)[i] = some n := fun i hi => by
      rcases nms_mem (List.getElem_mem hi) with h | ⟨k, h⟩
      · cases h
      · exact fnd_mem h
    have hL3 := nms_len (xs := xs) (l := [])
    rw [List.length_nil, Nat.zero_add] at hL3
    have hL4 : l.length ≠ 0 → ∃ (hi : 0 < (nms [] xs).length) (hj : l.length - 1 < l.length), (nms [] xs)[0] = l[l.length - 1] := fun h0 => by
      obtain ⟨a, ha⟩ : ∃ a, a = l[l.length - 1]'(by omega) := ⟨_, rfl⟩
      obtain ⟨k, ys, e⟩ := hhd a (by rw [ha]; exact List.getElem?_eq_getElem (by omega)) h0
      have : (nms [] xs)[0]? = some a := by
        rw [e, nms_cons]
        exact nms_head (by simp)
      rw [ha] at this
      obtain ⟨h1, h2⟩ := List.getElem?_eq_some_iff.1 this
      exact ⟨h1, by omega, h2⟩
    have tail : ∀ (k n : Int) (b : Bool), b = decide (atI xs s1 ≥ 0) → (b = true → n = atI xs s1) → Wp PROG ov0 (.act (newC (valC 0 0)) fun v106 => asPtr v106 fun p107 => asSome p107 fun a108 => .act (stC a108 (valC k n)) fun v109 => asTuple v109 fun l110 => asNil l110 (.call 6 [(.pointer p)] fun v111 => asSlice v111 fun p112 n113 _ => .loop [(.int .i64 0), (.bool false)] (T3b2 n113 p112 p) (T3k6 b (atI xs s1) a108 l.length n113 p112 p0))) σ2 fun _ vs _ => ∃ v, vs = [v] ∧ v = .bool true := by
      intro k n b hb hn
      refine wp_newQ fun σ3 hF3 hn3 hS3 => ?_
      refine wp_stQ hS3 rfl rfl fun σ4 hF4 hn4 hS4 => ?_
      have hF24 : Frm σ2 σ4 NoB := hF3.fresh hF4 fun j hj h => by omega
      have hC4 := hC2.frm hF24
      rw [wp_call]
      refine wp_names hC4 (by omega) fun σ5 c q cap hF5 hR5 => ?_
      have hS5 := hF5.stN hS4
      have hC5 := hC4.frm hF5
      have ho5 := hF5.old.trans (hF24.old.trans ho2)
      rw [asSlice_slice]
      refine Wp.count (nms [] xs).length (fun j st σ' => st = [.int .i64 ((j : Nat) : Int), .bool false] ∧ Frm σ5 σ' NoB) ⟨rfl, Frm.refl _ _⟩ ?_ ?_
      · rintro j st σ6 hj ⟨rfl, hF6⟩
        have ej : wi64 ((j : Int) + 1) = ((j + 1 : Nat) : Int) := by rw [wi64_in (by omega)]; omega
        have hR6 := hR5.frm hF6 fun _ h => h
        simp only [T3b2, asCons_cons, asInt_int, asBool_bool, asNil_nil]
        rw [wp_bif, if_pos (by simp; omega), wp_join]
        refine Wp.count j (fun i st σ' => st = [.int .i64 ((i : Nat) : Int), .bool false] ∧ σ6 = σ') ⟨rfl, rfl⟩ ?_ ?_
        · rintro i st σ' hi ⟨rfl, rfl⟩
          have ei : wi64 ((i : Int) + 1) = ((i + 1 : Nat) : Int) := by rw [wi64_in (by omega)]; omega
          simp only [T3b1, asCons_cons, asInt_int, asBool_bool, asNil_nil]
          rw [wp_bif, if_pos (by simp; omega), wp_join, wp_rdS hR6.rdS (by omega), wp_rdS hR6.rdS hj, wp_bif]
          have hne := List.pairwise_iff_getElem.1 hL1 i j (by omega) hj hi
          rw [if_neg (by rw [show ((nms [] xs)[i].toList == (nms [] xs)[j].toList) = false from hne]; simp), wp_ret]
          simp only [T3k2, sw_nr, sw_same, asCons_cons, asBool_bool, asNil_nil]
          rw [wp_ret, ei]
          exact ⟨rfl, rfl⟩
        · rintro st σ' ⟨rfl, rfl⟩
          simp only [T3b1, asCons_cons, asInt_int, asBool_bool, asNil_nil]
          rw [wp_bif, if_neg (by simp), wp_ret]
          simp only [T3k3, sw_same, asCons_cons, asInt_int, asBool_bool, asNil_nil]
          rw [wp_rdS hR6.rdS hj, wp_call]
          refine wp_find (hC5.frm hF6) _ fun σ7 hF7 => ?_
          obtain ⟨m, hm⟩ := hL2 j hj
          rw [hm]
          simp only [asTuple_tuple, asCons_cons, asAgg_agg, asInt_int, asStr_str, asSlice_slice, asPtr_ptr, asBool_bool, asNil_nil]
          refine wp_newQ fun σ8 hF8 hn8 hS8 => ?_
          refine wp_stQ hS8 rfl rfl fun σ9 hF9 hn9 hS9 => ?_
          rw [wp_bif, if_neg (by simp), wp_ret]
          simp only [T3k4, sw_nr, sw_same, asCons_cons, asBool_bool, asNil_nil]
          rw [wp_ret, ej]
          exact ⟨rfl, (hF6.seq hF7).seq (hF8.fresh hF9 fun j hj h => by omega)⟩
      · rintro st σ6 ⟨rfl, hF6⟩
        have hR6 := hR5.frm hF6 fun _ h => h
        have hS6 := hF6.stN hS5
        have ho6 := hF6.old.trans ho5
        simp only [T3b2, asCons_cons, asInt_int, asBool_bool, asNil_nil]
        rw [wp_bif, if_neg (by simp), wp_ret]
        simp only [T3k6, sw_same, asCons_cons, asInt_int, asBool_bool, asNil_nil]
        have e1 : (b == decide (atI xs s1 ≥ 0)) = true := by rw [hb]; simp
        have fin : ∀ Q : Post, Q .normal [.bool true] σ6 → Wp PROG ov0 (bif (((l.length : Nat) : Int) == 0) == false then (bif (decide ((((nms [] xs).length : Nat) : Int) > 0)) == true then (asSome q fun a214 => grd (decide (0 < (((nms [] xs).length : Nat) : Int))) (.act (ld1 (aadd a214 0)) fun v215 => asStr v215 fun s216 => asSome p0 fun a217 => grd ((decide (0 ≤ (wi64 (((l.length : Nat) : Int) - 1)))) && (decide ((wi64 (((l.length : Nat) : Int) - 1)) < ((l.length : Nat) : Int)))) (.act (ld1 (aadd a217 ((Int.toNat (wi64 (((l.length : Nat) : Int) - 1))) * 1))) fun v218 => asStr v218 fun s219 => .ret .normal [(.bool (s216.toList == s219.toList))]))) else (.ret .normal [(.bool false)])) else (.ret .normal [(.bool true)])) σ6 Q := by
          intro Q hQ
          rw [wp_bif]
          by_cases h0 : l.length = 0
          · rw [if_neg (by simp [h0]), wp_ret]
            exact hQ
          · obtain ⟨hi, hj, e⟩ := hL4 h0
            have ew : wi64 (((l.length : Nat) : Int) - 1) = ((l.length - 1 : Nat) : Int) := by rw [wi64_in (by omega)]; omega
            rw [if_pos (by simp; intro h; rw [h] at h0; exact h0 rfl), wp_bif, if_pos (by simp; omega), ew]
            obtain ⟨a, rfl, hr⟩ := hR6.rdS 0 hi
            rw [Nat.zero_mul] at hr
            simp only [asSome_some]
            rw [wp_grd]
            refine ⟨by simp; omega, ?_⟩
            rw [wp_act, hr]
            simp only [asStr_str]
            rw [wp_rdS (rd.rdS ho6) hj, wp_ret, e]
            simp
            exact hQ
        rw [wp_join, wp_bif, if_pos (by rw [e1]; rfl), wp_bif]
        have done : Wp PROG ov0 (T3k5 .normal [.bool true]) σ6 fun _ vs _ => ∃ v, vs = [v] ∧ v = .bool true := by
          simp only [T3k5, sw_same, asCons_cons, asBool_bool, asNil_nil]
          rw [wp_ret]
          exact ⟨_, rfl, rfl⟩
        cases hbb : b with
        | true =>
          rw [if_pos (by rfl), wp_ldF hS6 rfl, asInt_int, wp_bif, if_pos (by rw [hn hbb]; simp)]
          exact fin _ done
        | false =>
          rw [if_neg (by simp)]
          exact fin _ done
    have hat : atI xs s1 = match fnd xs s1 with
      | some i => i
      | none => -1 := rfl
    cases hf : fnd xs s1 with
    | none =>
      rw [hf] at hat
      simp only [asTuple_tuple, asCons_cons, asAgg_agg, asInt_int, asStr_str, asSlice_slice, asPtr_ptr, asBool_bool, asNil_nil]
      exact tail 0 0 false (by rw [hat]; rfl) (fun h => by cases h)
    | some i =>
      rw [hf] at hat
      obtain ⟨t, ht⟩ := fnd_in hf
      have := hnn _ ht
      simp only [asTuple_tuple, asCons_cons, asAgg_agg, asInt_int, asStr_str, asSlice_slice, asPtr_ptr, asBool_bool, asNil_nil]
      exact tail 1 i true (by rw [hat]; simp; exact this) (fun _ => hat.symm)
end Go.Pg
