/- Layer 2: the program's functions, each by what it computes. -/
import Derived.Test.YtgbgkagodmhbhaaDoorLexR
import Derived.Test.YtgbgkagodmhbhaaDoorRow2
namespace Go.Pg
open Go.Proofs Go.Utf8 Go.Lib

theorem tl_loop (s : ByteArray) : ∀ (d i : Nat) (r : List UInt8), s.size - i = d → ByteArray.toList.loop s i r = r.reverse ++ s.data.toList.drop i
  | 0, i, r, h => by
    unfold ByteArray.toList.loop
    rw [if_neg (by omega), List.drop_of_length_le (by have : s.data.toList.length = s.size := rfl
                                                      omega), List.append_nil]
  | d + 1, i, r, h => by
    have hl : i < s.data.toList.length := by
      have : s.data.toList.length = s.size := rfl
      omega
    unfold ByteArray.toList.loop
    rw [if_pos (by omega), tl_loop s d (i + 1) _ (by omega), List.drop_eq_getElem_cons hl, List.reverse_cons, List.append_assoc]
    have e : s.get! i = s.data.toList[i] := by
      cases s with
      | mk a => simp only [ByteArray.get!]; rw [getElem!_pos a i (by simpa using hl)]; rfl
    rw [e]
    rfl
theorem tl_data (s : ByteArray) : s.toList = s.data.toList := by
  unfold ByteArray.toList
  rw [tl_loop s _ 0 [] rfl]
  rfl
theorem tl_mkB (l : List UInt8) : (mkB l).toList = l := tl_data _
theorem tl_bs (l : List UInt8) : (bs l).toList = l := tl_data _
theorem ext_mkB (s : ByteArray) (a b : Nat) : s.extract a b = mkB ((s.data.toList.take b).drop a) := by
  have h : (s.extract a b).data.toList = (s.data.toList.take b).drop a := by
    rw [ByteArray.data_extract, Array.toList_extract]
    simp [List.extract, List.drop_take]
  rw [← h]
  rfl
theorem ext_to (L : List UInt8) (a : Nat) : (mkB L).extract a (mkB L).size = mkB (L.drop a) := by rw [ext_mkB, mkB_data, mkB_size, List.take_length]
theorem ext_0 (L : List UInt8) (b : Nat) : (mkB L).extract 0 b = mkB (L.take b) := by rw [ext_mkB, mkB_data, List.drop_zero]
theorem app_mkB (a b : List UInt8) : mkB a ++ mkB b = mkB (a ++ b) := by
  have h : (mkB a ++ mkB b).data.toList = a ++ b := by simp [mkB]
  rw [← mkB_self (mkB a ++ mkB b), h]

theorem Frm.putNew {σ σ' : AHeap} {b : Nat} (h : Frm σ σ' NoB) (hb : σ.n ≤ b) (hb2 : b < σ'.n) (o : AObj) : Frm σ (σ'.put b o) NoB :=
  h.fresh (Frm.put σ' b o hb2) fun j hj e => by omega
theorem Frm.rng (σ : AHeap) (s : ByteArray) : Frm σ (σ.push (.iter s 0)) NoB :=
  ⟨by rw [AHeap.push_n]; omega, rfl, fun j hj _ => get_push_lt σ _ hj, fun f j hj => by
    rw [AHeap.push_n] at hj
    rw [AHeap.get_push, if_neg (by omega)]
    exact f j (by omega)⟩

theorem EvF.ov {P : Program} {ov : Ov} {f : FuncId} {g : List Value → Act} {args : List Value} {σ σ' : AHeap} {v : Value} (h : ov f = some g) (hg : g args σ = some (v, σ')) : EvF P ov f args σ v σ' :=
  ⟨1, fun n hn => by
    cases n with
    | zero => omega
    | succ n =>
      unfold execFn
      rw [h]
      exact hg⟩


def rOK (r : Int) : Prop := -2147483648 ≤ r ∧ r ≤ 2147483647
theorem ev_letter {r : Int} (h : rOK r) (σ : AHeap) : EvF PROG ovD 54 [.int .i32 r] σ (.bool (isLetterU r)) σ :=
  EvF.ov (g := ovPure letterG) rfl (by unfold ovPure letterG; simp [h.1, h.2])
theorem ev_upper {r : Int} (h : rOK r) (σ : AHeap) : EvF PROG ovD 51 [.int .i32 r] σ (.bool (isUpperU r)) σ :=
  EvF.ov (g := ovPure upperG) rfl (by unfold ovPure upperG; simp [h.1, h.2])
theorem ev_decode {L : List UInt8} (h : L ≠ []) (σ : AHeap) : EvF PROG ovD 37 [.string (mkB L)] σ (.tuple #[.int .i32 (decL L).1, .int .i64 (decL L).2]) σ := by
  refine EvF.ov (g := ovPure decodeG) rfl ?_
  unfold ovPure decodeG Lib.decodeGo
  have : (mkB L).size ≠ 0 := by rw [mkB_size]; have := List.length_pos_iff.2 h; omega
  simp only [if_neg this]
  have e := decL_eq L 0 (by omega)
  rw [List.drop_zero] at e
  rw [e]

theorem ev_class {r : Int} (h : rOK r) (σ : AHeap) : EvF PROG ovD 34 [.int .i32 r] σ (.int .i64 (clsF r)) σ := by
  refine EvF.of (T34_eq _) rfl ?_
  rw [T34, wp_join, wp_join, wp_bif]
  by_cases h1 : r = 95 ∨ r = 39
  · have h1' : ((r == 95) || (r == 39)) = true := by simpa using h1
    have hc : clsF r = 1 := cls_1 (by rcases h1 with h1 | h1 <;> simp [h1])
    rw [if_neg (by rw [h1']; simp), hc]
    simp [wp_ret, T34k0, T34k17, sw_same, asCons_cons, asBool_bool, asInt_int, asNil_nil]
  · have h1' : ((r == 95) || (r == 39)) = false := by simpa using h1
    rw [if_pos (by rw [h1']; rfl), wp_call, WpF.eq (ev_letter h σ)]
    simp only [asBool_bool, wp_ret, T34k0, sw_same, asCons_cons, asNil_nil, wp_bif]
    by_cases h2 : isLetterU r = true
    · rw [if_pos h2, cls_1 (.inr (.inr h2))]
      simp [wp_ret, T34k17, sw_same, asCons_cons, asInt_int, asNil_nil]
    · have n1 : ¬ (r = 95 ∨ r = 39 ∨ isLetterU r = true) := fun h => h.elim (fun h => h1 (.inl h)) fun h => h.elim (fun h => h1 (.inr h)) h2
      rw [if_neg h2]
      by_cases h3 : 48 ≤ r ∧ r ≤ 57
      · rw [if_pos (by simpa using h3), cls_2 n1 h3]
        simp [wp_ret, T34k17, sw_same, asCons_cons, asInt_int, asNil_nil]
      · rw [if_neg (by simpa using h3)]
        simp only [T34k17, sw_same, sw_nr, asCons_cons, asInt_int, asNil_nil]
        by_cases b1 : r = 32
        · rw [cls_3 n1 h3 (by simp [b1])]; subst b1; simp [wp_ret, wp_join, T34k15, T34k16, sw_same, asCons_cons, asInt_int, asBool_bool, asNil_nil]
        by_cases b2 : r = 9
        · rw [cls_3 n1 h3 (by simp [b2])]; subst b2; simp [wp_ret, wp_join, T34k15, T34k16, T34k2, sw_same, asCons_cons, asInt_int, asBool_bool, asNil_nil]
        by_cases b3 : r = 10
        · rw [cls_3 n1 h3 (by simp [b3])]; subst b3; simp [wp_ret, wp_join, T34k15, T34k16, T34k1, T34k2, sw_same, asCons_cons, asInt_int, asBool_bool, asNil_nil]
        by_cases b4 : r = 13
        · rw [cls_3 n1 h3 (by simp [b4])]; subst b4; simp [wp_ret, wp_join, T34k15, T34k16, T34k1, T34k2, sw_same, asCons_cons, asInt_int, asBool_bool, asNil_nil]
        have n3 : ¬ (r = 32 ∨ r = 9 ∨ r = 10 ∨ r = 13) := by simp only [b1, b2, b3, b4, or_self, not_false_eq_true]
        by_cases hm : r ∈ marks
        · rw [cls_4 n1 h3 n3 hm]
          unfold marks at hm
          simp only [List.mem_cons, List.mem_nil_iff, or_false] at hm
          rcases hm with rfl | rfl | rfl | rfl | rfl | rfl | rfl | rfl | rfl | rfl | rfl | rfl | rfl <;>
            simp [wp_ret, wp_join, T34k15, T34k16, T34k1, T34k2, T34k3, T34k4, T34k5, T34k6, T34k7, T34k8, T34k9, T34k10, T34k11, T34k12, T34k13, T34k14, sw_same, asCons_cons, asInt_int, asBool_bool, asNil_nil]
        · rw [cls_0 n1 h3 n3 hm]
          unfold marks at hm
          simp only [List.mem_cons, List.mem_nil_iff, or_false, not_or] at hm
          obtain ⟨m1, m2, m3, m4, m5, m6, m7, m8, m9, m10, m11, m12, m13⟩ := hm
          have q : ∀ k : Int, ¬ r = k → (r == k) = false := fun k hk => by simpa using hk
          simp [wp_ret, wp_join, wp_bif, T34k15, T34k16, T34k1, T34k2, T34k3, T34k4, T34k5, T34k6, T34k7, T34k8, T34k9, T34k10, T34k11, T34k12, T34k13, T34k14, sw_same, sw_nr, asCons_cons, asInt_int, asBool_bool, asNil_nil, b1, b2, b3, b4, m1, m2, m3, m4, m5, m6, m7, m8, m9, m10, m11, m12, m13]


theorem dec_i32 (s : ByteArray) (p : Nat) : rOK ((Utf8.decode s p).1 : Nat) := by
  rw [decode_dec]
  have hb : ∀ i, byteN s i < 256 := fun i => by unfold byteN; exact UInt8.toNat_lt _
  unfold dec rOK
  simp only
  have g0 := hb p; have g1 := hb (p + 1); have g2 := hb (p + 2); have g3 := hb (p + 3)
  repeat' split
  all_goals simp only [runeError]
  all_goals omega


theorem decL_i32 (L : List UInt8) : rOK ((decL L).1 : Nat) := by
  have e := decL_eq L 0 (by omega)
  rw [List.drop_zero] at e
  rw [← e]
  exact dec_i32 _ _

section
variable {σ : AHeap}

/-! ### closures, runs -/
def Cls (g : FuncId) (may : Nat → Bool) : Prop := ∀ (r : Nat) (σ : AHeap), rOK (r : Nat) → EvF PROG ovD g [.int .i32 (r : Nat)] σ (.bool (may r)) σ
theorem cls_blk : Cls 33 blk := by
  intro r σ h
  refine EvF.of (T33_eq _) rfl ?_
  rw [T33, wp_call, WpF.eq (ev_class h σ), asInt_int, wp_ret]
  exact ⟨rfl, rfl⟩
theorem cls_dgt : Cls 39 dig := by
  intro r σ h
  refine EvF.of (T39_eq _) rfl ?_
  rw [T39, wp_call, WpF.eq (ev_class h σ), asInt_int, wp_ret]
  exact ⟨rfl, rfl⟩
theorem cls_lod : Cls 57 lod := by
  intro r σ h
  refine EvF.of (T57_eq _) rfl ?_
  rw [T57, wp_call, WpF.eq (ev_class h σ), asInt_int, wp_ret]
  exact ⟨rfl, rfl⟩

theorem wp_run {g : FuncId} {may : Nat → Bool} (hg : Cls g may) (L : List UInt8) {Q : Value → AHeap → Prop} (hQ : ∀ σ', Frm σ σ' NoB → Q (.int .i64 (run may L : Nat)) σ') :
    WpF PROG ovD 32 [.string (mkB L), .func (.func g) #[] #[]] σ Q := by
  refine WpF.of (T32_eq _ _) rfl ?_
  rw [T32, wp_act, rng_eq]
  simp only [asPtr_ptr, asSome_some]
  refine Wp.loop (fun m st σ' => ∃ p, m = L.length - p ∧ p ≤ L.length ∧ Frm σ σ' NoB ∧ σ.n < σ'.n ∧ σ'.get σ.n = some (.iter (mkB L) p) ∧ st = [.int .i64 0] ∧ run may L = p + run may (L.drop p)) L.length
    ⟨0, rfl, by omega, Frm.rng _ _, by rw [AHeap.push_n]; omega, get_push_same _ _, rfl, by simp⟩ ?_
  rintro m st σ' ⟨p, rfl, hp, hF, hn, hg', rfl, hr⟩
  simp only [T32b0, asCons_cons, asInt_int, asNil_nil]
  by_cases h1 : p < L.length
  · have hne : L.drop p ≠ [] := by simp; omega
    have hw := decL_width hne
    rw [List.length_drop] at hw
    rw [wp_nxt_more hg' (by rw [mkB_size]; exact h1), wp_join, asFunc, wp_call, decL_eq L p hp]
    simp only [List.nil_append, List.append_nil]
    rw [WpF.eq (hg _ _ (decL_i32 _)), asBool_bool, wp_bif]
    rw [run_step hne] at hr
    by_cases hm : may (decL (L.drop p)).1 = true
    · rw [if_pos hm, List.drop_drop] at hr
      rw [if_neg (by simp [hm]), wp_ret]
      simp only [T32k0, sw_nr, sw_same, asCons_cons, asInt_int, asNil_nil]
      rw [wp_ret]
      refine ⟨_, ?_, p + (decL (L.drop p)).2, rfl, by omega, hF.putNew (Nat.le_refl _) hn _, hn, get_put_same _ _ _, rfl, by omega⟩
      omega
    · rw [if_neg hm] at hr
      rw [if_pos (by simp [hm]), wp_ret]
      simp only [T32k0, T32k1, sw_same, asCons_cons, asInt_int, asNil_nil]
      rw [wp_ret]
      simp only [sw_re, sw_same, asCons_cons, asInt_int, asNil_nil]
      rw [wp_ret]
      rw [Nat.add_zero] at hr
      rw [← hr]
      exact ⟨_, rfl, hQ _ (hF.putNew (Nat.le_refl _) hn _)⟩
  · obtain rfl : p = L.length := by omega
    rw [wp_nxt_end hg' (by rw [mkB_size]; omega), wp_ret]
    simp only [T32k1, sw_same, asCons_cons, asInt_int, asNil_nil]
    rw [wp_ret, mkB_size]
    rw [List.drop_length, run_nil, Nat.add_zero] at hr
    rw [← hr]
    exact ⟨_, rfl, hQ _ hF⟩

theorem wp_upperL {L : List UInt8} (hL : L ≠ []) {Q : Value → AHeap → Prop} (hQ : ∀ σ', Frm σ σ' NoB → Q (.bool (isUpperU ((decL L).1 : Nat))) σ') : WpF PROG ovD 47 [.string (mkB L)] σ Q := by
  have hl := List.length_pos_iff.2 hL
  refine WpF.of (T47_eq _) rfl ?_
  rw [T47, wp_act, rng_eq]
  simp only [asPtr_ptr, asSome_some]
  refine Wp.count 0 (fun _ st σ' => σ' = σ.push (.iter (mkB L) 0) ∧ st = [.bool false]) ⟨rfl, rfl⟩ (fun j _ _ hj _ => by omega) ?_
  rintro st σ' ⟨rfl, rfl⟩
  simp only [T47b0, asCons_cons, asBool_bool, asNil_nil]
  have e := decL_eq L 0 (by omega)
  rw [List.drop_zero] at e
  rw [wp_nxt_more (get_push_same _ _) (by rw [mkB_size]; exact hl), e, wp_join, wp_call, WpF.eq (ev_upper (decL_i32 L) _)]
  simp only [asBool_bool, wp_ret, T47k0, T47k1, sw_same, sw_re, asCons_cons, asNil_nil]
  exact ⟨_, rfl, hQ _ ((Frm.rng σ _).putNew (Nat.le_refl _) (by rw [AHeap.push_n]; omega) _)⟩

/-! ### prefixes, remarks -/
theorem ev_prefix (L p : List UInt8) : EvF PROG ovD 35 [.string (mkB L), .string (bs p)] σ (.bool (decide (L.take p.length = p))) σ := by
  have h55 : EvF PROG ovD 55 [.string (mkB L), .string (bs p)] σ (.bool (decide (L.take p.length = p))) σ := by
    refine EvF.of (T55_eq _ _) rfl ?_
    have hs : (bs p).size = p.length := rfl
    rw [T55, wp_join, hs, mkB_size, wp_bif]
    by_cases h : p.length ≤ L.length
    · rw [if_pos (by simp; omega), wp_grd]
      refine ⟨by simp; omega, ?_⟩
      rw [wp_ret]
      simp only [T55k0, sw_same, asCons_cons, asBool_bool, asNil_nil]
      rw [wp_ret, ext_0, tl_mkB, tl_bs]
      refine ⟨?_, rfl⟩
      congr 2
      by_cases e : L.take p.length = p
      · rw [e]; simp
      · simp [e]
    · rw [if_neg (by simp; omega), wp_ret]
      simp only [T55k0, sw_same, asCons_cons, asBool_bool, asNil_nil]
      rw [wp_ret]
      refine ⟨?_, rfl⟩
      have : ¬ L.take p.length = p := by
        intro e
        have := congrArg List.length e
        rw [List.length_take] at this
        omega
      simp [this]
  refine EvF.of (T35_eq _ _) rfl ?_
  rw [T35, wp_call, WpF.eq h55, asBool_bool, wp_ret]
  exact ⟨rfl, rfl⟩

theorem take2_iff (L : List UInt8) (x y : UInt8) : L.take 2 = [x, y] ↔ ∃ r, L = x :: y :: r := by
  cases L with
  | nil => simp
  | cons a r =>
    cases r with
    | nil => simp
    | cons b r => simp

theorem rmk_step (a : UInt8) (r : List UInt8) (d : Int) : rmk (a :: r).length (a :: r) d =
    if (a :: r).take 2 = [40, 42] then (if d + 1 = 0 then some 2 else (rmk (r.drop 1).length (r.drop 1) (d + 1)).map (· + 2))
    else if (a :: r).take 2 = [42, 41] then (if d - 1 = 0 then some 2 else (rmk (r.drop 1).length (r.drop 1) (d - 1)).map (· + 2))
    else if d = 0 then some 1 else (rmk r.length r d).map (· + 1) := by
  have e : ∀ x y : UInt8, ((a :: r).take 2 = [x, y]) = (a = x ∧ r.head? = some y) := by
    intro x y
    cases r with
    | nil => simp
    | cons b r => simp
  simp only [e]
  rw [List.length_cons]
  conv => lhs; unfold rmk
  simp only
  rw [rmk_fuel r.length (r.drop 1).length (r.drop 1) (d + 1) (by simp) (Nat.le_refl _), rmk_fuel r.length (r.drop 1).length (r.drop 1) (d - 1) (by simp) (Nat.le_refl _)]

theorem ev_remark (L : List UInt8) (hL : L.length ≤ 1000000) : EvF PROG ovD 36 [.string (mkB L)] σ (.int .i64 (((rmk L.length L 0).getD 0 : Nat) : Int)) σ := by
  refine EvF.of (T36_eq _) rfl ?_
  rw [T36]
  refine Wp.loop (fun m st σ' => σ' = σ ∧ ∃ (i : Nat) (d : Int), m = L.length - i ∧ i ≤ L.length ∧ -(i : Int) ≤ d ∧ d ≤ (i : Int) ∧ st = [.int .i64 0, .int .i64 (i : Nat), .int .i64 d] ∧ rmk L.length L 0 = (rmk (L.drop i).length (L.drop i) d).map (· + i)) L.length
    ⟨rfl, 0, 0, rfl, by omega, by omega, by omega, rfl, by simp⟩ ?_
  rintro m st σ' ⟨rfl, i, d, rfl, hi, hd1, hd2, rfl, hr⟩
  simp only [T36b0, asCons_cons, asInt_int, asNil_nil]
  rw [mkB_size, wp_bif]
  by_cases h1 : i < L.length
  · have he2 : wi64 ((i : Int) + 2) = ((i + 2 : Nat) : Int) := by rw [wi64_in (by omega)]; omega
    have he1 : wi64 ((i : Int) + 1) = ((i + 1 : Nat) : Int) := by rw [wi64_in (by omega)]; omega
    have hp : wi64 (d + 1) = d + 1 := wi64_in (by omega)
    have hm : wi64 (d - 1) = d - 1 := wi64_in (by omega)
    rw [if_pos (by simp; omega), wp_join, wp_join, wp_grd]
    refine ⟨by simp; omega, ?_⟩
    have hx : (mkB L).extract i L.length = mkB (L.drop i) := by rw [← mkB_size L]; exact ext_to L i
    rw [Int.toNat_natCast, hx, wp_call, WpF.eq (ev_prefix _ _), asBool_bool, wp_join, wp_bif]
    obtain ⟨a, r, ha⟩ : ∃ a r, L.drop i = a :: r := by
      cases hX : L.drop i with
      | nil => simp at hX; omega
      | cons a r => exact ⟨a, r, rfl⟩
    have hr1 : r = L.drop (i + 1) := by
      have := congrArg (List.drop 1) ha
      rw [List.drop_drop] at this
      simpa using this.symm
    have hr2 : r.drop 1 = L.drop (i + 2) := by rw [hr1, List.drop_drop]
    rw [ha, rmk_step, hr2] at hr
    rw [ha]
    have fin : ∀ (d' : Int) (w : Nat), i + w ≤ L.length → 1 ≤ w → w ≤ 2 → -(i + 1 : Int) ≤ d' ∧ d' ≤ (i + 1 : Int) → (rmk L.length L 0 = if d' = 0 then some (i + w) else (rmk (L.drop (i + w)).length (L.drop (i + w)) d').map (· + (i + w))) →
        Wp PROG ovD (T36k2 0 .normal [.int .i64 ((i + w : Nat) : Int), .int .i64 d']) σ' fun e vs σ1 => Wp PROG ovD (T36k3 e vs) σ1 fun e st' σ2 => match e with
          | .normal => ∃ m', m' < L.length - i ∧ σ2 = σ' ∧ ∃ (i : Nat) (d : Int), m' = L.length - i ∧ i ≤ L.length ∧ -(i : Int) ≤ d ∧ d ≤ (i : Int) ∧ st' = [.int .i64 0, .int .i64 (i : Nat), .int .i64 d] ∧ rmk L.length L 0 = (rmk (L.drop i).length (L.drop i) d).map (· + i)
          | e => Wp PROG ovD (T36k4 e st') σ2 fun _ vs σ1 => vs = [.int .i64 (((rmk L.length L 0).getD 0 : Nat) : Int)] ∧ σ1 = σ' := by
      intro d' w hw1 hw2 hw3 hd' hr'
      simp only [T36k2, sw_same, asCons_cons, asInt_int, asNil_nil]
      rw [wp_bif]
      by_cases h0 : d' = 0
      · rw [if_pos h0] at hr'
        rw [if_pos (by simpa using h0), wp_ret]
        simp only [T36k3, sw_same, asCons_cons, asInt_int, asNil_nil]
        rw [wp_ret]
        simp only [T36k4, sw_re, sw_same, asCons_cons, asInt_int, asNil_nil]
        rw [wp_ret, hr']
        exact ⟨rfl, rfl⟩
      · rw [if_neg h0] at hr'
        rw [if_neg (by simpa using h0), wp_ret]
        simp only [T36k3, sw_nr, sw_same, asCons_cons, asInt_int, asNil_nil]
        rw [wp_ret]
        exact ⟨L.length - (i + w), by omega, rfl, i + w, d', rfl, hw1, by omega, by omega, rfl, hr'⟩
    by_cases c1 : (a :: r).take 2 = [40, 42]
    · obtain ⟨q, hq⟩ := (take2_iff _ _ _).1 c1
      have hl : i + 2 ≤ L.length := by
        have := congrArg List.length ha
        rw [List.length_drop, hq] at this
        simp at this
        omega
      rw [if_pos c1] at hr
      rw [if_pos (by simpa using c1), wp_ret]
      simp only [T36k1, sw_same, asCons_cons, asInt_int, asNil_nil]
      rw [wp_ret, he2, hp]
      refine fin (d + 1) 2 hl (by omega) (by omega) (by omega) ?_
      rw [hr]
      split
      · simp [Nat.add_comm]
      · rw [Option.map_map]
        congr 1
        funext x
        simp only [Function.comp]
        omega
    · rw [if_neg c1] at hr
      rw [if_neg (by simpa using c1), wp_grd]
      refine ⟨by simp; omega, ?_⟩
      rw [wp_call, WpF.eq (ev_prefix _ _), asBool_bool, wp_join, wp_bif]
      by_cases c2 : (a :: r).take 2 = [42, 41]
      · obtain ⟨q, hq⟩ := (take2_iff _ _ _).1 c2
        have hl : i + 2 ≤ L.length := by
          have := congrArg List.length ha
          rw [List.length_drop, hq] at this
          simp at this
          omega
        rw [if_pos c2] at hr
        rw [if_pos (by simpa using c2), wp_ret]
        simp only [T36k0, T36k1, sw_same, asCons_cons, asInt_int, asNil_nil]
        rw [wp_ret, he2, hm]
        simp only [sw_same, asCons_cons, asInt_int, asNil_nil]
        rw [wp_ret]
        refine fin (d - 1) 2 hl (by omega) (by omega) (by omega) ?_
        rw [hr]
        split
        · simp [Nat.add_comm]
        · rw [Option.map_map]
          congr 1
          funext x
          simp only [Function.comp]
          omega
      · rw [if_neg c2] at hr
        rw [if_neg (by simpa using c2), wp_ret]
        simp only [T36k0, T36k1, sw_same, asCons_cons, asInt_int, asNil_nil]
        rw [wp_ret, he1]
        simp only [sw_same, asCons_cons, asInt_int, asNil_nil]
        rw [wp_ret]
        refine fin d 1 (by omega) (by omega) (by omega) (by omega) ?_
        rw [hr, ← hr1]
        split
        · simp [Nat.add_comm]
        · rw [Option.map_map]
          congr 1
          funext x
          simp only [Function.comp]
          omega
  · obtain rfl : i = L.length := by omega
    rw [if_neg (by simp), wp_ret]
    simp only [T36k4, sw_same, asCons_cons, asInt_int, asNil_nil]
    rw [wp_ret]
    rw [List.drop_length] at hr
    rw [hr]
    exact ⟨rfl, rfl⟩
end
end Go.Pg
