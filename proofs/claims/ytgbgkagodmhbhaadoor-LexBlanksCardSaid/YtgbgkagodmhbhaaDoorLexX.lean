/- Layer 2: a word; what is skipped; all words: the program's functions, each by what it computes. -/
import Derived.Test.YtgbgkagodmhbhaaDoorLexW
namespace Go.Pg
open Go.Proofs Go.Utf8 Go.Lib

/-- A tree that comes to a truth. -/
def EvB (p : Pg) (σ : AHeap) (b : Bool) : Prop := ∀ Q : Post, Wp PROG ovD p σ Q = Q .normal [.bool b] σ
theorem EvB.ret (σ : AHeap) (b : Bool) : EvB (.ret .normal [.bool b]) σ b := fun Q => by rw [wp_ret]
theorem EvB.cond {p : Pg} {σ : AHeap} {b c : Bool} (h : EvB p σ b) : EvB (bif c then .ret .normal [.bool c] else p) σ (c || b) := by
  cases c with
  | true => exact EvB.ret σ true
  | false => exact h
theorem EvB.join {p : Pg} {k : Ex → List Value → Pg} {σ : AHeap} {b : Bool} (h : EvB p σ b) (hk : ∀ x, EvB (k .normal [.bool x]) σ x) : EvB (.join p k) σ b := fun Q => by rw [wp_join, h, hk b]

section
variable {σ : AHeap}
theorem ev_isKey (t : List UInt8) : EvF PROG ovD 58 [.string (mkB t)] σ (.bool (isKeyL t)) σ := by
  refine EvF.of (T58_eq _) rfl ?_
  have hk : ∃ b, b = isKeyL t ∧ Wp PROG ovD (T58k17 .normal [.bool b]) σ (fun e vs σ1 => Wp PROG ovD (T58k18 e vs) σ1 fun _ vs σ1 => vs = [.bool (isKeyL t)] ∧ σ1 = σ) := by
    refine ⟨_, rfl, ?_⟩
    simp only [T58k17, sw_same, asCons_cons, asBool_bool, asNil_nil]
    rw [wp_bif]
    cases isKeyL t with
    | true =>
      rw [if_pos rfl, wp_ret]
      simp only [T58k18, sw_same, asCons_cons, asBool_bool, asNil_nil]
      rw [wp_ret]
      exact ⟨rfl, rfl⟩
    | false =>
      rw [if_neg (by simp), wp_ret]
      simp only [T58k18, sw_nr, sw_same, asCons_cons, asBool_bool, asNil_nil]
      rw [wp_ret]
      exact ⟨rfl, rfl⟩
  obtain ⟨b, hb, hk⟩ := hk
  rw [T58, wp_join, wp_join]
  have pass : ∀ {k : Ex → List Value → Pg}, (∀ x, k .normal [.bool x] = .ret .normal [.bool x]) → ∀ x, EvB (k .normal [.bool x]) σ x := fun h x => by rw [h]; exact EvB.ret _ _
  have passK : ∀ x : Bool, T58k0 .normal [.bool x] = .ret .normal [.bool x] := fun x => by simp only [T58k0, sw_same, asCons_cons, asBool_bool, asNil_nil]
  have key : ∀ p, (∃ c, EvB p σ c ∧ c = b) → Wp PROG ovD p σ fun e vs σ1 => Wp PROG ovD (T58k17 e vs) σ1 fun e vs σ1 => Wp PROG ovD (T58k18 e vs) σ1 fun _ vs σ1 => vs = [.bool (isKeyL t)] ∧ σ1 = σ := by
    rintro p ⟨c, hp, rfl⟩
    rw [hp]
    exact hk
  apply key
  apply Exists.intro
  apply And.intro
  · repeat' first
      | exact EvB.ret _ _
      | apply EvB.cond
      | (apply EvB.join; case hk => exact pass fun x => passK x)
  · rw [hb]
    simp only [isKeyL, keys, List.any_cons, List.any_nil, tl_mkB, tl_bs, Bool.or_false]

theorem wp_value (t : List UInt8) (ht : ∀ b ∈ t, 48 ≤ b.toNat ∧ b.toNat ≤ 57) {Q : Value → AHeap → Prop} (hQ : ∀ n σ', Frm σ σ' NoB → Q (.tuple #[.int .i64 n, .bool (valL t 0)]) σ') :
    WpF PROG ovD 40 [.string (mkB t)] σ Q := by
  refine WpF.of (T40_eq _) rfl ?_
  rw [T40, wp_act, rng_eq]
  simp only [asPtr_ptr, asSome_some]
  refine Wp.loop (fun m st σ' => ∃ (p : Nat) (n : Int), m = t.length - p ∧ p ≤ t.length ∧ Frm σ σ' NoB ∧ σ.n < σ'.n ∧ σ'.get σ.n = some (.iter (mkB t) p) ∧ 0 ≤ n ∧ n ≤ 4611686018427387903 ∧ st = [.int .i64 n, .bool false, .int .i64 0] ∧ valL t 0 = valL (t.drop p) n) t.length
    ⟨0, 0, rfl, by omega, Frm.rng _ _, by rw [AHeap.push_n]; omega, get_push_same _ _, by omega, by omega, rfl, by simp⟩ ?_
  rintro m st σ' ⟨p, n, rfl, hp, hF, hn, hg', h0, h1, rfl, hv⟩
  simp only [T40b0, asCons_cons, asInt_int, asBool_bool, asNil_nil]
  by_cases hpl : p < t.length
  · obtain ⟨b, r, hb⟩ : ∃ b r, t.drop p = b :: r := by
      cases hX : t.drop p with
      | nil => simp at hX; omega
      | cons b r => exact ⟨b, r, rfl⟩
    have hbt := ht b (List.mem_of_mem_drop (by rw [hb]; simp))
    have hr : r = t.drop (p + 1) := by
      have := congrArg (List.drop 1) hb
      rw [List.drop_drop] at this
      simpa using this.symm
    have hd := decL_ascii (b := b) (r := r) (by omega)
    rw [wp_nxt_more hg' (by rw [mkB_size]; exact hpl), decL_eq t p hp, hb, hd, wp_join]
    simp only
    have e32 : wi32 ((b.toNat : Int) - 48) = (b.toNat : Int) - 48 := wi32_in (by omega)
    have e64 : wi64 ((b.toNat : Int) - 48) = (b.toNat : Int) - 48 := wi64_in (by omega)
    have ex : wi64 (4611686018427387903 - ((b.toNat : Int) - 48)) = 4611686018427387903 - ((b.toNat : Int) - 48) := wi64_in (by omega)
    have ed : Int.tdiv (4611686018427387903 - ((b.toNat : Int) - 48)) 10 = (4611686018427387903 - ((b.toNat : Int) - 48)) / 10 := Int.tdiv_eq_ediv_of_nonneg (by omega)
    have ed2 : wi64 (Int.tdiv (4611686018427387903 - ((b.toNat : Int) - 48)) 10) = Int.tdiv (4611686018427387903 - ((b.toNat : Int) - 48)) 10 := wi64_in (by rw [ed]; omega)
    rw [e32, e64, ex, ed2, wp_bif]
    rw [hb, show valL (b :: r) n = if n > Int.tdiv (4611686018427387903 - ((b.toNat : Int) - 48)) 10 then false else valL r (10 * n + ((b.toNat : Int) - 48)) from rfl] at hv
    by_cases hc : n > Int.tdiv (4611686018427387903 - ((b.toNat : Int) - 48)) 10
    · rw [if_pos hc] at hv
      rw [if_pos (by simpa using hc), wp_ret]
      simp only [T40k0, sw_same, asCons_cons, asInt_int, asBool_bool, asNil_nil]
      rw [wp_ret]
      simp only [T40k1, sw_re, sw_same, asCons_cons, asInt_int, asBool_bool, asNil_nil]
      rw [wp_ret, ← hv]
      exact ⟨_, rfl, hQ _ _ (hF.putNew (Nat.le_refl _) hn _)⟩
    · rw [if_neg hc] at hv
      rw [if_neg (by simpa using hc), wp_ret]
      have h10 : wi64 (10 * n) = 10 * n := wi64_in (by rw [ed] at hc; omega)
      have h11 : wi64 (10 * n + ((b.toNat : Int) - 48)) = 10 * n + ((b.toNat : Int) - 48) := wi64_in (by rw [ed] at hc; omega)
      simp only [T40k0, sw_nr, sw_same, asCons_cons, asInt_int, asBool_bool, asNil_nil]
      rw [wp_ret, h10, h11]
      refine ⟨t.length - (p + 1), by omega, p + 1, 10 * n + ((b.toNat : Int) - 48), rfl, by omega, hF.putNew (Nat.le_refl _) hn _, hn, get_put_same _ _ _, by omega, by rw [ed] at hc; omega, rfl, ?_⟩
      rw [hv, hr]
  · obtain rfl : p = t.length := by omega
    rw [wp_nxt_end hg' (by rw [mkB_size]; omega), wp_ret]
    simp only [T40k1, sw_same, asCons_cons, asInt_int, asBool_bool, asNil_nil]
    rw [List.drop_length] at hv
    have : valL t 0 = true := hv
    rw [wp_ret, ← this]
    exact ⟨_, rfl, hQ _ _ hF⟩

def wv (k : Int) (t : List UInt8) (a b : Int) : Value := .agg #[.int .i64 k, .string (mkB t), .int .i64 a, .int .i64 b]

theorem wp_marked {L : List UInt8} (hL : L ≠ []) {Q : Value → AHeap → Prop} (hQ : ∀ σ', Frm σ σ' NoB → Q (wv (mrkL L).1 (mrkL L).2 0 0) σ') : WpF PROG ovD 41 [.string (mkB L)] σ Q := by
  refine WpF.of (T41_eq _) rfl ?_
  rw [T41]
  refine wp_newQ fun σ1 hF1 hn1 hS1 => ?_
  rw [wp_act, bdSl_eq]
  simp only [asSlice_slice]
  have hF2 : Frm σ1 (σ1.newBlk [.string (bs [58, 61]), .string (bs [45, 62])] 1) NoB := Frm.new _ _ _ _
  have hR2 := Row.new σ1 1 [.string (bs [58, 61]), .string (bs [45, 62])] 2 (by decide) rfl (by intro x hx; simp at hx; rcases hx with rfl | rfl <;> rfl)
  generalize σ1.newBlk [.string (bs [58, 61]), .string (bs [45, 62])] 1 = σ2 at hF2 hR2
  have hS2 := hF2.stN hS1
  have hF02 := hF1.seq hF2
  have done : ∀ (σ3 : AHeap) (x : List Value) (k : Int) (t : List UInt8), Frm σ σ3 NoB → St σ3 σ.n [.int .i64 k, .string (mkB t), .int .i64 0, .int .i64 0] → mrkL L = (k, t) →
      Wp PROG ovD (.act (ldN 4 ⟨σ.n, 0, some 0⟩) fun v40 => .ret .ret [v40]) σ3 fun _ vs σ' => ∃ v, vs = [v] ∧ Q v σ' := by
    intro σ3 x k t hF3 hS3 he
    rw [wp_ldAll hS3 4 rfl, wp_ret]
    have := hQ σ3 hF3
    rw [he] at this
    exact ⟨_, rfl, this⟩
  have setW : ∀ (k : Int) (t : List UInt8) (p : Pg) (R : Post), (∀ σ3, Frm σ σ3 NoB → St σ3 σ.n [.int .i64 k, .string (mkB t), .int .i64 0, .int .i64 0] → Wp PROG ovD p σ3 R) →
      Wp PROG ovD (.act (stC ⟨σ.n, 0, some 0⟩ [.int .i64 k, .string (mkB t), .int .i64 0, .int .i64 0]) fun v => asTuple v fun l => asNil l p) σ2 R := by
    intro k t p R h
    refine wp_stQ hS2 rfl rfl fun σ3 hF3 hn3 hS3 => h σ3 (hF02.fresh hF3 fun j hj e => by omega) hS3
  refine Wp.count 2 (fun j st σ' => σ' = σ2 ∧ st = [.int .i64 ((j : Nat) : Int)] ∧ (1 ≤ j → L.take 2 ≠ [58, 61]) ∧ (2 ≤ j → L.take 2 ≠ [45, 62])) ⟨rfl, rfl, by omega, by omega⟩ ?_ ?_
  · rintro j st σ' hj ⟨rfl, rfl, hn1, hn2⟩
    have ej : wi64 ((j : Int) + 1) = ((j + 1 : Nat) : Int) := by rw [wi64_in (by omega)]; omega
    simp only [T41b0, asCons_cons, asInt_int, asNil_nil, asSome_some]
    rw [wp_bif, if_pos (by simp; omega), wp_join, wp_grd]
    refine ⟨by simp; omega, ?_⟩
    rw [Int.toNat_natCast]
    have hj2 : j = 0 ∨ j = 1 := by omega
    rcases hj2 with rfl | rfl
    · rw [wp_rowR hR2 (v := .string (bs [58, 61])) rfl, asStr_str, wp_call, WpF.eq (ev_prefix _ _), asBool_bool, wp_bif]
      by_cases h1 : L.take 2 = [58, 61]
      · rw [if_pos (by simpa using h1)]
        refine setW 5 [58, 61] _ _ fun σ3 hF3 hS3 => ?_
        rw [wp_ret]
        simp only [T41k0, sw_same, asNil_nil]
        rw [wp_ret]
        simp only [T41k2, sw_re, sw_same, asCons_cons, asInt_int, asNil_nil]
        exact done σ3 [] 5 [58, 61] hF3 hS3 (by unfold mrkL; rw [if_pos h1])
      · rw [if_neg (by simpa using h1), wp_ret]
        simp only [T41k0, sw_nr, sw_same, asNil_nil]
        rw [wp_ret, ej]
        exact ⟨rfl, rfl, fun _ => h1, by omega⟩
    · rw [wp_rowR hR2 (v := .string (bs [45, 62])) rfl, asStr_str, wp_call, WpF.eq (ev_prefix _ _), asBool_bool, wp_bif]
      by_cases h1 : L.take 2 = [45, 62]
      · rw [if_pos (by simpa using h1)]
        refine setW 5 [45, 62] _ _ fun σ3 hF3 hS3 => ?_
        rw [wp_ret]
        simp only [T41k0, sw_same, asNil_nil]
        rw [wp_ret]
        simp only [T41k2, sw_re, sw_same, asCons_cons, asInt_int, asNil_nil]
        exact done σ3 [] 5 [45, 62] hF3 hS3 (by unfold mrkL; rw [if_neg (hn1 (by omega)), if_pos h1])
      · rw [if_neg (by simpa using h1), wp_ret]
        simp only [T41k0, sw_nr, sw_same, asNil_nil]
        rw [wp_ret, ej]
        exact ⟨rfl, rfl, fun _ => hn1 (by omega), fun _ => h1⟩
  · rintro st σ' ⟨rfl, rfl, hn1, hn2⟩
    have h1 := hn1 (by omega)
    have h2 := hn2 (by omega)
    obtain ⟨b, r, rfl⟩ : ∃ b r, L = b :: r := by
      cases L with
      | nil => exact absurd rfl hL
      | cons b r => exact ⟨b, r, rfl⟩
    have hb0 : byteAt (mkB (b :: r)) 0 = (b.toNat : Int) := rfl
    have hsz : (mkB (b :: r)).size = r.length + 1 := rfl
    simp only [T41b0, asCons_cons, asInt_int, asNil_nil, asSome_some]
    rw [wp_bif, if_neg (by simp), wp_ret]
    simp only [T41k2, sw_same, asCons_cons, asInt_int, asNil_nil]
    rw [wp_join, wp_grd]
    refine ⟨by simp [hsz], ?_⟩
    rw [hb0, wp_bif]
    have bad : b = 62 ∨ b = 58 → Wp PROG ovD (T41k1 ⟨σ.n, 0, some 0⟩ (mkB (b :: r)) .normal [.bool true]) σ' fun _ vs σ' => ∃ v, vs = [v] ∧ Q v σ' := by
      intro hb
      simp only [T41k1, sw_same, asCons_cons, asBool_bool, asNil_nil]
      rw [wp_bif, if_pos rfl]
      refine setW 0 [] _ _ fun σ3 hF3 hS3 => ?_
      exact done σ3 [] 0 [] hF3 hS3 (by unfold mrkL; rw [if_neg h1, if_neg h2, if_pos (by simpa using hb)])
    by_cases c1 : b = 62
    · subst c1
      rw [if_neg (by simp), wp_ret]
      exact bad (.inl rfl)
    · have n1 : ¬ ((b.toNat : Int) = 62) := fun e => c1 (UInt8.toNat_inj.1 (by show b.toNat = 62; omega))
      rw [if_pos (by simpa using n1), wp_grd]
      refine ⟨by simp [hsz], ?_⟩
      rw [wp_ret]
      by_cases c2 : b = 58
      · subst c2
        exact bad (.inr rfl)
      · have n2 : ¬ ((b.toNat : Int) = 58) := fun e => c2 (UInt8.toNat_inj.1 (by show b.toNat = 58; omega))
        have e2 : ((b.toNat : Int) == 58) = false := by simpa using n2
        rw [e2]
        simp only [T41k1, sw_same, asCons_cons, asBool_bool, asNil_nil]
        rw [wp_bif, if_neg (by simp), wp_grd]
        refine ⟨by simp [hsz]; omega, ?_⟩
        rw [ext_0]
        refine setW 5 _ _ _ fun σ3 hF3 hS3 => ?_
        exact done σ3 [] 5 _ hF3 hS3 (by unfold mrkL; rw [if_neg h1, if_neg h2, if_neg (by simp [c1, c2])])

theorem wp_named {L : List UInt8} (hL : L ≠ []) {Q : Value → AHeap → Prop} (hQ : ∀ σ', Frm σ σ' NoB → Q (wv (namL L).1 (namL L).2 0 0) σ') : WpF PROG ovD 38 [.string (mkB L)] σ Q := by
  refine WpF.of (T38_eq _) rfl ?_
  have hlen := run_len (may := lod) L
  rw [T38]
  refine wp_newQ fun σ1 hF1 hn1 hS1 => ?_
  rw [wp_call]
  refine wp_run cls_lod L fun σ2 hF2 => ?_
  have hS2 := hF2.stN hS1
  rw [asInt_int, wp_grd]
  refine ⟨by simp [mkB_size]; omega, ?_⟩
  rw [Int.toNat_natCast, ext_0]
  refine wp_newQ fun σ3 hF3 hn3 hS3 => ?_
  have hS3' := hF3.stN hS2
  generalize hA : σ2.n = A at hS3
  have hAn : σ.n < A := by rw [← hA]; have := hF2.n; omega
  refine wp_stQ hS3 rfl rfl fun σ4 hF4 hn4 hS4 => ?_
  have hS4' := hF4.st hS3' (by omega)
  have hF04 : Frm σ σ4 NoB := ((hF1.seq hF2).seq hF3).fresh hF4 fun j hj e => by omega
  rw [wp_join, wp_call]
  refine wp_upperL hL fun σ5 hF5 => ?_
  have hS5 := hF5.stN hS4
  have hS5' := hF5.stN hS4'
  have hF05 := hF04.seq hF5
  have fin : ∀ (σ6 : AHeap) (k : Int), Frm σ σ6 NoB → St σ6 A [.int .i64 k, .string (mkB (L.take (run lod L))), .int .i64 0, .int .i64 0] → St σ6 σ.n [.int .i64 0, .string (bs []), .int .i64 0, .int .i64 0] → (namL L).1 = k →
      Wp PROG ovD (T38k2 ⟨A, 0, some 0⟩ ⟨σ.n, 0, some 0⟩ .normal []) σ6 fun _ vs σ' => ∃ v, vs = [v] ∧ Q v σ' := by
    intro σ6 k hF6 hS6 hS6' hk
    simp only [T38k2, sw_same, asNil_nil]
    rw [wp_ldAll hS6 4 rfl]
    simp only [asAgg_agg, asCons_cons, asInt_int, asStr_str, asNil_nil]
    refine wp_stQ hS6' rfl rfl fun σ7 hF7 hn7 hS7 => ?_
    rw [wp_ldAll hS7 4 rfl, wp_ret]
    have := hQ σ7 (hF6.fresh hF7 fun j hj e => by omega)
    rw [hk] at this
    exact ⟨_, rfl, this⟩
  rw [asBool_bool, wp_join, wp_bif]
  by_cases hu : isUpperU ((decL L).1 : Nat) = true
  · rw [if_pos hu]
    refine wp_st1Q hS5 (by simp) rfl fun σ6 hF6 hn6 hS6 => ?_
    rw [wp_ret]
    simp only [T38k1, sw_same, asNil_nil]
    rw [wp_ret]
    refine fin σ6 3 (hF05.fresh hF6 fun j hj e => by omega) hS6 (hF6.st hS5' (by omega)) ?_
    unfold namL
    rw [if_pos hu]
  · rw [if_neg hu, wp_ldF hS5 (v := .string (mkB (L.take (run lod L)))) rfl, asStr_str, wp_call, WpF.eq (ev_isKey _), asBool_bool, wp_join, wp_bif]
    by_cases hk : isKeyL (L.take (run lod L)) = true
    · rw [if_pos hk]
      refine wp_st1Q hS5 (by simp) rfl fun σ6 hF6 hn6 hS6 => ?_
      rw [wp_ret]
      simp only [T38k0, T38k1, sw_same, asNil_nil]
      rw [wp_ret]
      simp only [sw_same, asNil_nil]
      rw [wp_ret]
      refine fin σ6 4 (hF05.fresh hF6 fun j hj e => by omega) hS6 (hF6.st hS5' (by omega)) ?_
      unfold namL
      rw [if_neg hu, if_pos hk]
    · rw [if_neg hk, wp_ret]
      simp only [T38k0, T38k1, sw_same, asNil_nil]
      rw [wp_ret]
      simp only [sw_same, asNil_nil]
      rw [wp_ret]
      refine fin σ5 2 hF05 hS5 hS5' ?_
      unfold namL
      rw [if_neg hu, if_neg hk]

theorem dig_bytes : ∀ (n : Nat) (L : List UInt8), L.length ≤ n → ∀ b ∈ L.take (run dig L), 48 ≤ b.toNat ∧ b.toNat ≤ 57
  | 0, L, h, b, hb => by
    have : L = [] := List.eq_nil_of_length_eq_zero (by omega)
    subst this
    simp at hb
  | n + 1, L, h, b, hb => by
    by_cases hL : L = []
    · subst hL; simp at hb
    · rw [run_step hL] at hb
      split at hb
      · rename_i hm
        have hc : clsF ((decL L).1 : Nat) = 2 := by simpa [dig] using hm
        have hd := cls_dig hc
        obtain ⟨a, r, rfl, ha, hw⟩ := decL_lt hL (by omega)
        rw [hw, Nat.add_comm, List.take_succ_cons, List.drop_succ_cons, List.drop_zero] at hb
        rcases List.mem_cons.1 hb with rfl | hb
        · omega
        · exact dig_bytes n r (by simpa using h) b hb
      · simp at hb

theorem wp_word {L : List UInt8} (hL : L ≠ []) {Q : Value → AHeap → Prop} (hQ : ∀ σ', Frm σ σ' NoB → Q (wv (wrdL L).1 (wrdL L).2 0 0) σ') : WpF PROG ovD 18 [.string (mkB L)] σ Q := by
  refine WpF.of (T18_eq _) rfl ?_
  rw [T18]
  refine wp_newQ fun σ1 hF1 hn1 hS1 => ?_
  rw [wp_call, WpF.eq (ev_decode hL _)]
  simp only [asTuple_tuple, asCons_cons, asInt_int, asNil_nil]
  rw [wp_call, WpF.eq (ev_class (decL_i32 L) _), asInt_int, wp_join, wp_join]
  have fin : ∀ (σ2 : AHeap) (k : Int) (t : List UInt8), Frm σ σ2 NoB → St σ2 σ.n [.int .i64 k, .string (mkB t), .int .i64 0, .int .i64 0] → wrdL L = (k, t) →
      Wp PROG ovD (T18k2 ⟨σ.n, 0, some 0⟩ .ret []) σ2 fun _ vs σ' => ∃ v, vs = [v] ∧ Q v σ' := by
    intro σ2 k t hF2 hS2 he
    simp only [T18k2, sw_same, asNil_nil]
    rw [wp_ldAll hS2 4 rfl, wp_ret]
    have := hQ σ2 hF2
    rw [he] at this
    exact ⟨_, rfl, this⟩
  have no : ∀ (σ2 : AHeap), Frm σ1 σ2 NoB → wrdL L = (0, []) → Wp PROG ovD (T18k2 ⟨σ.n, 0, some 0⟩ .normal []) σ2 fun _ vs σ' => ∃ v, vs = [v] ∧ Q v σ' := by
    intro σ2 hF2 he
    simp only [T18k2, sw_nr, sw_same, asNil_nil]
    refine wp_stQ (hF2.stN hS1) rfl rfl fun σ3 hF3 hn3 hS3 => ?_
    rw [wp_ldAll hS3 4 rfl, wp_ret]
    have := hQ σ3 ((hF1.seq hF2).fresh hF3 fun j hj e => by omega)
    rw [he] at this
    exact ⟨_, rfl, this⟩
  rw [wp_bif]
  by_cases h1 : clsF ((decL L).1 : Nat) = 1
  · rw [if_pos (by simpa using h1), wp_bif]
    by_cases h2 : (decL L).1 = 39
    · rw [if_neg (by simp [h2]), wp_ret]
      simp only [T18k1, sw_nr, sw_same, asNil_nil]
      rw [wp_ret]
      exact no σ1 (Frm.refl _ _) (by unfold wrdL; rw [if_pos h1, if_pos h2])
    · rw [if_pos (by simp; omega), wp_call]
      refine wp_named hL fun σ2 hF2 => ?_
      unfold wv
      simp only [asAgg_agg, asCons_cons, asInt_int, asStr_str, asNil_nil]
      refine wp_stQ (hF2.stN hS1) rfl rfl fun σ3 hF3 hn3 hS3 => ?_
      rw [wp_ret]
      simp only [T18k1, sw_same, asNil_nil]
      rw [wp_ret]
      exact fin σ3 _ _ ((hF1.seq hF2).fresh hF3 fun j hj e => by omega) hS3 (by unfold wrdL; rw [if_pos h1, if_neg h2])
  · rw [if_neg (by simpa using h1), wp_join, wp_bif]
    by_cases h2 : clsF ((decL L).1 : Nat) = 2
    · have hlen := run_len (may := dig) L
      rw [if_pos (by simpa using h2), wp_call]
      refine wp_run cls_dgt L fun σ2 hF2 => ?_
      rw [asInt_int, wp_grd]
      refine ⟨by simp [mkB_size]; omega, ?_⟩
      rw [Int.toNat_natCast, ext_0, wp_call]
      refine wp_value _ (dig_bytes _ L (Nat.le_refl _)) fun n σ3 hF3 => ?_
      simp only [asTuple_tuple, asCons_cons, asInt_int, asBool_bool, asNil_nil]
      rw [wp_bif]
      have hF13 := hF2.seq hF3
      by_cases h3 : valL (L.take (run dig L)) 0 = true
      · rw [if_pos h3, wp_grd]
        refine ⟨by simp [mkB_size]; omega, ?_⟩
        refine wp_stQ (hF13.stN hS1) rfl rfl fun σ4 hF4 hn4 hS4 => ?_
        rw [wp_ret]
        simp only [T18k0, T18k1, sw_same, asNil_nil]
        rw [wp_ret]
        simp only [sw_same, asNil_nil]
        rw [wp_ret]
        exact fin σ4 _ _ ((hF1.seq hF13).fresh hF4 fun j hj e => by omega) hS4 (by unfold wrdL; rw [if_neg h1, if_pos h2, if_pos h3])
      · rw [if_neg h3, wp_ret]
        simp only [T18k0, T18k1, sw_nr, sw_same, asNil_nil]
        rw [wp_ret]
        simp only [sw_nr, sw_same, asNil_nil]
        rw [wp_ret]
        exact no σ3 hF13 (by unfold wrdL; rw [if_neg h1, if_pos h2, if_neg h3])
    · rw [if_neg (by simpa using h2), wp_bif]
      by_cases h3 : clsF ((decL L).1 : Nat) = 4
      · rw [if_pos (by simpa using h3), wp_call]
        refine wp_marked hL fun σ2 hF2 => ?_
        unfold wv
        simp only [asAgg_agg, asCons_cons, asInt_int, asStr_str, asNil_nil]
        refine wp_stQ (hF2.stN hS1) rfl rfl fun σ3 hF3 hn3 hS3 => ?_
        rw [wp_ret]
        simp only [T18k0, T18k1, sw_same, asNil_nil]
        rw [wp_ret]
        simp only [sw_same, asNil_nil]
        rw [wp_ret]
        exact fin σ3 _ _ ((hF1.seq hF2).fresh hF3 fun j hj e => by omega) hS3 (by unfold wrdL; rw [if_neg h1, if_neg h2, if_pos h3])
      · rw [if_neg (by simpa using h3), wp_ret]
        simp only [T18k0, T18k1, sw_nr, sw_same, asNil_nil]
        rw [wp_ret]
        simp only [sw_nr, sw_same, asNil_nil]
        rw [wp_ret]
        exact no σ1 (Frm.refl _ _) (by unfold wrdL; rw [if_neg h1, if_neg h2, if_neg h3])

theorem wp_skip (L : List UInt8) (hl : L.length ≤ 1000000) {Q : Value → AHeap → Prop} (hQ : ∀ σ', Frm σ σ' NoB → Q (.tuple #[.int .i64 ((skp L).1 : Nat), .bool (skp L).2]) σ') : WpF PROG ovD 17 [.string (mkB L)] σ Q := by
  refine WpF.of (T17_eq _) rfl ?_
  rw [T17]
  refine Wp.loop (fun m st σ' => ∃ p, m = L.length - p ∧ p ≤ L.length ∧ Frm σ σ' NoB ∧ st = [.bool false, .int .i64 0, .int .i64 ((p : Nat) : Int)] ∧ skp L = ((skp (L.drop p)).1 + p, (skp (L.drop p)).2)) L.length
    ⟨0, rfl, by omega, Frm.refl _ _, rfl, by simp⟩ ?_
  rintro m st σ1 ⟨p, rfl, hp, hF1, rfl, hs⟩
  have hr := run_len (may := blk) (L.drop p)
  rw [List.length_drop] at hr
  simp only [T17b0, asCons_cons, asInt_int, asBool_bool, asNil_nil]
  rw [wp_join, wp_grd]
  refine ⟨by simp only [Bool.and_eq_true, decide_eq_true_eq]; have := mkB_size L; omega, ?_⟩
  rw [Int.toNat_natCast, ext_to, wp_call]
  refine wp_run cls_blk _ fun σ2 hF2 => ?_
  have e1 : wi64 ((p : Int) + (run blk (L.drop p) : Nat)) = ((p + run blk (L.drop p) : Nat) : Int) := by rw [wi64_in (by omega)]; omega
  rw [asInt_int, e1, wp_grd]
  refine ⟨by simp only [Bool.and_eq_true, decide_eq_true_eq]; have := mkB_size L; omega, ?_⟩
  rw [Int.toNat_natCast, ext_to, wp_call, WpF.eq (ev_prefix _ _), asBool_bool, wp_bif, ← List.drop_drop]
  have es := skp_step (L.drop p)
  have hF02 := hF1.seq hF2
  by_cases h1 : ((L.drop p).drop (run blk (L.drop p))).take 2 = [40, 42]
  · rw [if_pos h1] at es
    rw [if_neg (by simpa using h1), wp_grd]
    refine ⟨by simp only [Bool.and_eq_true, decide_eq_true_eq]; have := mkB_size L; omega, ?_⟩
    rw [wp_call, WpF.eq (ev_remark _ (by simp; omega)), asInt_int, wp_bif]
    cases hm : rmk ((L.drop p).drop (run blk (L.drop p))).length ((L.drop p).drop (run blk (L.drop p))) 0 with
    | none =>
      rw [hm] at es
      simp only at es
      rw [es] at hs
      rw [if_pos (by rfl), wp_ret]
      simp only [T17k0, sw_same, asCons_cons, asInt_int, asBool_bool, asNil_nil]
      rw [wp_ret]
      simp only [T17k1, sw_same, asCons_cons, asInt_int, asBool_bool, asNil_nil]
      rw [wp_ret]
      have := hQ σ2 hF02
      rw [hs, Nat.add_comm] at this
      exact ⟨_, rfl, this⟩
    | some m =>
      have hb := rmk_bound _ _ _ _ hm
      rw [List.length_drop, List.length_drop] at hb
      rw [hm] at es
      simp only at es
      rw [es] at hs
      simp only [Option.getD_some]
      have e2 : wi64 (((p + run blk (L.drop p) : Nat) : Int) + (m : Nat)) = ((p + (run blk (L.drop p) + m) : Nat) : Int) := by rw [wi64_in (by omega)]; omega
      rw [if_neg (by simp; omega), wp_ret, e2]
      simp only [T17k0, sw_nr, sw_same, asCons_cons, asInt_int, asBool_bool, asNil_nil]
      rw [wp_ret]
      refine ⟨_, ?_, p + (run blk (L.drop p) + m), rfl, by omega, hF02, rfl, ?_⟩
      · omega
      · rw [hs, List.drop_drop]
        simp only [Prod.mk.injEq, and_true]
        omega
  · rw [if_neg h1] at es
    rw [es] at hs
    rw [if_pos (by simpa using h1), wp_ret]
    simp only [T17k0, sw_same, asCons_cons, asInt_int, asBool_bool, asNil_nil]
    rw [wp_ret]
    simp only [T17k1, sw_same, asCons_cons, asInt_int, asBool_bool, asNil_nil]
    rw [wp_ret]
    have := hQ σ2 hF02
    rw [hs, Nat.add_comm] at this
    exact ⟨_, rfl, this⟩
end
end Go.Pg
