/- Layer 9: the document's renderer: it answers the same. -/
import Derived.Test.YtlpebjohofhbgaaDoorValH
namespace Go.Pg
open Go.Proofs Go.Lib

theorem join_snoc {xs : List (List UInt8)} (h : xs ≠ []) (y sep : List UInt8) : join (xs ++ [y]) sep = join xs sep ++ sep ++ y := by
  cases xs with
  | nil => exact absurd rfl h
  | cons x r =>
    rw [List.cons_append, join_cons, join_cons]
    simp [joinTail]

/-- An element of a row, read whole, which can be read again. -/
theorem wp_rowOfK {P : Program} {ov : Ov} {β : Type} {σ : AHeap} {Y : Nat → Prop} {c : Nat} {R : List Value → β → Prop} {p : Option Addr} {ts : List β} (h : RowOf σ Y c R p ts) {i n : Nat} (hi : i < ts.length) (hn : n = ts.length) {f : Addr → Value → Pg} {Q : Post}
    (k : ∀ x cs, R cs ts[i] → (∀ σ', Frm σ σ' NoB → ldN c (aadd x (i * c)) σ' = some (.agg cs.toArray, σ')) → Wp P ov (f x (.agg cs.toArray)) σ Q) :
    Wp P ov (asSome p fun a => grd (decide (0 ≤ ((i : Nat) : Int)) && decide (((i : Nat) : Int) < ((n : Nat) : Int))) (.act (ldN c (aadd a (Int.toNat ((i : Nat) : Int) * c))) (f a))) σ Q := by
  subst hn
  obtain ⟨x, cs, rfl, h1, h2, h3⟩ := h i hi
  have e : (decide (0 ≤ ((i : Nat) : Int)) && decide (((i : Nat) : Int) < ((ts.length : Nat) : Int))) = true := by simp; omega
  have hl : ∀ σ', Frm σ σ' NoB → ldN c (aadd x (i * c)) σ' = some (.agg cs.toArray, σ') := fun σ' f => by
    unfold ldN
    rw [rdN_keep (S := NoB) f h1 (fun _ _ h => h.elim), h2]
  simp only [asSome_some]
  rw [wp_grd, e, Int.toNat_natCast, wp_act, hl σ (Frm.refl _ _)]
  exact ⟨rfl, k x cs h3 hl⟩

section
variable {Y : Nat → Prop} {pc pk : Option Addr} {cc ck : Nat} {cells : List (Tr VA)} {cons : ConsL}

structure RCR (Y : Nat → Prop) (pc pk : Option Addr) (cells : List (Tr VA)) (cons : ConsL) (σ : AHeap) : Prop where
  cells : RowOf σ Y 8 (VIn L8 σ Y 7) pc cells
  cons : ConsRow σ Y pk cons
theorem RCR.frm {σ σ' : AHeap} (f : Frm σ σ' NoB) (h : RCR Y pc pk cells cons σ) : RCR Y pc pk cells cons σ' := ⟨h.cells.frm f, h.cons.frm f⟩

theorem RCR.inR {σ : AHeap} (h : RCR Y pc pk cells cons σ) : ∀ c ∈ cells, Go.Pg.inR 7 c := by
  intro c hc
  obtain ⟨i, hi, rfl⟩ := List.mem_iff_getElem.1 hc
  obtain ⟨_, _, _, _, _, h⟩ := h.cells i hi
  exact VIn.inR (fun _ h => h) h

theorem ren_leR {σ : AHeap} (hB : RB cells cons) (hR : RCR Y pc pk cells cons σ) {k n m : Nat} {v : Tr VA} {t : Tr TA} (hn : n ≤ 7) (hm : m ≤ 7) (hv : fitV n v) (hi : Go.Pg.inR n v) (ht : tyOK m t) : (renM cells cons k v t).length ≤ 9000000 := by
  rcases ht with ht | ht
  · have := ren_flat cells cons k n v t hv hi ht
    have h5 : 5 ^ n ≤ 5 ^ 7 := Nat.pow_le_pow_right (by decide) hn
    have e : 5 ^ 7 = 78125 := by decide
    omega
  · have := ren_len cells cons (fun c hc => ⟨hB.fit c hc, hR.inR c hc⟩) k n m v t hn hv hi ht
    omega

variable (Y pc pk cc ck cells cons)
def RefOK (k : Nat) : Prop := ∀ (w n m : Nat) (σ : AHeap) (cs ct : List Value) (v : Tr VA) (t : Tr TA), w + k = 50 → n ≤ 7 → m ≤ 7 → VIn L8 σ Y n cs v → fitV n v → VIn L4 σ Y m ct t → tyOK m t → RCR Y pc pk cells cons σ →
  Ret 19 [.agg cs.toArray, .agg ct.toArray, .slice pc cells.length cc, .slice pk cons.length ck, .int .i64 (w : Nat)] σ (.string (bs (renM cells cons k v t)))
variable {Y pc pk cc ck cells cons}

theorem consOf_drop {l : ConsL} {nm : ByteArray} {i : Nat} (hi : i < l.length) : consOf (l.drop i) nm = if l[i].1.toList == nm.toList then l[i].2 else consOf (l.drop (i + 1)) nm := by
  rw [List.drop_eq_getElem_cons hi]
  rfl

set_option maxHeartbeats 1000000 in
theorem wp_argsR {k w n : Nat} (hB : RB cells cons) (ih : RefOK Y pc pk cc ck cells cons k) (hw : w + k = 49) (hn : n ≤ 6) {σ : AHeap} {cs : List Value} {v : Tr VA} (hV : VIn L8 σ Y (n + 1) cs v) (hfit : fitV (n + 1) v) (hR : RCR Y pc pk cells cons σ) :
    Ret 28 [.agg cs.toArray, .slice pc cells.length cc, .slice pk cons.length ck, .int .i64 (w : Nat)] σ (.string (bs (if 0 < v.args.length then [32, 40] ++ join (argL (renM cells cons k) v.args (consOf cons v.a.name)) [44, 32] ++ [41] else []))) := by
  have hin := hV.inR (fun _ h => h)
  obtain ⟨_, e, p, cap, rfl, hr⟩ := hV
  obtain ⟨h4, h60, hfa⟩ := hfit
  refine WpF.of (T28_eq _ _ _ _ _ _ _ _ _ _ _ _ _ _ _ _ _) rfl ?_
  rw [T28]
  refine wp_newQ fun σ1 hF hn1 hS => ?_
  rw [wp_ldF hS rfl, asSlice_slice, wp_bif]
  by_cases h0 : 0 < v.args.length
  case neg =>
    rw [if_pos (by simp only [beq_iff_eq]; omega), wp_ret, if_neg h0]
    exact ⟨_, rfl, rfl, hF⟩
  rw [if_neg (by simp only [beq_iff_eq]; omega), if_pos h0]
  have hc6 := hB.nCons
  have hts := consOf_len hB v.a.name
  have hxl := argL_len (renM cells cons k) v.args (consOf cons v.a.name)
  have hxg := argL_get (renM cells cons k) v.args (consOf cons v.a.name)
  have hXe : ∀ x ∈ argL (renM cells cons k) v.args (consOf cons v.a.name), x.length ≤ 9000000 := argL_le (by decide) v.args (consOf cons v.a.name) fun a ha s => ren_leR (k := k) (n := n) (m := 1) hB hR (by omega) (by decide) (hfa a ha) (hin.2 a ha) (.inl (nmT_args s))
  -- the texts
  have body : ∀ q σ3, Frm σ σ3 NoB → StrRow σ3 Y q (consOf cons v.a.name) → St σ3 σ.n (L8.cells v.a e (.slice p v.args.length cap)) → Wp PROG ovD (.loop [(.int .i64 0), (.string (bs [32, 40]))] (T28b1 ⟨σ.n, 0, some 0⟩ (consOf cons v.a.name).length q pc cells.length cc pk cons.length ck (w : Nat)) T28k5) σ3 fun _ vs σ' => ∃ v', vs = [v'] ∧ v' = .string (bs ([32, 40] ++ join (argL (renM cells cons k) v.args (consOf cons v.a.name)) [44, 32] ++ [41])) ∧ Frm σ σ' NoB := by
    intro q σ3 hF3 hq hS3
    generalize consOf cons v.a.name = ts at hq hts hxl hxg hXe
    generalize hX : argL (renM cells cons k) v.args ts = X at hxl hxg hXe
    have hjl : ∀ j, (join (X.take j) [44, 32]).length ≤ 4 * (9000000 + 2) := fun j => by
      have h1 := join_le (xs := X.take j) (b := 9000000) fun x hx => hXe x (List.mem_of_mem_take hx)
      have h2 : (X.take j).length ≤ 4 := by rw [List.length_take]; omega
      exact Nat.le_trans h1 (Nat.mul_le_mul_right _ h2)
    refine Wp.count v.args.length (fun j st σ' => st = [.int .i64 ((j : Nat) : Int), .string (bs ([32, 40] ++ join (X.take j) [44, 32]))] ∧ Frm σ3 σ' NoB) ⟨rfl, Frm.refl _ _⟩ ?_ ?_
    · rintro j st σ4 hj ⟨rfl, hF4⟩
      have ej : wi64 ((j : Int) + 1) = ((j + 1 : Nat) : Int) := by rw [wi64_in (by omega)]; omega
      have hjX : j < X.length := by omega
      have hj0 := hjl j
      have hS4 := hF4.stN hS3
      simp only [T28b1, asCons_cons, asInt_int, asStr_str, asNil_nil]
      rw [wp_ldF hS4 rfl, asSlice_slice, wp_bif, if_pos (by simp; omega), wp_join, wp_join]
      -- the separator
      have pre : ∀ Q : Post, Q .normal [.string (bs ([32, 40] ++ (if j = 0 then [] else join (X.take j) [44, 32] ++ [44, 32])))] σ4 → Wp PROG ovD (bif (decide (((j : Nat) : Int) > 0)) then (grd (Nat.ble ((bs ([32, 40] ++ join (X.take j) [44, 32])).size + 2) 9223372036854775807) (.ret .normal [(.string ((bs ([32, 40] ++ join (X.take j) [44, 32])) ++ (bs [44, 32])))])) else (.ret .normal [(.string (bs ([32, 40] ++ join (X.take j) [44, 32])))])) σ4 Q := fun Q hQ => by
        rw [wp_bif]
        by_cases hj1 : j = 0
        · subst hj1
          rw [if_neg (by simp), wp_ret]
          exact hQ
        · rw [if_pos (by simp only [decide_eq_true_eq]; omega), wp_grd]
          refine ⟨by rw [Nat.ble_eq, bs_size, List.length_append]; simp only [List.length_cons, List.length_nil]; omega, ?_⟩
          rw [bs_app, wp_ret]
          rw [if_neg hj1] at hQ
          simpa using hQ
      refine pre _ ?_
      have hstep : ∀ s : List UInt8, X[j]? = some s → [32, 40] ++ (if j = 0 then [] else join (X.take j) [44, 32] ++ [44, 32]) ++ s = [32, 40] ++ join (X.take (j + 1)) [44, 32] := fun s hs => by
        rw [List.getElem?_eq_getElem hjX] at hs
        cases hs
        rw [List.take_succ_eq_append_getElem hjX]
        by_cases hj1 : j = 0
        · subst hj1
          rw [if_pos rfl, List.take_zero, List.nil_append, join_one]
          rfl
        · rw [if_neg hj1, join_snoc (by
            intro h
            rcases List.take_eq_nil_iff.1 h with h | h
            · exact hj1 h
            · rw [h] at hjX
              cases hjX)]
          simp
      have hplen : ([32, 40] ++ (if j = 0 then [] else join (X.take j) [44, 32] ++ [44, 32]) : List UInt8).length ≤ 4 * (9000000 + 2) + 4 := by
        rw [List.length_append]
        split
        · simp
        · rw [List.length_append]
          simp only [List.length_cons, List.length_nil]
          omega
      generalize hpre : ([32, 40] ++ (if j = 0 then [] else join (X.take j) [44, 32] ++ [44, 32]) : List UInt8) = pr at hstep hplen
      simp only [T28k3, sw_same, asCons_cons, asStr_str, asNil_nil]
      have tail : ∀ (s : List UInt8) (σ7 : AHeap), Frm σ4 σ7 NoB → X[j]? = some s → Wp PROG ovD (T28k2 .normal [.string (bs (pr ++ s))]) σ7 fun e vs σ' => Wp PROG ovD (T28k4 (j : Int) e vs) σ' fun e st' σ' => match e with
          | .normal => st' = [.int .i64 ((j + 1 : Nat) : Int), .string (bs ([32, 40] ++ join (X.take (j + 1)) [44, 32]))] ∧ Frm σ3 σ' NoB
          | e => Wp PROG ovD (T28k5 e st') σ' fun _ vs σ' => ∃ v', vs = [v'] ∧ v' = .string (bs ([32, 40] ++ join X [44, 32] ++ [41])) ∧ Frm σ σ' NoB := fun s σ7 hF7 hs => by
        simp only [T28k2, sw_same, asCons_cons, asStr_str, asNil_nil]
        rw [wp_ret]
        simp only [T28k4, sw_same, asCons_cons, asStr_str, asNil_nil]
        rw [wp_ret, ej, hstep s hs]
        exact ⟨rfl, hF4.seq hF7⟩
      have hgx := hxg j hj
      rw [wp_join, wp_bif]
      by_cases hjt : j < ts.length
      · rw [if_pos (by simp; omega), wp_ldF hS4 rfl, asSlice_slice]
        refine wp_rowOfK (hr.frm (hF3.seq hF4)) hj rfl fun x0 cs hC hld => ?_
        have hCi := hC
        have hfx := hfa _ (List.getElem_mem hj)
        have hix := hin.2 _ (List.getElem_mem hj)
        generalize v.args[j] = x at hC hCi hfx hix hgx
        obtain ⟨_, e', p', cap', rfl⟩ := hC.cells
        simp only [asAgg_agg, asCons_cons, asInt_int, asStr_str, asSlice_slice, asPtr_ptr, asNil_nil]
        refine wp_rowStr (hq.frm hF4) hjt rfl ?_
        rw [show ts[j]? = some ts[j] from List.getElem?_eq_getElem hjt] at hgx
        generalize ts[j] = s0 at hgx
        rw [wp_call]
        refine WpF.mono (wp_namedR s0 σ4) ?_
        rintro _ σ7 ⟨rfl, hF7⟩
        simp only [nmC, asAgg_agg, asCons_cons, asInt_int, asStr_str, asSlice_slice, asNil_nil]
        rw [wp_get, wp_grd]
        refine ⟨?_, ?_⟩
        · simp only [chks, chkAt, Int.toNat_natCast]
          rw [hld σ7 hF7, (hF7.stN hS4).ldF rfl]
          simp only [eqv_same]
          rfl
        rw [wp_call, show wi64 ((w : Int) + 1) = ((w + 1 : Nat) : Int) by rw [wi64_in (by omega)]; omega]
        refine WpF.mono (ih (w + 1) n 1 σ7 _ _ x (nmT s0) (by omega) (by omega) (by decide) (hCi.frm hF7) hfx (nmV s0 σ7 Y 1) (.inl (nmT_args s0)) (hR.frm ((hF3.seq hF4).seq hF7))) ?_
        rintro _ σ8 ⟨rfl, hF8⟩
        have hle := ren_leR (k := k) (n := n) (m := 1) hB hR (by omega) (by decide) hfx hix (.inl (nmT_args s0))
        rw [asStr_str, wp_grd]
        refine ⟨by rw [Nat.ble_eq, bs_size, bs_size]; omega, ?_⟩
        rw [bs_app, wp_ret]
        exact tail _ σ8 (hF7.seq hF8) hgx
      · rw [if_neg (by simp; omega), wp_grd]
        refine ⟨by rw [Nat.ble_eq, bs_size]; omega, ?_⟩
        rw [bs_app, wp_ret]
        rw [show ts[j]? = none from List.getElem?_eq_none_iff.2 (by omega)] at hgx
        exact tail _ σ4 (Frm.refl _ _) hgx
    · rintro st σ4 ⟨rfl, hF4⟩
      have hS4 := hF4.stN hS3
      have hj0 := hjl X.length
      rw [List.take_length] at hj0
      rw [← hxl, List.take_length]
      simp only [T28b1, asCons_cons, asInt_int, asStr_str, asNil_nil]
      rw [wp_ldF hS4 rfl, asSlice_slice, wp_bif, if_neg (by simp; omega), wp_ret]
      simp only [T28k5, sw_same, asCons_cons, asInt_int, asStr_str, asNil_nil]
      rw [wp_grd]
      refine ⟨by rw [Nat.ble_eq, bs_size, List.length_append]; simp only [List.length_cons, List.length_nil]; omega, ?_⟩
      rw [bs_app, wp_ret]
      exact ⟨_, rfl, rfl, hF3.seq hF4⟩
  -- the types
  rw [wi64_in (by omega)]
  refine Wp.count cons.length (fun j st σ' => ∃ q tc, st = [.int .i64 ((cons.length : Nat) - 1 - (j : Nat)), .slice q (consOf (cons.drop (cons.length - j)) v.a.name).length tc] ∧ σ1 = σ' ∧ StrRow σ' Y q (consOf (cons.drop (cons.length - j)) v.a.name))
    ⟨none, 0, by simp [consOf], rfl, by rw [Nat.sub_zero, List.drop_length]; exact RowOf.nil⟩ ?_ ?_
  · rintro j st σ2 hj ⟨q, tc, rfl, rfl, hq⟩
    obtain ⟨i, hi⟩ : ∃ i, cons.length = i + j + 1 := ⟨cons.length - j - 1, by omega⟩
    have ei : ((cons.length : Nat) : Int) - 1 - (j : Nat) = (i : Nat) := by omega
    have ei' : wi64 (((i : Nat) : Int) - 1) = ((cons.length : Nat) : Int) - 1 - ((j + 1 : Nat) : Int) := by rw [wi64_in (by omega)]; omega
    rw [ei]
    have hil : i < cons.length := by omega
    have ed : consOf (cons.drop (cons.length - (j + 1))) v.a.name = if cons[i].1.toList == v.a.name.toList then cons[i].2 else consOf (cons.drop (cons.length - j)) v.a.name := by
      rw [show cons.length - (j + 1) = i by omega, show cons.length - j = i + 1 by omega]
      exact consOf_drop hil
    simp only [T28b0, asCons_cons, asInt_int, asSlice_slice, asNil_nil]
    rw [wp_bif, if_pos (by simp), wp_join]
    have key : ∀ s (Q : Post), s = cons[i].1 → (∀ q tc, StrRow σ1 Y q (consOf (cons.drop (cons.length - (j + 1))) v.a.name) → Q .normal [.slice q (consOf (cons.drop (cons.length - (j + 1))) v.a.name).length tc] σ1) → Wp PROG ovD (bif (s.toList == v.a.name.toList) then (asSome pk fun a38 => grd ((decide (0 ≤ ((i : Nat) : Int))) && (decide (((i : Nat) : Int) < ((cons.length : Nat) : Int)))) (.act (ld1 (aadd (aadd a38 ((Int.toNat ((i : Nat) : Int)) * 2)) 1)) fun v39 => asSlice v39 fun p40 n41 n42 => .ret .normal [(.slice p40 n41 n42)])) else (.ret .normal [(.slice q (consOf (cons.drop (cons.length - j)) v.a.name).length tc)])) σ1 Q := by
      rintro s Q rfl hQ
      rw [wp_bif]
      rw [ed] at hQ
      by_cases he : (cons[i].1.toList == v.a.name.toList) = true
      · rw [if_pos he]
        rw [if_pos he] at hQ
        refine wp_rowOf1 (hR.frm hF).cons hil rfl (by decide) (fun cs u hcs hu => ?_) fun cs hcs => ?_
        · obtain ⟨q, tc, rfl, hq⟩ := hcs
          simp only [List.drop_succ_cons, List.drop_zero, List.take_succ_cons, List.take_zero, List.cons.injEq, and_true] at hu
          subst hu
          rw [asSlice_slice, wp_ret]
          exact hQ q tc hq
        · obtain ⟨q, tc, rfl, hq⟩ := hcs
          exact ⟨_, rfl⟩
      · rw [if_neg he]
        rw [if_neg he] at hQ
        rw [wp_ret]
        exact hQ q tc hq
    refine wp_rowOf1 (hR.frm hF).cons hil rfl (by decide) (fun cs u hcs hu => ?_) fun cs hcs => ?_
    · obtain ⟨q', tc', rfl, _⟩ := hcs
      simp only [List.drop_zero, List.take_succ_cons, List.take_zero, List.cons.injEq, and_true] at hu
      subst hu
      rw [asStr_str, wp_ldF hS rfl, asStr_str, wp_join]
      refine key _ _ rfl fun q2 tc2 hq2 => ?_
      simp only [T28k0, sw_same, asCons_cons, asSlice_slice, asNil_nil]
      rw [wp_ret]
      simp only [T28k1, sw_same, asCons_cons, asSlice_slice, asNil_nil]
      rw [wp_ret, ei']
      exact ⟨q2, tc2, rfl, rfl, hq2⟩
    · obtain ⟨q', tc', rfl, _⟩ := hcs
      exact ⟨_, rfl⟩
  · rintro st σ2 ⟨q, tc, rfl, rfl, hq⟩
    rw [Nat.sub_self, List.drop_zero] at hq ⊢
    simp only [T28b0, asCons_cons, asInt_int, asSlice_slice, asNil_nil]
    rw [wp_bif, if_neg (by simp; omega), wp_ret]
    simp only [T28k6, sw_same, asCons_cons, asInt_int, asSlice_slice, asNil_nil]
    exact body q σ1 hF hq hS
end
end Go.Pg
