/- Layer 9: digits, names of types, the constructor of a name: what the small functions answer. -/
import Derived.Test.YtlpebjohofhbgaaDoorValE
namespace Go.Pg
open Go.Proofs Go.Lib

/-- A part of what can be read can be read. -/
theorem oldN_sub {old : Addr → Option Value} {b : Nat} : ∀ (n o i k : Nat) (vs : List Value), oldN old b o n = some vs → i + k ≤ n → oldN old b (o + i) k = some ((vs.drop i).take k)
  | 0, o, i, k, vs, h, hk => by
    simp only [oldN, Option.some.injEq] at h
    subst h
    obtain rfl : i = 0 := by omega
    obtain rfl : k = 0 := by omega
    rfl
  | n + 1, o, i, k, vs, h, hk => by
    simp only [oldN] at h
    split at h
    · rename_i v hv
      split at h
      · rename_i r hr
        cases h
        cases i with
        | zero =>
          cases k with
          | zero => rfl
          | succ k =>
            have := oldN_sub n (o + 1) 0 k r hr (by omega)
            simp only [Nat.add_zero, List.drop_zero] at this
            simp only [Nat.add_zero, oldN, hv, this, List.drop_zero, List.take_succ_cons]
        | succ i =>
          have := oldN_sub n (o + 1) i k r hr (by omega)
          rw [show o + (i + 1) = o + 1 + i by omega, this]
          rfl
      · cases h
    · cases h
theorem rdN_sub {σ : AHeap} {a : Addr} {n o k : Nat} {vs : List Value} (h : σ.rdN a n = some vs) (hk : o + k ≤ n) : σ.rdN (aadd a o) k = some ((vs.drop o).take k) := by
  obtain ⟨b, off, s⟩ := a
  unfold AHeap.rdN at h ⊢
  cases s with
  | none => exact oldN_sub n off o k vs h hk
  | some s =>
    simp only [aadd] at h ⊢
    split at h
    · rename_i B hB
      split at h
      · rename_i hi hh
        obtain ⟨hc, e⟩ := bif_some' h
        cases e
        simp only [Bool.and_eq_true, Nat.ble_eq] at hc
        have : (Nat.ble B.dirty (s / 64) && Nat.ble (off + o + k) hi) = true := by simp; omega
        rw [this, cond_true, List.drop_take, List.take_take, List.drop_drop, Nat.min_eq_left (by omega)]
      · cases h
    · cases h

def StrRow (σ : AHeap) (Y : Nat → Prop) (p : Option Addr) (l : List ByteArray) : Prop := RowOf σ Y 1 (fun cs s => cs = [Value.string s]) p l
def ConsRow (σ : AHeap) (Y : Nat → Prop) (p : Option Addr) (l : ConsL) : Prop := RowOf σ Y 2 (fun cs (c : ByteArray × List ByteArray) => ∃ q cap, cs = [Value.string c.1, .slice q c.2.length cap] ∧ StrRow σ Y q c.2) p l

section
variable {σ σ' : AHeap} {Y : Nat → Prop}
theorem StrRow.frm (f : Frm σ σ' NoB) {p : Option Addr} {l : List ByteArray} (h : StrRow σ Y p l) : StrRow σ' Y p l := by
  unfold StrRow at h ⊢
  exact RowOf.step (S := NoB) f (fun _ _ h => h.elim) (fun _ _ h => h) (fun _ _ h => h) h
theorem ConsRow.frm (f : Frm σ σ' NoB) {p : Option Addr} {l : ConsL} (h : ConsRow σ Y p l) : ConsRow σ' Y p l := by
  unfold ConsRow at h ⊢
  exact RowOf.step (S := NoB) f (fun _ _ h => h.elim) (fun _ _ h => h) (fun _ _ ⟨q, cap, h1, h2⟩ => ⟨q, cap, h1, h2.frm f⟩) h

/-- One cell of an element of a row. -/
theorem wp_rowOf1 {P : Program} {ov : Ov} {β : Type} {c : Nat} {R : List Value → β → Prop} {p : Option Addr} {ts : List β} (h : RowOf σ Y c R p ts) {i n o : Nat} (hi : i < ts.length) (hn : n = ts.length) (ho : o + 1 ≤ c) {f : Value → Pg} {Q : Post}
    (k : ∀ cs v, R cs ts[i] → (cs.drop o).take 1 = [v] → Wp P ov (f v) σ Q) (hne : ∀ cs, R cs ts[i] → ∃ v, (cs.drop o).take 1 = [v]) :
    Wp P ov (asSome p fun a => grd (decide (0 ≤ ((i : Nat) : Int)) && decide (((i : Nat) : Int) < ((n : Nat) : Int))) (.act (ld1 (aadd (aadd a (Int.toNat ((i : Nat) : Int) * c)) o)) f)) σ Q := by
  subst hn
  obtain ⟨x, cs, rfl, h1, h2, h3⟩ := h i hi
  have e : (decide (0 ≤ ((i : Nat) : Int)) && decide (((i : Nat) : Int) < ((ts.length : Nat) : Int))) = true := by simp; omega
  obtain ⟨v, hv⟩ := hne cs h3
  have hr := rdN_sub h2 ho
  rw [hv] at hr
  simp only [asSome_some]
  rw [wp_grd, e, Int.toNat_natCast, wp_act]
  unfold ld1
  rw [hr]
  exact ⟨rfl, k cs v h3 hv⟩

theorem wp_rowStr {P : Program} {ov : Ov} {p : Option Addr} {ts : List ByteArray} (h : StrRow σ Y p ts) {i n : Nat} (hi : i < ts.length) (hn : n = ts.length) {f : ByteArray → Pg} {Q : Post} (k : Wp P ov (f ts[i]) σ Q) :
    Wp P ov (asSome p fun a => grd (decide (0 ≤ ((i : Nat) : Int)) && decide (((i : Nat) : Int) < ((n : Nat) : Int))) (.act (ld1 (aadd a (Int.toNat ((i : Nat) : Int) * 1))) fun v => asStr v f)) σ Q := by
  subst hn
  obtain ⟨x, cs, rfl, h1, h2, rfl⟩ := h i hi
  have e : (decide (0 ≤ ((i : Nat) : Int)) && decide (((i : Nat) : Int) < ((ts.length : Nat) : Int))) = true := by simp; omega
  simp only [asSome_some]
  rw [wp_grd, e, Int.toNat_natCast, wp_act]
  unfold ld1
  rw [h2]
  simp only [asStr_str]
  exact ⟨trivial, k⟩

theorem wp_byteStr {P : Program} {ov : Ov} {x : Int} {g : ByteArray → Pg} {Q : Post} (k : ∀ σ', Frm σ σ' NoB → Wp P ov (g (bs [UInt8.ofNat x.toNat])) σ' Q) :
    Wp P ov (.act (bdSl 1 1 [.int .u8 x]) fun v7 => asSlice v7 fun p8 n9 n10 => .act (bytesToStringAct (.slice p8 n9 n10)) fun v11 => asStr v11 g) σ Q := by
  rw [wp_act, bdSl_eq]
  simp only [asSlice_slice]
  have hF := Frm.new σ [.int .u8 x] 1 NoB
  have hN := Row.new σ 1 [.int .u8 x] 1 (by decide) rfl (by intro y hy; simp at hy; subst hy; rfl)
  have hr : (σ.newBlk [.int .u8 x] 1).rdN ⟨σ.n, 0, some 1⟩ 1 = some [.int .u8 x] := hN.rdN (i := 0) (k := 1) (by simp)
  rw [wp_act]
  unfold bytesToStringAct
  simp only [hr, bytesOfCells]
  exact k _ hF
end

theorem dec_len : ∀ (k u : Nat), u < 10 ^ (k + 1) → (decDigits u).length ≤ k + 1
  | k, u, h => by
    rw [decDigits]
    split
    · simp
    · rename_i h1
      cases k with
      | zero => simp at h; omega
      | succ k =>
        have := dec_len k (u / 10) (by rw [Nat.pow_succ] at h; omega)
        simp
        omega

theorem wp_digN : ∀ (m n : Nat), n ≤ m → n ≤ 9223372036854775807 → ∀ (σ : AHeap), Ret 27 [.int .i64 (n : Nat)] σ (.string (bs (decDigits n)))
  | m, n, hm, hn, σ => by
    refine WpF.of (T27_eq _) rfl ?_
    rw [T27, wp_bif, if_neg (by simp), wp_bif]
    by_cases h : n < 10
    · rw [if_pos (by simp; omega)]
      have e1 : wi64 (48 + (n : Int)) = 48 + (n : Int) := wi64_in (by omega)
      have e2 : wu8 (48 + (n : Int)) = 48 + (n : Int) := wu8_in (by omega)
      rw [e1, e2]
      refine wp_byteStr fun σ1 hF1 => ?_
      rw [wp_ret, decDigits, dif_pos h, show (48 + (n : Int)).toNat = 48 + n by omega]
      exact ⟨_, rfl, rfl, hF1⟩
    · rw [if_neg (by simp; omega)]
      have e1 : Int.tdiv (n : Int) 10 = ((n / 10 : Nat) : Int) := by rw [Int.tdiv_eq_ediv_of_nonneg (by omega)]; omega
      have e2 : wi64 ((n / 10 : Nat) : Int) = ((n / 10 : Nat) : Int) := wi64_in (by omega)
      have e3 : Int.tmod (n : Int) 10 = ((n % 10 : Nat) : Int) := by rw [Int.tmod_eq_emod_of_nonneg (by omega)]; omega
      rw [e1, e2, e3, wp_call]
      cases m with
      | zero => omega
      | succ m =>
        refine WpF.mono (wp_digN m (n / 10) (by omega) (by omega) σ) ?_
        rintro _ σ1 ⟨rfl, hF1⟩
        rw [asStr_str, wp_call]
        refine WpF.mono (wp_digN m (n % 10) (by omega) (by omega) σ1) ?_
        rintro _ σ2 ⟨rfl, hF2⟩
        have hl1 := dec_len 19 (n / 10) (by omega)
        have hl2 := dec_len 19 (n % 10) (by omega)
        rw [asStr_str, wp_grd]
        refine ⟨by rw [Nat.ble_eq, bs_size, bs_size]; omega, ?_⟩
        rw [bs_app, wp_ret]
        have e : decDigits n = decDigits (n / 10) ++ decDigits (n % 10) := by
          rw [decDigits, dif_neg h, show decDigits (n % 10) = [UInt8.ofNat (48 + n % 10)] by rw [decDigits, dif_pos (by omega)]]
        rw [e]
        exact ⟨_, rfl, rfl, hF1.seq hF2⟩

theorem wp_dig {n : Int} (hn : i64r n) (σ : AHeap) : Ret 27 [.int .i64 n] σ (.string (bs (itoa n))) := by
  unfold i64r at hn
  by_cases h0 : n < 0
  · obtain ⟨u, rfl, hu⟩ : ∃ u : Nat, n = -(u : Int) ∧ 1 ≤ u := ⟨n.natAbs, by omega, by omega⟩
    rw [itoa_neg u hu]
    refine WpF.of (T27_eq _) rfl ?_
    have ew : wu64 (wi64 (0 - -(u : Int))) = (u : Int) := by rw [wi64_eq, wu64_eq]; omega
    rw [T27, wp_bif, if_pos (by simp; omega), ew, wp_bif]
    by_cases h10 : u < 10
    · rw [if_neg (by simp; omega), wi64_in (by omega), wp_call]
      refine WpF.mono (wp_digN u u (Nat.le_refl _) (by omega) σ) ?_
      rintro _ σ1 ⟨rfl, hF1⟩
      have hl1 := dec_len 19 u (by omega)
      rw [asStr_str, wp_grd]
      refine ⟨by rw [Nat.ble_eq, bs_size]; omega, ?_⟩
      rw [bs_app, wp_ret]
      exact ⟨_, rfl, rfl, hF1⟩
    · rw [if_pos (by simp; omega)]
      have e1 : Int.tdiv (u : Int) 10 = ((u / 10 : Nat) : Int) := by rw [Int.tdiv_eq_ediv_of_nonneg (by omega)]; omega
      have e2 : wi64 (wu64 ((u / 10 : Nat) : Int)) = ((u / 10 : Nat) : Int) := by rw [wu64_in (by omega), wi64_in (by omega)]
      have e3 : wi64 (Int.tmod (u : Int) 10) = ((u % 10 : Nat) : Int) := by rw [Int.tmod_eq_emod_of_nonneg (by omega), wi64_in (by omega)]; omega
      rw [e1, e2, e3, wp_call]
      refine WpF.mono (wp_digN (u / 10) (u / 10) (Nat.le_refl _) (by omega) σ) ?_
      rintro _ σ1 ⟨rfl, hF1⟩
      have hl1 := dec_len 19 (u / 10) (by omega)
      have hl2 := dec_len 19 (u % 10) (by omega)
      rw [asStr_str, wp_grd]
      refine ⟨by rw [Nat.ble_eq, bs_size]; omega, ?_⟩
      rw [wp_call]
      refine WpF.mono (wp_digN (u % 10) (u % 10) (Nat.le_refl _) (by omega) σ1) ?_
      rintro _ σ2 ⟨rfl, hF2⟩
      rw [asStr_str, wp_grd, bs_app]
      refine ⟨by rw [Nat.ble_eq, bs_size, bs_size]; simp; omega, ?_⟩
      rw [bs_app, wp_ret]
      have e : decDigits u = decDigits (u / 10) ++ decDigits (u % 10) := by
        rw [decDigits, dif_neg h10, show decDigits (u % 10) = [UInt8.ofNat (48 + u % 10)] by rw [decDigits, dif_pos (by omega)]]
      rw [e]
      exact ⟨_, rfl, rfl, hF1.seq hF2⟩
  · obtain ⟨u, rfl⟩ : ∃ u : Nat, n = (u : Int) := ⟨n.toNat, by omega⟩
    rw [itoa_nonneg]
    exact wp_digN u u (Nat.le_refl _) (by omega) σ

theorem ev_fits (k : Int) (σ : AHeap) : EvF PROG ovD 22 [.int .i64 k] σ (.int .i64 (fitsM k)) σ := by
  refine EvF.of (T22_eq _) rfl ?_
  rw [T22, wp_join]
  unfold fitsM
  iterate 6
    rw [wp_bif]
    split
    · rename_i h
      have := eq_of_beq h
      rw [wp_ret]
      simp only [T22k0, sw_same, asCons_cons, asInt_int, asNil_nil]
      rw [wp_ret]
      subst this
      exact ⟨rfl, rfl⟩
    rename_i h
    rw [if_neg (fun e => h (by rw [e]; rfl))]
  rw [wp_ret]
  simp only [T22k0, sw_nr, sw_same, asCons_cons, asInt_int, asNil_nil]
  rw [wp_ret]
  exact ⟨rfl, rfl⟩

theorem ev_fbool (b : Bool) (σ : AHeap) : EvF PROG ovD 24 [.bool b] σ (.string (bs (if b = true then [116, 114, 117, 101] else [102, 97, 108, 115, 101]))) σ := by
  refine EvF.of (T24_eq _) rfl ?_
  rw [T24, wp_call]
  refine WpF.of (T30_eq _) rfl ?_
  rw [T30, wp_bif]
  cases b with
  | true =>
    rw [if_pos rfl, wp_ret]
    refine ⟨_, rfl, ?_⟩
    rw [asStr_str, wp_ret]
    exact ⟨rfl, rfl⟩
  | false =>
    rw [if_neg (by simp), wp_ret]
    refine ⟨_, rfl, ?_⟩
    rw [asStr_str, wp_ret]
    exact ⟨rfl, rfl⟩

abbrev nmC (s : ByteArray) : List Value := L4.cells (nmT s).a none (.slice none 0 0)
theorem nmV (s : ByteArray) (σ : AHeap) (Y : Nat → Prop) (n : Nat) : VIn L4 σ Y n (nmC s) (nmT s) := by
  have ha := nmT_args s
  cases n with
  | zero => exact ⟨trivial, none, none, 0, by rw [ha]; rfl⟩
  | succ n => exact ⟨trivial, none, none, 0, by rw [ha]; rfl, by rw [ha]; exact RowOf.nil⟩
theorem nmFit (s : ByteArray) (h : s.size ≤ 60) : fitT 1 (nmT s) := by
  refine ⟨by rw [nmT_args]; decide, ?_, fun x hx => by rw [nmT_args] at hx; cases hx⟩
  unfold nmT
  split
  · decide
  split
  · decide
  split
  · decide
  exact h

theorem wp_of (k : Int) (σ : AHeap) : Ret 40 [.int .i64 k, .slice none 0 0] σ (.agg #[.int .i64 k, .string (bs []), .int .i64 0, .slice none 0 0]) := by
  refine WpF.of (T40_eq _ _ _ _) rfl ?_
  rw [T40]
  refine wp_newQ fun σ1 hF1 hn1 hS1 => ?_
  refine wp_stQ hS1 rfl rfl fun σ2 hF2 hn2 hS2 => ?_
  rw [wp_ldAll hS2 4 rfl, wp_ret]
  exact ⟨_, rfl, rfl, hF1.fresh hF2 fun j hj h => by omega⟩

theorem wp_named (s : ByteArray) (σ : AHeap) : Ret 33 [.string s] σ (.agg (nmC s).toArray) := by
  refine WpF.of (T33_eq _) rfl ?_
  rw [T33]
  refine wp_newQ fun σ1 hF1 hn1 hS1 => ?_
  rw [wp_join]
  have fin : ∀ (k : Int) (Q : Post), (∀ σ', Frm σ σ' NoB → Q .ret [.agg #[.int .i64 k, .string (bs []), .int .i64 0, .slice none 0 0]] σ') → Wp PROG ovD (.call 40 [(.int .i64 k), (.slice none 0 0)] fun v4 => asAgg v4 fun l5 => asCons l5 fun v6 l7 => asInt .i64 v6 fun i8 => asCons l7 fun v9 l10 => asStr v9 fun s11 => asCons l10 fun v12 l13 => asInt .i64 v12 fun i14 => asCons l13 fun v15 l16 => asSlice v15 fun p17 n18 n19 => asNil l16 (.act (stC ⟨σ.n, 0, some 0⟩ [(.int .i64 i8), (.string s11), (.int .i64 i14), (.slice p17 n18 n19)]) fun v20 => asTuple v20 fun l21 => asNil l21 (.ret .ret []))) σ1 fun e vs σ' => Wp PROG ovD (T33k0 ⟨σ.n, 0, some 0⟩ s e vs) σ' Q := fun k Q hQ => by
    rw [wp_call]
    refine WpF.mono (wp_of k σ1) ?_
    rintro _ σ2 ⟨rfl, hF2⟩
    simp only [asAgg_agg, asCons_cons, asInt_int, asStr_str, asSlice_slice, asNil_nil]
    refine wp_stQ (hF2.stN hS1) rfl rfl fun σ3 hF3 hn3 hS3 => ?_
    rw [wp_ret]
    simp only [T33k0, sw_same, asNil_nil]
    rw [wp_ldAll hS3 4 rfl, wp_ret]
    exact hQ σ3 ((hF1.seq hF2).fresh hF3 fun j hj h => by omega)
  unfold nmC nmT
  rw [wp_bif]
  split
  · exact fin 1 _ fun σ' hF => ⟨_, rfl, rfl, hF⟩
  rw [wp_bif]
  split
  · exact fin 2 _ fun σ' hF => ⟨_, rfl, rfl, hF⟩
  rw [wp_bif]
  split
  · exact fin 3 _ fun σ' hF => ⟨_, rfl, rfl, hF⟩
  rw [wp_ret]
  simp only [T33k0, sw_nr, sw_same, asNil_nil]
  refine wp_stQ hS1 rfl rfl fun σ3 hF3 hn3 hS3 => ?_
  rw [wp_ldAll hS3 4 rfl, wp_ret]
  exact ⟨_, rfl, rfl, hF1.fresh hF3 fun j hj h => by omega⟩

theorem wp_namedR (s : ByteArray) (σ : AHeap) : Ret 35 [.string s] σ (.agg (nmC s).toArray) := by
  refine WpF.of (T35_eq _) rfl ?_
  rw [T35]
  refine wp_newQ fun σ1 hF1 hn1 hS1 => ?_
  rw [wp_join]
  have fin : ∀ (k : Int) (Q : Post), (∀ σ', Frm σ σ' NoB → Q .ret [.agg #[.int .i64 k, .string (bs []), .int .i64 0, .slice none 0 0]] σ') → Wp PROG ovD (.act (stC ⟨σ.n, 0, some 0⟩ [(.int .i64 k), (.string (bs [])), (.int .i64 0), (.slice none 0 0)]) fun v20 => asTuple v20 fun l21 => asNil l21 (.ret .ret [])) σ1 fun e vs σ' => Wp PROG ovD (T35k0 ⟨σ.n, 0, some 0⟩ s e vs) σ' Q := fun k Q hQ => by
    refine wp_stQ hS1 rfl rfl fun σ3 hF3 hn3 hS3 => ?_
    rw [wp_ret]
    simp only [T35k0, sw_same, asNil_nil]
    rw [wp_ldAll hS3 4 rfl, wp_ret]
    exact hQ σ3 (hF1.fresh hF3 fun j hj h => by omega)
  unfold nmC nmT
  rw [wp_bif]
  split
  · exact fin 1 _ fun σ' hF => ⟨_, rfl, rfl, hF⟩
  rw [wp_bif]
  split
  · exact fin 2 _ fun σ' hF => ⟨_, rfl, rfl, hF⟩
  rw [wp_bif]
  split
  · exact fin 3 _ fun σ' hF => ⟨_, rfl, rfl, hF⟩
  rw [wp_ret]
  simp only [T35k0, sw_nr, sw_same, asNil_nil]
  refine wp_stQ hS1 rfl rfl fun σ3 hF3 hn3 hS3 => ?_
  rw [wp_ldAll hS3 4 rfl, wp_ret]
  exact ⟨_, rfl, rfl, hF1.fresh hF3 fun j hj h => by omega⟩
end Go.Pg
