/- Layer 24: the program's functions, each by what it computes: words between blanks, names, numbers, kinds. -/
import Derived.Test.YtocbeccmmfdnfaaDoorCmdP
import Derived.Test.YtocbeccmmfdnfaaDoorRowE
namespace Go.Pg
open Go.Proofs Go.Utf8 Go.Lib

theorem tl_loop (s : ByteArray) : ∀ (d i : Nat) (r : List UInt8), s.size - i = d → ByteArray.toList.loop s i r = r.reverse ++ s.data.toList.drop i
  | 0, i, r, h => by
    unfold ByteArray.toList.loop
    rw [if_neg (by omega), List.drop_of_length_le (by have : s.data.toList.length = s.size := rfl
                                                      omega), List.append_nil]
  | d + 1, i, r, h => by
    have hl : i < s.data.toList.length := by
      have : s.data.toList.length = s.size := rfl
      omega
    unfold ByteArray.toList.loop
    rw [if_pos (by omega), tl_loop s d (i + 1) _ (by omega), List.drop_eq_getElem_cons hl, List.reverse_cons, List.append_assoc]
    have e : s.get! i = s.data.toList[i] := by
      cases s with
      | mk a => simp only [ByteArray.get!]; rw [getElem!_pos a i (by simpa using hl)]; rfl
    rw [e]
    rfl
theorem tl_data (s : ByteArray) : s.toList = s.data.toList := by
  unfold ByteArray.toList
  rw [tl_loop s _ 0 [] rfl]
  rfl
theorem tl_mkB (l : List UInt8) : (mkB l).toList = l := tl_data _
theorem tl_bs (l : List UInt8) : (bs l).toList = l := tl_data _
theorem ext_mkB (s : ByteArray) (a b : Nat) : s.extract a b = mkB ((s.data.toList.take b).drop a) := by
  have h : (s.extract a b).data.toList = (s.data.toList.take b).drop a := by
    rw [ByteArray.data_extract, Array.toList_extract]
    simp [List.extract, List.drop_take]
  rw [← h]
  rfl
theorem ext_to (L : List UInt8) (a : Nat) : (mkB L).extract a (mkB L).size = mkB (L.drop a) := by rw [ext_mkB, mkB_data, mkB_size, List.take_length]
theorem ext_0 (L : List UInt8) (b : Nat) : (mkB L).extract 0 b = mkB (L.take b) := by rw [ext_mkB, mkB_data, List.drop_zero]
theorem app_mkB (a b : List UInt8) : mkB a ++ mkB b = mkB (a ++ b) := by
  have h : (mkB a ++ mkB b).data.toList = a ++ b := by simp [mkB]
  rw [← mkB_self (mkB a ++ mkB b), h]

theorem Frm.putNew {σ σ' : AHeap} {b : Nat} (h : Frm σ σ' NoB) (hb : σ.n ≤ b) (hb2 : b < σ'.n) (o : AObj) : Frm σ (σ'.put b o) NoB :=
  h.fresh (Frm.put σ' b o hb2) fun j hj e => by omega
theorem Frm.rng (σ : AHeap) (s : ByteArray) : Frm σ (σ.push (.iter s 0)) NoB :=
  ⟨by rw [AHeap.push_n]; omega, rfl, fun j hj _ => get_push_lt σ _ hj, fun f j hj => by
    rw [AHeap.push_n] at hj
    rw [AHeap.get_push, if_neg (by omega)]
    exact f j (by omega)⟩

theorem EvF.ov {P : Program} {ov : Ov} {f : FuncId} {g : List Value → Act} {args : List Value} {σ σ' : AHeap} {v : Value} (h : ov f = some g) (hg : g args σ = some (v, σ')) : EvF P ov f args σ v σ' :=
  ⟨1, fun n hn => by
    cases n with
    | zero => omega
    | succ n =>
      unfold execFn
      rw [h]
      exact hg⟩


def rOK (r : Int) : Prop := -2147483648 ≤ r ∧ r ≤ 2147483647
theorem ev_letter {r : Int} (h : rOK r) (σ : AHeap) : EvF PROG ovD 38 [.int .i32 r] σ (.bool (isLetterU r)) σ :=
  EvF.ov (g := ovPure letterG) rfl (by unfold ovPure letterG; simp [h.1, h.2])
theorem ev_upper {r : Int} (h : rOK r) (σ : AHeap) : EvF PROG ovD 31 [.int .i32 r] σ (.bool (isUpperU r)) σ :=
  EvF.ov (g := ovPure upperG) rfl (by unfold ovPure upperG; simp [h.1, h.2])
theorem ev_class {r : Int} (h : rOK r) (σ : AHeap) : EvF PROG ovD 27 [.int .i32 r] σ (.int .i64 (clsF r)) σ := by
  refine EvF.of (T27_eq _) rfl ?_
  rw [T27, wp_join, wp_join, wp_bif]
  by_cases h1 : r = 95 ∨ r = 39
  · have h1' : ((r == 95) || (r == 39)) = true := by simpa using h1
    have hc : clsF r = 1 := cls_1 (by rcases h1 with h1 | h1 <;> simp [h1])
    rw [if_neg (by rw [h1']; simp), hc]
    simp [wp_ret, T27k0, T27k17, sw_same, asCons_cons, asBool_bool, asInt_int, asNil_nil]
  · have h1' : ((r == 95) || (r == 39)) = false := by simpa using h1
    rw [if_pos (by rw [h1']; rfl), wp_call, WpF.eq (ev_letter h σ)]
    simp only [asBool_bool, wp_ret, T27k0, sw_same, asCons_cons, asNil_nil, wp_bif]
    by_cases h2 : isLetterU r = true
    · rw [if_pos h2, cls_1 (.inr (.inr h2))]
      simp [wp_ret, T27k17, sw_same, asCons_cons, asInt_int, asNil_nil]
    · have n1 : ¬ (r = 95 ∨ r = 39 ∨ isLetterU r = true) := fun h => h.elim (fun h => h1 (.inl h)) fun h => h.elim (fun h => h1 (.inr h)) h2
      rw [if_neg h2]
      by_cases h3 : 48 ≤ r ∧ r ≤ 57
      · rw [if_pos (by simpa using h3), cls_2 n1 h3]
        simp [wp_ret, T27k17, sw_same, asCons_cons, asInt_int, asNil_nil]
      · rw [if_neg (by simpa using h3)]
        simp only [T27k17, sw_same, sw_nr, asCons_cons, asInt_int, asNil_nil]
        by_cases b1 : r = 32
        · rw [cls_3 n1 h3 (by simp [b1])]; subst b1; simp [wp_ret, wp_join, T27k15, T27k16, sw_same, asCons_cons, asInt_int, asBool_bool, asNil_nil]
        by_cases b2 : r = 9
        · rw [cls_3 n1 h3 (by simp [b2])]; subst b2; simp [wp_ret, wp_join, T27k15, T27k16, T27k2, sw_same, asCons_cons, asInt_int, asBool_bool, asNil_nil]
        by_cases b3 : r = 10
        · rw [cls_3 n1 h3 (by simp [b3])]; subst b3; simp [wp_ret, wp_join, T27k15, T27k16, T27k1, T27k2, sw_same, asCons_cons, asInt_int, asBool_bool, asNil_nil]
        by_cases b4 : r = 13
        · rw [cls_3 n1 h3 (by simp [b4])]; subst b4; simp [wp_ret, wp_join, T27k15, T27k16, T27k1, T27k2, sw_same, asCons_cons, asInt_int, asBool_bool, asNil_nil]
        have n3 : ¬ (r = 32 ∨ r = 9 ∨ r = 10 ∨ r = 13) := by simp only [b1, b2, b3, b4, or_self, not_false_eq_true]
        by_cases hm : r ∈ marks
        · rw [cls_4 n1 h3 n3 hm]
          unfold marks at hm
          simp only [List.mem_cons, List.mem_nil_iff, or_false] at hm
          rcases hm with rfl | rfl | rfl | rfl | rfl | rfl | rfl | rfl | rfl | rfl | rfl | rfl | rfl <;>
            simp [wp_ret, wp_join, T27k15, T27k16, T27k1, T27k2, T27k3, T27k4, T27k5, T27k6, T27k7, T27k8, T27k9, T27k10, T27k11, T27k12, T27k13, T27k14, sw_same, asCons_cons, asInt_int, asBool_bool, asNil_nil]
        · rw [cls_0 n1 h3 n3 hm]
          unfold marks at hm
          simp only [List.mem_cons, List.mem_nil_iff, or_false, not_or] at hm
          obtain ⟨m1, m2, m3, m4, m5, m6, m7, m8, m9, m10, m11, m12, m13⟩ := hm
          have q : ∀ k : Int, ¬ r = k → (r == k) = false := fun k hk => by simpa using hk
          simp [wp_ret, wp_join, wp_bif, T27k15, T27k16, T27k1, T27k2, T27k3, T27k4, T27k5, T27k6, T27k7, T27k8, T27k9, T27k10, T27k11, T27k12, T27k13, T27k14, sw_same, sw_nr, asCons_cons, asInt_int, asBool_bool, asNil_nil, b1, b2, b3, b4, m1, m2, m3, m4, m5, m6, m7, m8, m9, m10, m11, m12, m13]


theorem dec_i32 (s : ByteArray) (p : Nat) : rOK ((Utf8.decode s p).1 : Nat) := by
  rw [decode_dec]
  have hb : ∀ i, byteN s i < 256 := fun i => by unfold byteN; exact UInt8.toNat_lt _
  unfold dec rOK
  simp only
  have g0 := hb p; have g1 := hb (p + 1); have g2 := hb (p + 2); have g3 := hb (p + 3)
  repeat' split
  all_goals simp only [runeError]
  all_goals omega


theorem decL_i32 (L : List UInt8) : rOK ((decL L).1 : Nat) := by
  have e := decL_eq L 0 (by omega)
  rw [List.drop_zero] at e
  rw [← e]
  exact dec_i32 _ _

section
variable {σ : AHeap}

/-! ### closures, runs -/
def Cls (g : FuncId) (may : Nat → Bool) : Prop := ∀ (r : Nat) (σ : AHeap), rOK (r : Nat) → EvF PROG ovD g [.int .i32 (r : Nat)] σ (.bool (may r)) σ
theorem cls_blk : Cls 26 blk := by
  intro r σ h
  refine EvF.of (T26_eq _) rfl ?_
  rw [T26, wp_call, WpF.eq (ev_class h σ), asInt_int, wp_ret]
  exact ⟨rfl, rfl⟩

theorem wp_upperL {L : List UInt8} (hL : L ≠ []) {Q : Value → AHeap → Prop} (hQ : ∀ σ', Frm σ σ' NoB → Q (.bool (isUpperU ((decL L).1 : Nat))) σ') : WpF PROG ovD 36 [.string (mkB L)] σ Q := by
  have hl := List.length_pos_iff.2 hL
  refine WpF.of (T36_eq _) rfl ?_
  rw [T36, wp_act, rng_eq]
  simp only [asPtr_ptr, asSome_some]
  refine Wp.count 0 (fun _ st σ' => σ' = σ.push (.iter (mkB L) 0) ∧ st = [.bool false]) ⟨rfl, rfl⟩ (fun j _ _ hj _ => by omega) ?_
  rintro st σ' ⟨rfl, rfl⟩
  simp only [T36b0, asCons_cons, asBool_bool, asNil_nil]
  have e := decL_eq L 0 (by omega)
  rw [List.drop_zero] at e
  rw [wp_nxt_more (get_push_same _ _) (by rw [mkB_size]; exact hl), e, wp_join, wp_call, WpF.eq (ev_upper (decL_i32 L) _)]
  simp only [asBool_bool, wp_ret, T36k0, T36k1, sw_same, sw_re, asCons_cons, asNil_nil]
  exact ⟨_, rfl, hQ _ ((Frm.rng σ _).putNew (Nat.le_refl _) (by rw [AHeap.push_n]; omega) _)⟩


theorem xorI_neg {x : Int} (h0 : 0 ≤ x) (h1 : x ≤ 1000000) : xorI .i64 (-1) x = -1 - x := by
  obtain ⟨n, rfl⟩ : ∃ n : Nat, x = (n : Int) := ⟨x.toNat, by omega⟩
  have e1 : BitVec.ofInt 64 (-1) = BitVec.allOnes 64 := by decide
  have e2 : (BitVec.ofInt 64 (n : Int)).toNat = n := by
    rw [BitVec.ofInt_natCast, BitVec.toNat_ofNat]
    omega
  have e3 : (BitVec.allOnes 64 ^^^ BitVec.ofInt 64 (n : Int)).toNat = 2 ^ 64 - 1 - n := by
    rw [BitVec.allOnes_xor, BitVec.toNat_not, e2]
  unfold xorI
  show wi64 ((BitVec.ofInt 64 (-1) ^^^ BitVec.ofInt 64 (n : Int)).toNat : Nat) = _
  rw [e1, e3, wi64_eq]
  omega

/-! ### FieldsFunc -/
def spc (x : Nat × Nat) : List Value := [.int .i64 ((x.1 : Nat) : Int), .int .i64 ((x.2 : Nat) : Int)]
def spcs (l : List (Nat × Nat)) : List Value := l.flatMap spc
theorem spcs_len (l : List (Nat × Nat)) : (spcs l).length = l.length * 2 := by
  induction l with
  | nil => rfl
  | cons w r ih =>
    unfold spcs at ih ⊢
    simp only [List.flatMap_cons, List.length_append, List.length_cons, ih]
    simp [spc]
    omega
theorem spcs_snoc (l : List (Nat × Nat)) (w : Nat × Nat) : spcs (l ++ [w]) = spcs l ++ spc w := by simp [spcs]
theorem spcs_at (l : List (Nat × Nat)) (j : Nat) (h : j < l.length) : ((spcs l).drop (j * 2)).take 2 = spc l[j] := by
  induction l generalizing j with
  | nil => simp at h
  | cons w r ih =>
    cases j with
    | zero => rfl
    | succ j =>
      have := ih j (by simpa using h)
      rw [List.getElem_cons_succ, ← this]
      show ((spc w ++ spcs r).drop _).take 2 = _
      rw [show (j + 1) * 2 = (spc w).length + j * 2 by simp [spc]; omega, ← List.drop_drop, List.drop_left]
def cut2 (L : List UInt8) (x : Nat × Nat) : List UInt8 := (L.take x.2).drop x.1
def strs (ws : List (List UInt8)) : List Value := ws.map fun w => .string (mkB w)
theorem strs_get (ws : List (List UInt8)) (j : Nat) (h : j < ws.length) : (strs ws)[j]? = some (.string (mkB ws[j])) := by simp [strs, h]

theorem wp_flds (L : List UInt8) (hl : L.length ≤ 1000) {Q : Value → AHeap → Prop}
    (hQ : ∀ σ' b, Frm σ σ' NoB → σ.n ≤ b → Row σ' b 0 1 (flds L).length 1 (strs (flds L)) → Q (.slice (some ⟨b, 0, some 1⟩) (flds L).length (flds L).length) σ') :
    WpF PROG ovD 25 [.string (mkB L), .func (.func 26) #[] #[]] σ Q := by
  refine WpF.of (T25_eq _ _) rfl ?_
  have hsz := mkB_size L
  have hmk : mkSl 2 16 [.int .i64 0, .int .i64 0] 0 32 σ = some (.slice (some ⟨σ.n, 0, some 2⟩) 0 32, σ.newBlk (rep [.int .i64 0, .int .i64 0] 32) 2) := rfl
  rw [T25, wp_act, hmk]
  simp only [asSlice_slice]
  have hF1 : Frm σ (σ.newBlk (rep [.int .i64 0, .int .i64 0] 32) 2) NoB := Frm.new _ _ _ _
  have hR1 := (Row.new σ 2 (rep [.int .i64 0, .int .i64 0] 32) 32 (by decide) rfl (by decide)).take 0
  rw [List.take_zero] at hR1
  have hn1 : (σ.newBlk (rep [.int .i64 0, .int .i64 0] 32) 2).n = σ.n + 1 := newBlk_n _ _ _
  generalize σ.newBlk (rep [.int .i64 0, .int .i64 0] 32) 2 = σ1 at hF1 hR1 hn1
  rw [wp_act, rng_eq]
  simp only [asPtr_ptr, asSome_some]
  have hF2 := Frm.rng σ1 (mkB L)
  have hR2 := hF2.rowN hR1
  refine Wp.loop (fun m st σ' => ∃ (p : Nat) (start : Int) (sp : List (Nat × Nat)) (b off s c : Nat), m = L.length - p ∧ p ≤ L.length ∧ Frm σ σ' NoB ∧ σ1.n < σ'.n ∧ σ'.get σ1.n = some (.iter (mkB L) p) ∧ Row σ' b off s c 2 (spcs sp) ∧ σ.n ≤ b ∧ b ≠ σ1.n ∧
      st = [.int .i64 start, .slice (some ⟨b, off, some s⟩) sp.length c] ∧ start ≤ p ∧ sp.length ≤ p ∧ (∀ x ∈ sp, x.1 ≤ x.2 ∧ x.2 ≤ L.length) ∧ ((start < 0 ∧ flds L = sp.map (cut2 L) ++ fld (L.drop p) []) ∨ (0 ≤ start ∧ start < p ∧ flds L = sp.map (cut2 L) ++ fld (L.drop p) ((L.take p).drop start.toNat)))) L.length
    ⟨0, -1, [], σ.n, 0, 2, 32, rfl, by omega, hF1.seq hF2, by rw [AHeap.push_n]; omega, get_push_same _ _, hR2, Nat.le_refl _, by omega, rfl, by omega, by simp, by simp, .inl ⟨by omega, by simp [flds]⟩⟩ ?_
  rintro m st σ2 ⟨p, start, sp, b, off, s, c, rfl, hp, hF, hn, hg, hR, hb, hbi, rfl, hst, hspl, hsp, hfl⟩
  simp only [T25b0, asCons_cons, asInt_int, asSlice_slice, asNil_nil]
  by_cases h1 : p < L.length
  · have hne : L.drop p ≠ [] := by simp; omega
    have hw := decL_width hne
    rw [List.length_drop] at hw
    rw [wp_nxt_more hg (by rw [mkB_size]; exact h1), decL_eq L p hp, wp_join, asFunc, wp_call]
    simp only [List.nil_append, List.append_nil]
    have hFi : Frm σ2 (σ2.put σ1.n (.iter (mkB L) (p + (decL (L.drop p)).2))) (· = σ1.n) := Frm.put _ _ _ hn
    have hF3 := hF.putNew (by omega) hn (.iter (mkB L) (p + (decL (L.drop p)).2))
    have hR3 := hFi.row hR hbi
    have hg3 := get_put_same σ2 σ1.n (.iter (mkB L) (p + (decL (L.drop p)).2))
    have hn3 : σ1.n < (σ2.put σ1.n (.iter (mkB L) (p + (decL (L.drop p)).2))).n := hn
    generalize σ2.put σ1.n (.iter (mkB L) (p + (decL (L.drop p)).2)) = σ3 at hFi hF3 hR3 hg3 hn3 ⊢
    rw [WpF.eq (cls_blk _ _ (decL_i32 _)), asBool_bool, wp_join, wp_bif]
    have hdd : (L.drop p).drop (decL (L.drop p)).2 = L.drop (p + (decL (L.drop p)).2) := List.drop_drop
    by_cases hm : blk (decL (L.drop p)).1 = true
    · rw [if_pos hm, wp_join, wp_bif]
      rcases hfl with ⟨h0, hfl⟩ | ⟨h0, h0', hfl⟩
      · rw [if_neg (by simp; omega), wp_ret]
        simp only [T25k0, T25k2, T25k3, sw_same, asCons_cons, asInt_int, asSlice_slice, asNil_nil]
        rw [wp_ret]
        simp only [sw_same, asCons_cons, asInt_int, asSlice_slice, asNil_nil]
        rw [wp_ret]
        simp only [sw_same, asCons_cons, asInt_int, asSlice_slice, asNil_nil]
        rw [wp_ret]
        refine ⟨L.length - (p + (decL (L.drop p)).2), by omega, p + (decL (L.drop p)).2, start, sp, b, off, s, c, rfl, by omega, hF3, hn3, hg3, hR3, hb, hbi, rfl, by omega, by omega, hsp, .inl ⟨h0, ?_⟩⟩
        rw [hfl, fld_step hne, if_pos hm, if_pos rfl, hdd]
        rfl
      · obtain ⟨a, rfl⟩ : ∃ a : Nat, start = (a : Int) := ⟨start.toNat, by omega⟩
        rw [Int.toNat_natCast] at hfl
        rw [if_pos (by simp)]
        refine wp_appE (ys := spc (a, p)) (.inr ⟨off, s, rfl, hR3⟩) (spcs_len sp) (by decide) (by decide) rfl (by intro y hy; simp [spc] at hy; rcases hy with rfl | rfl <;> rfl) (by omega) (by omega) fun σ4 b4 off4 s4 c4 hF4 hb4 hR4 => ?_
        rw [← spcs_snoc] at hR4
        have hg4 : σ4.get σ1.n = some (.iter (mkB L) (p + (decL (L.drop p)).2)) := by rw [hF4.get _ hn3 (fun h => hbi h.2.symm), hg3]
        have hb4' : σ.n ≤ b4 ∧ b4 ≠ σ1.n := by
          rcases hb4 with ⟨_, rfl⟩ | hb4
          · exact ⟨hb, hbi⟩
          · have := hF3.n
            omega
        rw [wp_ret, xorI_neg (by omega) (by omega)]
        simp only [T25k0, T25k2, T25k3, sw_same, asCons_cons, asInt_int, asSlice_slice, asNil_nil]
        rw [wp_ret]
        simp only [sw_same, asCons_cons, asInt_int, asSlice_slice, asNil_nil]
        rw [wp_ret]
        simp only [sw_same, asCons_cons, asInt_int, asSlice_slice, asNil_nil]
        rw [wp_ret]
        refine ⟨L.length - (p + (decL (L.drop p)).2), by omega, p + (decL (L.drop p)).2, -1 - (a : Int), sp ++ [(a, p)], b4, off4, s4, c4, rfl, by omega, hF3.fresh hF4 (fun j hj e => by omega), Nat.lt_of_lt_of_le hn3 hF4.n, hg4, hR4, hb4'.1, hb4'.2, by simp, by omega, by simp; omega, ?_, .inl ⟨by omega, ?_⟩⟩
        · intro x hx
          rcases List.mem_append.1 hx with hx | hx
          · exact hsp x hx
          · simp at hx; subst hx; simp only; omega
        · rw [hfl, fld_step hne, if_pos hm, if_neg (by
            intro e
            have := congrArg List.length e
            rw [List.length_drop, List.length_take] at this
            simp at this
            omega), hdd]
          simp [cut2, flds]
    · rw [if_neg hm, wp_join, wp_bif]
      rcases hfl with ⟨h0, hfl⟩ | ⟨h0, h0', hfl⟩
      · rw [if_pos (by simpa using h0), wp_ret]
        simp only [T25k1, T25k2, T25k3, sw_same, asCons_cons, asInt_int, asNil_nil]
        rw [wp_ret]
        simp only [sw_same, asCons_cons, asInt_int, asSlice_slice, asNil_nil]
        rw [wp_ret]
        simp only [sw_same, asCons_cons, asInt_int, asSlice_slice, asNil_nil]
        rw [wp_ret]
        refine ⟨L.length - (p + (decL (L.drop p)).2), by omega, p + (decL (L.drop p)).2, (p : Int), sp, b, off, s, c, rfl, by omega, hF3, hn3, hg3, hR3, hb, hbi, rfl, by omega, by omega, hsp, .inr ⟨by omega, by omega, ?_⟩⟩
        rw [hfl, fld_step hne, if_neg hm, hdd, List.nil_append, Int.toNat_natCast, List.drop_take, Nat.add_sub_cancel_left]
      · obtain ⟨a, rfl⟩ : ∃ a : Nat, start = (a : Int) := ⟨start.toNat, by omega⟩
        rw [Int.toNat_natCast] at hfl
        rw [if_neg (by simp), wp_ret]
        simp only [T25k1, T25k2, T25k3, sw_same, asCons_cons, asInt_int, asNil_nil]
        rw [wp_ret]
        simp only [sw_same, asCons_cons, asInt_int, asSlice_slice, asNil_nil]
        rw [wp_ret]
        simp only [sw_same, asCons_cons, asInt_int, asSlice_slice, asNil_nil]
        rw [wp_ret]
        refine ⟨L.length - (p + (decL (L.drop p)).2), by omega, p + (decL (L.drop p)).2, (a : Int), sp, b, off, s, c, rfl, by omega, hF3, hn3, hg3, hR3, hb, hbi, rfl, by omega, by omega, hsp, .inr ⟨by omega, by omega, ?_⟩⟩
        rw [hfl, fld_step hne, if_neg hm, hdd, Int.toNat_natCast, List.take_add, List.drop_append_of_le_length (by rw [List.length_take]; omega)]
  · obtain rfl : p = L.length := by omega
    rw [wp_nxt_end hg (by rw [mkB_size]; omega), wp_ret]
    have fin : ∀ (σ4 : AHeap) (sp : List (Nat × Nat)) (b off s c : Nat), Frm σ σ4 NoB → Row σ4 b off s c 2 (spcs sp) → sp.length ≤ 2000 → (∀ x ∈ sp, x.1 ≤ x.2 ∧ x.2 ≤ L.length) → flds L = sp.map (cut2 L) →
        Wp PROG ovD (T25k6 (mkB L) .normal [.slice (some ⟨b, off, some s⟩) sp.length c]) σ4 fun _ vs σ' => ∃ v, vs = [v] ∧ Q v σ' := by
      intro σ4 sp b off s c hF4 hR4 hspl hsp he
      have hln : (flds L).length = sp.length := by rw [he, List.length_map]
      simp only [T25k6, sw_same, asCons_cons, asSlice_slice, asNil_nil]
      rw [wp_act, mkSl_eq _ _ _ _ _ (by omega), rep_1]
      simp only [asSlice_slice]
      have hF5 := Frm.new σ4 (List.replicate sp.length (.string (bs []))) 1 NoB
      have hR5 := Row.new σ4 1 (List.replicate sp.length (.string (bs []))) sp.length (by decide) (by simp) (by intro x hx; rw [List.mem_replicate] at hx; rw [hx.2]; rfl)
      have hR4' := hF5.rowN hR4
      have hn5 : (σ4.newBlk (List.replicate sp.length (.string (bs []))) 1).n = σ4.n + 1 := newBlk_n _ _ _
      generalize σ4.newBlk (List.replicate sp.length (.string (bs []))) 1 = σ5 at hF5 hR5 hR4' hn5
      have hbl := hR4.lt
      have hF04 := hF4.n
      refine Wp.count sp.length (fun j st σ' => Frm σ σ' NoB ∧ Row σ' b off s c 2 (spcs sp) ∧ Row σ' σ4.n 0 1 sp.length 1 (strs ((flds L).take j) ++ List.replicate (sp.length - j) (.string (bs []))) ∧ st = [.int .i64 ((j : Nat) : Int)]) ⟨hF4.seq hF5, hR4', by simpa [strs] using hR5, rfl⟩ ?_ ?_
      · rintro j st σ6 hj ⟨hF6, hR6, hA6, rfl⟩
        have ej : wi64 ((j : Int) + 1) = ((j + 1 : Nat) : Int) := by rw [wi64_in (by omega)]; omega
        have hx := hsp sp[j] (List.getElem_mem hj)
        have hc2 : (flds L)[j]'(by omega) = cut2 L sp[j] := by
          have := List.getElem_of_eq he (i := j) (by omega)
          simpa using this
        simp only [T25b1, asCons_cons, asInt_int, asNil_nil, asSome_some]
        rw [wp_bif, if_pos (by simp; omega), wp_join, wp_grd]
        refine ⟨by simp; omega, ?_⟩
        rw [Int.toNat_natCast, wp_rowA hR6 (by rw [spcs_len]; omega), spcs_at sp j hj]
        simp only [spc, asAgg_agg, asCons_cons, asInt_int, asNil_nil]
        refine wp_newQ fun σ7 hF7 hn7 hS7 => ?_
        refine wp_stQ hS7 rfl rfl fun σ8 hF8 hn8 hS8 => ?_
        have hF68 : Frm σ6 σ8 NoB := hF7.fresh hF8 fun j hj e => by omega
        rw [wp_ldF hS8 (i := 0) (v := .int .i64 ((sp[j].1 : Nat) : Int)) rfl, asInt_int, wp_ldF hS8 (i := 1) (v := .int .i64 ((sp[j].2 : Nat) : Int)) rfl, asInt_int, wp_grd]
        refine ⟨by simp only [Bool.and_eq_true, decide_eq_true_eq]; omega, ?_⟩
        rw [wp_grd]
        refine ⟨by simp; omega, ?_⟩
        have hA8 := hF68.rowN hA6
        rw [Int.toNat_natCast, Int.toNat_natCast, ext_mkB, mkB_data]
        refine wp_rowW hA8 (by simp [strs]; omega) rfl fun σ9 hF9 hn9 hA9 => ?_
        rw [wp_ret]
        simp only [T25k4, sw_same, asNil_nil]
        rw [wp_ret, ej]
        refine ⟨(hF6.seq hF68).fresh hF9 (fun j hj e => by omega), hF9.row (hF68.rowN hR6) (by omega), ?_, rfl⟩
        have e6 : (strs ((flds L).take j) ++ List.replicate (sp.length - j) (Value.string (bs []))).set j (.string (mkB ((L.take sp[j].2).drop sp[j].1))) = strs ((flds L).take (j + 1)) ++ List.replicate (sp.length - (j + 1)) (.string (bs [])) := by
          have hsl : (strs ((flds L).take j)).length = j := by simp [strs]; omega
          rw [List.set_append_right _ _ (by omega), hsl, Nat.sub_self]
          obtain ⟨d, hd⟩ : ∃ d, sp.length - j = d + 1 := ⟨sp.length - j - 1, by omega⟩
          rw [hd, List.replicate_succ, List.set_cons_zero, show sp.length - (j + 1) = d by omega, List.take_succ_eq_append_getElem (by omega), hc2]
          simp [strs, cut2]
        rw [e6] at hA9
        exact hA9
      · rintro st σ6 ⟨hF6, hR6, hA6, rfl⟩
        simp only [T25b1, asCons_cons, asInt_int, asNil_nil]
        rw [wp_bif, if_neg (by simp), wp_ret]
        simp only [T25k5, sw_same, asCons_cons, asInt_int, asNil_nil]
        rw [wp_ret]
        rw [← hln, List.take_length, Nat.sub_self, List.replicate_zero, List.append_nil] at hA6
        rw [← hln]
        exact ⟨_, rfl, hQ σ6 σ4.n hF6 hF04 hA6⟩
    rw [List.drop_length, fld_nil, if_pos rfl, List.append_nil, fld_nil, List.take_length] at hfl
    simp only [T25k7, sw_same, asCons_cons, asInt_int, asSlice_slice, asNil_nil]
    rw [wp_join, wp_bif]
    rcases hfl with ⟨h0, hfl⟩ | ⟨h0, h0', hfl⟩
    · rw [if_neg (by simp; omega), wp_ret]
      exact fin σ2 sp b off s c hF hR (by omega) hsp hfl
    · obtain ⟨a, rfl⟩ : ∃ a : Nat, start = (a : Int) := ⟨start.toNat, by omega⟩
      rw [Int.toNat_natCast] at hfl
      rw [if_pos (by simp), hsz]
      refine wp_appE (ys := spc (a, L.length)) (.inr ⟨off, s, rfl, hR⟩) (spcs_len sp) (by decide) (by decide) rfl (by intro y hy; simp [spc] at hy; rcases hy with rfl | rfl <;> rfl) (by omega) (by omega) fun σ4 b4 off4 s4 c4 hF4 hb4 hR4 => ?_
      rw [← spcs_snoc] at hR4
      rw [wp_ret, show sp.length + 1 = (sp ++ [(a, L.length)]).length by simp]
      refine fin σ4 (sp ++ [(a, L.length)]) b4 off4 s4 c4 (hF.fresh hF4 fun j hj e => by omega) hR4 (by simp; omega) ?_ ?_
      · intro x hx
        rcases List.mem_append.1 hx with hx | hx
        · exact hsp x hx
        · simp at hx; subst hx; simp only; omega
      · rw [hfl, if_neg (by
          intro e
          have := congrArg List.length e
          rw [List.length_drop] at this
          simp at this
          omega)]
        simp [cut2]

theorem wp_words (L : List UInt8) (hl : L.length ≤ 1000) {Q : Value → AHeap → Prop}
    (hQ : ∀ σ' b, Frm σ σ' NoB → σ.n ≤ b → Row σ' b 0 1 (flds L).length 1 (strs (flds L)) → Q (.slice (some ⟨b, 0, some 1⟩) (flds L).length (flds L).length) σ') : WpF PROG ovD 12 [.string (mkB L)] σ Q := by
  refine WpF.of (T12_eq _) rfl ?_
  rw [T12, wp_call]
  refine wp_flds L hl fun σ' b h1 h2 h3 => ?_
  rw [asSlice_slice, wp_ret]
  exact ⟨_, rfl, hQ σ' b h1 h2 h3⟩
end
end Go.Pg
