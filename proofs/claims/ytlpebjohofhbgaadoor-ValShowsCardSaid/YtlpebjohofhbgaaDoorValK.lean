/- Layer 9: a value is shown by a type of its own kind alone; by a variable's never. -/
import Derived.Test.YtlpebjohofhbgaaDoorValJ
import Derived.Test.YtlpebjohofhbgaaDoorTabF
namespace Go.Pg
open Go.Proofs Go.Lib

theorem tl_loop (s : ByteArray) : ∀ (d i : Nat) (r : List UInt8), s.size - i = d → ByteArray.toList.loop s i r = r.reverse ++ s.data.toList.drop i
  | 0, i, r, h => by
    unfold ByteArray.toList.loop
    rw [if_neg (by omega), List.drop_of_length_le (by have : s.data.toList.length = s.size := rfl
                                                      omega), List.append_nil]
  | d + 1, i, r, h => by
    have hl : i < s.data.toList.length := by
      have : s.data.toList.length = s.size := rfl
      omega
    unfold ByteArray.toList.loop
    rw [if_pos (by omega), tl_loop s d (i + 1) _ (by omega), List.drop_eq_getElem_cons hl, List.reverse_cons, List.append_assoc]
    have e : s.get! i = s.data.toList[i] := by
      cases s with
      | mk a => simp only [ByteArray.get!]; rw [getElem!_pos a i (by simpa using hl)]; rfl
    rw [e]
    rfl
theorem tl_data (s : ByteArray) : s.toList = s.data.toList := by
  unfold ByteArray.toList
  rw [tl_loop s _ 0 [] rfl]
  rfl
theorem tl_bs (l : List UInt8) : (bs l).toList = l := tl_data _

/-! ### awake, behind what the law has made by then -/
def heapR (σ : AHeap) : Option (Value × AHeap) → AHeap
  | some (_, σ') => σ'
  | none => σ
theorem WpF.tabH {P : Program} {ov : Ov} {tab : Tab} (ht : TabOK P tab) {f : FuncId} {args : List Value} {σ : AHeap} {old : Addr → Option Value} (n : Nat) (h : goodR (execTab ov tab n f args σ) = true) (ho : oldR old (execTab ov tab n f args σ) = old) {Q : AHeap → Prop} (hQ : Q (heapR σ (execTab ov tab n f args σ))) :
    WpF P ov f args σ fun v σ' => v = .bool true ∧ σ'.old = old ∧ Q σ' := by
  cases hx : execTab ov tab n f args σ with
  | none => rw [hx] at h; cases h
  | some r =>
    obtain ⟨v, σ'⟩ := r
    rw [hx] at h ho hQ
    refine ⟨v, σ', EvF.tab ht n hx, ?_⟩
    unfold goodR at h
    split at h
    · rename_i heq
      simp only [Option.some.injEq, Prod.mk.injEq] at heq
      obtain ⟨rfl, rfl⟩ := heq
      simp only [Bool.and_eq_true, Nat.ble_eq] at h
      exact ⟨by rw [h.1], ho, hQ⟩
    · cases h

theorem awake9k (old : Addr → Option Value) (a : VA) (e p : Option Addr) (n c : Nat) :
    WpF PROG ovD 5 [] ((startH (unO tabsD old)).newBlk (L7.cells a e (.slice p n c)) 0) fun v σ' => v = .bool true ∧ σ'.old = unO tabsD old ∧ St σ' 0 (L7.cells a e (.slice p n c)) :=
  WpF.tabH TAB_ok 100000 (by kernel_rfl) (by kernel_rfl) ⟨Nat.le_of_ble_eq_true (by kernel_rfl), by kernel_rfl⟩

theorem itoa_ne {n : Int} : itoa n ≠ [63] := by
  have hd : ∀ m u : Nat, u ≤ m → ∃ d r, decDigits u = d :: r ∧ d ≠ 63 := by
    intro m
    induction m with
    | zero =>
      intro u hu
      obtain rfl : u = 0 := by omega
      exact ⟨48, [], by rw [decDigits, dif_pos (by decide)]; rfl, by decide⟩
    | succ m ih =>
      intro u hu
      by_cases h : u < 10
      · rw [decDigits, dif_pos h]
        refine ⟨_, _, rfl, fun e => ?_⟩
        have := congrArg UInt8.toNat e
        simp at this
        omega
      · rw [decDigits, dif_neg h]
        obtain ⟨d, r, e, hne⟩ := ih (u / 10) (by omega)
        rw [e]
        exact ⟨d, _, rfl, hne⟩
  intro h
  unfold itoa at h
  split at h
  · simp at h
  · obtain ⟨d, r, e, hne⟩ := hd _ n.toNat (Nat.le_refl _)
    rw [e] at h
    simp only [List.cons.injEq] at h
    exact hne h.1

theorem ren_kind {v : Tr VA} {t : Tr TA} (hn : v.a.name.data.toList ≠ [63]) (hk : 1 ≤ t.a.kind ∧ t.a.kind ≤ 6) : (renM [] [] 50 v t == [63]) = (v.a.kind != t.a.kind) := by
  have ef : fitsM t.a.kind = t.a.kind := by
    have : t.a.kind = 1 ∨ t.a.kind = 2 ∨ t.a.kind = 3 ∨ t.a.kind = 4 ∨ t.a.kind = 5 ∨ t.a.kind = 6 := by omega
    rcases this with h | h | h | h | h | h <;> rw [h] <;> rfl
  by_cases h : v.a.kind = t.a.kind
  · have e1 : (v.a.kind != t.a.kind) = false := by simp [h]
    rw [e1]
    have : renM [] [] 50 v t ≠ [63] := by
      unfold renM
      rw [if_neg (by omega), if_neg (by rw [ef]; exact fun x => x h)]
      repeat' split
      all_goals first | exact itoa_ne | exact hn | (simp; done) | skip
      · intro e
        have := congrArg List.length e
        simp at this
        omega
      · omega
    simpa using this
  · have e1 : (v.a.kind != t.a.kind) = true := by simp [h]
    rw [e1]
    have : renM [] [] 50 v t = [63] := by
      unfold renM
      rw [if_neg (by omega), if_pos (by rw [ef]; exact h)]
    simp [this]
theorem ren_poly {v : Tr VA} {t : Tr TA} (hk : t.a.kind = 7) : renM [] [] 50 v t = [60, 112, 111, 108, 121, 62] := by
  unfold renM
  rw [if_pos hk]

theorem RB0 : RB [] [] := ⟨by decide, (fun c h => by cases h), by decide, fun c h => by cases h⟩
theorem RC0 {Y : Nat → Prop} {σ : AHeap} : RC Y none none [] [] σ := ⟨RowOf.nil, RowOf.nil⟩

theorem lev7 : lev 7 = 64 := rfl

set_option maxHeartbeats 1000000 in
set_option maxRecDepth 100000 in
theorem valKinds_law (x0 : (valSh 7).D) (vs0 : List Value) (a1 : Int) (_w1 : (Lit.int .i64 a1).wf = true) (old0 : Addr → Option Value) (av : AV (unO tabsD old0) (valSh 7) x0 vs0) (ok : Sh.ok (valSh 7) x0) :
    WpF PROG ovD 3 [.agg vs0.toArray, .int .i64 a1] (startH (unO tabsD old0)) fun v _ => v = .bool true := by
  have hV0 : ∀ σ : AHeap, σ.old = unO tabsD old0 → VIn L7 σ NoB 7 vs0 (cV 7 x0) := fun σ hσ => av_V hσ 6 x0 vs0 av ok
  obtain ⟨_, e, p, cap, rfl⟩ := (hV0 (startH (unO tabsD old0)) rfl).cells
  generalize cV 7 x0 = t at hV0
  refine WpF.of (T3_eq _ _ _ _ _ _ _ _ _ _) rfl ?_
  rw [T3, wp_act, newC_eq]
  simp only [asPtr_ptr, asSome_some]
  rw [wp_call]
  refine WpF.mono (awake9k old0 t.a e p t.args.length cap) ?_
  rintro _ σ1 ⟨rfl, ho1, hS1⟩
  have hV1 := hV0 σ1 ho1
  rw [show (startH (unO tabsD old0)).n = 0 from rfl]
  rw [asBool_bool, wp_bif, if_neg (by simp), wp_join, wp_ldAll hS1 7 rfl]
  simp only [asAgg_agg, asCons_cons, asInt_int, asStr_str, asSlice_slice, asPtr_ptr, asNil_nil]
  rw [wp_call]
  have hbig := wp_big 7 (Nat.le_refl _) σ1 _ t hV1
  rw [lev7] at hbig
  refine WpF.mono hbig ?_
  rintro _ σ2 ⟨rfl, hF2⟩
  have hS2 := hF2.stN hS1
  have hdone : ∀ σ' : AHeap, Wp PROG ovD (T3k4 a1 ⟨0, 0, some 0⟩ .normal [.bool true]) σ' fun _ vs _ => ∃ v, vs = [v] ∧ v = .bool true := fun σ' => by
    simp only [T3k4, sw_same, asCons_cons, asBool_bool, asNil_nil]
    rw [wp_bif, if_pos (by rfl), wp_ret]
    exact ⟨_, rfl, rfl⟩
  rw [asBool_bool, wp_bif]
  cases hb : bigV 7 t with
  | true =>
    rw [if_neg (by simp), wp_ret]
    exact hdone σ2
  | false =>
    by_cases hk : 1 ≤ a1 ∧ a1 ≤ 6
    case neg =>
      rw [if_neg (by simp; omega), wp_ret]
      exact hdone σ2
    rw [if_pos (by simp; omega), wp_ldF hS2 rfl, asStr_str, wp_ret]
    by_cases hq : (t.a.name.toList == (bs [63]).toList) = true
    · rw [hq]
      exact hdone σ2
    have hq' : (t.a.name.toList == (bs [63]).toList) = false := by simpa using hq
    have hnq : t.a.name.data.toList ≠ [63] := fun h => hq (by rw [tl_data, tl_bs, h]; rfl)
    rw [hq']
    have hfit := bigM_fits hb
    simp only [T3k4, sw_same, asCons_cons, asBool_bool, asNil_nil]
    rw [wp_bif, if_neg (by simp)]
    refine wp_newQ fun σ3 hF3 hn3 hS3 => ?_
    refine wp_stQ hS3 rfl rfl fun σ4 hF4 hn4 hS4 => ?_
    have hF24 := hF3.fresh hF4 fun j hj h => by omega
    have hS4v := hF24.stN hS2
    have hn2 : 0 < σ2.n := hS2.1
    have hV4 : VIn L7 σ4 (· = σ2.n) 7 _ t := (hV1.frm hF2).step hF24 (fun _ _ h => h.elim) (fun j hj h => by omega)
    clear hS3 hF3 hF4
    -- the law, by whatever type
    have last : ∀ (s5 : ByteArray) (q5 : Option Addr) (args5 : List (Tr TA)) (c5 : Nat) (σ5 : AHeap), Frm σ4 σ5 (· = σ2.n) → St σ5 σ2.n [.int .i64 a1, .string s5, .int .i64 0, .slice q5 args5.length c5] → VIn L4 σ5 (· = σ2.n) 2 [.int .i64 a1, .string s5, .int .i64 0, .slice q5 args5.length c5] (.mk ⟨a1, s5, 0⟩ args5) → tyOK 2 (.mk ⟨a1, s5, 0⟩ args5) →
        Wp PROG ovD (T3k1 ⟨0, 0, some 0⟩ ⟨σ2.n, 0, some 0⟩ a1 .normal []) σ5 fun _ vs _ => ∃ v, vs = [v] ∧ v = .bool true := fun s5 q5 args5 c5 σ5 hF5 hS5 hT5 ht5 => by
      have hV5 : VIn L7 σ5 (· = σ2.n) 7 _ t := hV4.step hF5 (fun _ _ h => h) (fun _ _ h => h)
      have hS0 := hF5.st hS4v (by omega)
      simp only [T3k1, sw_same, asNil_nil]
      have hF6 := Frm.new σ5 [.int .i64 0, .int .i64 1, .int .i64 2, .int .i64 3, .int .i64 4, .int .i64 5, .int .i64 6] 1 NoB
      have hR6 := Row.new σ5 1 [.int .i64 0, .int .i64 1, .int .i64 2, .int .i64 3, .int .i64 4, .int .i64 5, .int .i64 6] 7 (by decide) rfl (by intro y hy; simp only [List.mem_cons, List.mem_nil_iff, or_false] at hy; rcases hy with rfl | rfl | rfl | rfl | rfl | rfl | rfl <;> rfl)
      rw [wp_act, bdSl_eq]
      simp only [asSlice_slice]
      generalize σ5.newBlk [.int .i64 0, .int .i64 1, .int .i64 2, .int .i64 3, .int .i64 4, .int .i64 5, .int .i64 6] 1 = σ6 at hF6 hR6
      have hS06 := hF6.stN hS0
      have hS56 := hF6.stN hS5
      have hV6 := hV5.frm hF6
      have hT6 := hT5.frm hF6
      rw [wp_join, wp_ldAll hS06 7 rfl]
      simp only [asAgg_agg, asCons_cons, asInt_int, asStr_str, asSlice_slice, asPtr_ptr, asNil_nil]
      rw [wp_ldAll hS56 4 rfl]
      simp only [asAgg_agg, asCons_cons, asInt_int, asStr_str, asSlice_slice, asNil_nil]
      rw [wp_get, wp_call]
      have hr1 := wp_render (cc := 0) (ck := 0) RB0 (Nat.le_refl 7) (show 2 ≤ 7 by decide) hV6 hfit hT6 ht5 RC0
      refine WpF.mono hr1 ?_
      rintro _ σ7 ⟨rfl, hF7⟩
      have hS07 := hF7.stN hS06
      have hR7 := hF7.rowN hR6
      rw [asStr_str, wp_ldF hS07 rfl, wp_grd]
      refine ⟨past_ok (hS06.ldF rfl), ?_⟩
      obtain ⟨i, rfl⟩ : ∃ i : Nat, a1 = (i : Int) := ⟨a1.toNat, by omega⟩
      have hi6 : i = 1 ∨ i = 2 ∨ i = 3 ∨ i = 4 ∨ i = 5 ∨ i = 6 := by omega
      have hxi : ([.int .i64 0, .int .i64 1, .int .i64 2, .int .i64 3, .int .i64 4, .int .i64 5, .int .i64 6] : List Value)[i]? = some (.int .i64 (i : Int)) := by
        rcases hi6 with rfl | rfl | rfl | rfl | rfl | rfl <;> rfl
      rw [asInt_int, asSome_some, wp_grd]
      refine ⟨by simp; omega, ?_⟩
      rw [Int.toNat_natCast, wp_rowR hR7 hxi, wp_grd]
      refine ⟨past_ok (σ := σ6) (τ := σ6) ?_, ?_⟩
      · have := hR6.ld hxi
        rw [Nat.mul_one]
        exact this
      rw [asInt_int, tl_bs, tl_bs, ren_kind hnq (t := .mk ⟨(i : Int), s5, 0⟩ args5) hk, wp_bif, if_pos (by simp [Tr.a]), wp_ldAll hS07 7 rfl]
      simp only [asAgg_agg, asCons_cons, asInt_int, asStr_str, asSlice_slice, asPtr_ptr, asNil_nil]
      rw [wp_call]
      have hr2 := wp_render (cc := 0) (ck := 0) (t := .mk ⟨7, bs [], 0⟩ []) (m := 1) (Y := (· = σ2.n)) RB0 (Nat.le_refl 7) (by decide) (hV6.frm hF7) hfit ⟨trivial, none, none, 0, rfl, RowOf.nil⟩ (.inl rfl) RC0
      refine WpF.mono hr2 ?_
      rintro _ σ8 ⟨rfl, hF8⟩
      rw [asStr_str, wp_ret, ren_poly rfl, tl_bs]
      simp only [T3k0, sw_same, asCons_cons, asBool_bool, asNil_nil]
      rw [wp_ret]
      exact ⟨_, rfl, rfl⟩
    -- a type without a name
    have two : ∀ (s5 : ByteArray) (σ5 : AHeap), s5.size ≤ 60 → Frm σ4 σ5 (· = σ2.n) → St σ5 σ2.n [.int .i64 a1, .string s5, .int .i64 0, .slice none 0 0] →
        Wp PROG ovD (T3k3 a1 ⟨σ2.n, 0, some 0⟩ ⟨0, 0, some 0⟩ .normal []) σ5 fun _ vs _ => ∃ v, vs = [v] ∧ v = .bool true := fun s5 σ5 hs5 hF5 hS5 => by
      simp only [T3k3, sw_same, asNil_nil]
      rw [wp_join, wp_bif]
      have row : ∀ (k : Nat) (hk2 : k ≤ 2) (σ6 : AHeap) (σ7 : AHeap) (bb : Nat), Row σ6 bb 0 4 k 4 ((List.replicate k (L4.cells ⟨1, bs [], 0⟩ none (.slice none 0 0))).flatten) → bb ≠ σ2.n → Frm σ6 σ7 (· = σ2.n) → VIn L4 σ7 (· = σ2.n) 2 [.int .i64 a1, .string s5, .int .i64 0, .slice (some ⟨bb, 0, some 4⟩) k k] (.mk ⟨a1, s5, 0⟩ (List.replicate k (.mk ⟨1, bs [], 0⟩ []))) := fun k hk2 σ6 σ7 bb hR hne hF => by
        refine ⟨trivial, none, some ⟨bb, 0, some 4⟩, k, by simp [Tr.args, Tr.a], ?_⟩
        refine RowOf.own (hF.row hR hne) hne (by simp [Tr.args]) (fun cs hcs => by rw [(List.mem_replicate.1 hcs).2]; rfl) fun i h1 h2 => ?_
        have e1 : (List.replicate k (L4.cells ⟨1, bs [], 0⟩ none (.slice none 0 0)))[i] = L4.cells ⟨1, bs [], 0⟩ none (.slice none 0 0) := List.getElem_replicate _
        have e2 : (Tr.mk (⟨a1, s5, 0⟩ : TA) (List.replicate k (.mk ⟨1, bs [], 0⟩ []))).args[i]'h2 = .mk ⟨1, bs [], 0⟩ [] := List.getElem_replicate _
        rw [e1, e2]
        exact ⟨trivial, none, none, 0, rfl, RowOf.nil⟩
      have tok : ∀ k, k ≤ 2 → s5.size ≤ 60 → tyOK 2 (.mk ⟨a1, s5, 0⟩ (List.replicate k (.mk ⟨1, bs [], 0⟩ []))) := fun k hk2 hs5 => by
        refine .inr ⟨by simp [Tr.args]; omega, hs5, fun x hx => ?_⟩
        rw [(List.mem_replicate.1 hx).2]
        exact ⟨by decide, by decide, fun y hy => by cases hy⟩
      have fin2 : ∀ (q5 : Option Addr) (args5 : List (Tr TA)) (c5 : Nat) (σ6 : AHeap), a1 ≠ 6 → Frm σ4 σ6 (· = σ2.n) → St σ6 σ2.n [.int .i64 a1, .string s5, .int .i64 0, .slice q5 args5.length c5] → VIn L4 σ6 (· = σ2.n) 2 [.int .i64 a1, .string s5, .int .i64 0, .slice q5 args5.length c5] (.mk ⟨a1, s5, 0⟩ args5) → tyOK 2 (.mk ⟨a1, s5, 0⟩ args5) →
          Wp PROG ovD (T3k2 a1 ⟨σ2.n, 0, some 0⟩ ⟨0, 0, some 0⟩ .normal []) σ6 fun _ vs _ => ∃ v, vs = [v] ∧ v = .bool true := fun q5 args5 c5 σ6 h6 hF6 hS6 hT6 ht6 => by
        simp only [T3k2, sw_same, asNil_nil]
        rw [wp_join, wp_bif, if_neg (by simp [h6]), wp_ret]
        exact last s5 q5 args5 c5 σ6 hF6 hS6 hT6 ht6
      have hn5 : σ2.n < σ5.n := hS5.1
      by_cases h5 : a1 = 5
      · rw [if_pos (by simp [h5]), wp_act, bdSl_eq]
        simp only [asSlice_slice]
        have hF6 := Frm.new σ5 [.int .i64 1, .string (bs []), .int .i64 0, .slice none 0 0, .int .i64 1, .string (bs []), .int .i64 0, .slice none 0 0] 4 NoB
        have hR6 := Row.new σ5 4 [.int .i64 1, .string (bs []), .int .i64 0, .slice none 0 0, .int .i64 1, .string (bs []), .int .i64 0, .slice none 0 0] 2 (by decide) rfl (by intro y hy; simp only [List.mem_cons, List.mem_nil_iff, or_false] at hy; rcases hy with rfl | rfl | rfl | rfl | rfl | rfl | rfl | rfl <;> rfl)
        generalize σ5.newBlk [.int .i64 1, .string (bs []), .int .i64 0, .slice none 0 0, .int .i64 1, .string (bs []), .int .i64 0, .slice none 0 0] 4 = σ6 at hF6 hR6
        refine wp_st1Q (hF6.stN hS5) (by simp) rfl fun σ7 hF7 hn7 hS7 => ?_
        rw [wp_ret]
        exact fin2 (some ⟨σ5.n, 0, some 4⟩) (List.replicate 2 (.mk ⟨1, bs [], 0⟩ [])) 2 σ7 (by omega) ((hF5.seq hF6.no).seq hF7) hS7 (row 2 (by decide) σ6 σ7 σ5.n hR6 (by omega) hF7) (tok 2 (by decide) hs5)
      rw [if_neg (by simp [h5]), wp_ret]
      by_cases h6 : a1 = 6
      case neg => exact fin2 none [] 0 σ5 h6 hF5 hS5 ⟨trivial, none, none, 0, rfl, RowOf.nil⟩ (.inl rfl)
      simp only [T3k2, sw_same, asNil_nil]
      rw [wp_join, wp_bif, if_pos (by simp [h6]), wp_act, bdSl_eq]
      simp only [asSlice_slice]
      have hF6 := Frm.new σ5 [.int .i64 1, .string (bs []), .int .i64 0, .slice none 0 0] 4 NoB
      have hR6 := Row.new σ5 4 [.int .i64 1, .string (bs []), .int .i64 0, .slice none 0 0] 1 (by decide) rfl (by intro y hy; simp only [List.mem_cons, List.mem_nil_iff, or_false] at hy; rcases hy with rfl | rfl | rfl | rfl <;> rfl)
      generalize σ5.newBlk [.int .i64 1, .string (bs []), .int .i64 0, .slice none 0 0] 4 = σ6 at hF6 hR6
      refine wp_st1Q (hF6.stN hS5) (by simp) rfl fun σ7 hF7 hn7 hS7 => ?_
      rw [wp_ret]
      exact last s5 (some ⟨σ5.n, 0, some 4⟩) (List.replicate 1 (.mk ⟨1, bs [], 0⟩ [])) 1 σ7 ((hF5.seq hF6.no).seq hF7) hS7 (row 1 (by decide) σ6 σ7 σ5.n hR6 (by omega) hF7) (tok 1 (by decide) hs5)
    rw [wp_join, wp_bif]
    by_cases h4 : a1 = 4
    · rw [if_pos (by simp [h4])]
      refine wp_st1Q hS4 (by simp) rfl fun σ5 hF5 hn5 hS5 => ?_
      rw [wp_ret]
      exact two _ σ5 (by decide) hF5 hS5
    · rw [if_neg (by simp [h4]), wp_ret]
      exact two _ σ4 (by decide) (Frm.refl _ _) hS4
end Go.Pg
